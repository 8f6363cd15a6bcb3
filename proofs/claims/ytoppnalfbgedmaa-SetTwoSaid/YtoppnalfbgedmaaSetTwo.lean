/- The walk of the law SetTwo. -/
import Derived.Test.YtoppnalfbgedmaaSetB
import Derived.Test.YtoppnalfbgedmaaSetEq
import Derived.Test.YtoppnalfbgedmaaSetChanges
import Derived.Test.YtoppnalfbgedmaaClass
import Derived.StillTailTactics
import Derived.BigRegion
import Derived.Outline
namespace Go.Proofs.Ytoppnalfbgedmaa
open Go.ChangeShapes Go.WideShapes Go.ChangeAt Go.RowKit
set_option linter.unusedVariables false
def upto (f : Nat → Bool) (k i : Nat) : Bool := decide (i < k) && f i
theorem upto_set (f : Nat → Bool) (k : Nat) (h : k < 64) : (arrf (upto f k)).setIfInBounds k (.bool (f k)) = arrf (upto f (k + 1)) := by
  rw [arrf_set _ _ _ h]
  refine arrf_ext fun i _ => ?_
  unfold upto
  by_cases e : i = k
  · subst e; simp
  · rw [if_neg e]; congr 1; rw [decide_eq_decide]; omega
theorem upto_zero (f : Nat → Bool) : arrf (upto f 0) = Array.replicate 64 (.bool false) := by
  rw [← arrf_false]; exact arrf_ext fun i _ => by simp [upto]
theorem upto_all (f : Nat → Bool) : arrf (upto f 64) = arrf f := arrf_ext fun i h => by simp [upto, h]
def Five (w : World) (b1 b2 b3 b4 b5 : Nat) (A1 A2 A3 A4 A5 : Array Value) (t : TypeId) : Prop :=
  w.heap[b1]? = some (.cells A1 t (0, 0)) ∧ w.heap[b2]? = some (.cells A2 t (0, 0)) ∧ w.heap[b3]? = some (.cells A3 t (0, 0)) ∧ w.heap[b4]? = some (.cells A4 t (0, 0)) ∧ w.heap[b5]? = some (.cells A5 t (0, 0))
theorem five_start {w w5 : World} {b1 b2 : Nat} {Fx Fy A B D : Array Value} {t : TypeId} (h1 : w5.heap[b1]? = some (.cells Fx t (0, 0))) (h2 : w5.heap[b2]? = some (.cells Fy t (0, 0))) (hb : Below w.heap.size w w5) (hz : b1 < w5.heap.size ∧ b2 < w5.heap.size) :
    Five (((w5.alloc (.cells A t)).alloc (.cells B t)).alloc (.cells D t)) b1 b2 w5.heap.size (w5.heap.size + 1) (w5.heap.size + 1 + 1) Fx Fy A B D t ∧
      Below w.heap.size w (((w5.alloc (.cells A t)).alloc (.cells B t)).alloc (.cells D t)) ∧ w5.heap.size + 1 + 1 < (((w5.alloc (.cells A t)).alloc (.cells B t)).alloc (.cells D t)).heap.size := by
  have s1 : (w5.alloc (.cells A t)).heap.size = w5.heap.size + 1 := by simp
  have s2 : ((w5.alloc (.cells A t)).alloc (.cells B t)).heap.size = w5.heap.size + 1 + 1 := by simp
  refine ⟨⟨?_, ?_, ?_, ?_, ?_⟩, ((hb.alloc hb.size _).alloc (by rw [s1]; have := hb.size; omega) _).alloc (by rw [s2]; have := hb.size; omega) _, by simp⟩
  · rw [Below.heap_alloc _ _ _ (by rw [s2]; omega), Below.heap_alloc _ _ _ (by rw [s1]; omega), Below.heap_alloc _ _ _ (by omega)]; exact h1
  · rw [Below.heap_alloc _ _ _ (by rw [s2]; omega), Below.heap_alloc _ _ _ (by rw [s1]; omega), Below.heap_alloc _ _ _ (by omega)]; exact h2
  · rw [Below.heap_alloc _ _ _ (by rw [s2]; omega), Below.heap_alloc _ _ _ (by rw [s1]; omega)]; exact heap_alloc_new _ _
  · rw [Below.heap_alloc _ _ _ (by rw [s2]; omega), ← s1]; exact heap_alloc_new _ _
  · rw [← s2]; exact heap_alloc_new _ _
theorem five_cells {w : World} {b1 b2 b3 b4 b5 x y k : Nat} {Fx Fy : Array Value} {f g h : Nat → Bool} {t : TypeId} (h5 : Five w b1 b2 b3 b4 b5 Fx Fy (arrf f) (arrf g) (arrf h) t) (hx : Fx = arrf (bitv x)) (hy : Fy = arrf (bitv y)) (hk : k < 64) :
    w.cell? ⟨b1, k, none⟩ = some (.bool (bitv x k)) ∧ w.cell? ⟨b2, k, none⟩ = some (.bool (bitv y k)) ∧ w.cell? ⟨b3, k, none⟩ = some (.bool (f k)) ∧ w.cell? ⟨b4, k, none⟩ = some (.bool (g k)) ∧ w.cell? ⟨b5, k, none⟩ = some (.bool (h k)) ∧
    w.frozen? ⟨b3, k, none⟩ = false ∧ w.frozen? ⟨b4, k, none⟩ = false ∧ w.frozen? ⟨b5, k, none⟩ = false := by
  obtain ⟨h1, h2, h3, h4, h5⟩ := h5
  subst hx hy
  refine ⟨?_, ?_, ?_, ?_, ?_, frozen_of_row _ _ _ _ _ h3, frozen_of_row _ _ _ _ _ h4, frozen_of_row _ _ _ _ _ h5⟩
  · rw [cell_of_row _ _ _ _ _ _ h1]; exact arrf_get _ _ hk
  · rw [cell_of_row _ _ _ _ _ _ h2]; exact arrf_get _ _ hk
  · rw [cell_of_row _ _ _ _ _ _ h3]; exact arrf_get _ _ hk
  · rw [cell_of_row _ _ _ _ _ _ h4]; exact arrf_get _ _ hk
  · rw [cell_of_row _ _ _ _ _ _ h5]; exact arrf_get _ _ hk
theorem five_next {w : World} {b1 b2 b3 b4 b5 k : Nat} {Fx Fy : Array Value} {f g h : Nat → Bool} {t : TypeId} {p q r : Bool} (h5 : Five w b1 b2 b3 b4 b5 Fx Fy (arrf (upto f k)) (arrf (upto g k)) (arrf (upto h k)) t) (hk : k < 64)
    (hb : b1 < b2 ∧ b2 < b3 ∧ b3 < b4 ∧ b4 < b5) (hp : p = f k) (hq : q = g k) (hr : r = h k) :
    Five (((w.setCell ⟨b3, k, none⟩ (.bool p)).setCell ⟨b4, k, none⟩ (.bool q)).setCell ⟨b5, k, none⟩ (.bool r)).drew b1 b2 b3 b4 b5 Fx Fy (arrf (upto f (k + 1))) (arrf (upto g (k + 1))) (arrf (upto h (k + 1))) t := by
  obtain ⟨h1, h2, h3, h4, h5⟩ := h5
  subst hp hq hr
  refine ⟨?_, ?_, ?_, ?_, ?_⟩ <;> rw [heap_drew]
  · rw [heap_setCell_other _ _ _ _ (by show b1 ≠ b5; omega), heap_setCell_other _ _ _ _ (by show b1 ≠ b4; omega), heap_setCell_other _ _ _ _ (by show b1 ≠ b3; omega)]; exact h1
  · rw [heap_setCell_other _ _ _ _ (by show b2 ≠ b5; omega), heap_setCell_other _ _ _ _ (by show b2 ≠ b4; omega), heap_setCell_other _ _ _ _ (by show b2 ≠ b3; omega)]; exact h2
  · rw [heap_setCell_other _ _ _ _ (by show b3 ≠ b5; omega), heap_setCell_other _ _ _ _ (by show b3 ≠ b4; omega), heap_setCell_same _ _ _ _ _ _ h3, upto_set _ _ hk]
  · rw [heap_setCell_other _ _ _ _ (by show b4 ≠ b5; omega), heap_setCell_same _ _ _ (arrf (upto g k)) t _ (by rw [heap_setCell_other _ _ _ _ (by show b4 ≠ b3; omega)]; exact h4), upto_set _ _ hk]
  · rw [heap_setCell_same _ _ _ (arrf (upto h k)) t _ (by rw [heap_setCell_other _ _ _ _ (by show b5 ≠ b4; omega), heap_setCell_other _ _ _ _ (by show b5 ≠ b3; omega)]; exact h5), upto_set _ _ hk]
theorem and_lt {x y : Nat} (hx : x < 2 ^ 64) : x &&& y < 2 ^ 64 := Nat.lt_of_le_of_lt Nat.and_le_left hx
theorem and_bit (x y i : Nat) : bitv (x &&& y) i = (bitv x i && bitv y i) := Nat.testBit_and x y i
theorem or_bit (x y i : Nat) : bitv (x ||| y) i = (bitv x i || bitv y i) := Nat.testBit_or x y i
theorem range_below {w wx : World} {b : Nat} {cs : List Value} (h : w.rangeAt b 0 cs) (hb : Below w.heap.size w wx) (hz : b < w.heap.size) : wx.rangeAt b 0 cs :=
  fun j v hv => (hb.cell (p := ⟨b, 0 + j, none⟩) hz).trans (h j v hv)
/-- The law's list, its answer behind a name. -/
theorem list_named (x : Nat) (hx : x < 2 ^ 64) : ∃ F : Array Value, Hid (F = arrf (bitv x)) ∧ Hid (F.size = 64) ∧ Hid (F.all (·.oneCell') = true) ∧
    Hid (∀ w, Calls Try.prog 7 #[.int .u64 x] w fun e w' => e = .returned (.agg F) ∧ Below w.heap.size w w') :=
  ⟨_, rfl, arrf_size _, arrf_one _, fun w => list_any x w hx⟩
theorem index64 (b k : Nat) (hk : k < 64) (w : World) : (Instr.indexAt 24 (.pointer (some ⟨b, 0, none⟩)) (.int .i64 (k : Int))).run Try.prog w = .ok (.pointer (some ⟨b, k, none⟩)) w := by
  have h0 : (0 : Int) ≤ (k : Int) := by omega
  have h1 : (k : Int) < 64 := by omega
  simp [go_sem, h1]
theorem load1 (p : Addr) (w : World) (v : Bool) (h : w.cell? p = some (.bool v)) : (Instr.loadAt 4 (.pointer (some p))).run Try.prog w = .ok (.bool v) w := by
  simp [go_sem, h]
set_option maxHeartbeats 8000000 in
theorem setTwo_walk0 (x y : Nat) (w : World) (hx : x < 2 ^ 64) (hy : y < 2 ^ 64) :
    Calls Try.prog 4 #[.int .u64 x, .int .u64 y] w fun e w' => e = .returned (.bool true) ∧ Below w.heap.size w w' := by
  obtain ⟨Fx, HFx, HFxs, HFx1, cX⟩ := list_named x hx
  obtain ⟨Fy, HFy, HFys, HFy1, cY⟩ := list_named y hy
  have Hx := Lib.hid hx
  have Hy := Lib.hid hy
  clear hx hy
  go_enter Try.func4, Try.ntmps4
  go_wp2_with (first
    | (go_at_call 6; refine (awake_any _).mono ?_; rintro e w1 ⟨rfl, hb1⟩)
    | (go_at_call 7; (with_reducible refine (cX.out w1).mono ?_); rintro e w2 ⟨rfl, hb2⟩)
    | (go_at_call 7; (with_reducible refine (cY.out w2).mono ?_); rintro e w3 ⟨rfl, hb3⟩)
    | (refine wpList_store_abs rfl 24 (.tmp 7) (.tmp 18) rfl rfl w3.heap.size Fx rfl rfl 24 _ (heap_alloc2_old _ _ _) (by rw [HFxs.out]; exact cells64) (by rw [HFxs.out]; rfl) HFx1.out ?_; intro w4 ho4 hg4)
    | (refine wpList_store_abs rfl 24 (.tmp 8) (.tmp 20) rfl rfl (w3.heap.size + 1) Fy rfl rfl 24 _ ((ho4.block _ (by omega)).trans (heap_alloc2_new _ _ _)) (by rw [HFys.out]; exact cells64) (by rw [HFys.out]; rfl) HFy1.out ?_; intro w5 ho5 hg5
       have hg4' := (ho5.block _ (by omega)).trans hg4
       have HG4 := Lib.hid hg4'
       have HG5 := Lib.hid hg5
       have hz5 : w5.heap.size = w3.heap.size + 2 := by rw [ho5.size, ho4.size]; simp
       have HZ := Lib.hid hz5
       have HB5 := Lib.hid (hb1.trans ((hb2.mono hb1.size).trans ((hb3.mono (Nat.le_trans hb1.size hb2.size)).trans (below_two ho4 ho5 (Nat.le_trans hb1.size (Nat.le_trans hb2.size hb3.size))))))
       have HL := Lib.hid (Nat.le_trans hb1.size (Nat.le_trans hb2.size hb3.size))
       clear hg4 hg4' hg5 hz5 ho4 ho5 hb1 hb2 hb3))
  have Hb : Hid (w3.heap.size < w3.heap.size + 1 ∧ w3.heap.size + 1 < w5.heap.size ∧ w5.heap.size < w5.heap.size + 1 ∧ w5.heap.size + 1 < w5.heap.size + 1 + 1) := by have := HZ.out; exact ⟨by omega, by omega, by omega, by omega⟩
  have Hst : Hid (∀ A B D : Array Value, Five (((w5.alloc (.cells A 24)).alloc (.cells B 24)).alloc (.cells D 24)) w3.heap.size (w3.heap.size + 1) w5.heap.size (w5.heap.size + 1) (w5.heap.size + 1 + 1) Fx Fy A B D 24 ∧
      Below w.heap.size w (((w5.alloc (.cells A 24)).alloc (.cells B 24)).alloc (.cells D 24)) ∧ w5.heap.size + 1 + 1 < (((w5.alloc (.cells A 24)).alloc (.cells B 24)).alloc (.cells D 24)).heap.size) :=
    fun A B D => five_start HG4.out HG5.out HB5.out (by have := HZ.out; omega)
  clear HG4 HG5 HZ HB5
  have HLb : Hid (w.heap.size ≤ w5.heap.size ∧ w.heap.size ≤ w5.heap.size + 1 ∧ w.heap.size ≤ w5.heap.size + 1 + 1) := by have := HL.out; have := Hb.out; exact ⟨by omega, by omega, by omega⟩
  generalize w5.heap.size + 1 + 1 = b5 at *
  generalize w5.heap.size + 1 = b4 at *
  generalize w5.heap.size = b3 at *
  generalize w3.heap.size + 1 = b2 at *
  generalize w3.heap.size = b1 at *
  go_loopw [21] (fun i wr => ∃ k : Nat, k ≤ 64 ∧ i = .int .i64 k ∧ Five wr b1 b2 b3 b4 b5 Fx Fy (arrf (upto (fun i => bitv x i && bitv y i) k)) (arrf (upto (fun i => bitv x i || bitv y i) k)) (arrf (upto (fun i => bitv x i && !bitv y i) k)) 24 ∧ Below w.heap.size w wr ∧ b5 < wr.heap.size) (fun i _ => 64 - (intOf i).toNat)
  case atStart => exact ⟨0, by omega, rfl, by rw [upto_zero, upto_zero, upto_zero]; exact Hst.out _ _ _⟩
  case round =>
    obtain ⟨k, hk, rfl, h5, hB, hz⟩ := hrel
    clear Hst
    have H5 := Lib.hid h5
    clear h5
    by_cases hlt : k < 64
    · obtain ⟨c1, c2, c3, c4, c5, f3, f4, f5⟩ := five_cells H5.out HFx.out HFy.out hlt
      obtain ⟨n13, n14, n15, n23, n24, n25, n31, n32, n34, n35, n41, n42, n43, n45, n51, n52, n53, n54⟩ : ¬ b1 = b3 ∧ ¬ b1 = b4 ∧ ¬ b1 = b5 ∧ ¬ b2 = b3 ∧ ¬ b2 = b4 ∧ ¬ b2 = b5 ∧ ¬ b3 = b1 ∧ ¬ b3 = b2 ∧ ¬ b3 = b4 ∧ ¬ b3 = b5 ∧ ¬ b4 = b1 ∧ ¬ b4 = b2 ∧ ¬ b4 = b3 ∧ ¬ b4 = b5 ∧ ¬ b5 = b1 ∧ ¬ b5 = b2 ∧ ¬ b5 = b3 ∧ ¬ b5 = b4 := by
        obtain ⟨h1, h2, h3, h4⟩ := Hb.out
        exact ⟨by omega, by omega, by omega, by omega, by omega, by omega, by omega, by omega, by omega, by omega, by omega, by omega, by omega, by omega, by omega, by omega, by omega, by omega⟩
      cases hbx : bitv x k <;> cases hby : bitv y k
      all_goals
        rw [hbx] at c1
        rw [hby] at c2
        have Hbx := Lib.hid hbx
        have Hby := Lib.hid hby
        have Hc := Lib.hid (And.intro c3 (And.intro c4 c5))
        clear hbx hby
        go_wp2
        go_region
        go_wp2
        go_roundw
        case rel => exact ⟨k + 1, by omega, by go_num, five_next H5.out hlt Hb.out (by simp [Hbx.out, Hby.out]) (by simp [Hbx.out, Hby.out]) (by simp [Hbx.out, Hby.out]), ((((hB.setCell (p := ⟨b3, k, none⟩) (HLb.out.1) _).setCell (p := ⟨b4, k, none⟩) (HLb.out.2.1) _).setCell (p := ⟨b5, k, none⟩) (HLb.out.2.2) _).drew), by simpa [World.setCell] using hz⟩
        case measure => simp [intOf]; omega
    · obtain rfl : k = 64 := by omega
      obtain ⟨Ga, HGa, _, _, cA⟩ := list_named (x &&& y) (and_lt Hx.out)
      obtain ⟨Go, HGo, _, _, cO⟩ := list_named (x ||| y) (Nat.or_lt_two_pow Hx.out Hy.out)
      obtain ⟨Gl, HGl, _, _, cL⟩ := list_named (setLess x y) (setLess_lt x y Hx.out)
      have cAnd := Lib.hid (fun w => and_any x y w Hx.out Hy.out)
      have cOr := Lib.hid (fun w => or_any x y w Hx.out Hy.out)
      have cLess := Lib.hid (fun w => less_any x y w Hx.out Hy.out)
      have heqA : ∀ w : World, (Op.equalIn 10000 24 (.agg Ga) (.agg (arrf (upto (fun i => bitv x i && bitv y i) 64)))).run Try.prog w = .ok true w := fun w => by
        rw [HGa.out]; exact run_eq_yes _ _ (fun i hi => by simp [upto, hi, and_bit]) w
      have heqO : ∀ w : World, (Op.equalIn 10000 24 (.agg Go) (.agg (arrf (upto (fun i => bitv x i || bitv y i) 64)))).run Try.prog w = .ok true w := fun w => by
        rw [HGo.out]; exact run_eq_yes _ _ (fun i hi => by simp [upto, hi, or_bit]) w
      have heqL : ∀ w : World, (Op.equalIn 10000 24 (.agg Gl) (.agg (arrf (upto (fun i => bitv x i && !bitv y i) 64)))).run Try.prog w = .ok true w := fun w => by
        rw [HGl.out]; exact run_eq_yes _ _ (fun i hi => by rw [setLess_bit _ _ _ Hy.out hi]; simp [upto, hi]) w
      have hu24 := Try.underlying24
      have hi24 : ∀ f, (Try.prog.info? 24).map (·.size) = some (arrf f).size := fun f => by rw [arrf_size]; exact cells64
      have hi1 := hi24 (upto (fun i => bitv x i && bitv y i) 64)
      have hi2 := hi24 (upto (fun i => bitv x i || bitv y i) 64)
      have hi3 := hi24 (upto (fun i => bitv x i && !bitv y i) 64)
      clear hi24
      generalize arrf (upto (fun i => bitv x i && bitv y i) 64) = F3 at *
      generalize arrf (upto (fun i => bitv x i || bitv y i) 64) = F4 at *
      generalize arrf (upto (fun i => bitv x i && !bitv y i) 64) = F5 at *
      clear HGa HGo HGl HFx HFy HFx1 HFy1 HFxs HFys
      generalize x &&& y = ya at *
      generalize x ||| y = yo at *
      generalize setLess x y = yl at *
      obtain ⟨C, hCdef⟩ : ∃ C : World → Prop, C = fun w' => (w'.rangeAt b3 0 F3.toList ∧ w'.rangeAt b4 0 F4.toList ∧ w'.rangeAt b5 0 F5.toList ∧ Below w.heap.size w w' ∧ b5 < w'.heap.size) := ⟨_, rfl⟩
      have hC0 : C wr.drew := by rw [hCdef]; exact ⟨range_of_block H5.out.2.2.1, range_of_block H5.out.2.2.2.1, range_of_block H5.out.2.2.2.2, hB.drew, hz⟩
      have HCe : Hid (∀ w', C w' → Below w.heap.size w w') := fun w' h => by rw [hCdef] at h; exact h.2.2.2.1
      have HC3 : Hid (∀ w', C w' → (loadVar 24 ⟨b3, 0, none⟩).run Try.prog w' = .ok (.agg F3) w') := fun w' h => by rw [hCdef] at h; exact run_load_range h.1 hu24 hi1
      have HC4 : Hid (∀ w', C w' → (loadVar 24 ⟨b4, 0, none⟩).run Try.prog w' = .ok (.agg F4) w') := fun w' h => by rw [hCdef] at h; exact run_load_range h.2.1 hu24 hi2
      have HC5 : Hid (∀ w', C w' → (loadVar 24 ⟨b5, 0, none⟩).run Try.prog w' = .ok (.agg F5) w') := fun w' h => by rw [hCdef] at h; exact run_load_range h.2.2.1 hu24 hi3
      have HKC : Hid (∀ w' wx, C w' → Below w'.heap.size w' wx → C wx) := fun w' wx h hb => by
        rw [hCdef] at h ⊢
        obtain ⟨r3, r4, r5, hbl, hzz⟩ := h
        obtain ⟨_, _, h3, h4⟩ := Hb.out
        exact ⟨range_below r3 hb (by omega), range_below r4 hb (by omega), range_below r5 hb hzz, hbl.trans (hb.mono hbl.size), by have := hb.size; omega⟩
      clear hCdef hi1 hi2 hi3 hu24 H5
      go_wp2
      refine wp_region_quiet (C := C) (by kernel_rfl) (by kernel_rfl) hC0 ?_
      dsimp only
      repeat (first
        | (refine qc_skip (by rfl) ?_; apply Exists.intro; refine ⟨?_, ?_⟩; (simp only [Act.put, List.setIfInBounds_toArray, List.set_cons_zero, List.set_cons_succ]; rfl))
        | (refine qc_move _ rfl (by rfl) ?_; apply Exists.intro; refine ⟨?_, ?_⟩; (simp only [Act.put, Act.eval, List.setIfInBounds_toArray, List.set_cons_zero, List.set_cons_succ, Array.getD_eq_getD_getElem?, List.getElem?_toArray, List.getElem?_cons_zero, List.getElem?_cons_succ, Option.getD_some]; rfl))
        | (refine qc_load_row _ _ rfl (by rfl) b3 rfl F3 HC3.out ?_; apply Exists.intro; refine ⟨?_, ?_⟩; (simp only [Act.put, List.setIfInBounds_toArray, List.set_cons_zero, List.set_cons_succ]; rfl))
        | (refine qc_load_row _ _ rfl (by rfl) b4 rfl F4 HC4.out ?_; apply Exists.intro; refine ⟨?_, ?_⟩; (simp only [Act.put, List.setIfInBounds_toArray, List.set_cons_zero, List.set_cons_succ]; rfl))
        | (refine qc_load_row _ _ rfl (by rfl) b5 rfl F5 HC5.out ?_; apply Exists.intro; refine ⟨?_, ?_⟩; (simp only [Act.put, List.setIfInBounds_toArray, List.set_cons_zero, List.set_cons_succ]; rfl))
        | (refine qc_step (by rfl) ?_
           apply Exists.intro
           refine ⟨fun w' hw' => ?_, ?_⟩
           · go_simp
             first
             | done
             | rfl
             | (go_at_call 9; (with_reducible refine (cAnd.out _).mono ?_); rintro e w' ⟨rfl, rfl⟩; exact ⟨rfl, hw'⟩)
             | (go_at_call 10; (with_reducible refine (cOr.out _).mono ?_); rintro e w' ⟨rfl, rfl⟩; exact ⟨rfl, hw'⟩)
             | (go_at_call 11; (with_reducible refine (cLess.out _).mono ?_); rintro e w' ⟨rfl, rfl⟩; exact ⟨rfl, hw'⟩)
             | (go_at_call 7; (with_reducible refine (cA.out _).mono ?_); rintro e w' ⟨rfl, hb6⟩; exact ⟨rfl, HKC.out _ _ hw' hb6⟩)
             | (go_at_call 7; (with_reducible refine (cO.out _).mono ?_); rintro e w' ⟨rfl, hb6⟩; exact ⟨rfl, HKC.out _ _ hw' hb6⟩)
             | (go_at_call 7; (with_reducible refine (cL.out _).mono ?_); rintro e w' ⟨rfl, hb6⟩; exact ⟨rfl, HKC.out _ _ hw' hb6⟩)
           apply Exists.intro; refine ⟨?_, ?_⟩; (simp only [Act.put, List.setIfInBounds_toArray, List.set_cons_zero, List.set_cons_succ]; rfl)))
      refine wpQuiet_nil ?_
      intro w7 hw7
      have hw8 := Lib.hid (HCe.out w7 hw7)
      go_wp2
      go_ret
      exact ⟨rfl, hw8.out⟩
theorem setTwo_walk (W : World) (a0 : Int) (w0 : (Lit.int .u64 a0).wf = true) (a1 : Int) (w1 : (Lit.int .u64 a1).wf = true) :
    Calls Try.prog 4 #[.int .u64 a0, .int .u64 a1] W fun e w' => e = .returned (.bool true) ∧ Below W.heap.size W w' := by
  obtain ⟨x, rfl, hx⟩ := u64_nat w0
  obtain ⟨y, rfl, hy⟩ := u64_nat w1
  exact setTwo_walk0 x y W hx hy
end Go.Proofs.Ytoppnalfbgedmaa
