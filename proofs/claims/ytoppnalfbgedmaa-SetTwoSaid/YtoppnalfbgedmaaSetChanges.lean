/- The walk of the law SetChanges. -/
import Derived.Test.YtoppnalfbgedmaaSetB
import Derived.Test.YtoppnalfbgedmaaSetEq
import Derived.Test.YtoppnalfbgedmaaClass
import Derived.Deep.MidRow
namespace Go.Proofs.Ytoppnalfbgedmaa
open Go.ChangeShapes Go.WideShapes Go.ChangeAt Go.RowKit
set_option linter.unusedVariables false
theorem keep_two {w wr wx : World} {b : Nat} {cs ds : List Value} (h : w.rangeAt b 0 cs ∧ w.rangeAt (b + 1) 0 ds ∧ Below (b + 2) wr w) (hz : b + 2 ≤ wr.heap.size) (hb : Below w.heap.size w wx) :
    wx.rangeAt b 0 cs ∧ wx.rangeAt (b + 1) 0 ds ∧ Below (b + 2) wr wx :=
  ⟨fun j v hv => (hb.cell (p := ⟨b, 0 + j, none⟩) (by have := h.2.2.size; show b < _; omega)).trans (h.1 j v hv),
   fun j v hv => (hb.cell (p := ⟨b + 1, 0 + j, none⟩) (by have := h.2.2.size; show b + 1 < _; omega)).trans (h.2.1 j v hv), h.2.2.trans (hb.mono (by have := h.2.2.size; omega))⟩
theorem setWith_in (x : Nat) (n : Int) (h0 : 0 ≤ n) (h1 : n < 64) (i : Nat) (hi : i < 64) : bitv (setWith x n) i = if i = n.toNat then true else bitv x i := by
  unfold setWith bitv
  rw [if_pos ⟨h0, h1⟩, Nat.testBit_or, Nat.testBit_two_pow]
  by_cases e : i = n.toNat
  · subst e; simp
  · rw [if_neg e]; simp; omega
theorem setWithout_in (x : Nat) (n : Int) (h0 : 0 ≤ n) (h1 : n < 64) (i : Nat) (hi : i < 64) : bitv (setWithout x n) i = if i = n.toNat then false else bitv x i := by
  unfold setWithout
  rw [if_pos ⟨h0, h1⟩, setLess_bit _ _ _ (by simpa using pow_lt n h0 h1) hi]
  unfold bitv
  rw [Nat.testBit_two_pow]
  by_cases e : i = n.toNat
  · subst e; simp
  · rw [if_neg e]; simp; intro _; omega
def AllHeld (p q r s : Prop) : Prop := p ∧ q ∧ r ∧ s
theorem held_keep {w w0 wx : World} {b c : Nat} {cs ds : List Value} (hbc : b < c) (h : w.rangeAt b 0 cs ∧ w.rangeAt c 0 ds ∧ Below w0.heap.size w0 w ∧ c < w.heap.size) (hb : Below w.heap.size w wx) :
    wx.rangeAt b 0 cs ∧ wx.rangeAt c 0 ds ∧ Below w0.heap.size w0 wx ∧ c < wx.heap.size :=
  ⟨fun j v hv => (hb.cell (p := ⟨b, 0 + j, none⟩) (by show b < _; omega)).trans (h.1 j v hv),
   fun j v hv => (hb.cell (p := ⟨c, 0 + j, none⟩) (by show c < _; omega)).trans (h.2.1 j v hv), h.2.2.1.trans (hb.mono h.2.2.1.size), by have := hb.size; omega⟩
theorem held_below {w w0 : World} {B : Nat} {p q r : Prop} (h : p ∧ q ∧ Below B w0 w ∧ r) : Below B w0 w := h.2.2.1
theorem below_two {w3 w4 w5 : World} {A1 A2 : Array Value} {t : TypeId} {B : Nat} (h4 : Only w3.heap.size ((w3.alloc (.cells A1 t)).alloc (.cells A2 t)) w4) (h5 : Only (w3.heap.size + 1) w4 w5) (hB : B ≤ w3.heap.size) : Below B w3 w5 :=
  ((((Below.refl _ _).alloc hB _).alloc (by simp; omega) _).trans (h4.below hB)).trans (h5.below (by omega))
theorem held_start {w w5 : World} {b c k : Nat} {f : Nat → Bool} (h1 : w5.heap[b]? = some (.cells (arrf f) 24)) (h2 : w5.heap[c]? = some (.cells (arrf f) 24)) (hbc : b < c) (hz : c < w5.heap.size) (hb : Below w.heap.size w w5) (hk : k < 64)
    (hB : w.heap.size ≤ b) :
    (((w5.setCell ⟨b, k, none⟩ (.bool true)).setCell ⟨c, k, none⟩ (.bool false)).drew).rangeAt b 0 (arrf fun i => if i = k then true else f i).toList ∧
    (((w5.setCell ⟨b, k, none⟩ (.bool true)).setCell ⟨c, k, none⟩ (.bool false)).drew).rangeAt c 0 (arrf fun i => if i = k then false else f i).toList ∧
    Below w.heap.size w ((w5.setCell ⟨b, k, none⟩ (.bool true)).setCell ⟨c, k, none⟩ (.bool false)).drew ∧ c < ((w5.setCell ⟨b, k, none⟩ (.bool true)).setCell ⟨c, k, none⟩ (.bool false)).drew.heap.size := by
  refine ⟨?_, ?_, ((hb.setCell (p := ⟨b, k, none⟩) hB _).setCell (p := ⟨c, k, none⟩) (by show _ ≤ c; omega) _).drew, ?_⟩
  · refine range_of_block (t := 24) (fr := (0, 0)) ?_
    rw [heap_drew, heap_setCell_other _ _ _ _ (by show b ≠ c; omega), heap_setCell_same _ _ _ _ _ _ h1, arrf_set _ _ _ hk]
  · refine range_of_block (t := 24) (fr := (0, 0)) ?_
    rw [heap_drew, heap_setCell_same _ _ _ (arrf f) 24 _ (by rw [heap_setCell_other _ _ _ _ (by show c ≠ b; omega)]; exact h2), arrf_set _ _ _ hk]
  · show _ < ((w5.setCell ⟨b, k, none⟩ (.bool true)).setCell ⟨c, k, none⟩ (.bool false)).heap.size
    simp [World.setCell]; omega
theorem setWith_out (x : Nat) (n : Int) (h : n < 0 ∨ 64 ≤ n) : setWith x n = x := if_neg (by omega)
theorem setWithout_out (x : Nat) (n : Int) (h : n < 0 ∨ 64 ≤ n) : setWithout x n = x := if_neg (by omega)
theorem held_start0 {w w5 : World} {b c : Nat} {F : Array Value} {t : TypeId} (h1 : w5.heap[b]? = some (.cells F t)) (h2 : w5.heap[c]? = some (.cells F t)) (hbc : b < c) (hz : c < w5.heap.size) (hb : Below w.heap.size w w5) :
    w5.drew.rangeAt b 0 F.toList ∧ w5.drew.rangeAt c 0 F.toList ∧ Below w.heap.size w w5.drew ∧ c < w5.drew.heap.size :=
  ⟨range_of_block (t := t) (fr := (0, 0)) h1, range_of_block (t := t) (fr := (0, 0)) h2, hb.drew, hz⟩
set_option maxHeartbeats 1000000 in
theorem setChanges_in (x : Nat) (n : Int) (w : World) (hx : x < 2 ^ 64) (hn0 : 0 ≤ n) (hn1 : n < 64) :
    Calls Try.prog 5 #[.int .u64 x, .int .i64 n] w fun e w' => e = .returned (.bool true) ∧ Below w.heap.size w w' := by
  have Hx := Lib.hid hx
  clear hx
  have hu24 := Try.underlying24
  have hi24 : ∀ f, (Try.prog.info? 24).map (·.size) = some (arrf f).toList.length := fun f => by rw [Array.length_toList, arrf_size]; exact cells64
  have hi1 := hi24 (fun i => if i = n.toNat then true else bitv x i)
  have hi2 := hi24 (fun i => if i = n.toNat then false else bitv x i)
  clear hi24
  have heq1 := run_eq_yes (bitv (setWith x n)) (fun i => if i = n.toNat then true else bitv x i) (setWith_in x n hn0 hn1)
  have heq2 := run_eq_yes (bitv (setWithout x n)) (fun i => if i = n.toNat then false else bitv x i) (setWithout_in x n hn0 hn1)
  go_enter Try.func5, Try.ntmps5
  go_wp2_with (first
    | (go_at_call 6; refine (awake_any _).mono ?_; rintro e w1 ⟨rfl, hb1⟩)
    | (go_at_call 7; refine (list_any x w1 Hx.out).mono ?_; rintro e w2 ⟨rfl, hb2⟩)
    | (go_at_call 7; refine (list_any x w2 Hx.out).mono ?_; rintro e w3 ⟨rfl, hb3⟩)
    | (refine wpList_store_abs rfl 24 _ _ rfl rfl w3.heap.size (arrf (bitv x)) rfl rfl 24 _ (heap_alloc2_old _ _ _) (by rw [arrf_size]; exact cells64) (by rw [arrf_size]; rfl) (arrf_one _) ?_; intro w4 ho4 hg4)
    | (refine wpList_store_abs rfl 24 _ _ rfl rfl (w3.heap.size + 1) (arrf (bitv x)) rfl rfl 24 _ ((ho4.block _ (by omega)).trans (heap_alloc2_new _ _ _)) (by rw [arrf_size]; exact cells64) (by rw [arrf_size]; rfl) (arrf_one _) ?_; intro w5 ho5 hg5
       have hg4' := (ho5.block _ (by omega)).trans hg4
       have hc1 : w5.cell? ⟨w3.heap.size, n.toNat, none⟩ = some (.bool (bitv x n.toNat)) := by rw [cell_of_row _ _ _ _ _ _ hg4']; exact arrf_get _ _ (by omega)
       have hc2 : w5.cell? ⟨w3.heap.size + 1, n.toNat, none⟩ = some (.bool (bitv x n.toNat)) := by rw [cell_of_row _ _ _ _ _ _ hg5]; exact arrf_get _ _ (by omega)
       have hf1 : w5.frozen? ⟨w3.heap.size, n.toNat, none⟩ = false := frozen_of_row _ _ _ _ _ hg4'
       have hf2 : w5.frozen? ⟨w3.heap.size + 1, n.toNat, none⟩ = false := frozen_of_row _ _ _ _ _ hg5
       have HG4 := Lib.hid hg4'
       have HG5 := Lib.hid hg5
       have hz5 : w5.heap.size = w3.heap.size + 2 := by rw [ho5.size, ho4.size]; simp
       have HZ := Lib.hid hz5
       clear hg4 hg4' hg5 hz5))
  have hS0 := held_start HG4.out HG5.out (by omega) (by have := HZ.out; omega) (hb1.trans ((hb2.mono hb1.size).trans ((hb3.mono (Nat.le_trans hb1.size hb2.size)).trans (below_two ho4 ho5 (Nat.le_trans hb1.size (Nat.le_trans hb2.size hb3.size)))))) (k := n.toNat) (by omega) (Nat.le_trans hb1.size (Nat.le_trans hb2.size hb3.size))
  have hbc : w3.heap.size < w3.heap.size + 1 := by omega
  clear HG4 HG5 HZ hc1 hc2 hf1 hf2 ho4 ho5 hb1 hb2 hb3
  generalize w3.heap.size + 1 = c at *
  generalize w3.heap.size = b at *
  clear w1 w2 w3 w4
  generalize (w5.setCell ⟨b, n.toNat, none⟩ (.bool true)).setCell ⟨c, n.toNat, none⟩ (.bool false) = w6 at *
  clear w5
  clear heq1 heq2
  have heq1 := run_eq_yes (bitv (setWith x n)) (fun i => if i = n.toNat then true else bitv x i) (setWith_in x n hn0 hn1)
  have heq2 := run_eq_yes (bitv (setWithout x n)) (fun i => if i = n.toNat then false else bitv x i) (setWithout_in x n hn0 hn1)
  generalize (arrf fun i => if i = n.toNat then true else bitv x i) = F1 at *
  generalize (arrf fun i => if i = n.toNat then false else bitv x i) = F2 at *
  have cWith := Lib.hid (fun w => with_any x n w Hx.out)
  have cWout := Lib.hid (fun w => without_any x n w Hx.out)
  have cL1 := Lib.hid (fun w => list_any (setWith x n) w (setWith_lt x n Hx.out))
  have cL2 := Lib.hid (fun w => list_any (setWithout x n) w (setWithout_lt x n Hx.out))
  generalize arrf (bitv (setWith x n)) = G1 at *
  generalize arrf (bitv (setWithout x n)) = G2 at *
  generalize setWith x n = y1 at *
  generalize setWithout x n = y2 at *
  have hhas : (decide (0 ≤ n ∧ n < 64) && bitv x n.toNat) = bitv x n.toNat := by simp [hn0, hn1]
  have hhas' := Lib.hid hhas
  clear hhas
  have hCb : ∀ w', (w'.rangeAt b 0 F1.toList ∧ w'.rangeAt c 0 F2.toList ∧ Below w.heap.size w w' ∧ c < w'.heap.size) → (loadVar 24 ⟨b, 0, none⟩).run Try.prog w' = .ok (.agg F1) w' := fun w' h => run_load_range h.1 hu24 (by simpa using hi1)
  have hCc : ∀ w', (w'.rangeAt b 0 F1.toList ∧ w'.rangeAt c 0 F2.toList ∧ Below w.heap.size w w' ∧ c < w'.heap.size) → (loadVar 24 ⟨c, 0, none⟩).run Try.prog w' = .ok (.agg F2) w' := fun w' h => run_load_range h.2.1 hu24 (by simpa using hi2)
  have hKC : ∀ w' wx, (w'.rangeAt b 0 F1.toList ∧ w'.rangeAt c 0 F2.toList ∧ Below w.heap.size w w' ∧ c < w'.heap.size) → Below w'.heap.size w' wx → (wx.rangeAt b 0 F1.toList ∧ wx.rangeAt c 0 F2.toList ∧ Below w.heap.size w wx ∧ c < wx.heap.size) := fun w' wx h hb => held_keep hbc h hb
  obtain ⟨C, hCdef⟩ : ∃ C : World → Prop, C = fun w' => (w'.rangeAt b 0 F1.toList ∧ w'.rangeAt c 0 F2.toList ∧ Below w.heap.size w w' ∧ c < w'.heap.size) := ⟨_, rfl⟩
  have hC0 : C w6.drew := by rw [hCdef]; exact hS0
  have hCe : ∀ w', C w' → Below w.heap.size w w' := fun w' h => by rw [hCdef] at h; exact h.2.2.1
  replace hCb : ∀ w', C w' → (loadVar 24 ⟨b, 0, none⟩).run Try.prog w' = .ok (.agg F1) w' := fun w' h => hCb w' (by rw [hCdef] at h; exact h)
  replace hCc : ∀ w', C w' → (loadVar 24 ⟨c, 0, none⟩).run Try.prog w' = .ok (.agg F2) w' := fun w' h => hCc w' (by rw [hCdef] at h; exact h)
  replace hKC : ∀ w' wx, C w' → Below w'.heap.size w' wx → C wx := fun w' wx h hb => by rw [hCdef] at h ⊢; exact hKC w' wx h hb
  have HCb := Lib.hid hCb
  have HCc := Lib.hid hCc
  have HKC := Lib.hid hKC
  have HCe := Lib.hid hCe
  clear hCb hCc hKC hCe hCdef hS0 hi1 hi2 hu24
  refine wp_region_quiet (C := C) (by kernel_rfl) (by kernel_rfl) hC0 ?_
  dsimp only
  repeat (first
    | (refine qc_skip (by rfl) ?_; apply Exists.intro; refine ⟨?_, ?_⟩; (simp only [Act.put, List.setIfInBounds_toArray, List.set_cons_zero, List.set_cons_succ]; rfl))
    | (refine qc_move _ rfl (by rfl) ?_; apply Exists.intro; refine ⟨?_, ?_⟩; (simp only [Act.put, Act.eval, List.setIfInBounds_toArray, List.set_cons_zero, List.set_cons_succ, Array.getD_eq_getD_getElem?, List.getElem?_toArray, List.getElem?_cons_zero, List.getElem?_cons_succ, Option.getD_some]; rfl))
    | (refine qc_load_row _ _ rfl (by rfl) b rfl F1 HCb.out ?_; apply Exists.intro; refine ⟨?_, ?_⟩; (simp only [Act.put, List.setIfInBounds_toArray, List.set_cons_zero, List.set_cons_succ]; rfl))
    | (refine qc_load_row _ _ rfl (by rfl) c rfl F2 HCc.out ?_; apply Exists.intro; refine ⟨?_, ?_⟩; (simp only [Act.put, List.setIfInBounds_toArray, List.set_cons_zero, List.set_cons_succ]; rfl))
    | (refine qc_step (by rfl) ?_
       apply Exists.intro
       refine ⟨fun w' hw' => ?_, ?_⟩
       · go_simp
         first
         | done
         | rfl
         | (go_at_call 12; (with_reducible refine (cWith.out _).mono ?_); rintro e w' ⟨rfl, rfl⟩; exact ⟨rfl, hw'⟩)
         | (go_at_call 13; (with_reducible refine (cWout.out _).mono ?_); rintro e w' ⟨rfl, rfl⟩; exact ⟨rfl, hw'⟩)
         | (go_at_call 14; (with_reducible refine (has_any x n _ Hx.out).mono ?_); rintro e w' ⟨rfl, rfl⟩; rw [hhas'.out]; exact ⟨rfl, hw'⟩)
         | (go_at_call 7; (with_reducible refine (cL1.out _).mono ?_); rintro e w' ⟨rfl, hb6⟩; exact ⟨rfl, HKC.out _ _ hw' hb6⟩)
         | (go_at_call 7; (with_reducible refine (cL2.out _).mono ?_); rintro e w' ⟨rfl, hb6⟩; exact ⟨rfl, HKC.out _ _ hw' hb6⟩)
       apply Exists.intro; refine ⟨?_, ?_⟩; (simp only [Act.put, List.setIfInBounds_toArray, List.set_cons_zero, List.set_cons_succ]; rfl)))
  refine wpQuiet_nil ?_
  intro w7 hw7
  have hw8 := Lib.hid (HCe.out w7 hw7)
  go_wp2
  go_ret
  exact ⟨rfl, hw8.out⟩
set_option maxHeartbeats 1000000 in
theorem setChanges_neg (x : Nat) (n : Int) (w : World) (hx : x < 2 ^ 64) (hn : n < 0) :
    Calls Try.prog 5 #[.int .u64 x, .int .i64 n] w fun e w' => e = .returned (.bool true) ∧ Below w.heap.size w w' := by
  have Hx := Lib.hid hx
  have hn' : Hid (n < 0 ∨ 64 ≤ n) := Lib.hid (by omega)
  clear hx
  have hu24 := Try.underlying24
  have hi24 : ∀ f, (Try.prog.info? 24).map (·.size) = some (arrf f).toList.length := fun f => by rw [Array.length_toList, arrf_size]; exact cells64
  have hi1 := hi24 (bitv x)
  have hi2 := hi24 (bitv x)
  clear hi24
  have heq1 := run_eq_yes (bitv (setWith x n)) (bitv x) (fun i hi => by rw [setWith_out x n hn'.out])
  have heq2 := run_eq_yes (bitv (setWithout x n)) (bitv x) (fun i hi => by rw [setWithout_out x n hn'.out])
  go_enter Try.func5, Try.ntmps5
  go_wp2_with (first
    | (go_at_call 6; refine (awake_any _).mono ?_; rintro e w1 ⟨rfl, hb1⟩)
    | (go_at_call 7; refine (list_any x w1 Hx.out).mono ?_; rintro e w2 ⟨rfl, hb2⟩)
    | (go_at_call 7; refine (list_any x w2 Hx.out).mono ?_; rintro e w3 ⟨rfl, hb3⟩)
    | (refine wpList_store_abs rfl 24 _ _ rfl rfl w3.heap.size (arrf (bitv x)) rfl rfl 24 _ (heap_alloc2_old _ _ _) (by rw [arrf_size]; exact cells64) (by rw [arrf_size]; rfl) (arrf_one _) ?_; intro w4 ho4 hg4)
    | (refine wpList_store_abs rfl 24 _ _ rfl rfl (w3.heap.size + 1) (arrf (bitv x)) rfl rfl 24 _ ((ho4.block _ (by omega)).trans (heap_alloc2_new _ _ _)) (by rw [arrf_size]; exact cells64) (by rw [arrf_size]; rfl) (arrf_one _) ?_; intro w5 ho5 hg5
       have hg4' := (ho5.block _ (by omega)).trans hg4
       have HG4 := Lib.hid hg4'
       have HG5 := Lib.hid hg5
       have hz5 : w5.heap.size = w3.heap.size + 2 := by rw [ho5.size, ho4.size]; simp
       have HZ := Lib.hid hz5
       clear hg4 hg4' hg5 hz5))
  have hS0 := held_start0 HG4.out HG5.out (by omega) (by have := HZ.out; omega) (hb1.trans ((hb2.mono hb1.size).trans ((hb3.mono (Nat.le_trans hb1.size hb2.size)).trans (below_two ho4 ho5 (Nat.le_trans hb1.size (Nat.le_trans hb2.size hb3.size))))))
  have hbc : w3.heap.size < w3.heap.size + 1 := by omega
  clear HG4 HG5 HZ ho4 ho5 hb1 hb2 hb3
  generalize w3.heap.size + 1 = c at *
  generalize w3.heap.size = b at *
  clear w1 w2 w3 w4
  clear heq1 heq2
  have heq1 := run_eq_yes (bitv (setWith x n)) (bitv x) (fun i hi => by rw [setWith_out x n hn'.out])
  have heq2 := run_eq_yes (bitv (setWithout x n)) (bitv x) (fun i hi => by rw [setWithout_out x n hn'.out])
  generalize arrf (bitv x) = F1 at *
  have cWith := Lib.hid (fun w => with_any x n w Hx.out)
  have cWout := Lib.hid (fun w => without_any x n w Hx.out)
  have cL1 := Lib.hid (fun w => list_any (setWith x n) w (setWith_lt x n Hx.out))
  have cL2 := Lib.hid (fun w => list_any (setWithout x n) w (setWithout_lt x n Hx.out))
  generalize arrf (bitv (setWith x n)) = G1 at *
  generalize arrf (bitv (setWithout x n)) = G2 at *
  generalize setWith x n = y1 at *
  generalize setWithout x n = y2 at *
  have hhas : (decide (0 ≤ n ∧ n < 64) && bitv x n.toNat) = false := by rw [decide_eq_false (by have := hn'.out; omega)]; rfl
  have hhas' := Lib.hid hhas
  clear hhas
  have hCb : ∀ w', (w'.rangeAt b 0 F1.toList ∧ w'.rangeAt c 0 F1.toList ∧ Below w.heap.size w w' ∧ c < w'.heap.size) → (loadVar 24 ⟨b, 0, none⟩).run Try.prog w' = .ok (.agg F1) w' := fun w' h => run_load_range h.1 hu24 (by simpa using hi1)
  have hCc : ∀ w', (w'.rangeAt b 0 F1.toList ∧ w'.rangeAt c 0 F1.toList ∧ Below w.heap.size w w' ∧ c < w'.heap.size) → (loadVar 24 ⟨c, 0, none⟩).run Try.prog w' = .ok (.agg F1) w' := fun w' h => run_load_range h.2.1 hu24 (by simpa using hi2)
  have hKC : ∀ w' wx, (w'.rangeAt b 0 F1.toList ∧ w'.rangeAt c 0 F1.toList ∧ Below w.heap.size w w' ∧ c < w'.heap.size) → Below w'.heap.size w' wx → (wx.rangeAt b 0 F1.toList ∧ wx.rangeAt c 0 F1.toList ∧ Below w.heap.size w wx ∧ c < wx.heap.size) := fun w' wx h hb => held_keep hbc h hb
  obtain ⟨C, hCdef⟩ : ∃ C : World → Prop, C = fun w' => (w'.rangeAt b 0 F1.toList ∧ w'.rangeAt c 0 F1.toList ∧ Below w.heap.size w w' ∧ c < w'.heap.size) := ⟨_, rfl⟩
  have hC0 : C w5.drew := by rw [hCdef]; exact hS0
  have hCe : ∀ w', C w' → Below w.heap.size w w' := fun w' h => by rw [hCdef] at h; exact h.2.2.1
  replace hCb : ∀ w', C w' → (loadVar 24 ⟨b, 0, none⟩).run Try.prog w' = .ok (.agg F1) w' := fun w' h => hCb w' (by rw [hCdef] at h; exact h)
  replace hCc : ∀ w', C w' → (loadVar 24 ⟨c, 0, none⟩).run Try.prog w' = .ok (.agg F1) w' := fun w' h => hCc w' (by rw [hCdef] at h; exact h)
  replace hKC : ∀ w' wx, C w' → Below w'.heap.size w' wx → C wx := fun w' wx h hb => by rw [hCdef] at h ⊢; exact hKC w' wx h hb
  have HCb := Lib.hid hCb
  have HCc := Lib.hid hCc
  have HKC := Lib.hid hKC
  have HCe := Lib.hid hCe
  clear hCb hCc hKC hCe hCdef hS0 hi1 hi2 hu24
  refine wp_region_quiet (C := C) (by kernel_rfl) (by kernel_rfl) hC0 ?_
  dsimp only
  repeat (first
    | (refine qc_skip (by rfl) ?_; apply Exists.intro; refine ⟨?_, ?_⟩; (simp only [Act.put, List.setIfInBounds_toArray, List.set_cons_zero, List.set_cons_succ]; rfl))
    | (refine qc_move _ rfl (by rfl) ?_; apply Exists.intro; refine ⟨?_, ?_⟩; (simp only [Act.put, Act.eval, List.setIfInBounds_toArray, List.set_cons_zero, List.set_cons_succ, Array.getD_eq_getD_getElem?, List.getElem?_toArray, List.getElem?_cons_zero, List.getElem?_cons_succ, Option.getD_some]; rfl))
    | (refine qc_load_row _ _ rfl (by rfl) b rfl F1 HCb.out ?_; apply Exists.intro; refine ⟨?_, ?_⟩; (simp only [Act.put, List.setIfInBounds_toArray, List.set_cons_zero, List.set_cons_succ]; rfl))
    | (refine qc_load_row _ _ rfl (by rfl) c rfl F1 HCc.out ?_; apply Exists.intro; refine ⟨?_, ?_⟩; (simp only [Act.put, List.setIfInBounds_toArray, List.set_cons_zero, List.set_cons_succ]; rfl))
    | (refine qc_step (by rfl) ?_
       apply Exists.intro
       refine ⟨fun w' hw' => ?_, ?_⟩
       · go_simp
         first
         | done
         | rfl
         | (go_at_call 12; (with_reducible refine (cWith.out _).mono ?_); rintro e w' ⟨rfl, rfl⟩; exact ⟨rfl, hw'⟩)
         | (go_at_call 13; (with_reducible refine (cWout.out _).mono ?_); rintro e w' ⟨rfl, rfl⟩; exact ⟨rfl, hw'⟩)
         | (go_at_call 14; (with_reducible refine (has_any x n _ Hx.out).mono ?_); rintro e w' ⟨rfl, rfl⟩; rw [hhas'.out]; exact ⟨rfl, hw'⟩)
         | (go_at_call 7; (with_reducible refine (cL1.out _).mono ?_); rintro e w' ⟨rfl, hb6⟩; exact ⟨rfl, HKC.out _ _ hw' hb6⟩)
         | (go_at_call 7; (with_reducible refine (cL2.out _).mono ?_); rintro e w' ⟨rfl, hb6⟩; exact ⟨rfl, HKC.out _ _ hw' hb6⟩)
       apply Exists.intro; refine ⟨?_, ?_⟩; (simp only [Act.put, List.setIfInBounds_toArray, List.set_cons_zero, List.set_cons_succ]; rfl)))
  refine wpQuiet_nil ?_
  intro w7 hw7
  have hw8 := Lib.hid (HCe.out w7 hw7)
  go_wp2
  go_ret
  exact ⟨rfl, hw8.out⟩
set_option maxHeartbeats 1000000 in
theorem setChanges_big (x : Nat) (n : Int) (w : World) (hx : x < 2 ^ 64) (hn : 64 ≤ n) (hn0 : 0 ≤ n) :
    Calls Try.prog 5 #[.int .u64 x, .int .i64 n] w fun e w' => e = .returned (.bool true) ∧ Below w.heap.size w w' := by
  have Hx := Lib.hid hx
  have hn' : Hid (n < 0 ∨ 64 ≤ n) := Lib.hid (by omega)
  clear hx
  have hu24 := Try.underlying24
  have hi24 : ∀ f, (Try.prog.info? 24).map (·.size) = some (arrf f).toList.length := fun f => by rw [Array.length_toList, arrf_size]; exact cells64
  have hi1 := hi24 (bitv x)
  have hi2 := hi24 (bitv x)
  clear hi24
  have heq1 := run_eq_yes (bitv (setWith x n)) (bitv x) (fun i hi => by rw [setWith_out x n hn'.out])
  have heq2 := run_eq_yes (bitv (setWithout x n)) (bitv x) (fun i hi => by rw [setWithout_out x n hn'.out])
  go_enter Try.func5, Try.ntmps5
  go_wp2_with (first
    | (go_at_call 6; refine (awake_any _).mono ?_; rintro e w1 ⟨rfl, hb1⟩)
    | (go_at_call 7; refine (list_any x w1 Hx.out).mono ?_; rintro e w2 ⟨rfl, hb2⟩)
    | (go_at_call 7; refine (list_any x w2 Hx.out).mono ?_; rintro e w3 ⟨rfl, hb3⟩)
    | (refine wpList_store_abs rfl 24 _ _ rfl rfl w3.heap.size (arrf (bitv x)) rfl rfl 24 _ (heap_alloc2_old _ _ _) (by rw [arrf_size]; exact cells64) (by rw [arrf_size]; rfl) (arrf_one _) ?_; intro w4 ho4 hg4)
    | (refine wpList_store_abs rfl 24 _ _ rfl rfl (w3.heap.size + 1) (arrf (bitv x)) rfl rfl 24 _ ((ho4.block _ (by omega)).trans (heap_alloc2_new _ _ _)) (by rw [arrf_size]; exact cells64) (by rw [arrf_size]; rfl) (arrf_one _) ?_; intro w5 ho5 hg5
       have hg4' := (ho5.block _ (by omega)).trans hg4
       have HG4 := Lib.hid hg4'
       have HG5 := Lib.hid hg5
       have hz5 : w5.heap.size = w3.heap.size + 2 := by rw [ho5.size, ho4.size]; simp
       have HZ := Lib.hid hz5
       clear hg4 hg4' hg5 hz5))
  have hS0 := held_start0 HG4.out HG5.out (by omega) (by have := HZ.out; omega) (hb1.trans ((hb2.mono hb1.size).trans ((hb3.mono (Nat.le_trans hb1.size hb2.size)).trans (below_two ho4 ho5 (Nat.le_trans hb1.size (Nat.le_trans hb2.size hb3.size))))))
  have hbc : w3.heap.size < w3.heap.size + 1 := by omega
  clear HG4 HG5 HZ ho4 ho5 hb1 hb2 hb3
  generalize w3.heap.size + 1 = c at *
  generalize w3.heap.size = b at *
  clear w1 w2 w3 w4
  clear heq1 heq2
  have heq1 := run_eq_yes (bitv (setWith x n)) (bitv x) (fun i hi => by rw [setWith_out x n hn'.out])
  have heq2 := run_eq_yes (bitv (setWithout x n)) (bitv x) (fun i hi => by rw [setWithout_out x n hn'.out])
  generalize arrf (bitv x) = F1 at *
  have cWith := Lib.hid (fun w => with_any x n w Hx.out)
  have cWout := Lib.hid (fun w => without_any x n w Hx.out)
  have cL1 := Lib.hid (fun w => list_any (setWith x n) w (setWith_lt x n Hx.out))
  have cL2 := Lib.hid (fun w => list_any (setWithout x n) w (setWithout_lt x n Hx.out))
  generalize arrf (bitv (setWith x n)) = G1 at *
  generalize arrf (bitv (setWithout x n)) = G2 at *
  generalize setWith x n = y1 at *
  generalize setWithout x n = y2 at *
  have hhas : (decide (0 ≤ n ∧ n < 64) && bitv x n.toNat) = false := by rw [decide_eq_false (by have := hn'.out; omega)]; rfl
  have hhas' := Lib.hid hhas
  clear hhas
  have hCb : ∀ w', (w'.rangeAt b 0 F1.toList ∧ w'.rangeAt c 0 F1.toList ∧ Below w.heap.size w w' ∧ c < w'.heap.size) → (loadVar 24 ⟨b, 0, none⟩).run Try.prog w' = .ok (.agg F1) w' := fun w' h => run_load_range h.1 hu24 (by simpa using hi1)
  have hCc : ∀ w', (w'.rangeAt b 0 F1.toList ∧ w'.rangeAt c 0 F1.toList ∧ Below w.heap.size w w' ∧ c < w'.heap.size) → (loadVar 24 ⟨c, 0, none⟩).run Try.prog w' = .ok (.agg F1) w' := fun w' h => run_load_range h.2.1 hu24 (by simpa using hi2)
  have hKC : ∀ w' wx, (w'.rangeAt b 0 F1.toList ∧ w'.rangeAt c 0 F1.toList ∧ Below w.heap.size w w' ∧ c < w'.heap.size) → Below w'.heap.size w' wx → (wx.rangeAt b 0 F1.toList ∧ wx.rangeAt c 0 F1.toList ∧ Below w.heap.size w wx ∧ c < wx.heap.size) := fun w' wx h hb => held_keep hbc h hb
  obtain ⟨C, hCdef⟩ : ∃ C : World → Prop, C = fun w' => (w'.rangeAt b 0 F1.toList ∧ w'.rangeAt c 0 F1.toList ∧ Below w.heap.size w w' ∧ c < w'.heap.size) := ⟨_, rfl⟩
  have hC0 : C w5.drew := by rw [hCdef]; exact hS0
  have hCe : ∀ w', C w' → Below w.heap.size w w' := fun w' h => by rw [hCdef] at h; exact h.2.2.1
  replace hCb : ∀ w', C w' → (loadVar 24 ⟨b, 0, none⟩).run Try.prog w' = .ok (.agg F1) w' := fun w' h => hCb w' (by rw [hCdef] at h; exact h)
  replace hCc : ∀ w', C w' → (loadVar 24 ⟨c, 0, none⟩).run Try.prog w' = .ok (.agg F1) w' := fun w' h => hCc w' (by rw [hCdef] at h; exact h)
  replace hKC : ∀ w' wx, C w' → Below w'.heap.size w' wx → C wx := fun w' wx h hb => by rw [hCdef] at h ⊢; exact hKC w' wx h hb
  have HCb := Lib.hid hCb
  have HCc := Lib.hid hCc
  have HKC := Lib.hid hKC
  have HCe := Lib.hid hCe
  clear hCb hCc hKC hCe hCdef hS0 hi1 hi2 hu24
  refine wp_region_quiet (C := C) (by kernel_rfl) (by kernel_rfl) hC0 ?_
  dsimp only
  repeat (first
    | (refine qc_skip (by rfl) ?_; apply Exists.intro; refine ⟨?_, ?_⟩; (simp only [Act.put, List.setIfInBounds_toArray, List.set_cons_zero, List.set_cons_succ]; rfl))
    | (refine qc_move _ rfl (by rfl) ?_; apply Exists.intro; refine ⟨?_, ?_⟩; (simp only [Act.put, Act.eval, List.setIfInBounds_toArray, List.set_cons_zero, List.set_cons_succ, Array.getD_eq_getD_getElem?, List.getElem?_toArray, List.getElem?_cons_zero, List.getElem?_cons_succ, Option.getD_some]; rfl))
    | (refine qc_load_row _ _ rfl (by rfl) b rfl F1 HCb.out ?_; apply Exists.intro; refine ⟨?_, ?_⟩; (simp only [Act.put, List.setIfInBounds_toArray, List.set_cons_zero, List.set_cons_succ]; rfl))
    | (refine qc_load_row _ _ rfl (by rfl) c rfl F1 HCc.out ?_; apply Exists.intro; refine ⟨?_, ?_⟩; (simp only [Act.put, List.setIfInBounds_toArray, List.set_cons_zero, List.set_cons_succ]; rfl))
    | (refine qc_step (by rfl) ?_
       apply Exists.intro
       refine ⟨fun w' hw' => ?_, ?_⟩
       · go_simp
         first
         | done
         | rfl
         | (go_at_call 12; (with_reducible refine (cWith.out _).mono ?_); rintro e w' ⟨rfl, rfl⟩; exact ⟨rfl, hw'⟩)
         | (go_at_call 13; (with_reducible refine (cWout.out _).mono ?_); rintro e w' ⟨rfl, rfl⟩; exact ⟨rfl, hw'⟩)
         | (go_at_call 14; (with_reducible refine (has_any x n _ Hx.out).mono ?_); rintro e w' ⟨rfl, rfl⟩; rw [hhas'.out]; exact ⟨rfl, hw'⟩)
         | (go_at_call 7; (with_reducible refine (cL1.out _).mono ?_); rintro e w' ⟨rfl, hb6⟩; exact ⟨rfl, HKC.out _ _ hw' hb6⟩)
         | (go_at_call 7; (with_reducible refine (cL2.out _).mono ?_); rintro e w' ⟨rfl, hb6⟩; exact ⟨rfl, HKC.out _ _ hw' hb6⟩)
       apply Exists.intro; refine ⟨?_, ?_⟩; (simp only [Act.put, List.setIfInBounds_toArray, List.set_cons_zero, List.set_cons_succ]; rfl)))
  refine wpQuiet_nil ?_
  intro w7 hw7
  have hw8 := Lib.hid (HCe.out w7 hw7)
  go_wp2
  go_ret
  exact ⟨rfl, hw8.out⟩
theorem setChanges_walk (W : World) (a0 : Int) (w0 : (Lit.int .u64 a0).wf = true) (n : Int) (_ : (Lit.int .i64 n).wf = true) :
    Calls Try.prog 5 #[.int .u64 a0, .int .i64 n] W fun e w' => e = .returned (.bool true) ∧ Below W.heap.size W w' := by
  obtain ⟨x, rfl, hx⟩ := u64_nat w0
  by_cases h0 : 0 ≤ n
  · by_cases h1 : n < 64
    · exact setChanges_in x n W hx h0 h1
    · exact setChanges_big x n W hx (by omega) h0
  · exact setChanges_neg x n W hx (by omega)
end Go.Proofs.Ytoppnalfbgedmaa
