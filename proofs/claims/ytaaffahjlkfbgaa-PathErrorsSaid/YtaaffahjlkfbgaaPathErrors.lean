/- The walk of law PathErrors. -/
import Derived.Test.YtaaffahjlkfbgaaAwake07
import Derived.Test.YtaaffahjlkfbgaaGraphOpen
namespace Go.Proofs.Ytaaffahjlkfbgaa
open Go.ChangeShapes Go.WideShapes Go.ChangeAt Go.RowKit
set_option linter.unusedVariables false
set_option maxRecDepth 100000 in
set_option maxHeartbeats 4000000 in
theorem near_bad (N : Int) (A : Option Addr) (cap : Nat) (l : List ArcV) (s : Int) (w : World) (hr : Arcs w w.heap.size A l) (hl : l.length ≤ maxLen) (hc : checkF N l s ≠ 0) :
    Calls Try.prog 40 #[.agg #[.int .i64 N, .slice A l.length cap], .int .i64 s] w fun e w' => e = .returned (.tuple #[.agg #[.slice none 0 0, .slice none 0 0], .int .i64 (checkF N l s)]) ∧ Below w.heap.size w w' := by
  have hS0 := ((SL.start (Nat.le_refl w.heap.size)).alloc #[.int .i64 N, .slice A l.length cap] 45).alloc #[.slice none 0 0, .slice none 0 0] 50
  simp only [alloc_size] at hS0
  have HR : Hid (∀ (rs : List Rs) w', SL w w.heap.size rs w' → Arcs w' w'.heap.size A l) := Lib.hid (fun rs w' h => reads_more (Reads.below hr h.below) h.below.size)
  have HL := Lib.hid hl
  obtain ⟨C, hC⟩ : ∃ C, C = checkF N l s := ⟨_, rfl⟩
  rw [← hC] at hc ⊢
  have HC := Lib.hid hC
  have hz : (C != 0) = true := by simpa using hc
  clear hr hl hC hc
  go_enter Try.func40, Try.ntmps40
  go_upto_region 1 with fail
  generalize ((w.alloc (Obj.cells #[.int .i64 N, .slice A l.length cap] 45)).alloc (Obj.cells #[.slice none 0 0, .slice none 0 0] 50)) = w0 at *
  obtain ⟨zb, hzb⟩ : ∃ zb, zb = w.heap.size + 1 := ⟨_, rfl⟩
  rw [← hzb] at hS0 ⊢
  clear hzb
  have c0 : w0.cell? ⟨w.heap.size, 0, none⟩ = some (.int .i64 N) := hS0.cell 1 rfl 0 rfl
  have c1 : w0.cell? ⟨w.heap.size, 1, none⟩ = some (.slice A l.length cap) := hS0.cell 1 rfl 1 rfl
  have HS0 := Lib.hid hS0
  clear hS0
  go_upto_region 3 with (go_at_call 50; (with_reducible refine (checkF_any N A cap l s _ (HR.out _ _ HS0.out) HL.out).mono ?_); rintro e w2 ⟨rfl, hB⟩; rw [← HC.out]
                         have HS1 := Lib.hid (HS0.out.call hB)
                         clear hB c0 c1)
  go_wp2_with (refine wpList_store_abs rfl 50 (.tmp 4) (.tmp 21) rfl rfl zb #[.slice none 0 0, .slice none 0 0] rfl rfl _ _ (HS1.out.blk 0 rfl) (by kernel_rfl) rfl (by simp [Value.oneCell']) ?_; intro w5 ho5 hh5; have HU := Lib.hid (HS1.out.only 0 rfl ho5 hh5); clear ho5 hh5)
  exact retArr2 rfl _ _ zb 50 _ _ _ rfl rfl (HU.out.blk 0 rfl) Try.underlying50 rfl (by kernel_rfl) ⟨rfl, HU.out.below⟩
set_option maxRecDepth 100000 in
set_option maxHeartbeats 8000000 in
theorem pathErrors0 (W : World) (N : Int) (A : Option Addr) (cap : Nat) (l : List ArcV) (s : Int) (hr : Arcs W W.heap.size A l) (hl : l.length ≤ maxLen) :
    Calls Try.prog 11 #[.agg #[.int .i64 N, .slice A l.length cap], .int .i64 s] W fun e w' => e = .returned (.bool true) ∧ Below W.heap.size W w' := by
  have hS0 := (SL.start (Nat.le_refl W.heap.size)).alloc #[.int .i64 N, .slice A l.length cap] 45
  have HR := Lib.hid hr
  have HS0 := Lib.hid hS0
  unfold maxLen at hl
  clear hr hS0
  by_cases g0 : 60 < l.length
  · have g0i : (60 : Int) < (l.length : Int) := by omega
    go_enter Try.func11, Try.ntmps11
    go_wp2_with (go_at_call 22; (with_reducible refine (awake07 _).mono ?_); rintro e w1 ⟨rfl, hb1⟩
                 have hS1 := HS0.out.call hb1
                 have c0 : w1.cell? ⟨W.heap.size, 0, none⟩ = some (.int .i64 N) := hS1.cell 0 rfl 0 rfl
                 have c1 : w1.cell? ⟨W.heap.size, 1, none⟩ = some (.slice A l.length cap) := hS1.cell 0 rfl 1 rfl
                 have hz : W.heap.size < w1.heap.size := (hS1.lt 0 rfl).2
                 have HS1 := Lib.hid hS1
                 clear hb1 hS1)
    go_ret
    exact ⟨rfl, HS1.out.below⟩
  · have g0i : ¬ (60 : Int) < (l.length : Int) := by omega
    by_cases g1 : 30 < N ∧ N ≤ 1000
    · obtain ⟨g2, g3⟩ := g1
      go_enter Try.func11, Try.ntmps11
      go_wp2_with (go_at_call 22; (with_reducible refine (awake07 _).mono ?_); rintro e w1 ⟨rfl, hb1⟩
                   have hS1 := HS0.out.call hb1
                   have c0 : w1.cell? ⟨W.heap.size, 0, none⟩ = some (.int .i64 N) := hS1.cell 0 rfl 0 rfl
                   have c1 : w1.cell? ⟨W.heap.size, 1, none⟩ = some (.slice A l.length cap) := hS1.cell 0 rfl 1 rfl
                   have hz : W.heap.size < w1.heap.size := (hS1.lt 0 rfl).2
                   have HS1 := Lib.hid hS1
                   clear hb1 hS1)
      go_ret
      exact ⟨rfl, HS1.out.below⟩
    · obtain ⟨C, hC⟩ : ∃ C, C = checkG N l := ⟨_, rfl⟩
      obtain ⟨E, hE⟩ : ∃ E, E = checkF N l s := ⟨_, rfl⟩
      have HC := Lib.hid (And.intro hC hE)
      clear hC hE
      go_enter Try.func11, Try.ntmps11
      go_upto_region 3 with (go_at_call 22; (with_reducible refine (awake07 _).mono ?_); rintro e w1 ⟨rfl, hb1⟩
                             have hS1 := HS0.out.call hb1
                             have c0 : w1.cell? ⟨W.heap.size, 0, none⟩ = some (.int .i64 N) := hS1.cell 0 rfl 0 rfl
                             have c1 : w1.cell? ⟨W.heap.size, 1, none⟩ = some (.slice A l.length cap) := hS1.cell 0 rfl 1 rfl
                             have hz : W.heap.size < w1.heap.size := (hS1.lt 0 rfl).2
                             have HS1 := Lib.hid hS1
                             clear hb1 hS1)
      go_cut [25] (fun c wx => c = .bool false ∧ SL W W.heap.size [.blk W.heap.size #[.int .i64 N, .slice A l.length cap] 45] wx)
      case first =>
        by_cases g4 : 30 < N
        · have g5 : ¬ N ≤ 1000 := by omega
          clear g1
          go_wp2_with fail
          go_meet
          exact ⟨by rw [decide_eq_false (Int.not_lt.2 g0i)], HS1.out⟩
        · clear g1
          go_wp2_with fail
          go_meet
          exact ⟨by rw [decide_eq_false (Int.not_lt.2 g0i)], HS1.out⟩
      clear c0 c1 hz HS1
      obtain ⟨wa, rfl⟩ : ∃ wa : World, wa = wc := ⟨_, rfl⟩
      obtain ⟨rfl, hS⟩ := hcut
      have c0 : wa.cell? ⟨W.heap.size, 0, none⟩ = some (.int .i64 N) := hS.cell 0 rfl 0 rfl
      have c1 : wa.cell? ⟨W.heap.size, 1, none⟩ = some (.slice A l.length cap) := hS.cell 0 rfl 1 rfl
      have hz : W.heap.size < wa.heap.size := (hS.lt 0 rfl).2
      have HS := Lib.hid hS
      clear hS
      have HPI : Hid (∀ wx, SL W W.heap.size [.blk W.heap.size #[.int .i64 N, .slice A l.length cap] 45] wx → Arcs wx wx.heap.size A l) := Lib.hid (fun wx h => reads_more (Reads.below HR.out h.below) h.below.size)
      have HCK : Hid (∀ wx, SL W W.heap.size [.blk W.heap.size #[.int .i64 N, .slice A l.length cap] 45] wx → Calls Try.prog 39 #[.agg #[.int .i64 N, .slice A l.length cap]] wx fun e w' => e = .returned (.int .i64 C) ∧ Below wx.heap.size wx w') := Lib.hid (fun wx h => by rw [HC.out.1]; exact checkG_any N A cap l wx (HPI.out wx h) (by unfold maxLen; omega))
      go_upto_region 6 with (go_at_call 39; (with_reducible refine (HCK.out _ HS.out).mono ?_); rintro e wn ⟨rfl, hbn⟩
                             have hSn := HS.out.call hbn
                             have HTa : wn.cell? ⟨W.heap.size, 0, none⟩ = some (.int .i64 N) := hSn.cell 0 rfl 0 rfl
                             have HTb : wn.cell? ⟨W.heap.size, 1, none⟩ = some (.slice A l.length cap) := hSn.cell 0 rfl 1 rfl
                             have HTc : W.heap.size < wn.heap.size := (hSn.lt 0 rfl).2
                             have HT := Lib.hid hSn
                             clear hbn hSn c0 c1 hz)
      go_cut [39] (fun c wx => ∃ b : Bool, c = .bool b ∧ Hid (E = if b = true then 2 else C) ∧ SL W W.heap.size [.blk W.heap.size #[.int .i64 N, .slice A l.length cap] 45] wx)
      case first =>
        by_cases hc : C = 0
        · have HC0 := Lib.hid hc
          have hcz : (C == 0) = true := by simpa using hc
          clear hc
          by_cases e0 : s < 0
          · have HE2 : Hid (E = 2) := Lib.hid (by rw [HC.out.2]; unfold checkF; rw [← HC.out.1, HC0.out, if_neg (by simp), if_neg (by omega)])
            go_wp2_with fail
            go_meet
            exact ⟨true, rfl, Lib.hid (by rw [HE2.out]; rfl), HT.out⟩
          · by_cases e1 : N ≤ s
            · have HE2 : Hid (E = 2) := Lib.hid (by rw [HC.out.2]; unfold checkF; rw [← HC.out.1, HC0.out, if_neg (by simp), if_neg (by omega)])
              go_wp2_with fail
              go_meet
              exact ⟨true, rfl, Lib.hid (by rw [HE2.out]; rfl), HT.out⟩
            · have HE2 : Hid (E = C) := Lib.hid (by rw [HC.out.2]; unfold checkF; rw [← HC.out.1, HC0.out, if_neg (by simp), if_pos (by omega)])
              go_wp2_with fail
              go_meet
              exact ⟨false, rfl, Lib.hid (by rw [HE2.out]; rfl), HT.out⟩
        · have HE2 : Hid (E = C) := Lib.hid (by rw [HC.out.2]; unfold checkF; rw [← HC.out.1, if_pos hc])
          have hcz : (C == 0) = false := by simpa using hc
          clear hc
          go_wp2_with fail
          go_meet
          exact ⟨false, rfl, Lib.hid (by rw [HE2.out]; rfl), HT.out⟩
      clear HTa HTb HTc HT
      obtain ⟨wb, rfl⟩ : ∃ wb : World, wb = wc := ⟨_, rfl⟩
      obtain ⟨b, rfl, HB, hS⟩ := hcut
      have c0 : wb.cell? ⟨W.heap.size, 0, none⟩ = some (.int .i64 N) := hS.cell 0 rfl 0 rfl
      have c1 : wb.cell? ⟨W.heap.size, 1, none⟩ = some (.slice A l.length cap) := hS.cell 0 rfl 1 rfl
      have hz : W.heap.size < wb.heap.size := (hS.lt 0 rfl).2
      have HS := Lib.hid hS
      clear hS
      go_upto_if 39 with fail
      go_cut [5] (fun c wx => c = .int .i64 E ∧ SL W W.heap.size [.blk W.heap.size #[.int .i64 N, .slice A l.length cap] 45] wx)
      case first =>
        cases b
        · have HCC : Hid (E = C) := Lib.hid (by rw [HB.out]; rfl)
          go_wp2_with fail
          go_meet
          exact ⟨by rw [HCC.out], HS.out⟩
        · have HCC : Hid (E = 2) := Lib.hid (by rw [HB.out]; rfl)
          go_wp2_with fail
          go_meet
          exact ⟨by rw [HCC.out], HS.out⟩
      clear c0 c1 hz HS HB
      obtain ⟨wd, rfl⟩ : ∃ wd : World, wd = wc := ⟨_, rfl⟩
      obtain ⟨rfl, hS⟩ := hcut
      have c0 : wd.cell? ⟨W.heap.size, 0, none⟩ = some (.int .i64 N) := hS.cell 0 rfl 0 rfl
      have c1 : wd.cell? ⟨W.heap.size, 1, none⟩ = some (.slice A l.length cap) := hS.cell 0 rfl 1 rfl
      have hz : W.heap.size < wd.heap.size := (hS.lt 0 rfl).2
      have HS := Lib.hid hS
      clear hS
      by_cases hE0 : E = 0
      · have hz1 : (E == 0) = true := by simpa using hE0
        clear hE0
        go_wp2_with fail
        go_ret
        exact ⟨rfl, HS.out.below⟩
      · have hz1 : (E == 0) = false := by simpa using hE0
        have hee : (E == E) = true := by simp
        have hz3 : ((0 : Int) == 0) = true := rfl
        have HFR : Hid (∀ wx, SL W W.heap.size [.blk W.heap.size #[.int .i64 N, .slice A l.length cap] 45] wx → Calls Try.prog 24 #[.agg #[.int .i64 N, .slice A l.length cap], .int .i64 s] wx fun e w' => e = .returned (.tuple #[.agg #[.slice none 0 0, .slice none 0 0], .int .i64 E]) ∧ Below wx.heap.size wx w') := Lib.hid (fun wx h => by rw [HC.out.2]; exact from_bad N A cap l s wx (HPI.out wx h) (by unfold maxLen; omega) (by rw [← HC.out.2]; exact hE0))
        have HNE : Hid (∀ wx, SL W W.heap.size [.blk W.heap.size #[.int .i64 N, .slice A l.length cap] 45] wx → Calls Try.prog 40 #[.agg #[.int .i64 N, .slice A l.length cap], .int .i64 s] wx fun e w' => e = .returned (.tuple #[.agg #[.slice none 0 0, .slice none 0 0], .int .i64 E]) ∧ Below wx.heap.size wx w') := Lib.hid (fun wx h => by rw [HC.out.2]; exact near_bad N A cap l s wx (HPI.out wx h) (by unfold maxLen; omega) (by rw [← HC.out.2]; exact hE0))
        have HCY : Hid (∀ wx, SL W W.heap.size [.blk W.heap.size #[.int .i64 N, .slice A l.length cap] 45] wx → Calls Try.prog 28 #[.agg #[.int .i64 N, .slice A l.length cap], .int .i64 s] wx fun e w' => e = .returned (.slice none 0 0) ∧ Below wx.heap.size wx w') := Lib.hid (fun wx h => by exact cycle_bad N A cap l s wx (HPI.out wx h) (by unfold maxLen; omega) (by rw [← HC.out.2]; exact hE0))
        clear hE0
        go_upto_region 11 with (go_at_call 24; (with_reducible refine (HFR.out _ HS.out).mono ?_); rintro e w5 ⟨rfl, hb5⟩
                                have hS5 := HS.out.call hb5
                                clear hb5 c0 c1 hz)
        have hS6 := hS5.alloc #[.slice none 0 0, .slice none 0 0] 50
        obtain ⟨t1, ht1⟩ : ∃ t1, t1 = w5.heap.size := ⟨_, rfl⟩
        generalize (w5.alloc (.cells #[.slice none 0 0, .slice none 0 0] 50)) = w6 at *
        rw [← ht1] at hS6 ⊢
        have c0 : w6.cell? ⟨W.heap.size, 0, none⟩ = some (.int .i64 N) := hS6.cell 1 rfl 0 rfl
        have c1 : w6.cell? ⟨W.heap.size, 1, none⟩ = some (.slice A l.length cap) := hS6.cell 1 rfl 1 rfl
        have HS6 := Lib.hid hS6
        clear hS5 ht1 hS6 HS
        go_upto_region 12 with (go_at_call 40; (with_reducible refine (HNE.out _ HS6.out.tail).mono ?_); rintro e w7 ⟨rfl, hb7⟩
                                have hS7 := HS6.out.call hb7
                                clear hb7 c0 c1)
        have hS8 := hS7.alloc #[.slice none 0 0, .slice none 0 0] 50
        obtain ⟨t2, ht2⟩ : ∃ t2, t2 = w7.heap.size := ⟨_, rfl⟩
        generalize (w7.alloc (.cells #[.slice none 0 0, .slice none 0 0] 50)) = w8 at *
        rw [← ht2] at hS8 ⊢
        have c0 : w8.cell? ⟨W.heap.size, 0, none⟩ = some (.int .i64 N) := hS8.cell 2 rfl 0 rfl
        have c1 : w8.cell? ⟨W.heap.size, 1, none⟩ = some (.slice A l.length cap) := hS8.cell 2 rfl 1 rfl
        have d00 : w8.cell? ⟨t1, 0, none⟩ = some (.slice none 0 0) := hS8.cell 1 rfl 0 rfl
        have d01 : w8.cell? ⟨t1, 1, none⟩ = some (.slice none 0 0) := hS8.cell 1 rfl 1 rfl
        have d10 : w8.cell? ⟨t2, 0, none⟩ = some (.slice none 0 0) := hS8.cell 0 rfl 0 rfl
        have d11 : w8.cell? ⟨t2, 1, none⟩ = some (.slice none 0 0) := hS8.cell 0 rfl 1 rfl
        have HS8 := Lib.hid hS8
        clear hS7 ht2 hS8 HS6
        have hS9 := HS8.out
        clear c0 c1 d00 d01 d10 d11
        go_upto_region 12 with fail
        refine wp_region_sl [0,1,2,3,4,5,6,7,8,9,10,11,12,13,14,15,16,17,18,19,20,21,22,23,24,25] [26,27,28,29,30] [31] _ hS9 (List.Sublist.refl _) (by kernel_rfl) (by kernel_rfl) (.cons rfl .nil) (fun C cw _ hC => ?_)
        have q0 : ∀ c, (cw c).cell? ⟨W.heap.size, 0, none⟩ = some (.int .i64 N) := fun c => (hC c).cell 2 rfl 0 rfl
        have q1 : ∀ c, (cw c).cell? ⟨W.heap.size, 1, none⟩ = some (.slice A l.length cap) := fun c => (hC c).cell 2 rfl 1 rfl
        have r00 : ∀ c, (cw c).cell? ⟨t1, 0, none⟩ = some (.slice none 0 0) := fun c => (hC c).cell 1 rfl 0 rfl
        have r01 : ∀ c, (cw c).cell? ⟨t1, 1, none⟩ = some (.slice none 0 0) := fun c => (hC c).cell 1 rfl 1 rfl
        have r10 : ∀ c, (cw c).cell? ⟨t2, 0, none⟩ = some (.slice none 0 0) := fun c => (hC c).cell 0 rfl 0 rfl
        have r11 : ∀ c, (cw c).cell? ⟨t2, 1, none⟩ = some (.slice none 0 0) := fun c => (hC c).cell 0 rfl 1 rfl
        repeat (first | (refine pl_look rfl rfl rfl (fun Kv hK => ?_); go_big_quiet_op; refine hK _ ?_; clear hK Kv) | (refine pl_len _ _ none 0 0 (by kernel_rfl) rfl rfl rfl rfl (fun Kv hK => ?_); go_simp; refine hK _ ?_; clear hK Kv))
        clear q0 q1 r00 r01 r10 r11 hC
        refine pl_end ?_
        intro w9 hS10
        clear hS9
        refine pm_effg rfl rfl fun Kv hK => ?_
        go_simp
        refine eff_call (HCY.out _ hS10.tail.tail) (fun e w10 h => ?_)
        obtain ⟨rfl, hb⟩ := h
        have hS11 := hS10.call hb
        left
        refine ⟨_, rfl, hS11, hK _ _ ?_⟩
        clear hK Kv hS10 hb
        refine pm_effg rfl rfl fun Kv hK => ?_
        go_simp
        refine ⟨hS11, hK _ _ ?_⟩
        clear hK Kv
        refine pm_effg rfl rfl fun Kv hK => ?_
        go_simp
        refine ⟨hS11, hK _ _ ?_⟩
        clear hK Kv
        refine pm_effg rfl rfl fun Kv hK => ?_
        go_simp
        refine ⟨hS11, hK _ _ ?_⟩
        clear hK Kv
        refine pm_effg rfl rfl fun Kv hK => ?_
        go_simp
        refine ⟨hS11, hK _ _ ?_⟩
        clear hK Kv
        refine pm_end ?_
        have HS12 := Lib.hid hS11
        clear hS11
        go_wp2_with fail
        go_ret
        exact ⟨rfl, HS12.out.below⟩
set_option maxRecDepth 100000 in
theorem pathErrors_walk {H : Type} {enc : TypeId × Value → H} {base : Nat} (W : World) (v : Value) (d : DataW H) (p : List MemPlace) (o : Value.okWide Try.prog W .any base 45 v) (k : DataW.Trod enc Try.prog W 0 (fun _ => true) true 45 v d p)
    (a : Int) (_ha : (Lit.int .i64 a).wf = true) :
    Calls Try.prog 11 #[v, .int .i64 a] W fun e w' => e = .returned (.bool true) ∧ Below W.heap.size W w' := by
  obtain ⟨N, A, cap, l, rfl, hr, hl, _⟩ := graph_open o k
  exact pathErrors0 W N A cap l a hr hl
end Go.Proofs.Ytaaffahjlkfbgaa
