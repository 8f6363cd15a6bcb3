/- The walk of law PathShorter. -/
import Derived.Test.YtaaffahjlkfbgaaLawG
import Derived.Test.YtaaffahjlkfbgaaCloneLink
import Derived.Test.YtaaffahjlkfbgaaPlanC
namespace Go.Proofs.Ytaaffahjlkfbgaa
open Go.ChangeShapes Go.WideShapes Go.ChangeAt Go.RowKit
set_option linter.unusedVariables false
theorem Wk.mono {l m : List ArcV} {f q v : Nat} {c : Int} (h : Wk l f q v c) : Wk (l ++ m) f q v c := by
  induction h with
  | nil => exact .nil
  | snoc k hk _ he ih =>
    have hk' : k < (l ++ m).length := by simp; omega
    have e : (l ++ m)[k] = l[k] := List.getElem_append_left hk
    have := Wk.snoc (l := l ++ m) k hk' ih (by rw [e]; exact he)
    rw [e] at this
    exact this
/-- One arc more makes none heavier. -/
theorem shorter {N f : Nat} {L : List ArcV} {a : ArcV} (h1 : LawG N L f) (h2 : LawG N (L ++ [a]) f) (g1 : (bendM N L f).2 < 0) (g2 : (bendM N (L ++ [a]) f).2 < 0) : ∀ i, i < N → (bendM N (L ++ [a]) f).1.far i ≤ (bendM N L f).1.far i := by
  intro i hi
  rcases h1.still with ⟨_, s1, b1⟩ | ⟨v, hv, _⟩
  · rcases h2.still with ⟨_, s2, b2⟩ | ⟨v, hv, _⟩
    · rcases s1.inv.bnd i hi with h | h
      · rcases s2.inv.bnd i hi with h' | h' <;> omega
      · obtain ⟨q, hq⟩ := s1.inv.att i hi h.2.2
        exact (s2.least h2.inn h2.lt h2.wt b2 hq.mono).1
    · omega
  · omega
theorem linkCells_snoc (l : List LinkV) (a : LinkV) : linkCells (l ++ [a]) = linkCells l ++ [.int .u8 a.fr, .int .u8 a.to, .int .i16 a.wt] := by
  unfold linkCells; simp [LinkV.cells]
theorem linkCells_one (l : List LinkV) : ∀ u ∈ linkCells l, u.oneCell' = true := by
  intro u hu
  unfold linkCells at hu
  obtain ⟨a, _, ha⟩ := List.mem_flatMap.1 hu
  simp [LinkV.cells] at ha
  rcases ha with rfl | rfl | rfl <;> rfl
set_option maxRecDepth 100000 in
set_option maxHeartbeats 8000000 in
theorem pathShorter0 (W : World) (n : Int) (A : Option Addr) (cap : Nat) (l : List LinkV) (m : LinkV) (s : Int) (hr : Links W W.heap.size A l) (hl : l.length ≤ maxLen) (hok : ∀ a ∈ l, a.ok) (hm : m.ok) (n0 : 0 ≤ n) (n1 : n ≤ 255) (s0 : 0 ≤ s) (s1 : s ≤ 255) :
    Calls Try.prog 5 #[.int .u8 n, .slice A l.length cap, .agg #[.int .u8 m.fr, .int .u8 m.to, .int .i16 m.wt], .int .u8 s] W fun e w' => e = .returned (.bool true) ∧ Below W.heap.size W w' := by
  have hS0 := (SL.start (Nat.le_refl W.heap.size)).alloc #[.int .u8 m.fr, .int .u8 m.to, .int .i16 m.wt] 42
  obtain ⟨N, hN⟩ : ∃ N : Nat, (N : Int) = nodesOf n := ⟨(nodesOf n).toNat, by unfold nodesOf; omega⟩
  have hN1 : 1 ≤ N ∧ N ≤ 8 := by unfold nodesOf at hN; omega
  obtain ⟨f, hf⟩ : ∃ f : Nat, s % (N : Int) = (f : Int) := ⟨(s % (N : Int)).toNat, by rw [Int.toNat_of_nonneg (Int.emod_nonneg _ (by omega))]⟩
  have hfN : f < N := by have := Int.emod_lt_of_pos s (show (0 : Int) < N by omega); omega
  obtain ⟨L, hL⟩ : ∃ L, L = arcsOf N l := ⟨_, rfl⟩
  have HLG : Hid (LawG N L f) := Lib.hid (by rw [hL]; exact lawG n0 n1 hN hok hfN)
  have HGR : Hid (∀ w', Below W.heap.size W w' → Calls Try.prog 23 #[.int .u8 n, .slice A l.length cap] w' (GraphPost w' N L)) := Lib.hid (fun w' h => by
    rw [hL, hN]; exact graph06_any n A cap l w' (reads_more (Reads.below hr h) h.size) hl n0 n1 hok)
  have HR := Lib.hid (And.intro hr (And.intro hl (And.intro hok (And.intro n0 (And.intro n1 hN)))))
  have hlen := HLG.out.len
  have HL := Lib.hid hL
  have HS0 := Lib.hid hS0
  have HM := Lib.hid hm
  have HF := Lib.hid hf
  unfold maxLen at hl
  obtain ⟨hm0, hm1, hm2⟩ := hm
  clear hr hok hS0 hL hN hm1 hm2 hf hm0
  by_cases g0 : 20 < l.length
  · have g0i : (20 : Int) < (l.length : Int) := by omega
    go_enter Try.func5, Try.ntmps5
    go_wp2_with (go_at_call 22; (with_reducible refine (awake07 _).mono ?_); rintro e w1 ⟨rfl, hb1⟩; have HS1 := Lib.hid (HS0.out.call hb1); clear hb1)
    go_ret
    exact ⟨rfl, HS1.out.below⟩
  · have g0i : ¬ (20 : Int) < (l.length : Int) := by omega
    go_enter Try.func5, Try.ntmps5
    go_upto_region 6 with (first
      | (go_at_call 22; (with_reducible refine (awake07 _).mono ?_); rintro e w1 ⟨rfl, hb1⟩; have HS1 := Lib.hid (HS0.out.call hb1); clear hb1)
      | (go_at_call 23; (with_reducible refine (HGR.out _ HS1.out.below).mono ?_); rintro e w2 ⟨v, rfl, hS⟩
         obtain ⟨A2, c2, rfl, _, _⟩ := (hS.row 0 rfl).slice_
         have hS2 := HS1.out.join hS
         clear hS))
    have hS3 := hS2.alloc #[.int .i64 N, .slice A2 L.length c2] 45
    obtain ⟨gb, hgb⟩ : ∃ gb, gb = w2.heap.size := ⟨_, rfl⟩
    generalize (w2.alloc (.cells #[.int .i64 N, .slice A2 L.length c2] 45)) = w3 at *
    rw [← hgb] at hS3 ⊢
    clear hgb hS2
    have c0 : w3.cell? ⟨gb, 0, none⟩ = some (.int .i64 N) := hS3.cell 0 rfl 0 rfl
    have c1 : w3.cell? ⟨gb, 1, none⟩ = some (.slice A2 L.length c2) := hS3.cell 0 rfl 1 rfl
    go_upto_region 7 with fail
    rw [HF.out]
    have hz0 : ((0 : Int) != 0) = false := rfl
    have hz7 : ((7 : Int) != 0) = true := rfl
    have hz8 : ((7 : Int) == 7) = true := rfl
    by_cases hb1 : (bendM N L f).2 < 0
    · have HFR := Lib.hid (HLG.out.from_yes (c := c2) (hS3.reads 1 rfl) hb1)
      have HS3 := Lib.hid hS3
      have HB1 := Lib.hid hb1
      clear hS3 hb1
      go_upto_region 8 with (go_at_call 24; (with_reducible refine HFR.out.mono ?_); rintro e w4 ⟨fb, bb, rfl, hS4⟩
                             have hS5 := HS3.out.join hS4
                             clear hS4 c0 c1)
      have hS6 := hS5.alloc #[.slice (some ⟨fb, 0, none⟩) N N, .slice (some ⟨bb, 0, none⟩) N N] 50
      obtain ⟨tb, htb⟩ : ∃ tb, tb = w4.heap.size := ⟨_, rfl⟩
      generalize (w4.alloc (.cells #[.slice (some ⟨fb, 0, none⟩) N N, .slice (some ⟨bb, 0, none⟩) N N] 50)) = w5 at *
      rw [← htb] at hS6 ⊢
      clear htb hS5
      have c0 : w5.cell? ⟨gb, 0, none⟩ = some (.int .i64 N) := hS6.cell 3 rfl 0 rfl
      have c1 : w5.cell? ⟨gb, 1, none⟩ = some (.slice A2 L.length c2) := hS6.cell 3 rfl 1 rfl
      have d0 : w5.cell? ⟨tb, 0, none⟩ = some (.slice (some ⟨fb, 0, none⟩) N N) := hS6.cell 0 rfl 0 rfl
      have hnn : ((N : Int) != (N : Int)) = false := by simp
      have HS6 := Lib.hid hS6
      clear hS6
      go_wp2_with fail
      clear c0 c1 d0
      obtain ⟨F, hF⟩ : ∃ F, F = (bendM N L f).1.far := ⟨_, rfl⟩
      rw [← hF] at HS6
      have HFF := Lib.hid hF
      clear hF
      go_loopw [50] (fun i wr => ∃ k : Nat, k ≤ L.length ∧ i = .int .i64 k ∧ SL W W.heap.size [.blk tb #[.slice (some ⟨fb, 0, none⟩) N N, .slice (some ⟨bb, 0, none⟩) N N] 50, .blk fb (iarr F N) 2, .blk bb (iarr (bendM N L f).1.by_ N) 3, .blk gb #[.int .i64 N, .slice A2 L.length c2] 45, .row 55 3 (.slice A2 L.length c2) L.length (arcCells L), .blk W.heap.size #[.int .u8 m.fr, .int .u8 m.to, .int .i16 m.wt] 42] wr) (fun i _ => L.length - (intOf i).toNat)
      case atStart => exact ⟨0, by omega, rfl, HS6.out⟩
      case round =>
        clear HS6
        obtain ⟨k, hk, rfl, hS⟩ := hrel
        by_cases hlt : k < L.length
        · obtain ⟨b, o, rfl, hb, d0, d1, d2⟩ := arcs_at (hS.reads 4 rfl) hlt
          obtain ⟨⟨f0, f1⟩, t0, t1⟩ := HLG.out.inn _ (List.getElem_mem hlt)
          have hwt := HLG.out.wt _ (List.getElem_mem hlt)
          have hst := still_arc HLG.out HB1.out hlt
          have hfa := still_far HLG.out HB1.out
          rw [← HFF.out] at hst hfa
          obtain ⟨a, ha⟩ : ∃ a, L[k] = a := ⟨_, rfl⟩
          rw [ha] at d0 d1 d2 f0 f1 t0 t1 hwt hst
          clear ha
          have hbf := hfa a.fr.toNat (by omega)
          have hbt := hfa a.to.toNat (by omega)
          have hS2 := hS.alloc #[.int .i64 a.fr, .int .i64 a.to, .int .i64 a.wt] 55
          have hz1 : b < wr.heap.size := hb
          clear hfa
          go_upto_region 15 with fail
          obtain ⟨ar, har⟩ : ∃ ar, ar = wr.heap.size := ⟨_, rfl⟩
          generalize (wr.alloc (.cells #[.int .i64 a.fr, .int .i64 a.to, .int .i64 a.wt] 55)) = w9 at *
          rw [← har] at hS2 ⊢
          clear har hS d0 d1 d2 hz1 hb
          rcases hst with hst | ⟨hst, hst2⟩
          · skip
            refine wp_region_sl [0,1,2,3,4,5,6,7,8,9,10,11,12,13,14,15,16,17,18,19,20,21,22,23,24] [] [] _ hS2 (List.Sublist.refl _) (by kernel_rfl) (by kernel_rfl) .nil (fun C cw _ hC => ?_)
            have q0 : ∀ c, (cw c).cell? ⟨tb, 0, none⟩ = some (.slice (some ⟨fb, 0, none⟩) N N) := fun c => (hC c).cell 1 rfl 0 rfl
            have q1 : ∀ c, (cw c).cell? ⟨ar, 0, none⟩ = some (.int .i64 a.fr) := fun c => (hC c).cell 0 rfl 0 rfl
            have q2 : ∀ c, (cw c).cell? ⟨ar, 1, none⟩ = some (.int .i64 a.to) := fun c => (hC c).cell 0 rfl 1 rfl
            have q3 : ∀ c, (cw c).cell? ⟨ar, 2, none⟩ = some (.int .i64 a.wt) := fun c => (hC c).cell 0 rfl 2 rfl
            have q4 : ∀ c, (cw c).cell? ⟨fb, a.fr.toNat, none⟩ = some (.int .i64 (F a.fr.toNat)) := fun c => (hC c).cell 2 rfl _ (iarr_get _ _ _ (by omega))
            have q5 : ∀ c, (cw c).cell? ⟨fb, a.to.toNat, none⟩ = some (.int .i64 (F a.to.toNat)) := fun c => (hC c).cell 2 rfl _ (iarr_get _ _ _ (by omega))
            generalize F a.fr.toNat = Ff at *
            generalize F a.to.toNat = Ft at *
            have z0 : (Ff != 1152921504606846976) = false := by simpa using hst
            clear hst
            repeat (first | (refine pl_look rfl rfl rfl (fun Kv hK => ?_); go_big_quiet_op; refine hK _ ?_; clear hK Kv) | (refine pl_skip rfl rfl (fun Kv hK => ?_); go_simp; refine hK _ ?_; clear hK Kv))
            clear q0 q1 q2 q3 q4 q5 hC
            refine pl_end ?_
            intro w1 hS4
            refine pm_end ?_
            have HS4 := Lib.hid hS4
            clear hS2 hS4
            go_wp2_with fail
            go_roundw
            case rel => exact ⟨k + 1, by omega, by go_num, HS4.out.tail⟩
            case measure => simp [intOf]; omega
          · skip
            refine wp_region_sl [0,1,2,3,4,5,6,7,8,9,10,11,12,13,14,15,16,17,18,19,20,21,22,23,24] [] [] _ hS2 (List.Sublist.refl _) (by kernel_rfl) (by kernel_rfl) .nil (fun C cw _ hC => ?_)
            have q0 : ∀ c, (cw c).cell? ⟨tb, 0, none⟩ = some (.slice (some ⟨fb, 0, none⟩) N N) := fun c => (hC c).cell 1 rfl 0 rfl
            have q1 : ∀ c, (cw c).cell? ⟨ar, 0, none⟩ = some (.int .i64 a.fr) := fun c => (hC c).cell 0 rfl 0 rfl
            have q2 : ∀ c, (cw c).cell? ⟨ar, 1, none⟩ = some (.int .i64 a.to) := fun c => (hC c).cell 0 rfl 1 rfl
            have q3 : ∀ c, (cw c).cell? ⟨ar, 2, none⟩ = some (.int .i64 a.wt) := fun c => (hC c).cell 0 rfl 2 rfl
            have q4 : ∀ c, (cw c).cell? ⟨fb, a.fr.toNat, none⟩ = some (.int .i64 (F a.fr.toNat)) := fun c => (hC c).cell 2 rfl _ (iarr_get _ _ _ (by omega))
            have q5 : ∀ c, (cw c).cell? ⟨fb, a.to.toNat, none⟩ = some (.int .i64 (F a.to.toNat)) := fun c => (hC c).cell 2 rfl _ (iarr_get _ _ _ (by omega))
            generalize F a.fr.toNat = Ff at *
            generalize F a.to.toNat = Ft at *
            have z0 : (Ff != 1152921504606846976) = true := by simpa using hst
            clear hst
            repeat (first | (refine pl_look rfl rfl rfl (fun Kv hK => ?_); go_big_quiet_op; refine hK _ ?_; clear hK Kv) | (refine pl_skip rfl rfl (fun Kv hK => ?_); go_simp; refine hK _ ?_; clear hK Kv))
            clear q0 q1 q2 q3 q4 q5 hC
            refine pl_end ?_
            intro w1 hS4
            refine pm_end ?_
            have HS4 := Lib.hid hS4
            clear hS2 hS4
            go_wp2_with fail
            go_roundw
            case rel => exact ⟨k + 1, by omega, by go_num, HS4.out.tail⟩
            case measure => simp [intOf]; omega
        · go_upto_region 18 with fail
          obtain ⟨L2, hL2⟩ : ∃ L2, L2 = arcsOf N (l ++ [m]) := ⟨_, rfl⟩
          have hokm : ∀ a ∈ l ++ [m], a.ok := by
            intro a ha
            rcases List.mem_append.1 ha with h | h
            · exact HR.out.2.2.1 a h
            · obtain rfl : a = m := by simpa using h
              exact HM.out
          have HLG2 : Hid (LawG N L2 f) := Lib.hid (by rw [hL2]; exact lawG HR.out.2.2.2.1 HR.out.2.2.2.2.1 HR.out.2.2.2.2.2 hokm hfN)
          have HL2 : Hid (L2 = L ++ [arcOf N m]) := Lib.hid (by rw [hL2, HL.out]; unfold arcsOf; rw [List.take_of_length_le (by simp; omega), List.take_of_length_le (by omega), List.map_append]; rfl)
          have HG2 : Hid (∀ (w' : World) (A' : Option Addr) (c' : Nat), Links w' w'.heap.size A' (l ++ [m]) → Calls Try.prog 23 #[.int .u8 n, .slice A' (l.length + 1) c'] w' (GraphPost w' N L2)) := Lib.hid (fun w' A' c' h => by
            have := graph06_any n A' c' (l ++ [m]) w' h (by simp [maxLen]; omega) HR.out.2.2.2.1 HR.out.2.2.2.2.1 hokm
            rw [← HR.out.2.2.2.2.2, ← hL2, show (l ++ [m]).length = l.length + 1 by simp] at this
            exact this)
          have HCL : Hid (∀ w', Below W.heap.size W w' → Calls Try.prog 25 #[.slice A l.length cap] w' (fun e w'' => ∃ v, e = .returned v ∧ SL w' w'.heap.size [.row 42 3 v l.length (linkCells l)] w'')) := Lib.hid (fun w' h => cloneLink A l.length cap (linkCells l) w' (reads_more (Reads.below HR.out.1 h) h.size) (linkCells_one l) (by omega))
          obtain ⟨j0, hj0, hj1, hj2, hj3⟩ := info_parts clone_infoLink
          have HJ := Lib.hid (And.intro hj0 (And.intro hj1 (And.intro hj2 hj3)))
          clear hL2 hokm hj0 hj1 hj2 hj3
          by_cases hb2 : (bendM N L2 f).2 < 0
          · have HB2 := Lib.hid hb2
            clear hb2
            go_cut [15, 16] (fun s15 s16 wx => ∃ ub f2 b2 : Nat, s15 = .pointer (some ⟨ub, 0, none⟩) ∧ s16 = .int .i64 0 ∧ SL W W.heap.size [.blk ub #[.slice (some ⟨f2, 0, none⟩) N N, .slice (some ⟨b2, 0, none⟩) N N] 50, .blk f2 (iarr (bendM N L2 f).1.far N) 2, .blk b2 (iarr (bendM N L2 f).1.by_ N) 3, .blk tb #[.slice (some ⟨fb, 0, none⟩) N N, .slice (some ⟨bb, 0, none⟩) N N] 50, .blk fb (iarr F N) 2, .blk bb (iarr (bendM N L f).1.by_ N) 3, .blk gb #[.int .i64 N, .slice A2 L.length c2] 45, .row 55 3 (.slice A2 L.length c2) L.length (arcCells L), .blk W.heap.size #[.int .u8 m.fr, .int .u8 m.to, .int .i16 m.wt] 42] wx)
            case first =>
              refine wp_region_slb [0,1,3,7] [2,4,5,6,8,9,10,11,12,13] [14] [.blk W.heap.size #[.int .u8 m.fr, .int .u8 m.to, .int .i16 m.wt] 42] hS (.cons _ (.cons _ (.cons _ (.cons _ (.cons _ (.cons_cons _ (List.nil_sublist _))))))) (by kernel_rfl) (by kernel_rfl) (.cons rfl .nil) (fun C cw _ hC => ?_)
              have q0 : ∀ c, (cw c).cell? ⟨W.heap.size, 0, none⟩ = some (.int .u8 m.fr) := fun c => (hC c).cell 0 rfl 0 rfl
              have q1 : ∀ c, (cw c).cell? ⟨W.heap.size, 1, none⟩ = some (.int .u8 m.to) := fun c => (hC c).cell 0 rfl 1 rfl
              have q2 : ∀ c, (cw c).cell? ⟨W.heap.size, 2, none⟩ = some (.int .i16 m.wt) := fun c => (hC c).cell 0 rfl 2 rfl
              repeat (refine pl_look rfl rfl rfl (fun Kv hK => ?_); go_big_quiet_op; refine hK _ ?_; clear hK Kv)
              clear q0 q1 q2 hC
              refine pl_end ?_
              intro w20 hT0
              clear hS
              refine pb_three 2 4 12 (by kernel_rfl) (by kernel_rfl) (by kernel_rfl) (by kernel_rfl) ?_ ?_ ?_ 
              · skip
                refine kOp_eff rfl rfl fun Kv hK => ?_
                go_simp
                refine eff_call (HCL.out _ hT0.below) (fun e w21 hc => ?_)
                obtain ⟨v3, rfl, hc⟩ := hc
                obtain ⟨A3, c3, rfl, _, _⟩ := (hc.row 0 rfl).slice_
                have hT1 := hT0.join hc
                left
                refine ⟨_, rfl, hT1.pick [6] (by simp) rfl, hK _ _ ?_⟩
                clear hK Kv hc hT0
                refine pb_two 4 12 (by kernel_rfl) (by kernel_rfl) (by kernel_rfl) ?_ ?_ 
                · skip
                  refine kOp_eff rfl rfl fun Kv hK => ?_
                  go_simp
                  obtain ⟨nb, hnb⟩ : ∃ nb, nb = w21.heap.size := ⟨_, rfl⟩
                  have hT2 := hT1.alloc #[.int .u8 m.fr, .int .u8 m.to, .int .i16 m.wt] 42
                  rw [← hnb] at hT2 ⊢
                  obtain ⟨w22, hw_⟩ : ∃ w22, w22 = w21.alloc (.cells #[.int .u8 m.fr, .int .u8 m.to, .int .i16 m.wt] 42) := ⟨_, rfl⟩
                  rw [← hw_] at hT2 ⊢
                  refine ⟨hT2.pick [7] (by simp) rfl, hK _ _ ?_⟩
                  clear hK Kv hnb hw_ hT1
                  refine pb_two 5 12 (by kernel_rfl) (by kernel_rfl) (by kernel_rfl) ?_ ?_ 
                  · skip
                    refine kOp_eff rfl rfl fun Kv hK => ?_
                    obtain ⟨v4, w23, hr4, hT3⟩ := run_append_from (P := Try.prog) 39 39 hT2 1 j0 (.agg #[.int .u8 0, .int .u8 0, .int .i16 0]) 3 4 Try.underlying39 HJ.out.1 HJ.out.2.1 HJ.out.2.2.1 HJ.out.2.2.2 rfl (by decide) _ l.length 1 1 (linkCells l) [.int .u8 m.fr, .int .u8 m.to, .int .i16 m.wt] rfl (by decide) ⟨nb, 0, none⟩ rfl (fun j u hu => by rw [Addr.add_mid, Nat.zero_add]; exact hT2.cell 0 rfl j (by simpa using hu)) (by simp [Value.oneCell']) (by omega) (by decide)
                    obtain ⟨A4, c4, rfl, _, _⟩ := (hT3.row 1 rfl).slice_
                    refine eff_append_run _ _ 39 rfl _ _ rfl rfl hr4 ?_
                    refine ⟨hT3.pick [7] (by simp) rfl, hK _ _ ?_⟩
                    clear hK Kv hr4 hT2
                    refine pb_two 6 12 (by kernel_rfl) (by kernel_rfl) (by kernel_rfl) ?_ ?_ 
                    · skip
                      refine kOp_eff rfl rfl fun Kv hK => ?_
                      go_simp
                      have hlk : Links w23 w23.heap.size A4 (l ++ [m]) := by
                        have hh := hT3.reads 1 rfl
                        rw [← linkCells_snoc] at hh
                        have e : (l ++ [m]).length = l.length + 1 := by simp
                        unfold Links
                        rw [e]
                        exact hh
                      refine eff_call (HG2.out _ _ _ hlk) (fun e w24 hc => ?_)
                      obtain ⟨v5, rfl, hc⟩ := hc
                      obtain ⟨A5, c5, rfl, _, _⟩ := (hc.row 0 rfl).slice_
                      have hT4 := hT3.join hc
                      left
                      refine ⟨_, rfl, hT4.pick [8] (by simp) rfl, hK _ _ ?_⟩
                      clear hK Kv hc hlk hT3
                      refine pb_two 8 12 (by kernel_rfl) (by kernel_rfl) (by kernel_rfl) ?_ ?_ 
                      · skip
                        refine kOp_eff rfl rfl fun Kv hK => ?_
                        go_simp
                        refine eff_call (HLG2.out.from_yes (c := c5) (hT4.reads 0 rfl) HB2.out) (fun e w25 hc => ?_)
                        obtain ⟨f2, b2, rfl, hc⟩ := hc
                        have hT5 := hT4.join hc
                        left
                        refine ⟨_, rfl, hT5.pick [10] (by simp) rfl, hK _ _ ?_⟩
                        clear hK Kv hc hT4
                        refine pb_told 9 (.tuple #[.agg #[.slice (some ⟨f2, 0, none⟩) N N, .slice (some ⟨b2, 0, none⟩) N N], .int .i64 0]) (by kernel_rfl) rfl (by kernel_rfl) (by kernel_rfl) (by kernel_rfl) (by kernel_rfl) (hT5.pick [10] (by simp) rfl) rfl (fun _ _ => rfl) (fun Kv hK => ?_)
                        go_simp
                        refine hK _ ?_
                        clear hK Kv
                        refine pb_told 10 (.agg #[.slice (some ⟨f2, 0, none⟩) N N, .slice (some ⟨b2, 0, none⟩) N N]) (by kernel_rfl) rfl (by kernel_rfl) (by kernel_rfl) (by kernel_rfl) (by kernel_rfl) (hT5.pick [10] (by simp) rfl) rfl (fun _ _ => rfl) (fun Kv hK => ?_)
                        go_simp
                        refine hK _ ?_
                        clear hK Kv
                        refine pb_told 11 (.int .i64 0) (by kernel_rfl) rfl (by kernel_rfl) (by kernel_rfl) (by kernel_rfl) (by kernel_rfl) (hT5.pick [10] (by simp) rfl) rfl (fun _ _ => rfl) (fun Kv hK => ?_)
                        go_simp
                        refine hK _ ?_
                        clear hK Kv
                        refine pb_one 12 (by kernel_rfl) (by kernel_rfl) ?_
                        refine kOp_eff rfl rfl fun Kv hK => ?_
                        go_simp
                        obtain ⟨ub, hub⟩ : ∃ ub, ub = w25.heap.size := ⟨_, rfl⟩
                        have hT6 := hT5.alloc #[.slice none 0 0, .slice none 0 0] 50
                        rw [← hub] at hT6 ⊢
                        obtain ⟨w26, hw_⟩ : ∃ w26, w26 = w25.alloc (.cells #[.slice none 0 0, .slice none 0 0] 50) := ⟨_, rfl⟩
                        rw [← hw_] at hT6 ⊢
                        refine ⟨hT6.pick [11] (by simp) rfl, hK _ _ ?_⟩
                        clear hK Kv hub hw_ hT5
                        refine pb_one 13 (by kernel_rfl) (by kernel_rfl) ?_
                        refine kOp_eff rfl rfl fun Kv hK => ?_
                        refine eff_store_row 50 _ _ rfl ub #[.slice (some ⟨f2, 0, none⟩) N N, .slice (some ⟨b2, 0, none⟩) N N] rfl rfl _ _ (hT6.blk 0 rfl) (by kernel_rfl) rfl (by simp [Value.oneCell']) (fun w27 ho4 hh4 => ?_)
                        have hT7 := hT6.only 0 rfl ho4 hh4
                        refine ⟨hT7.pick [11] (by simp) rfl, hK _ _ ?_⟩
                        clear hK Kv ho4 hh4 hT6
                        refine pb_end (by kernel_rfl) ?_
                        clear HCL HG2 HJ
                        have HU : Hid (SL W W.heap.size [.blk ub #[.slice (some ⟨f2, 0, none⟩) N N, .slice (some ⟨b2, 0, none⟩) N N] 50, .blk f2 (iarr (bendM N L2 f).1.far N) 2, .blk b2 (iarr (bendM N L2 f).1.by_ N) 3, .blk tb #[.slice (some ⟨fb, 0, none⟩) N N, .slice (some ⟨bb, 0, none⟩) N N] 50, .blk fb (iarr F N) 2, .blk bb (iarr (bendM N L f).1.by_ N) 3, .blk gb #[.int .i64 N, .slice A2 L.length c2] 45, .row 55 3 (.slice A2 L.length c2) L.length (arcCells L), .blk W.heap.size #[.int .u8 m.fr, .int .u8 m.to, .int .i16 m.wt] 42] _) := Lib.hid (hT7.pick [0, 1, 2, 6, 7, 8, 9, 10, 11] (by decide) rfl)
                        clear hT7
                        go_wp2_with fail
                        go_meet
                        exact ⟨ub, f2, b2, rfl, rfl, HU.out⟩
                      · skip
                        refine kOp_eff rfl rfl fun Kv hK => ?_
                        go_simp
                        obtain ⟨ub, hub⟩ : ∃ ub, ub = w24.heap.size := ⟨_, rfl⟩
                        have hT5 := hT4.alloc #[.slice none 0 0, .slice none 0 0] 50
                        rw [← hub] at hT5 ⊢
                        obtain ⟨w25, hw_⟩ : ∃ w25, w25 = w24.alloc (.cells #[.slice none 0 0, .slice none 0 0] 50) := ⟨_, rfl⟩
                        rw [← hw_] at hT5 ⊢
                        refine ⟨hT5.pick [9] (by simp) rfl, hK _ _ ?_⟩
                        clear hK Kv hub hw_ hT4
                        refine pb_one 8 (by kernel_rfl) (by kernel_rfl) ?_
                        refine kOp_eff rfl rfl fun Kv hK => ?_
                        go_simp
                        refine eff_call (HLG2.out.from_yes (c := c5) (hT5.reads 1 rfl) HB2.out) (fun e w26 hc => ?_)
                        obtain ⟨f2, b2, rfl, hc⟩ := hc
                        have hT6 := hT5.join hc
                        left
                        refine ⟨_, rfl, hT6.pick [11] (by simp) rfl, hK _ _ ?_⟩
                        clear hK Kv hc hT5
                        refine pb_told 9 (.tuple #[.agg #[.slice (some ⟨f2, 0, none⟩) N N, .slice (some ⟨b2, 0, none⟩) N N], .int .i64 0]) (by kernel_rfl) rfl (by kernel_rfl) (by kernel_rfl) (by kernel_rfl) (by kernel_rfl) (hT6.pick [11] (by simp) rfl) rfl (fun _ _ => rfl) (fun Kv hK => ?_)
                        go_simp
                        refine hK _ ?_
                        clear hK Kv
                        refine pb_told 10 (.agg #[.slice (some ⟨f2, 0, none⟩) N N, .slice (some ⟨b2, 0, none⟩) N N]) (by kernel_rfl) rfl (by kernel_rfl) (by kernel_rfl) (by kernel_rfl) (by kernel_rfl) (hT6.pick [11] (by simp) rfl) rfl (fun _ _ => rfl) (fun Kv hK => ?_)
                        go_simp
                        refine hK _ ?_
                        clear hK Kv
                        refine pb_told 11 (.int .i64 0) (by kernel_rfl) rfl (by kernel_rfl) (by kernel_rfl) (by kernel_rfl) (by kernel_rfl) (hT6.pick [11] (by simp) rfl) rfl (fun _ _ => rfl) (fun Kv hK => ?_)
                        go_simp
                        refine hK _ ?_
                        clear hK Kv
                        refine pb_one 13 (by kernel_rfl) (by kernel_rfl) ?_
                        refine kOp_eff rfl rfl fun Kv hK => ?_
                        refine eff_store_row 50 _ _ rfl ub #[.slice (some ⟨f2, 0, none⟩) N N, .slice (some ⟨b2, 0, none⟩) N N] rfl rfl _ _ (hT6.blk 2 rfl) (by kernel_rfl) rfl (by simp [Value.oneCell']) (fun w27 ho4 hh4 => ?_)
                        have hT7 := hT6.only 2 rfl ho4 hh4
                        refine ⟨hT7.pick [11] (by simp) rfl, hK _ _ ?_⟩
                        clear hK Kv ho4 hh4 hT6
                        refine pb_end (by kernel_rfl) ?_
                        clear HCL HG2 HJ
                        have HU : Hid (SL W W.heap.size [.blk ub #[.slice (some ⟨f2, 0, none⟩) N N, .slice (some ⟨b2, 0, none⟩) N N] 50, .blk f2 (iarr (bendM N L2 f).1.far N) 2, .blk b2 (iarr (bendM N L2 f).1.by_ N) 3, .blk tb #[.slice (some ⟨fb, 0, none⟩) N N, .slice (some ⟨bb, 0, none⟩) N N] 50, .blk fb (iarr F N) 2, .blk bb (iarr (bendM N L f).1.by_ N) 3, .blk gb #[.int .i64 N, .slice A2 L.length c2] 45, .row 55 3 (.slice A2 L.length c2) L.length (arcCells L), .blk W.heap.size #[.int .u8 m.fr, .int .u8 m.to, .int .i16 m.wt] 42] _) := Lib.hid (hT7.pick [2, 0, 1, 6, 7, 8, 9, 10, 11] (by decide) rfl)
                        clear hT7
                        go_wp2_with fail
                        go_meet
                        exact ⟨ub, f2, b2, rfl, rfl, HU.out⟩
                    · skip
                      refine kOp_eff rfl rfl fun Kv hK => ?_
                      go_simp
                      obtain ⟨ub, hub⟩ : ∃ ub, ub = w23.heap.size := ⟨_, rfl⟩
                      have hT4 := hT3.alloc #[.slice none 0 0, .slice none 0 0] 50
                      rw [← hub] at hT4 ⊢
                      obtain ⟨w24, hw_⟩ : ∃ w24, w24 = w23.alloc (.cells #[.slice none 0 0, .slice none 0 0] 50) := ⟨_, rfl⟩
                      rw [← hw_] at hT4 ⊢
                      refine ⟨hT4.pick [8] (by simp) rfl, hK _ _ ?_⟩
                      clear hK Kv hub hw_ hT3
                      refine pb_one 6 (by kernel_rfl) (by kernel_rfl) ?_
                      refine kOp_eff rfl rfl fun Kv hK => ?_
                      go_simp
                      have hlk : Links w24 w24.heap.size A4 (l ++ [m]) := by
                        have hh := hT4.reads 2 rfl
                        rw [← linkCells_snoc] at hh
                        have e : (l ++ [m]).length = l.length + 1 := by simp
                        unfold Links
                        rw [e]
                        exact hh
                      refine eff_call (HG2.out _ _ _ hlk) (fun e w25 hc => ?_)
                      obtain ⟨v5, rfl, hc⟩ := hc
                      obtain ⟨A5, c5, rfl, _, _⟩ := (hc.row 0 rfl).slice_
                      have hT5 := hT4.join hc
                      left
                      refine ⟨_, rfl, hT5.pick [9] (by simp) rfl, hK _ _ ?_⟩
                      clear hK Kv hc hlk hT4
                      refine pb_one 8 (by kernel_rfl) (by kernel_rfl) ?_
                      refine kOp_eff rfl rfl fun Kv hK => ?_
                      go_simp
                      refine eff_call (HLG2.out.from_yes (c := c5) (hT5.reads 0 rfl) HB2.out) (fun e w26 hc => ?_)
                      obtain ⟨f2, b2, rfl, hc⟩ := hc
                      have hT6 := hT5.join hc
                      left
                      refine ⟨_, rfl, hT6.pick [11] (by simp) rfl, hK _ _ ?_⟩
                      clear hK Kv hc hT5
                      refine pb_told 9 (.tuple #[.agg #[.slice (some ⟨f2, 0, none⟩) N N, .slice (some ⟨b2, 0, none⟩) N N], .int .i64 0]) (by kernel_rfl) rfl (by kernel_rfl) (by kernel_rfl) (by kernel_rfl) (by kernel_rfl) (hT6.pick [11] (by simp) rfl) rfl (fun _ _ => rfl) (fun Kv hK => ?_)
                      go_simp
                      refine hK _ ?_
                      clear hK Kv
                      refine pb_told 10 (.agg #[.slice (some ⟨f2, 0, none⟩) N N, .slice (some ⟨b2, 0, none⟩) N N]) (by kernel_rfl) rfl (by kernel_rfl) (by kernel_rfl) (by kernel_rfl) (by kernel_rfl) (hT6.pick [11] (by simp) rfl) rfl (fun _ _ => rfl) (fun Kv hK => ?_)
                      go_simp
                      refine hK _ ?_
                      clear hK Kv
                      refine pb_told 11 (.int .i64 0) (by kernel_rfl) rfl (by kernel_rfl) (by kernel_rfl) (by kernel_rfl) (by kernel_rfl) (hT6.pick [11] (by simp) rfl) rfl (fun _ _ => rfl) (fun Kv hK => ?_)
                      go_simp
                      refine hK _ ?_
                      clear hK Kv
                      refine pb_one 13 (by kernel_rfl) (by kernel_rfl) ?_
                      refine kOp_eff rfl rfl fun Kv hK => ?_
                      refine eff_store_row 50 _ _ rfl ub #[.slice (some ⟨f2, 0, none⟩) N N, .slice (some ⟨b2, 0, none⟩) N N] rfl rfl _ _ (hT6.blk 3 rfl) (by kernel_rfl) rfl (by simp [Value.oneCell']) (fun w27 ho4 hh4 => ?_)
                      have hT7 := hT6.only 3 rfl ho4 hh4
                      refine ⟨hT7.pick [11] (by simp) rfl, hK _ _ ?_⟩
                      clear hK Kv ho4 hh4 hT6
                      refine pb_end (by kernel_rfl) ?_
                      clear HCL HG2 HJ
                      have HU : Hid (SL W W.heap.size [.blk ub #[.slice (some ⟨f2, 0, none⟩) N N, .slice (some ⟨b2, 0, none⟩) N N] 50, .blk f2 (iarr (bendM N L2 f).1.far N) 2, .blk b2 (iarr (bendM N L2 f).1.by_ N) 3, .blk tb #[.slice (some ⟨fb, 0, none⟩) N N, .slice (some ⟨bb, 0, none⟩) N N] 50, .blk fb (iarr F N) 2, .blk bb (iarr (bendM N L f).1.by_ N) 3, .blk gb #[.int .i64 N, .slice A2 L.length c2] 45, .row 55 3 (.slice A2 L.length c2) L.length (arcCells L), .blk W.heap.size #[.int .u8 m.fr, .int .u8 m.to, .int .i16 m.wt] 42] _) := Lib.hid (hT7.pick [3, 0, 1, 6, 7, 8, 9, 10, 11] (by decide) rfl)
                      clear hT7
                      go_wp2_with fail
                      go_meet
                      exact ⟨ub, f2, b2, rfl, rfl, HU.out⟩
                  · skip
                    refine kOp_eff rfl rfl fun Kv hK => ?_
                    go_simp
                    obtain ⟨ub, hub⟩ : ∃ ub, ub = w22.heap.size := ⟨_, rfl⟩
                    have hT3 := hT2.alloc #[.slice none 0 0, .slice none 0 0] 50
                    rw [← hub] at hT3 ⊢
                    obtain ⟨w23, hw_⟩ : ∃ w23, w23 = w22.alloc (.cells #[.slice none 0 0, .slice none 0 0] 50) := ⟨_, rfl⟩
                    rw [← hw_] at hT3 ⊢
                    refine ⟨hT3.pick [8] (by simp) rfl, hK _ _ ?_⟩
                    clear hK Kv hub hw_ hT2
                    refine pb_one 5 (by kernel_rfl) (by kernel_rfl) ?_
                    refine kOp_eff rfl rfl fun Kv hK => ?_
                    obtain ⟨v4, w24, hr4, hT4⟩ := run_append_from (P := Try.prog) 39 39 hT3 2 j0 (.agg #[.int .u8 0, .int .u8 0, .int .i16 0]) 3 4 Try.underlying39 HJ.out.1 HJ.out.2.1 HJ.out.2.2.1 HJ.out.2.2.2 rfl (by decide) _ l.length 1 1 (linkCells l) [.int .u8 m.fr, .int .u8 m.to, .int .i16 m.wt] rfl (by decide) ⟨nb, 0, none⟩ rfl (fun j u hu => by rw [Addr.add_mid, Nat.zero_add]; exact hT3.cell 1 rfl j (by simpa using hu)) (by simp [Value.oneCell']) (by omega) (by decide)
                    obtain ⟨A4, c4, rfl, _, _⟩ := (hT4.row 2 rfl).slice_
                    refine eff_append_run _ _ 39 rfl _ _ rfl rfl hr4 ?_
                    refine ⟨hT4.pick [8] (by simp) rfl, hK _ _ ?_⟩
                    clear hK Kv hr4 hT3
                    refine pb_one 6 (by kernel_rfl) (by kernel_rfl) ?_
                    refine kOp_eff rfl rfl fun Kv hK => ?_
                    go_simp
                    have hlk : Links w24 w24.heap.size A4 (l ++ [m]) := by
                      have hh := hT4.reads 2 rfl
                      rw [← linkCells_snoc] at hh
                      have e : (l ++ [m]).length = l.length + 1 := by simp
                      unfold Links
                      rw [e]
                      exact hh
                    refine eff_call (HG2.out _ _ _ hlk) (fun e w25 hc => ?_)
                    obtain ⟨v5, rfl, hc⟩ := hc
                    obtain ⟨A5, c5, rfl, _, _⟩ := (hc.row 0 rfl).slice_
                    have hT5 := hT4.join hc
                    left
                    refine ⟨_, rfl, hT5.pick [9] (by simp) rfl, hK _ _ ?_⟩
                    clear hK Kv hc hlk hT4
                    refine pb_one 8 (by kernel_rfl) (by kernel_rfl) ?_
                    refine kOp_eff rfl rfl fun Kv hK => ?_
                    go_simp
                    refine eff_call (HLG2.out.from_yes (c := c5) (hT5.reads 0 rfl) HB2.out) (fun e w26 hc => ?_)
                    obtain ⟨f2, b2, rfl, hc⟩ := hc
                    have hT6 := hT5.join hc
                    left
                    refine ⟨_, rfl, hT6.pick [11] (by simp) rfl, hK _ _ ?_⟩
                    clear hK Kv hc hT5
                    refine pb_told 9 (.tuple #[.agg #[.slice (some ⟨f2, 0, none⟩) N N, .slice (some ⟨b2, 0, none⟩) N N], .int .i64 0]) (by kernel_rfl) rfl (by kernel_rfl) (by kernel_rfl) (by kernel_rfl) (by kernel_rfl) (hT6.pick [11] (by simp) rfl) rfl (fun _ _ => rfl) (fun Kv hK => ?_)
                    go_simp
                    refine hK _ ?_
                    clear hK Kv
                    refine pb_told 10 (.agg #[.slice (some ⟨f2, 0, none⟩) N N, .slice (some ⟨b2, 0, none⟩) N N]) (by kernel_rfl) rfl (by kernel_rfl) (by kernel_rfl) (by kernel_rfl) (by kernel_rfl) (hT6.pick [11] (by simp) rfl) rfl (fun _ _ => rfl) (fun Kv hK => ?_)
                    go_simp
                    refine hK _ ?_
                    clear hK Kv
                    refine pb_told 11 (.int .i64 0) (by kernel_rfl) rfl (by kernel_rfl) (by kernel_rfl) (by kernel_rfl) (by kernel_rfl) (hT6.pick [11] (by simp) rfl) rfl (fun _ _ => rfl) (fun Kv hK => ?_)
                    go_simp
                    refine hK _ ?_
                    clear hK Kv
                    refine pb_one 13 (by kernel_rfl) (by kernel_rfl) ?_
                    refine kOp_eff rfl rfl fun Kv hK => ?_
                    refine eff_store_row 50 _ _ rfl ub #[.slice (some ⟨f2, 0, none⟩) N N, .slice (some ⟨b2, 0, none⟩) N N] rfl rfl _ _ (hT6.blk 3 rfl) (by kernel_rfl) rfl (by simp [Value.oneCell']) (fun w27 ho4 hh4 => ?_)
                    have hT7 := hT6.only 3 rfl ho4 hh4
                    refine ⟨hT7.pick [11] (by simp) rfl, hK _ _ ?_⟩
                    clear hK Kv ho4 hh4 hT6
                    refine pb_end (by kernel_rfl) ?_
                    clear HCL HG2 HJ
                    have HU : Hid (SL W W.heap.size [.blk ub #[.slice (some ⟨f2, 0, none⟩) N N, .slice (some ⟨b2, 0, none⟩) N N] 50, .blk f2 (iarr (bendM N L2 f).1.far N) 2, .blk b2 (iarr (bendM N L2 f).1.by_ N) 3, .blk tb #[.slice (some ⟨fb, 0, none⟩) N N, .slice (some ⟨bb, 0, none⟩) N N] 50, .blk fb (iarr F N) 2, .blk bb (iarr (bendM N L f).1.by_ N) 3, .blk gb #[.int .i64 N, .slice A2 L.length c2] 45, .row 55 3 (.slice A2 L.length c2) L.length (arcCells L), .blk W.heap.size #[.int .u8 m.fr, .int .u8 m.to, .int .i16 m.wt] 42] _) := Lib.hid (hT7.pick [3, 0, 1, 6, 7, 8, 9, 10, 11] (by decide) rfl)
                    clear hT7
                    go_wp2_with fail
                    go_meet
                    exact ⟨ub, f2, b2, rfl, rfl, HU.out⟩
                · skip
                  refine kOp_eff rfl rfl fun Kv hK => ?_
                  go_simp
                  obtain ⟨ub, hub⟩ : ∃ ub, ub = w21.heap.size := ⟨_, rfl⟩
                  have hT2 := hT1.alloc #[.slice none 0 0, .slice none 0 0] 50
                  rw [← hub] at hT2 ⊢
                  obtain ⟨w22, hw_⟩ : ∃ w22, w22 = w21.alloc (.cells #[.slice none 0 0, .slice none 0 0] 50) := ⟨_, rfl⟩
                  rw [← hw_] at hT2 ⊢
                  refine ⟨hT2.pick [7] (by simp) rfl, hK _ _ ?_⟩
                  clear hK Kv hub hw_ hT1
                  refine pb_one 4 (by kernel_rfl) (by kernel_rfl) ?_
                  refine kOp_eff rfl rfl fun Kv hK => ?_
                  go_simp
                  obtain ⟨nb, hnb⟩ : ∃ nb, nb = w22.heap.size := ⟨_, rfl⟩
                  have hT3 := hT2.alloc #[.int .u8 m.fr, .int .u8 m.to, .int .i16 m.wt] 42
                  rw [← hnb] at hT3 ⊢
                  obtain ⟨w23, hw_⟩ : ∃ w23, w23 = w22.alloc (.cells #[.int .u8 m.fr, .int .u8 m.to, .int .i16 m.wt] 42) := ⟨_, rfl⟩
                  rw [← hw_] at hT3 ⊢
                  refine ⟨hT3.pick [8] (by simp) rfl, hK _ _ ?_⟩
                  clear hK Kv hnb hw_ hT2
                  refine pb_one 5 (by kernel_rfl) (by kernel_rfl) ?_
                  refine kOp_eff rfl rfl fun Kv hK => ?_
                  obtain ⟨v4, w24, hr4, hT4⟩ := run_append_from (P := Try.prog) 39 39 hT3 2 j0 (.agg #[.int .u8 0, .int .u8 0, .int .i16 0]) 3 4 Try.underlying39 HJ.out.1 HJ.out.2.1 HJ.out.2.2.1 HJ.out.2.2.2 rfl (by decide) _ l.length 1 1 (linkCells l) [.int .u8 m.fr, .int .u8 m.to, .int .i16 m.wt] rfl (by decide) ⟨nb, 0, none⟩ rfl (fun j u hu => by rw [Addr.add_mid, Nat.zero_add]; exact hT3.cell 0 rfl j (by simpa using hu)) (by simp [Value.oneCell']) (by omega) (by decide)
                  obtain ⟨A4, c4, rfl, _, _⟩ := (hT4.row 2 rfl).slice_
                  refine eff_append_run _ _ 39 rfl _ _ rfl rfl hr4 ?_
                  refine ⟨hT4.pick [8] (by simp) rfl, hK _ _ ?_⟩
                  clear hK Kv hr4 hT3
                  refine pb_one 6 (by kernel_rfl) (by kernel_rfl) ?_
                  refine kOp_eff rfl rfl fun Kv hK => ?_
                  go_simp
                  have hlk : Links w24 w24.heap.size A4 (l ++ [m]) := by
                    have hh := hT4.reads 2 rfl
                    rw [← linkCells_snoc] at hh
                    have e : (l ++ [m]).length = l.length + 1 := by simp
                    unfold Links
                    rw [e]
                    exact hh
                  refine eff_call (HG2.out _ _ _ hlk) (fun e w25 hc => ?_)
                  obtain ⟨v5, rfl, hc⟩ := hc
                  obtain ⟨A5, c5, rfl, _, _⟩ := (hc.row 0 rfl).slice_
                  have hT5 := hT4.join hc
                  left
                  refine ⟨_, rfl, hT5.pick [9] (by simp) rfl, hK _ _ ?_⟩
                  clear hK Kv hc hlk hT4
                  refine pb_one 8 (by kernel_rfl) (by kernel_rfl) ?_
                  refine kOp_eff rfl rfl fun Kv hK => ?_
                  go_simp
                  refine eff_call (HLG2.out.from_yes (c := c5) (hT5.reads 0 rfl) HB2.out) (fun e w26 hc => ?_)
                  obtain ⟨f2, b2, rfl, hc⟩ := hc
                  have hT6 := hT5.join hc
                  left
                  refine ⟨_, rfl, hT6.pick [11] (by simp) rfl, hK _ _ ?_⟩
                  clear hK Kv hc hT5
                  refine pb_told 9 (.tuple #[.agg #[.slice (some ⟨f2, 0, none⟩) N N, .slice (some ⟨b2, 0, none⟩) N N], .int .i64 0]) (by kernel_rfl) rfl (by kernel_rfl) (by kernel_rfl) (by kernel_rfl) (by kernel_rfl) (hT6.pick [11] (by simp) rfl) rfl (fun _ _ => rfl) (fun Kv hK => ?_)
                  go_simp
                  refine hK _ ?_
                  clear hK Kv
                  refine pb_told 10 (.agg #[.slice (some ⟨f2, 0, none⟩) N N, .slice (some ⟨b2, 0, none⟩) N N]) (by kernel_rfl) rfl (by kernel_rfl) (by kernel_rfl) (by kernel_rfl) (by kernel_rfl) (hT6.pick [11] (by simp) rfl) rfl (fun _ _ => rfl) (fun Kv hK => ?_)
                  go_simp
                  refine hK _ ?_
                  clear hK Kv
                  refine pb_told 11 (.int .i64 0) (by kernel_rfl) rfl (by kernel_rfl) (by kernel_rfl) (by kernel_rfl) (by kernel_rfl) (hT6.pick [11] (by simp) rfl) rfl (fun _ _ => rfl) (fun Kv hK => ?_)
                  go_simp
                  refine hK _ ?_
                  clear hK Kv
                  refine pb_one 13 (by kernel_rfl) (by kernel_rfl) ?_
                  refine kOp_eff rfl rfl fun Kv hK => ?_
                  refine eff_store_row 50 _ _ rfl ub #[.slice (some ⟨f2, 0, none⟩) N N, .slice (some ⟨b2, 0, none⟩) N N] rfl rfl _ _ (hT6.blk 4 rfl) (by kernel_rfl) rfl (by simp [Value.oneCell']) (fun w27 ho4 hh4 => ?_)
                  have hT7 := hT6.only 4 rfl ho4 hh4
                  refine ⟨hT7.pick [11] (by simp) rfl, hK _ _ ?_⟩
                  clear hK Kv ho4 hh4 hT6
                  refine pb_end (by kernel_rfl) ?_
                  clear HCL HG2 HJ
                  have HU : Hid (SL W W.heap.size [.blk ub #[.slice (some ⟨f2, 0, none⟩) N N, .slice (some ⟨b2, 0, none⟩) N N] 50, .blk f2 (iarr (bendM N L2 f).1.far N) 2, .blk b2 (iarr (bendM N L2 f).1.by_ N) 3, .blk tb #[.slice (some ⟨fb, 0, none⟩) N N, .slice (some ⟨bb, 0, none⟩) N N] 50, .blk fb (iarr F N) 2, .blk bb (iarr (bendM N L f).1.by_ N) 3, .blk gb #[.int .i64 N, .slice A2 L.length c2] 45, .row 55 3 (.slice A2 L.length c2) L.length (arcCells L), .blk W.heap.size #[.int .u8 m.fr, .int .u8 m.to, .int .i16 m.wt] 42] _) := Lib.hid (hT7.pick [4, 0, 1, 6, 7, 8, 9, 10, 11] (by decide) rfl)
                  clear hT7
                  go_wp2_with fail
                  go_meet
                  exact ⟨ub, f2, b2, rfl, rfl, HU.out⟩
              · skip
                refine kOp_eff rfl rfl fun Kv hK => ?_
                go_simp
                obtain ⟨nb, hnb⟩ : ∃ nb, nb = w20.heap.size := ⟨_, rfl⟩
                have hT1 := hT0.alloc #[.int .u8 m.fr, .int .u8 m.to, .int .i16 m.wt] 42
                rw [← hnb] at hT1 ⊢
                obtain ⟨w21, hw_⟩ : ∃ w21, w21 = w20.alloc (.cells #[.int .u8 m.fr, .int .u8 m.to, .int .i16 m.wt] 42) := ⟨_, rfl⟩
                rw [← hw_] at hT1 ⊢
                refine ⟨hT1.pick [6] (by simp) rfl, hK _ _ ?_⟩
                clear hK Kv hnb hw_ hT0
                refine pb_two 2 12 (by kernel_rfl) (by kernel_rfl) (by kernel_rfl) ?_ ?_ 
                · skip
                  refine kOp_eff rfl rfl fun Kv hK => ?_
                  go_simp
                  refine eff_call (HCL.out _ hT1.below) (fun e w22 hc => ?_)
                  obtain ⟨v3, rfl, hc⟩ := hc
                  obtain ⟨A3, c3, rfl, _, _⟩ := (hc.row 0 rfl).slice_
                  have hT2 := hT1.join hc
                  left
                  refine ⟨_, rfl, hT2.pick [7] (by simp) rfl, hK _ _ ?_⟩
                  clear hK Kv hc hT1
                  refine pb_two 5 12 (by kernel_rfl) (by kernel_rfl) (by kernel_rfl) ?_ ?_ 
                  · skip
                    refine kOp_eff rfl rfl fun Kv hK => ?_
                    obtain ⟨v4, w23, hr4, hT3⟩ := run_append_from (P := Try.prog) 39 39 hT2 0 j0 (.agg #[.int .u8 0, .int .u8 0, .int .i16 0]) 3 4 Try.underlying39 HJ.out.1 HJ.out.2.1 HJ.out.2.2.1 HJ.out.2.2.2 rfl (by decide) _ l.length 1 1 (linkCells l) [.int .u8 m.fr, .int .u8 m.to, .int .i16 m.wt] rfl (by decide) ⟨nb, 0, none⟩ rfl (fun j u hu => by rw [Addr.add_mid, Nat.zero_add]; exact hT2.cell 1 rfl j (by simpa using hu)) (by simp [Value.oneCell']) (by omega) (by decide)
                    obtain ⟨A4, c4, rfl, _, _⟩ := (hT3.row 0 rfl).slice_
                    refine eff_append_run _ _ 39 rfl _ _ rfl rfl hr4 ?_
                    refine ⟨hT3.pick [7] (by simp) rfl, hK _ _ ?_⟩
                    clear hK Kv hr4 hT2
                    refine pb_two 6 12 (by kernel_rfl) (by kernel_rfl) (by kernel_rfl) ?_ ?_ 
                    · skip
                      refine kOp_eff rfl rfl fun Kv hK => ?_
                      go_simp
                      have hlk : Links w23 w23.heap.size A4 (l ++ [m]) := by
                        have hh := hT3.reads 0 rfl
                        rw [← linkCells_snoc] at hh
                        have e : (l ++ [m]).length = l.length + 1 := by simp
                        unfold Links
                        rw [e]
                        exact hh
                      refine eff_call (HG2.out _ _ _ hlk) (fun e w24 hc => ?_)
                      obtain ⟨v5, rfl, hc⟩ := hc
                      obtain ⟨A5, c5, rfl, _, _⟩ := (hc.row 0 rfl).slice_
                      have hT4 := hT3.join hc
                      left
                      refine ⟨_, rfl, hT4.pick [8] (by simp) rfl, hK _ _ ?_⟩
                      clear hK Kv hc hlk hT3
                      refine pb_two 8 12 (by kernel_rfl) (by kernel_rfl) (by kernel_rfl) ?_ ?_ 
                      · skip
                        refine kOp_eff rfl rfl fun Kv hK => ?_
                        go_simp
                        refine eff_call (HLG2.out.from_yes (c := c5) (hT4.reads 0 rfl) HB2.out) (fun e w25 hc => ?_)
                        obtain ⟨f2, b2, rfl, hc⟩ := hc
                        have hT5 := hT4.join hc
                        left
                        refine ⟨_, rfl, hT5.pick [10] (by simp) rfl, hK _ _ ?_⟩
                        clear hK Kv hc hT4
                        refine pb_told 9 (.tuple #[.agg #[.slice (some ⟨f2, 0, none⟩) N N, .slice (some ⟨b2, 0, none⟩) N N], .int .i64 0]) (by kernel_rfl) rfl (by kernel_rfl) (by kernel_rfl) (by kernel_rfl) (by kernel_rfl) (hT5.pick [10] (by simp) rfl) rfl (fun _ _ => rfl) (fun Kv hK => ?_)
                        go_simp
                        refine hK _ ?_
                        clear hK Kv
                        refine pb_told 10 (.agg #[.slice (some ⟨f2, 0, none⟩) N N, .slice (some ⟨b2, 0, none⟩) N N]) (by kernel_rfl) rfl (by kernel_rfl) (by kernel_rfl) (by kernel_rfl) (by kernel_rfl) (hT5.pick [10] (by simp) rfl) rfl (fun _ _ => rfl) (fun Kv hK => ?_)
                        go_simp
                        refine hK _ ?_
                        clear hK Kv
                        refine pb_told 11 (.int .i64 0) (by kernel_rfl) rfl (by kernel_rfl) (by kernel_rfl) (by kernel_rfl) (by kernel_rfl) (hT5.pick [10] (by simp) rfl) rfl (fun _ _ => rfl) (fun Kv hK => ?_)
                        go_simp
                        refine hK _ ?_
                        clear hK Kv
                        refine pb_one 12 (by kernel_rfl) (by kernel_rfl) ?_
                        refine kOp_eff rfl rfl fun Kv hK => ?_
                        go_simp
                        obtain ⟨ub, hub⟩ : ∃ ub, ub = w25.heap.size := ⟨_, rfl⟩
                        have hT6 := hT5.alloc #[.slice none 0 0, .slice none 0 0] 50
                        rw [← hub] at hT6 ⊢
                        obtain ⟨w26, hw_⟩ : ∃ w26, w26 = w25.alloc (.cells #[.slice none 0 0, .slice none 0 0] 50) := ⟨_, rfl⟩
                        rw [← hw_] at hT6 ⊢
                        refine ⟨hT6.pick [11] (by simp) rfl, hK _ _ ?_⟩
                        clear hK Kv hub hw_ hT5
                        refine pb_one 13 (by kernel_rfl) (by kernel_rfl) ?_
                        refine kOp_eff rfl rfl fun Kv hK => ?_
                        refine eff_store_row 50 _ _ rfl ub #[.slice (some ⟨f2, 0, none⟩) N N, .slice (some ⟨b2, 0, none⟩) N N] rfl rfl _ _ (hT6.blk 0 rfl) (by kernel_rfl) rfl (by simp [Value.oneCell']) (fun w27 ho4 hh4 => ?_)
                        have hT7 := hT6.only 0 rfl ho4 hh4
                        refine ⟨hT7.pick [11] (by simp) rfl, hK _ _ ?_⟩
                        clear hK Kv ho4 hh4 hT6
                        refine pb_end (by kernel_rfl) ?_
                        clear HCL HG2 HJ
                        have HU : Hid (SL W W.heap.size [.blk ub #[.slice (some ⟨f2, 0, none⟩) N N, .slice (some ⟨b2, 0, none⟩) N N] 50, .blk f2 (iarr (bendM N L2 f).1.far N) 2, .blk b2 (iarr (bendM N L2 f).1.by_ N) 3, .blk tb #[.slice (some ⟨fb, 0, none⟩) N N, .slice (some ⟨bb, 0, none⟩) N N] 50, .blk fb (iarr F N) 2, .blk bb (iarr (bendM N L f).1.by_ N) 3, .blk gb #[.int .i64 N, .slice A2 L.length c2] 45, .row 55 3 (.slice A2 L.length c2) L.length (arcCells L), .blk W.heap.size #[.int .u8 m.fr, .int .u8 m.to, .int .i16 m.wt] 42] _) := Lib.hid (hT7.pick [0, 1, 2, 6, 7, 8, 9, 10, 11] (by decide) rfl)
                        clear hT7
                        go_wp2_with fail
                        go_meet
                        exact ⟨ub, f2, b2, rfl, rfl, HU.out⟩
                      · skip
                        refine kOp_eff rfl rfl fun Kv hK => ?_
                        go_simp
                        obtain ⟨ub, hub⟩ : ∃ ub, ub = w24.heap.size := ⟨_, rfl⟩
                        have hT5 := hT4.alloc #[.slice none 0 0, .slice none 0 0] 50
                        rw [← hub] at hT5 ⊢
                        obtain ⟨w25, hw_⟩ : ∃ w25, w25 = w24.alloc (.cells #[.slice none 0 0, .slice none 0 0] 50) := ⟨_, rfl⟩
                        rw [← hw_] at hT5 ⊢
                        refine ⟨hT5.pick [9] (by simp) rfl, hK _ _ ?_⟩
                        clear hK Kv hub hw_ hT4
                        refine pb_one 8 (by kernel_rfl) (by kernel_rfl) ?_
                        refine kOp_eff rfl rfl fun Kv hK => ?_
                        go_simp
                        refine eff_call (HLG2.out.from_yes (c := c5) (hT5.reads 1 rfl) HB2.out) (fun e w26 hc => ?_)
                        obtain ⟨f2, b2, rfl, hc⟩ := hc
                        have hT6 := hT5.join hc
                        left
                        refine ⟨_, rfl, hT6.pick [11] (by simp) rfl, hK _ _ ?_⟩
                        clear hK Kv hc hT5
                        refine pb_told 9 (.tuple #[.agg #[.slice (some ⟨f2, 0, none⟩) N N, .slice (some ⟨b2, 0, none⟩) N N], .int .i64 0]) (by kernel_rfl) rfl (by kernel_rfl) (by kernel_rfl) (by kernel_rfl) (by kernel_rfl) (hT6.pick [11] (by simp) rfl) rfl (fun _ _ => rfl) (fun Kv hK => ?_)
                        go_simp
                        refine hK _ ?_
                        clear hK Kv
                        refine pb_told 10 (.agg #[.slice (some ⟨f2, 0, none⟩) N N, .slice (some ⟨b2, 0, none⟩) N N]) (by kernel_rfl) rfl (by kernel_rfl) (by kernel_rfl) (by kernel_rfl) (by kernel_rfl) (hT6.pick [11] (by simp) rfl) rfl (fun _ _ => rfl) (fun Kv hK => ?_)
                        go_simp
                        refine hK _ ?_
                        clear hK Kv
                        refine pb_told 11 (.int .i64 0) (by kernel_rfl) rfl (by kernel_rfl) (by kernel_rfl) (by kernel_rfl) (by kernel_rfl) (hT6.pick [11] (by simp) rfl) rfl (fun _ _ => rfl) (fun Kv hK => ?_)
                        go_simp
                        refine hK _ ?_
                        clear hK Kv
                        refine pb_one 13 (by kernel_rfl) (by kernel_rfl) ?_
                        refine kOp_eff rfl rfl fun Kv hK => ?_
                        refine eff_store_row 50 _ _ rfl ub #[.slice (some ⟨f2, 0, none⟩) N N, .slice (some ⟨b2, 0, none⟩) N N] rfl rfl _ _ (hT6.blk 2 rfl) (by kernel_rfl) rfl (by simp [Value.oneCell']) (fun w27 ho4 hh4 => ?_)
                        have hT7 := hT6.only 2 rfl ho4 hh4
                        refine ⟨hT7.pick [11] (by simp) rfl, hK _ _ ?_⟩
                        clear hK Kv ho4 hh4 hT6
                        refine pb_end (by kernel_rfl) ?_
                        clear HCL HG2 HJ
                        have HU : Hid (SL W W.heap.size [.blk ub #[.slice (some ⟨f2, 0, none⟩) N N, .slice (some ⟨b2, 0, none⟩) N N] 50, .blk f2 (iarr (bendM N L2 f).1.far N) 2, .blk b2 (iarr (bendM N L2 f).1.by_ N) 3, .blk tb #[.slice (some ⟨fb, 0, none⟩) N N, .slice (some ⟨bb, 0, none⟩) N N] 50, .blk fb (iarr F N) 2, .blk bb (iarr (bendM N L f).1.by_ N) 3, .blk gb #[.int .i64 N, .slice A2 L.length c2] 45, .row 55 3 (.slice A2 L.length c2) L.length (arcCells L), .blk W.heap.size #[.int .u8 m.fr, .int .u8 m.to, .int .i16 m.wt] 42] _) := Lib.hid (hT7.pick [2, 0, 1, 6, 7, 8, 9, 10, 11] (by decide) rfl)
                        clear hT7
                        go_wp2_with fail
                        go_meet
                        exact ⟨ub, f2, b2, rfl, rfl, HU.out⟩
                    · skip
                      refine kOp_eff rfl rfl fun Kv hK => ?_
                      go_simp
                      obtain ⟨ub, hub⟩ : ∃ ub, ub = w23.heap.size := ⟨_, rfl⟩
                      have hT4 := hT3.alloc #[.slice none 0 0, .slice none 0 0] 50
                      rw [← hub] at hT4 ⊢
                      obtain ⟨w24, hw_⟩ : ∃ w24, w24 = w23.alloc (.cells #[.slice none 0 0, .slice none 0 0] 50) := ⟨_, rfl⟩
                      rw [← hw_] at hT4 ⊢
                      refine ⟨hT4.pick [8] (by simp) rfl, hK _ _ ?_⟩
                      clear hK Kv hub hw_ hT3
                      refine pb_one 6 (by kernel_rfl) (by kernel_rfl) ?_
                      refine kOp_eff rfl rfl fun Kv hK => ?_
                      go_simp
                      have hlk : Links w24 w24.heap.size A4 (l ++ [m]) := by
                        have hh := hT4.reads 1 rfl
                        rw [← linkCells_snoc] at hh
                        have e : (l ++ [m]).length = l.length + 1 := by simp
                        unfold Links
                        rw [e]
                        exact hh
                      refine eff_call (HG2.out _ _ _ hlk) (fun e w25 hc => ?_)
                      obtain ⟨v5, rfl, hc⟩ := hc
                      obtain ⟨A5, c5, rfl, _, _⟩ := (hc.row 0 rfl).slice_
                      have hT5 := hT4.join hc
                      left
                      refine ⟨_, rfl, hT5.pick [9] (by simp) rfl, hK _ _ ?_⟩
                      clear hK Kv hc hlk hT4
                      refine pb_one 8 (by kernel_rfl) (by kernel_rfl) ?_
                      refine kOp_eff rfl rfl fun Kv hK => ?_
                      go_simp
                      refine eff_call (HLG2.out.from_yes (c := c5) (hT5.reads 0 rfl) HB2.out) (fun e w26 hc => ?_)
                      obtain ⟨f2, b2, rfl, hc⟩ := hc
                      have hT6 := hT5.join hc
                      left
                      refine ⟨_, rfl, hT6.pick [11] (by simp) rfl, hK _ _ ?_⟩
                      clear hK Kv hc hT5
                      refine pb_told 9 (.tuple #[.agg #[.slice (some ⟨f2, 0, none⟩) N N, .slice (some ⟨b2, 0, none⟩) N N], .int .i64 0]) (by kernel_rfl) rfl (by kernel_rfl) (by kernel_rfl) (by kernel_rfl) (by kernel_rfl) (hT6.pick [11] (by simp) rfl) rfl (fun _ _ => rfl) (fun Kv hK => ?_)
                      go_simp
                      refine hK _ ?_
                      clear hK Kv
                      refine pb_told 10 (.agg #[.slice (some ⟨f2, 0, none⟩) N N, .slice (some ⟨b2, 0, none⟩) N N]) (by kernel_rfl) rfl (by kernel_rfl) (by kernel_rfl) (by kernel_rfl) (by kernel_rfl) (hT6.pick [11] (by simp) rfl) rfl (fun _ _ => rfl) (fun Kv hK => ?_)
                      go_simp
                      refine hK _ ?_
                      clear hK Kv
                      refine pb_told 11 (.int .i64 0) (by kernel_rfl) rfl (by kernel_rfl) (by kernel_rfl) (by kernel_rfl) (by kernel_rfl) (hT6.pick [11] (by simp) rfl) rfl (fun _ _ => rfl) (fun Kv hK => ?_)
                      go_simp
                      refine hK _ ?_
                      clear hK Kv
                      refine pb_one 13 (by kernel_rfl) (by kernel_rfl) ?_
                      refine kOp_eff rfl rfl fun Kv hK => ?_
                      refine eff_store_row 50 _ _ rfl ub #[.slice (some ⟨f2, 0, none⟩) N N, .slice (some ⟨b2, 0, none⟩) N N] rfl rfl _ _ (hT6.blk 3 rfl) (by kernel_rfl) rfl (by simp [Value.oneCell']) (fun w27 ho4 hh4 => ?_)
                      have hT7 := hT6.only 3 rfl ho4 hh4
                      refine ⟨hT7.pick [11] (by simp) rfl, hK _ _ ?_⟩
                      clear hK Kv ho4 hh4 hT6
                      refine pb_end (by kernel_rfl) ?_
                      clear HCL HG2 HJ
                      have HU : Hid (SL W W.heap.size [.blk ub #[.slice (some ⟨f2, 0, none⟩) N N, .slice (some ⟨b2, 0, none⟩) N N] 50, .blk f2 (iarr (bendM N L2 f).1.far N) 2, .blk b2 (iarr (bendM N L2 f).1.by_ N) 3, .blk tb #[.slice (some ⟨fb, 0, none⟩) N N, .slice (some ⟨bb, 0, none⟩) N N] 50, .blk fb (iarr F N) 2, .blk bb (iarr (bendM N L f).1.by_ N) 3, .blk gb #[.int .i64 N, .slice A2 L.length c2] 45, .row 55 3 (.slice A2 L.length c2) L.length (arcCells L), .blk W.heap.size #[.int .u8 m.fr, .int .u8 m.to, .int .i16 m.wt] 42] _) := Lib.hid (hT7.pick [3, 0, 1, 6, 7, 8, 9, 10, 11] (by decide) rfl)
                      clear hT7
                      go_wp2_with fail
                      go_meet
                      exact ⟨ub, f2, b2, rfl, rfl, HU.out⟩
                  · skip
                    refine kOp_eff rfl rfl fun Kv hK => ?_
                    go_simp
                    obtain ⟨ub, hub⟩ : ∃ ub, ub = w22.heap.size := ⟨_, rfl⟩
                    have hT3 := hT2.alloc #[.slice none 0 0, .slice none 0 0] 50
                    rw [← hub] at hT3 ⊢
                    obtain ⟨w23, hw_⟩ : ∃ w23, w23 = w22.alloc (.cells #[.slice none 0 0, .slice none 0 0] 50) := ⟨_, rfl⟩
                    rw [← hw_] at hT3 ⊢
                    refine ⟨hT3.pick [8] (by simp) rfl, hK _ _ ?_⟩
                    clear hK Kv hub hw_ hT2
                    refine pb_one 5 (by kernel_rfl) (by kernel_rfl) ?_
                    refine kOp_eff rfl rfl fun Kv hK => ?_
                    obtain ⟨v4, w24, hr4, hT4⟩ := run_append_from (P := Try.prog) 39 39 hT3 1 j0 (.agg #[.int .u8 0, .int .u8 0, .int .i16 0]) 3 4 Try.underlying39 HJ.out.1 HJ.out.2.1 HJ.out.2.2.1 HJ.out.2.2.2 rfl (by decide) _ l.length 1 1 (linkCells l) [.int .u8 m.fr, .int .u8 m.to, .int .i16 m.wt] rfl (by decide) ⟨nb, 0, none⟩ rfl (fun j u hu => by rw [Addr.add_mid, Nat.zero_add]; exact hT3.cell 2 rfl j (by simpa using hu)) (by simp [Value.oneCell']) (by omega) (by decide)
                    obtain ⟨A4, c4, rfl, _, _⟩ := (hT4.row 1 rfl).slice_
                    refine eff_append_run _ _ 39 rfl _ _ rfl rfl hr4 ?_
                    refine ⟨hT4.pick [8] (by simp) rfl, hK _ _ ?_⟩
                    clear hK Kv hr4 hT3
                    refine pb_one 6 (by kernel_rfl) (by kernel_rfl) ?_
                    refine kOp_eff rfl rfl fun Kv hK => ?_
                    go_simp
                    have hlk : Links w24 w24.heap.size A4 (l ++ [m]) := by
                      have hh := hT4.reads 1 rfl
                      rw [← linkCells_snoc] at hh
                      have e : (l ++ [m]).length = l.length + 1 := by simp
                      unfold Links
                      rw [e]
                      exact hh
                    refine eff_call (HG2.out _ _ _ hlk) (fun e w25 hc => ?_)
                    obtain ⟨v5, rfl, hc⟩ := hc
                    obtain ⟨A5, c5, rfl, _, _⟩ := (hc.row 0 rfl).slice_
                    have hT5 := hT4.join hc
                    left
                    refine ⟨_, rfl, hT5.pick [9] (by simp) rfl, hK _ _ ?_⟩
                    clear hK Kv hc hlk hT4
                    refine pb_one 8 (by kernel_rfl) (by kernel_rfl) ?_
                    refine kOp_eff rfl rfl fun Kv hK => ?_
                    go_simp
                    refine eff_call (HLG2.out.from_yes (c := c5) (hT5.reads 0 rfl) HB2.out) (fun e w26 hc => ?_)
                    obtain ⟨f2, b2, rfl, hc⟩ := hc
                    have hT6 := hT5.join hc
                    left
                    refine ⟨_, rfl, hT6.pick [11] (by simp) rfl, hK _ _ ?_⟩
                    clear hK Kv hc hT5
                    refine pb_told 9 (.tuple #[.agg #[.slice (some ⟨f2, 0, none⟩) N N, .slice (some ⟨b2, 0, none⟩) N N], .int .i64 0]) (by kernel_rfl) rfl (by kernel_rfl) (by kernel_rfl) (by kernel_rfl) (by kernel_rfl) (hT6.pick [11] (by simp) rfl) rfl (fun _ _ => rfl) (fun Kv hK => ?_)
                    go_simp
                    refine hK _ ?_
                    clear hK Kv
                    refine pb_told 10 (.agg #[.slice (some ⟨f2, 0, none⟩) N N, .slice (some ⟨b2, 0, none⟩) N N]) (by kernel_rfl) rfl (by kernel_rfl) (by kernel_rfl) (by kernel_rfl) (by kernel_rfl) (hT6.pick [11] (by simp) rfl) rfl (fun _ _ => rfl) (fun Kv hK => ?_)
                    go_simp
                    refine hK _ ?_
                    clear hK Kv
                    refine pb_told 11 (.int .i64 0) (by kernel_rfl) rfl (by kernel_rfl) (by kernel_rfl) (by kernel_rfl) (by kernel_rfl) (hT6.pick [11] (by simp) rfl) rfl (fun _ _ => rfl) (fun Kv hK => ?_)
                    go_simp
                    refine hK _ ?_
                    clear hK Kv
                    refine pb_one 13 (by kernel_rfl) (by kernel_rfl) ?_
                    refine kOp_eff rfl rfl fun Kv hK => ?_
                    refine eff_store_row 50 _ _ rfl ub #[.slice (some ⟨f2, 0, none⟩) N N, .slice (some ⟨b2, 0, none⟩) N N] rfl rfl _ _ (hT6.blk 3 rfl) (by kernel_rfl) rfl (by simp [Value.oneCell']) (fun w27 ho4 hh4 => ?_)
                    have hT7 := hT6.only 3 rfl ho4 hh4
                    refine ⟨hT7.pick [11] (by simp) rfl, hK _ _ ?_⟩
                    clear hK Kv ho4 hh4 hT6
                    refine pb_end (by kernel_rfl) ?_
                    clear HCL HG2 HJ
                    have HU : Hid (SL W W.heap.size [.blk ub #[.slice (some ⟨f2, 0, none⟩) N N, .slice (some ⟨b2, 0, none⟩) N N] 50, .blk f2 (iarr (bendM N L2 f).1.far N) 2, .blk b2 (iarr (bendM N L2 f).1.by_ N) 3, .blk tb #[.slice (some ⟨fb, 0, none⟩) N N, .slice (some ⟨bb, 0, none⟩) N N] 50, .blk fb (iarr F N) 2, .blk bb (iarr (bendM N L f).1.by_ N) 3, .blk gb #[.int .i64 N, .slice A2 L.length c2] 45, .row 55 3 (.slice A2 L.length c2) L.length (arcCells L), .blk W.heap.size #[.int .u8 m.fr, .int .u8 m.to, .int .i16 m.wt] 42] _) := Lib.hid (hT7.pick [3, 0, 1, 6, 7, 8, 9, 10, 11] (by decide) rfl)
                    clear hT7
                    go_wp2_with fail
                    go_meet
                    exact ⟨ub, f2, b2, rfl, rfl, HU.out⟩
                · skip
                  refine kOp_eff rfl rfl fun Kv hK => ?_
                  go_simp
                  obtain ⟨ub, hub⟩ : ∃ ub, ub = w21.heap.size := ⟨_, rfl⟩
                  have hT2 := hT1.alloc #[.slice none 0 0, .slice none 0 0] 50
                  rw [← hub] at hT2 ⊢
                  obtain ⟨w22, hw_⟩ : ∃ w22, w22 = w21.alloc (.cells #[.slice none 0 0, .slice none 0 0] 50) := ⟨_, rfl⟩
                  rw [← hw_] at hT2 ⊢
                  refine ⟨hT2.pick [7] (by simp) rfl, hK _ _ ?_⟩
                  clear hK Kv hub hw_ hT1
                  refine pb_one 2 (by kernel_rfl) (by kernel_rfl) ?_
                  refine kOp_eff rfl rfl fun Kv hK => ?_
                  go_simp
                  refine eff_call (HCL.out _ hT2.below) (fun e w23 hc => ?_)
                  obtain ⟨v3, rfl, hc⟩ := hc
                  obtain ⟨A3, c3, rfl, _, _⟩ := (hc.row 0 rfl).slice_
                  have hT3 := hT2.join hc
                  left
                  refine ⟨_, rfl, hT3.pick [8] (by simp) rfl, hK _ _ ?_⟩
                  clear hK Kv hc hT2
                  refine pb_one 5 (by kernel_rfl) (by kernel_rfl) ?_
                  refine kOp_eff rfl rfl fun Kv hK => ?_
                  obtain ⟨v4, w24, hr4, hT4⟩ := run_append_from (P := Try.prog) 39 39 hT3 0 j0 (.agg #[.int .u8 0, .int .u8 0, .int .i16 0]) 3 4 Try.underlying39 HJ.out.1 HJ.out.2.1 HJ.out.2.2.1 HJ.out.2.2.2 rfl (by decide) _ l.length 1 1 (linkCells l) [.int .u8 m.fr, .int .u8 m.to, .int .i16 m.wt] rfl (by decide) ⟨nb, 0, none⟩ rfl (fun j u hu => by rw [Addr.add_mid, Nat.zero_add]; exact hT3.cell 2 rfl j (by simpa using hu)) (by simp [Value.oneCell']) (by omega) (by decide)
                  obtain ⟨A4, c4, rfl, _, _⟩ := (hT4.row 0 rfl).slice_
                  refine eff_append_run _ _ 39 rfl _ _ rfl rfl hr4 ?_
                  refine ⟨hT4.pick [8] (by simp) rfl, hK _ _ ?_⟩
                  clear hK Kv hr4 hT3
                  refine pb_one 6 (by kernel_rfl) (by kernel_rfl) ?_
                  refine kOp_eff rfl rfl fun Kv hK => ?_
                  go_simp
                  have hlk : Links w24 w24.heap.size A4 (l ++ [m]) := by
                    have hh := hT4.reads 0 rfl
                    rw [← linkCells_snoc] at hh
                    have e : (l ++ [m]).length = l.length + 1 := by simp
                    unfold Links
                    rw [e]
                    exact hh
                  refine eff_call (HG2.out _ _ _ hlk) (fun e w25 hc => ?_)
                  obtain ⟨v5, rfl, hc⟩ := hc
                  obtain ⟨A5, c5, rfl, _, _⟩ := (hc.row 0 rfl).slice_
                  have hT5 := hT4.join hc
                  left
                  refine ⟨_, rfl, hT5.pick [9] (by simp) rfl, hK _ _ ?_⟩
                  clear hK Kv hc hlk hT4
                  refine pb_one 8 (by kernel_rfl) (by kernel_rfl) ?_
                  refine kOp_eff rfl rfl fun Kv hK => ?_
                  go_simp
                  refine eff_call (HLG2.out.from_yes (c := c5) (hT5.reads 0 rfl) HB2.out) (fun e w26 hc => ?_)
                  obtain ⟨f2, b2, rfl, hc⟩ := hc
                  have hT6 := hT5.join hc
                  left
                  refine ⟨_, rfl, hT6.pick [11] (by simp) rfl, hK _ _ ?_⟩
                  clear hK Kv hc hT5
                  refine pb_told 9 (.tuple #[.agg #[.slice (some ⟨f2, 0, none⟩) N N, .slice (some ⟨b2, 0, none⟩) N N], .int .i64 0]) (by kernel_rfl) rfl (by kernel_rfl) (by kernel_rfl) (by kernel_rfl) (by kernel_rfl) (hT6.pick [11] (by simp) rfl) rfl (fun _ _ => rfl) (fun Kv hK => ?_)
                  go_simp
                  refine hK _ ?_
                  clear hK Kv
                  refine pb_told 10 (.agg #[.slice (some ⟨f2, 0, none⟩) N N, .slice (some ⟨b2, 0, none⟩) N N]) (by kernel_rfl) rfl (by kernel_rfl) (by kernel_rfl) (by kernel_rfl) (by kernel_rfl) (hT6.pick [11] (by simp) rfl) rfl (fun _ _ => rfl) (fun Kv hK => ?_)
                  go_simp
                  refine hK _ ?_
                  clear hK Kv
                  refine pb_told 11 (.int .i64 0) (by kernel_rfl) rfl (by kernel_rfl) (by kernel_rfl) (by kernel_rfl) (by kernel_rfl) (hT6.pick [11] (by simp) rfl) rfl (fun _ _ => rfl) (fun Kv hK => ?_)
                  go_simp
                  refine hK _ ?_
                  clear hK Kv
                  refine pb_one 13 (by kernel_rfl) (by kernel_rfl) ?_
                  refine kOp_eff rfl rfl fun Kv hK => ?_
                  refine eff_store_row 50 _ _ rfl ub #[.slice (some ⟨f2, 0, none⟩) N N, .slice (some ⟨b2, 0, none⟩) N N] rfl rfl _ _ (hT6.blk 4 rfl) (by kernel_rfl) rfl (by simp [Value.oneCell']) (fun w27 ho4 hh4 => ?_)
                  have hT7 := hT6.only 4 rfl ho4 hh4
                  refine ⟨hT7.pick [11] (by simp) rfl, hK _ _ ?_⟩
                  clear hK Kv ho4 hh4 hT6
                  refine pb_end (by kernel_rfl) ?_
                  clear HCL HG2 HJ
                  have HU : Hid (SL W W.heap.size [.blk ub #[.slice (some ⟨f2, 0, none⟩) N N, .slice (some ⟨b2, 0, none⟩) N N] 50, .blk f2 (iarr (bendM N L2 f).1.far N) 2, .blk b2 (iarr (bendM N L2 f).1.by_ N) 3, .blk tb #[.slice (some ⟨fb, 0, none⟩) N N, .slice (some ⟨bb, 0, none⟩) N N] 50, .blk fb (iarr F N) 2, .blk bb (iarr (bendM N L f).1.by_ N) 3, .blk gb #[.int .i64 N, .slice A2 L.length c2] 45, .row 55 3 (.slice A2 L.length c2) L.length (arcCells L), .blk W.heap.size #[.int .u8 m.fr, .int .u8 m.to, .int .i16 m.wt] 42] _) := Lib.hid (hT7.pick [4, 0, 1, 6, 7, 8, 9, 10, 11] (by decide) rfl)
                  clear hT7
                  go_wp2_with fail
                  go_meet
                  exact ⟨ub, f2, b2, rfl, rfl, HU.out⟩
              · skip
                refine kOp_eff rfl rfl fun Kv hK => ?_
                go_simp
                obtain ⟨ub, hub⟩ : ∃ ub, ub = w20.heap.size := ⟨_, rfl⟩
                have hT1 := hT0.alloc #[.slice none 0 0, .slice none 0 0] 50
                rw [← hub] at hT1 ⊢
                obtain ⟨w21, hw_⟩ : ∃ w21, w21 = w20.alloc (.cells #[.slice none 0 0, .slice none 0 0] 50) := ⟨_, rfl⟩
                rw [← hw_] at hT1 ⊢
                refine ⟨hT1.pick [6] (by simp) rfl, hK _ _ ?_⟩
                clear hK Kv hub hw_ hT0
                refine pb_two 2 4 (by kernel_rfl) (by kernel_rfl) (by kernel_rfl) ?_ ?_ 
                · skip
                  refine kOp_eff rfl rfl fun Kv hK => ?_
                  go_simp
                  refine eff_call (HCL.out _ hT1.below) (fun e w22 hc => ?_)
                  obtain ⟨v3, rfl, hc⟩ := hc
                  obtain ⟨A3, c3, rfl, _, _⟩ := (hc.row 0 rfl).slice_
                  have hT2 := hT1.join hc
                  left
                  refine ⟨_, rfl, hT2.pick [7] (by simp) rfl, hK _ _ ?_⟩
                  clear hK Kv hc hT1
                  refine pb_one 4 (by kernel_rfl) (by kernel_rfl) ?_
                  refine kOp_eff rfl rfl fun Kv hK => ?_
                  go_simp
                  obtain ⟨nb, hnb⟩ : ∃ nb, nb = w22.heap.size := ⟨_, rfl⟩
                  have hT3 := hT2.alloc #[.int .u8 m.fr, .int .u8 m.to, .int .i16 m.wt] 42
                  rw [← hnb] at hT3 ⊢
                  obtain ⟨w23, hw_⟩ : ∃ w23, w23 = w22.alloc (.cells #[.int .u8 m.fr, .int .u8 m.to, .int .i16 m.wt] 42) := ⟨_, rfl⟩
                  rw [← hw_] at hT3 ⊢
                  refine ⟨hT3.pick [8] (by simp) rfl, hK _ _ ?_⟩
                  clear hK Kv hnb hw_ hT2
                  refine pb_one 5 (by kernel_rfl) (by kernel_rfl) ?_
                  refine kOp_eff rfl rfl fun Kv hK => ?_
                  obtain ⟨v4, w24, hr4, hT4⟩ := run_append_from (P := Try.prog) 39 39 hT3 1 j0 (.agg #[.int .u8 0, .int .u8 0, .int .i16 0]) 3 4 Try.underlying39 HJ.out.1 HJ.out.2.1 HJ.out.2.2.1 HJ.out.2.2.2 rfl (by decide) _ l.length 1 1 (linkCells l) [.int .u8 m.fr, .int .u8 m.to, .int .i16 m.wt] rfl (by decide) ⟨nb, 0, none⟩ rfl (fun j u hu => by rw [Addr.add_mid, Nat.zero_add]; exact hT3.cell 0 rfl j (by simpa using hu)) (by simp [Value.oneCell']) (by omega) (by decide)
                  obtain ⟨A4, c4, rfl, _, _⟩ := (hT4.row 1 rfl).slice_
                  refine eff_append_run _ _ 39 rfl _ _ rfl rfl hr4 ?_
                  refine ⟨hT4.pick [8] (by simp) rfl, hK _ _ ?_⟩
                  clear hK Kv hr4 hT3
                  refine pb_one 6 (by kernel_rfl) (by kernel_rfl) ?_
                  refine kOp_eff rfl rfl fun Kv hK => ?_
                  go_simp
                  have hlk : Links w24 w24.heap.size A4 (l ++ [m]) := by
                    have hh := hT4.reads 1 rfl
                    rw [← linkCells_snoc] at hh
                    have e : (l ++ [m]).length = l.length + 1 := by simp
                    unfold Links
                    rw [e]
                    exact hh
                  refine eff_call (HG2.out _ _ _ hlk) (fun e w25 hc => ?_)
                  obtain ⟨v5, rfl, hc⟩ := hc
                  obtain ⟨A5, c5, rfl, _, _⟩ := (hc.row 0 rfl).slice_
                  have hT5 := hT4.join hc
                  left
                  refine ⟨_, rfl, hT5.pick [9] (by simp) rfl, hK _ _ ?_⟩
                  clear hK Kv hc hlk hT4
                  refine pb_one 8 (by kernel_rfl) (by kernel_rfl) ?_
                  refine kOp_eff rfl rfl fun Kv hK => ?_
                  go_simp
                  refine eff_call (HLG2.out.from_yes (c := c5) (hT5.reads 0 rfl) HB2.out) (fun e w26 hc => ?_)
                  obtain ⟨f2, b2, rfl, hc⟩ := hc
                  have hT6 := hT5.join hc
                  left
                  refine ⟨_, rfl, hT6.pick [11] (by simp) rfl, hK _ _ ?_⟩
                  clear hK Kv hc hT5
                  refine pb_told 9 (.tuple #[.agg #[.slice (some ⟨f2, 0, none⟩) N N, .slice (some ⟨b2, 0, none⟩) N N], .int .i64 0]) (by kernel_rfl) rfl (by kernel_rfl) (by kernel_rfl) (by kernel_rfl) (by kernel_rfl) (hT6.pick [11] (by simp) rfl) rfl (fun _ _ => rfl) (fun Kv hK => ?_)
                  go_simp
                  refine hK _ ?_
                  clear hK Kv
                  refine pb_told 10 (.agg #[.slice (some ⟨f2, 0, none⟩) N N, .slice (some ⟨b2, 0, none⟩) N N]) (by kernel_rfl) rfl (by kernel_rfl) (by kernel_rfl) (by kernel_rfl) (by kernel_rfl) (hT6.pick [11] (by simp) rfl) rfl (fun _ _ => rfl) (fun Kv hK => ?_)
                  go_simp
                  refine hK _ ?_
                  clear hK Kv
                  refine pb_told 11 (.int .i64 0) (by kernel_rfl) rfl (by kernel_rfl) (by kernel_rfl) (by kernel_rfl) (by kernel_rfl) (hT6.pick [11] (by simp) rfl) rfl (fun _ _ => rfl) (fun Kv hK => ?_)
                  go_simp
                  refine hK _ ?_
                  clear hK Kv
                  refine pb_one 13 (by kernel_rfl) (by kernel_rfl) ?_
                  refine kOp_eff rfl rfl fun Kv hK => ?_
                  refine eff_store_row 50 _ _ rfl ub #[.slice (some ⟨f2, 0, none⟩) N N, .slice (some ⟨b2, 0, none⟩) N N] rfl rfl _ _ (hT6.blk 5 rfl) (by kernel_rfl) rfl (by simp [Value.oneCell']) (fun w27 ho4 hh4 => ?_)
                  have hT7 := hT6.only 5 rfl ho4 hh4
                  refine ⟨hT7.pick [11] (by simp) rfl, hK _ _ ?_⟩
                  clear hK Kv ho4 hh4 hT6
                  refine pb_end (by kernel_rfl) ?_
                  clear HCL HG2 HJ
                  have HU : Hid (SL W W.heap.size [.blk ub #[.slice (some ⟨f2, 0, none⟩) N N, .slice (some ⟨b2, 0, none⟩) N N] 50, .blk f2 (iarr (bendM N L2 f).1.far N) 2, .blk b2 (iarr (bendM N L2 f).1.by_ N) 3, .blk tb #[.slice (some ⟨fb, 0, none⟩) N N, .slice (some ⟨bb, 0, none⟩) N N] 50, .blk fb (iarr F N) 2, .blk bb (iarr (bendM N L f).1.by_ N) 3, .blk gb #[.int .i64 N, .slice A2 L.length c2] 45, .row 55 3 (.slice A2 L.length c2) L.length (arcCells L), .blk W.heap.size #[.int .u8 m.fr, .int .u8 m.to, .int .i16 m.wt] 42] _) := Lib.hid (hT7.pick [5, 0, 1, 6, 7, 8, 9, 10, 11] (by decide) rfl)
                  clear hT7
                  go_wp2_with fail
                  go_meet
                  exact ⟨ub, f2, b2, rfl, rfl, HU.out⟩
                · skip
                  refine kOp_eff rfl rfl fun Kv hK => ?_
                  go_simp
                  obtain ⟨nb, hnb⟩ : ∃ nb, nb = w21.heap.size := ⟨_, rfl⟩
                  have hT2 := hT1.alloc #[.int .u8 m.fr, .int .u8 m.to, .int .i16 m.wt] 42
                  rw [← hnb] at hT2 ⊢
                  obtain ⟨w22, hw_⟩ : ∃ w22, w22 = w21.alloc (.cells #[.int .u8 m.fr, .int .u8 m.to, .int .i16 m.wt] 42) := ⟨_, rfl⟩
                  rw [← hw_] at hT2 ⊢
                  refine ⟨hT2.pick [7] (by simp) rfl, hK _ _ ?_⟩
                  clear hK Kv hnb hw_ hT1
                  refine pb_one 2 (by kernel_rfl) (by kernel_rfl) ?_
                  refine kOp_eff rfl rfl fun Kv hK => ?_
                  go_simp
                  refine eff_call (HCL.out _ hT2.below) (fun e w23 hc => ?_)
                  obtain ⟨v3, rfl, hc⟩ := hc
                  obtain ⟨A3, c3, rfl, _, _⟩ := (hc.row 0 rfl).slice_
                  have hT3 := hT2.join hc
                  left
                  refine ⟨_, rfl, hT3.pick [8] (by simp) rfl, hK _ _ ?_⟩
                  clear hK Kv hc hT2
                  refine pb_one 5 (by kernel_rfl) (by kernel_rfl) ?_
                  refine kOp_eff rfl rfl fun Kv hK => ?_
                  obtain ⟨v4, w24, hr4, hT4⟩ := run_append_from (P := Try.prog) 39 39 hT3 0 j0 (.agg #[.int .u8 0, .int .u8 0, .int .i16 0]) 3 4 Try.underlying39 HJ.out.1 HJ.out.2.1 HJ.out.2.2.1 HJ.out.2.2.2 rfl (by decide) _ l.length 1 1 (linkCells l) [.int .u8 m.fr, .int .u8 m.to, .int .i16 m.wt] rfl (by decide) ⟨nb, 0, none⟩ rfl (fun j u hu => by rw [Addr.add_mid, Nat.zero_add]; exact hT3.cell 1 rfl j (by simpa using hu)) (by simp [Value.oneCell']) (by omega) (by decide)
                  obtain ⟨A4, c4, rfl, _, _⟩ := (hT4.row 0 rfl).slice_
                  refine eff_append_run _ _ 39 rfl _ _ rfl rfl hr4 ?_
                  refine ⟨hT4.pick [8] (by simp) rfl, hK _ _ ?_⟩
                  clear hK Kv hr4 hT3
                  refine pb_one 6 (by kernel_rfl) (by kernel_rfl) ?_
                  refine kOp_eff rfl rfl fun Kv hK => ?_
                  go_simp
                  have hlk : Links w24 w24.heap.size A4 (l ++ [m]) := by
                    have hh := hT4.reads 0 rfl
                    rw [← linkCells_snoc] at hh
                    have e : (l ++ [m]).length = l.length + 1 := by simp
                    unfold Links
                    rw [e]
                    exact hh
                  refine eff_call (HG2.out _ _ _ hlk) (fun e w25 hc => ?_)
                  obtain ⟨v5, rfl, hc⟩ := hc
                  obtain ⟨A5, c5, rfl, _, _⟩ := (hc.row 0 rfl).slice_
                  have hT5 := hT4.join hc
                  left
                  refine ⟨_, rfl, hT5.pick [9] (by simp) rfl, hK _ _ ?_⟩
                  clear hK Kv hc hlk hT4
                  refine pb_one 8 (by kernel_rfl) (by kernel_rfl) ?_
                  refine kOp_eff rfl rfl fun Kv hK => ?_
                  go_simp
                  refine eff_call (HLG2.out.from_yes (c := c5) (hT5.reads 0 rfl) HB2.out) (fun e w26 hc => ?_)
                  obtain ⟨f2, b2, rfl, hc⟩ := hc
                  have hT6 := hT5.join hc
                  left
                  refine ⟨_, rfl, hT6.pick [11] (by simp) rfl, hK _ _ ?_⟩
                  clear hK Kv hc hT5
                  refine pb_told 9 (.tuple #[.agg #[.slice (some ⟨f2, 0, none⟩) N N, .slice (some ⟨b2, 0, none⟩) N N], .int .i64 0]) (by kernel_rfl) rfl (by kernel_rfl) (by kernel_rfl) (by kernel_rfl) (by kernel_rfl) (hT6.pick [11] (by simp) rfl) rfl (fun _ _ => rfl) (fun Kv hK => ?_)
                  go_simp
                  refine hK _ ?_
                  clear hK Kv
                  refine pb_told 10 (.agg #[.slice (some ⟨f2, 0, none⟩) N N, .slice (some ⟨b2, 0, none⟩) N N]) (by kernel_rfl) rfl (by kernel_rfl) (by kernel_rfl) (by kernel_rfl) (by kernel_rfl) (hT6.pick [11] (by simp) rfl) rfl (fun _ _ => rfl) (fun Kv hK => ?_)
                  go_simp
                  refine hK _ ?_
                  clear hK Kv
                  refine pb_told 11 (.int .i64 0) (by kernel_rfl) rfl (by kernel_rfl) (by kernel_rfl) (by kernel_rfl) (by kernel_rfl) (hT6.pick [11] (by simp) rfl) rfl (fun _ _ => rfl) (fun Kv hK => ?_)
                  go_simp
                  refine hK _ ?_
                  clear hK Kv
                  refine pb_one 13 (by kernel_rfl) (by kernel_rfl) ?_
                  refine kOp_eff rfl rfl fun Kv hK => ?_
                  refine eff_store_row 50 _ _ rfl ub #[.slice (some ⟨f2, 0, none⟩) N N, .slice (some ⟨b2, 0, none⟩) N N] rfl rfl _ _ (hT6.blk 5 rfl) (by kernel_rfl) rfl (by simp [Value.oneCell']) (fun w27 ho4 hh4 => ?_)
                  have hT7 := hT6.only 5 rfl ho4 hh4
                  refine ⟨hT7.pick [11] (by simp) rfl, hK _ _ ?_⟩
                  clear hK Kv ho4 hh4 hT6
                  refine pb_end (by kernel_rfl) ?_
                  clear HCL HG2 HJ
                  have HU : Hid (SL W W.heap.size [.blk ub #[.slice (some ⟨f2, 0, none⟩) N N, .slice (some ⟨b2, 0, none⟩) N N] 50, .blk f2 (iarr (bendM N L2 f).1.far N) 2, .blk b2 (iarr (bendM N L2 f).1.by_ N) 3, .blk tb #[.slice (some ⟨fb, 0, none⟩) N N, .slice (some ⟨bb, 0, none⟩) N N] 50, .blk fb (iarr F N) 2, .blk bb (iarr (bendM N L f).1.by_ N) 3, .blk gb #[.int .i64 N, .slice A2 L.length c2] 45, .row 55 3 (.slice A2 L.length c2) L.length (arcCells L), .blk W.heap.size #[.int .u8 m.fr, .int .u8 m.to, .int .i16 m.wt] 42] _) := Lib.hid (hT7.pick [5, 0, 1, 6, 7, 8, 9, 10, 11] (by decide) rfl)
                  clear hT7
                  go_wp2_with fail
                  go_meet
                  exact ⟨ub, f2, b2, rfl, rfl, HU.out⟩
            case rest =>
              clear hS HCL HG2 HJ
              obtain ⟨ub, f2, b2, rfl, rfl, hS⟩ := hcut
              obtain ⟨wb, rfl⟩ : ∃ wb : World, wb = wc := ⟨_, rfl⟩
              obtain ⟨F2, hF2⟩ : ∃ F2, F2 = (bendM N L2 f).1.far := ⟨_, rfl⟩
              rw [← hF2] at hS
              have HSH : Hid (∀ i, i < N → F2 i ≤ F i) := Lib.hid (fun i hi => by
                have g1 := HLG2.out
                have g2 := HB2.out
                rw [hF2, HFF.out]
                rw [HL2.out] at g1 g2 ⊢
                exact shorter HLG.out g1 HB1.out g2 i hi)
              have c0 : wb.cell? ⟨ub, 0, none⟩ = some (.slice (some ⟨f2, 0, none⟩) N N) := hS.cell 0 rfl 0 rfl
              have c1 : wb.cell? ⟨tb, 0, none⟩ = some (.slice (some ⟨fb, 0, none⟩) N N) := hS.cell 3 rfl 0 rfl
              have c2 : wb.cell? ⟨gb, 0, none⟩ = some (.int .i64 N) := hS.cell 6 rfl 0 rfl
              have HS : Hid (SL W W.heap.size [.blk ub #[.slice (some ⟨f2, 0, none⟩) N N, .slice (some ⟨b2, 0, none⟩) N N] 50, .blk f2 (iarr F2 N) 2, .blk tb #[.slice (some ⟨fb, 0, none⟩) N N, .slice (some ⟨bb, 0, none⟩) N N] 50, .blk fb (iarr F N) 2] wb) := Lib.hid (hS.pick [0, 1, 3, 4] (by decide) rfl)
              clear hS hF2
              go_wp2_with fail
              clear c0 c1 c2
              go_loopw [107] (fun i wr => ∃ k : Nat, k ≤ N ∧ i = .int .i64 k ∧ SL W W.heap.size [.blk ub #[.slice (some ⟨f2, 0, none⟩) N N, .slice (some ⟨b2, 0, none⟩) N N] 50, .blk f2 (iarr F2 N) 2, .blk tb #[.slice (some ⟨fb, 0, none⟩) N N, .slice (some ⟨bb, 0, none⟩) N N] 50, .blk fb (iarr F N) 2] wr) (fun i _ => N - (intOf i).toNat)
              case atStart => exact ⟨0, by omega, rfl, HS.out⟩
              case round =>
                clear HS
                obtain ⟨k, hk, rfl, hS⟩ := hrel
                by_cases hlt : k < N
                · have hsh := HSH.out k hlt
                  obtain ⟨Fk, hFk⟩ : ∃ Fk, F k = Fk := ⟨_, rfl⟩
                  obtain ⟨Gk, hGk⟩ : ∃ Gk, F2 k = Gk := ⟨_, rfl⟩
                  rw [hFk, hGk] at hsh
                  have hnl : ¬ Fk < Gk := by omega
                  go_upto_region 24 with fail
                  refine wp_region_sl [0,1,2,3,4,5,6,7,8,9,10] [] [] _ hS (List.Sublist.refl _) (by kernel_rfl) (by kernel_rfl) .nil (fun C cw _ hC => ?_)
                  have q0 : ∀ c, (cw c).cell? ⟨ub, 0, none⟩ = some (.slice (some ⟨f2, 0, none⟩) N N) := fun c => (hC c).cell 0 rfl 0 rfl
                  have q1 : ∀ c, (cw c).cell? ⟨tb, 0, none⟩ = some (.slice (some ⟨fb, 0, none⟩) N N) := fun c => (hC c).cell 2 rfl 0 rfl
                  have q2 : ∀ c, (cw c).cell? ⟨f2, k, none⟩ = some (.int .i64 Gk) := fun c => by rw [← hGk]; exact (hC c).cell 1 rfl _ (iarr_get _ _ _ hlt)
                  have q3 : ∀ c, (cw c).cell? ⟨fb, k, none⟩ = some (.int .i64 Fk) := fun c => by rw [← hFk]; exact (hC c).cell 3 rfl _ (iarr_get _ _ _ hlt)
                  clear hFk hGk hsh
                  repeat (refine pl_look rfl rfl rfl (fun Kv hK => ?_); go_big_quiet_op; refine hK _ ?_; clear hK Kv)
                  clear q0 q1 q2 q3 hC
                  refine pl_end ?_
                  intro w1 hS4
                  refine pm_end ?_
                  have HS4 := Lib.hid hS4
                  clear hS hS4
                  go_wp2_with fail
                  go_roundw
                  case rel => exact ⟨k + 1, by omega, by go_num, HS4.out⟩
                  case measure => simp [intOf]; omega
                · have HS := Lib.hid hS
                  clear hS
                  go_wp2_with fail
                  go_ret
                  exact ⟨rfl, HS.out.below⟩
          · have HB2 := Lib.hid hb2
            clear hb2
            go_cut [16] (fun s16 wx => s16 = .int .i64 7 ∧ Below W.heap.size W wx)
            case first =>
              refine wp_region_slb [0,1,3,7] [2,4,5,6,8,9,10,11,12,13] [14] [.blk W.heap.size #[.int .u8 m.fr, .int .u8 m.to, .int .i16 m.wt] 42] hS (.cons _ (.cons _ (.cons _ (.cons _ (.cons _ (.cons_cons _ (List.nil_sublist _))))))) (by kernel_rfl) (by kernel_rfl) (.cons rfl .nil) (fun C cw _ hC => ?_)
              have q0 : ∀ c, (cw c).cell? ⟨W.heap.size, 0, none⟩ = some (.int .u8 m.fr) := fun c => (hC c).cell 0 rfl 0 rfl
              have q1 : ∀ c, (cw c).cell? ⟨W.heap.size, 1, none⟩ = some (.int .u8 m.to) := fun c => (hC c).cell 0 rfl 1 rfl
              have q2 : ∀ c, (cw c).cell? ⟨W.heap.size, 2, none⟩ = some (.int .i16 m.wt) := fun c => (hC c).cell 0 rfl 2 rfl
              repeat (refine pl_look rfl rfl rfl (fun Kv hK => ?_); go_big_quiet_op; refine hK _ ?_; clear hK Kv)
              clear q0 q1 q2 hC
              refine pl_end ?_
              intro w20 hT0
              clear hS
              refine pb_three 2 4 12 (by kernel_rfl) (by kernel_rfl) (by kernel_rfl) (by kernel_rfl) ?_ ?_ ?_ 
              · skip
                refine kOp_eff rfl rfl fun Kv hK => ?_
                go_simp
                refine eff_call (HCL.out _ hT0.below) (fun e w21 hc => ?_)
                obtain ⟨v3, rfl, hc⟩ := hc
                obtain ⟨A3, c3, rfl, _, _⟩ := (hc.row 0 rfl).slice_
                have hT1 := hT0.join hc
                left
                refine ⟨_, rfl, hT1.pick [6] (by simp) rfl, hK _ _ ?_⟩
                clear hK Kv hc hT0
                refine pb_two 4 12 (by kernel_rfl) (by kernel_rfl) (by kernel_rfl) ?_ ?_ 
                · skip
                  refine kOp_eff rfl rfl fun Kv hK => ?_
                  go_simp
                  obtain ⟨nb, hnb⟩ : ∃ nb, nb = w21.heap.size := ⟨_, rfl⟩
                  have hT2 := hT1.alloc #[.int .u8 m.fr, .int .u8 m.to, .int .i16 m.wt] 42
                  rw [← hnb] at hT2 ⊢
                  obtain ⟨w22, hw_⟩ : ∃ w22, w22 = w21.alloc (.cells #[.int .u8 m.fr, .int .u8 m.to, .int .i16 m.wt] 42) := ⟨_, rfl⟩
                  rw [← hw_] at hT2 ⊢
                  refine ⟨hT2.pick [7] (by simp) rfl, hK _ _ ?_⟩
                  clear hK Kv hnb hw_ hT1
                  refine pb_two 5 12 (by kernel_rfl) (by kernel_rfl) (by kernel_rfl) ?_ ?_ 
                  · skip
                    refine kOp_eff rfl rfl fun Kv hK => ?_
                    obtain ⟨v4, w23, hr4, hT3⟩ := run_append_from (P := Try.prog) 39 39 hT2 1 j0 (.agg #[.int .u8 0, .int .u8 0, .int .i16 0]) 3 4 Try.underlying39 HJ.out.1 HJ.out.2.1 HJ.out.2.2.1 HJ.out.2.2.2 rfl (by decide) _ l.length 1 1 (linkCells l) [.int .u8 m.fr, .int .u8 m.to, .int .i16 m.wt] rfl (by decide) ⟨nb, 0, none⟩ rfl (fun j u hu => by rw [Addr.add_mid, Nat.zero_add]; exact hT2.cell 0 rfl j (by simpa using hu)) (by simp [Value.oneCell']) (by omega) (by decide)
                    obtain ⟨A4, c4, rfl, _, _⟩ := (hT3.row 1 rfl).slice_
                    refine eff_append_run _ _ 39 rfl _ _ rfl rfl hr4 ?_
                    refine ⟨hT3.pick [7] (by simp) rfl, hK _ _ ?_⟩
                    clear hK Kv hr4 hT2
                    refine pb_two 6 12 (by kernel_rfl) (by kernel_rfl) (by kernel_rfl) ?_ ?_ 
                    · skip
                      refine kOp_eff rfl rfl fun Kv hK => ?_
                      go_simp
                      have hlk : Links w23 w23.heap.size A4 (l ++ [m]) := by
                        have hh := hT3.reads 1 rfl
                        rw [← linkCells_snoc] at hh
                        have e : (l ++ [m]).length = l.length + 1 := by simp
                        unfold Links
                        rw [e]
                        exact hh
                      refine eff_call (HG2.out _ _ _ hlk) (fun e w24 hc => ?_)
                      obtain ⟨v5, rfl, hc⟩ := hc
                      obtain ⟨A5, c5, rfl, _, _⟩ := (hc.row 0 rfl).slice_
                      have hT4 := hT3.join hc
                      left
                      refine ⟨_, rfl, hT4.pick [8] (by simp) rfl, hK _ _ ?_⟩
                      clear hK Kv hc hlk hT3
                      refine pb_two 8 12 (by kernel_rfl) (by kernel_rfl) (by kernel_rfl) ?_ ?_ 
                      · skip
                        refine kOp_eff rfl rfl fun Kv hK => ?_
                        go_simp
                        refine eff_call (HLG2.out.from_no (c := c5) (hT4.reads 0 rfl) HB2.out) (fun e w25 hc => ?_)
                        obtain ⟨rfl, hc⟩ := hc
                        have hT5 := hT4.call hc
                        left
                        refine ⟨_, rfl, hT5.pick [8] (by simp) rfl, hK _ _ ?_⟩
                        clear hK Kv hc hT4
                        refine pb_told 9 (.tuple #[.agg #[.slice none 0 0, .slice none 0 0], .int .i64 7]) (by kernel_rfl) rfl (by kernel_rfl) (by kernel_rfl) (by kernel_rfl) (by kernel_rfl) (hT5.pick [8] (by simp) rfl) rfl (fun _ _ => rfl) (fun Kv hK => ?_)
                        go_simp
                        refine hK _ ?_
                        clear hK Kv
                        refine pb_told 10 (.agg #[.slice none 0 0, .slice none 0 0]) (by kernel_rfl) rfl (by kernel_rfl) (by kernel_rfl) (by kernel_rfl) (by kernel_rfl) (hT5.pick [8] (by simp) rfl) rfl (fun _ _ => rfl) (fun Kv hK => ?_)
                        go_simp
                        refine hK _ ?_
                        clear hK Kv
                        refine pb_told 11 (.int .i64 7) (by kernel_rfl) rfl (by kernel_rfl) (by kernel_rfl) (by kernel_rfl) (by kernel_rfl) (hT5.pick [8] (by simp) rfl) rfl (fun _ _ => rfl) (fun Kv hK => ?_)
                        go_simp
                        refine hK _ ?_
                        clear hK Kv
                        refine pb_one 12 (by kernel_rfl) (by kernel_rfl) ?_
                        refine kOp_eff rfl rfl fun Kv hK => ?_
                        go_simp
                        obtain ⟨ub, hub⟩ : ∃ ub, ub = w25.heap.size := ⟨_, rfl⟩
                        have hT6 := hT5.alloc #[.slice none 0 0, .slice none 0 0] 50
                        rw [← hub] at hT6 ⊢
                        obtain ⟨w26, hw_⟩ : ∃ w26, w26 = w25.alloc (.cells #[.slice none 0 0, .slice none 0 0] 50) := ⟨_, rfl⟩
                        rw [← hw_] at hT6 ⊢
                        refine ⟨hT6.pick [9] (by simp) rfl, hK _ _ ?_⟩
                        clear hK Kv hub hw_ hT5
                        refine pb_one 13 (by kernel_rfl) (by kernel_rfl) ?_
                        refine kOp_eff rfl rfl fun Kv hK => ?_
                        refine eff_store_row 50 _ _ rfl ub #[.slice none 0 0, .slice none 0 0] rfl rfl _ _ (hT6.blk 0 rfl) (by kernel_rfl) rfl (by simp [Value.oneCell']) (fun w27 ho4 hh4 => ?_)
                        have hT7 := hT6.only 0 rfl ho4 hh4
                        refine ⟨hT7.pick [9] (by simp) rfl, hK _ _ ?_⟩
                        clear hK Kv ho4 hh4 hT6
                        refine pb_end (by kernel_rfl) ?_
                        clear HCL HG2 HJ
                        have HU := Lib.hid (hT7.below)
                        clear hT7
                        go_wp2_with fail
                        go_meet
                        exact ⟨rfl, HU.out⟩
                      · skip
                        refine kOp_eff rfl rfl fun Kv hK => ?_
                        go_simp
                        obtain ⟨ub, hub⟩ : ∃ ub, ub = w24.heap.size := ⟨_, rfl⟩
                        have hT5 := hT4.alloc #[.slice none 0 0, .slice none 0 0] 50
                        rw [← hub] at hT5 ⊢
                        obtain ⟨w25, hw_⟩ : ∃ w25, w25 = w24.alloc (.cells #[.slice none 0 0, .slice none 0 0] 50) := ⟨_, rfl⟩
                        rw [← hw_] at hT5 ⊢
                        refine ⟨hT5.pick [9] (by simp) rfl, hK _ _ ?_⟩
                        clear hK Kv hub hw_ hT4
                        refine pb_one 8 (by kernel_rfl) (by kernel_rfl) ?_
                        refine kOp_eff rfl rfl fun Kv hK => ?_
                        go_simp
                        refine eff_call (HLG2.out.from_no (c := c5) (hT5.reads 1 rfl) HB2.out) (fun e w26 hc => ?_)
                        obtain ⟨rfl, hc⟩ := hc
                        have hT6 := hT5.call hc
                        left
                        refine ⟨_, rfl, hT6.pick [9] (by simp) rfl, hK _ _ ?_⟩
                        clear hK Kv hc hT5
                        refine pb_told 9 (.tuple #[.agg #[.slice none 0 0, .slice none 0 0], .int .i64 7]) (by kernel_rfl) rfl (by kernel_rfl) (by kernel_rfl) (by kernel_rfl) (by kernel_rfl) (hT6.pick [9] (by simp) rfl) rfl (fun _ _ => rfl) (fun Kv hK => ?_)
                        go_simp
                        refine hK _ ?_
                        clear hK Kv
                        refine pb_told 10 (.agg #[.slice none 0 0, .slice none 0 0]) (by kernel_rfl) rfl (by kernel_rfl) (by kernel_rfl) (by kernel_rfl) (by kernel_rfl) (hT6.pick [9] (by simp) rfl) rfl (fun _ _ => rfl) (fun Kv hK => ?_)
                        go_simp
                        refine hK _ ?_
                        clear hK Kv
                        refine pb_told 11 (.int .i64 7) (by kernel_rfl) rfl (by kernel_rfl) (by kernel_rfl) (by kernel_rfl) (by kernel_rfl) (hT6.pick [9] (by simp) rfl) rfl (fun _ _ => rfl) (fun Kv hK => ?_)
                        go_simp
                        refine hK _ ?_
                        clear hK Kv
                        refine pb_one 13 (by kernel_rfl) (by kernel_rfl) ?_
                        refine kOp_eff rfl rfl fun Kv hK => ?_
                        refine eff_store_row 50 _ _ rfl ub #[.slice none 0 0, .slice none 0 0] rfl rfl _ _ (hT6.blk 0 rfl) (by kernel_rfl) rfl (by simp [Value.oneCell']) (fun w27 ho4 hh4 => ?_)
                        have hT7 := hT6.only 0 rfl ho4 hh4
                        refine ⟨hT7.pick [9] (by simp) rfl, hK _ _ ?_⟩
                        clear hK Kv ho4 hh4 hT6
                        refine pb_end (by kernel_rfl) ?_
                        clear HCL HG2 HJ
                        have HU := Lib.hid (hT7.below)
                        clear hT7
                        go_wp2_with fail
                        go_meet
                        exact ⟨rfl, HU.out⟩
                    · skip
                      refine kOp_eff rfl rfl fun Kv hK => ?_
                      go_simp
                      obtain ⟨ub, hub⟩ : ∃ ub, ub = w23.heap.size := ⟨_, rfl⟩
                      have hT4 := hT3.alloc #[.slice none 0 0, .slice none 0 0] 50
                      rw [← hub] at hT4 ⊢
                      obtain ⟨w24, hw_⟩ : ∃ w24, w24 = w23.alloc (.cells #[.slice none 0 0, .slice none 0 0] 50) := ⟨_, rfl⟩
                      rw [← hw_] at hT4 ⊢
                      refine ⟨hT4.pick [8] (by simp) rfl, hK _ _ ?_⟩
                      clear hK Kv hub hw_ hT3
                      refine pb_one 6 (by kernel_rfl) (by kernel_rfl) ?_
                      refine kOp_eff rfl rfl fun Kv hK => ?_
                      go_simp
                      have hlk : Links w24 w24.heap.size A4 (l ++ [m]) := by
                        have hh := hT4.reads 2 rfl
                        rw [← linkCells_snoc] at hh
                        have e : (l ++ [m]).length = l.length + 1 := by simp
                        unfold Links
                        rw [e]
                        exact hh
                      refine eff_call (HG2.out _ _ _ hlk) (fun e w25 hc => ?_)
                      obtain ⟨v5, rfl, hc⟩ := hc
                      obtain ⟨A5, c5, rfl, _, _⟩ := (hc.row 0 rfl).slice_
                      have hT5 := hT4.join hc
                      left
                      refine ⟨_, rfl, hT5.pick [9] (by simp) rfl, hK _ _ ?_⟩
                      clear hK Kv hc hlk hT4
                      refine pb_one 8 (by kernel_rfl) (by kernel_rfl) ?_
                      refine kOp_eff rfl rfl fun Kv hK => ?_
                      go_simp
                      refine eff_call (HLG2.out.from_no (c := c5) (hT5.reads 0 rfl) HB2.out) (fun e w26 hc => ?_)
                      obtain ⟨rfl, hc⟩ := hc
                      have hT6 := hT5.call hc
                      left
                      refine ⟨_, rfl, hT6.pick [9] (by simp) rfl, hK _ _ ?_⟩
                      clear hK Kv hc hT5
                      refine pb_told 9 (.tuple #[.agg #[.slice none 0 0, .slice none 0 0], .int .i64 7]) (by kernel_rfl) rfl (by kernel_rfl) (by kernel_rfl) (by kernel_rfl) (by kernel_rfl) (hT6.pick [9] (by simp) rfl) rfl (fun _ _ => rfl) (fun Kv hK => ?_)
                      go_simp
                      refine hK _ ?_
                      clear hK Kv
                      refine pb_told 10 (.agg #[.slice none 0 0, .slice none 0 0]) (by kernel_rfl) rfl (by kernel_rfl) (by kernel_rfl) (by kernel_rfl) (by kernel_rfl) (hT6.pick [9] (by simp) rfl) rfl (fun _ _ => rfl) (fun Kv hK => ?_)
                      go_simp
                      refine hK _ ?_
                      clear hK Kv
                      refine pb_told 11 (.int .i64 7) (by kernel_rfl) rfl (by kernel_rfl) (by kernel_rfl) (by kernel_rfl) (by kernel_rfl) (hT6.pick [9] (by simp) rfl) rfl (fun _ _ => rfl) (fun Kv hK => ?_)
                      go_simp
                      refine hK _ ?_
                      clear hK Kv
                      refine pb_one 13 (by kernel_rfl) (by kernel_rfl) ?_
                      refine kOp_eff rfl rfl fun Kv hK => ?_
                      refine eff_store_row 50 _ _ rfl ub #[.slice none 0 0, .slice none 0 0] rfl rfl _ _ (hT6.blk 1 rfl) (by kernel_rfl) rfl (by simp [Value.oneCell']) (fun w27 ho4 hh4 => ?_)
                      have hT7 := hT6.only 1 rfl ho4 hh4
                      refine ⟨hT7.pick [9] (by simp) rfl, hK _ _ ?_⟩
                      clear hK Kv ho4 hh4 hT6
                      refine pb_end (by kernel_rfl) ?_
                      clear HCL HG2 HJ
                      have HU := Lib.hid (hT7.below)
                      clear hT7
                      go_wp2_with fail
                      go_meet
                      exact ⟨rfl, HU.out⟩
                  · skip
                    refine kOp_eff rfl rfl fun Kv hK => ?_
                    go_simp
                    obtain ⟨ub, hub⟩ : ∃ ub, ub = w22.heap.size := ⟨_, rfl⟩
                    have hT3 := hT2.alloc #[.slice none 0 0, .slice none 0 0] 50
                    rw [← hub] at hT3 ⊢
                    obtain ⟨w23, hw_⟩ : ∃ w23, w23 = w22.alloc (.cells #[.slice none 0 0, .slice none 0 0] 50) := ⟨_, rfl⟩
                    rw [← hw_] at hT3 ⊢
                    refine ⟨hT3.pick [8] (by simp) rfl, hK _ _ ?_⟩
                    clear hK Kv hub hw_ hT2
                    refine pb_one 5 (by kernel_rfl) (by kernel_rfl) ?_
                    refine kOp_eff rfl rfl fun Kv hK => ?_
                    obtain ⟨v4, w24, hr4, hT4⟩ := run_append_from (P := Try.prog) 39 39 hT3 2 j0 (.agg #[.int .u8 0, .int .u8 0, .int .i16 0]) 3 4 Try.underlying39 HJ.out.1 HJ.out.2.1 HJ.out.2.2.1 HJ.out.2.2.2 rfl (by decide) _ l.length 1 1 (linkCells l) [.int .u8 m.fr, .int .u8 m.to, .int .i16 m.wt] rfl (by decide) ⟨nb, 0, none⟩ rfl (fun j u hu => by rw [Addr.add_mid, Nat.zero_add]; exact hT3.cell 1 rfl j (by simpa using hu)) (by simp [Value.oneCell']) (by omega) (by decide)
                    obtain ⟨A4, c4, rfl, _, _⟩ := (hT4.row 2 rfl).slice_
                    refine eff_append_run _ _ 39 rfl _ _ rfl rfl hr4 ?_
                    refine ⟨hT4.pick [8] (by simp) rfl, hK _ _ ?_⟩
                    clear hK Kv hr4 hT3
                    refine pb_one 6 (by kernel_rfl) (by kernel_rfl) ?_
                    refine kOp_eff rfl rfl fun Kv hK => ?_
                    go_simp
                    have hlk : Links w24 w24.heap.size A4 (l ++ [m]) := by
                      have hh := hT4.reads 2 rfl
                      rw [← linkCells_snoc] at hh
                      have e : (l ++ [m]).length = l.length + 1 := by simp
                      unfold Links
                      rw [e]
                      exact hh
                    refine eff_call (HG2.out _ _ _ hlk) (fun e w25 hc => ?_)
                    obtain ⟨v5, rfl, hc⟩ := hc
                    obtain ⟨A5, c5, rfl, _, _⟩ := (hc.row 0 rfl).slice_
                    have hT5 := hT4.join hc
                    left
                    refine ⟨_, rfl, hT5.pick [9] (by simp) rfl, hK _ _ ?_⟩
                    clear hK Kv hc hlk hT4
                    refine pb_one 8 (by kernel_rfl) (by kernel_rfl) ?_
                    refine kOp_eff rfl rfl fun Kv hK => ?_
                    go_simp
                    refine eff_call (HLG2.out.from_no (c := c5) (hT5.reads 0 rfl) HB2.out) (fun e w26 hc => ?_)
                    obtain ⟨rfl, hc⟩ := hc
                    have hT6 := hT5.call hc
                    left
                    refine ⟨_, rfl, hT6.pick [9] (by simp) rfl, hK _ _ ?_⟩
                    clear hK Kv hc hT5
                    refine pb_told 9 (.tuple #[.agg #[.slice none 0 0, .slice none 0 0], .int .i64 7]) (by kernel_rfl) rfl (by kernel_rfl) (by kernel_rfl) (by kernel_rfl) (by kernel_rfl) (hT6.pick [9] (by simp) rfl) rfl (fun _ _ => rfl) (fun Kv hK => ?_)
                    go_simp
                    refine hK _ ?_
                    clear hK Kv
                    refine pb_told 10 (.agg #[.slice none 0 0, .slice none 0 0]) (by kernel_rfl) rfl (by kernel_rfl) (by kernel_rfl) (by kernel_rfl) (by kernel_rfl) (hT6.pick [9] (by simp) rfl) rfl (fun _ _ => rfl) (fun Kv hK => ?_)
                    go_simp
                    refine hK _ ?_
                    clear hK Kv
                    refine pb_told 11 (.int .i64 7) (by kernel_rfl) rfl (by kernel_rfl) (by kernel_rfl) (by kernel_rfl) (by kernel_rfl) (hT6.pick [9] (by simp) rfl) rfl (fun _ _ => rfl) (fun Kv hK => ?_)
                    go_simp
                    refine hK _ ?_
                    clear hK Kv
                    refine pb_one 13 (by kernel_rfl) (by kernel_rfl) ?_
                    refine kOp_eff rfl rfl fun Kv hK => ?_
                    refine eff_store_row 50 _ _ rfl ub #[.slice none 0 0, .slice none 0 0] rfl rfl _ _ (hT6.blk 1 rfl) (by kernel_rfl) rfl (by simp [Value.oneCell']) (fun w27 ho4 hh4 => ?_)
                    have hT7 := hT6.only 1 rfl ho4 hh4
                    refine ⟨hT7.pick [9] (by simp) rfl, hK _ _ ?_⟩
                    clear hK Kv ho4 hh4 hT6
                    refine pb_end (by kernel_rfl) ?_
                    clear HCL HG2 HJ
                    have HU := Lib.hid (hT7.below)
                    clear hT7
                    go_wp2_with fail
                    go_meet
                    exact ⟨rfl, HU.out⟩
                · skip
                  refine kOp_eff rfl rfl fun Kv hK => ?_
                  go_simp
                  obtain ⟨ub, hub⟩ : ∃ ub, ub = w21.heap.size := ⟨_, rfl⟩
                  have hT2 := hT1.alloc #[.slice none 0 0, .slice none 0 0] 50
                  rw [← hub] at hT2 ⊢
                  obtain ⟨w22, hw_⟩ : ∃ w22, w22 = w21.alloc (.cells #[.slice none 0 0, .slice none 0 0] 50) := ⟨_, rfl⟩
                  rw [← hw_] at hT2 ⊢
                  refine ⟨hT2.pick [7] (by simp) rfl, hK _ _ ?_⟩
                  clear hK Kv hub hw_ hT1
                  refine pb_one 4 (by kernel_rfl) (by kernel_rfl) ?_
                  refine kOp_eff rfl rfl fun Kv hK => ?_
                  go_simp
                  obtain ⟨nb, hnb⟩ : ∃ nb, nb = w22.heap.size := ⟨_, rfl⟩
                  have hT3 := hT2.alloc #[.int .u8 m.fr, .int .u8 m.to, .int .i16 m.wt] 42
                  rw [← hnb] at hT3 ⊢
                  obtain ⟨w23, hw_⟩ : ∃ w23, w23 = w22.alloc (.cells #[.int .u8 m.fr, .int .u8 m.to, .int .i16 m.wt] 42) := ⟨_, rfl⟩
                  rw [← hw_] at hT3 ⊢
                  refine ⟨hT3.pick [8] (by simp) rfl, hK _ _ ?_⟩
                  clear hK Kv hnb hw_ hT2
                  refine pb_one 5 (by kernel_rfl) (by kernel_rfl) ?_
                  refine kOp_eff rfl rfl fun Kv hK => ?_
                  obtain ⟨v4, w24, hr4, hT4⟩ := run_append_from (P := Try.prog) 39 39 hT3 2 j0 (.agg #[.int .u8 0, .int .u8 0, .int .i16 0]) 3 4 Try.underlying39 HJ.out.1 HJ.out.2.1 HJ.out.2.2.1 HJ.out.2.2.2 rfl (by decide) _ l.length 1 1 (linkCells l) [.int .u8 m.fr, .int .u8 m.to, .int .i16 m.wt] rfl (by decide) ⟨nb, 0, none⟩ rfl (fun j u hu => by rw [Addr.add_mid, Nat.zero_add]; exact hT3.cell 0 rfl j (by simpa using hu)) (by simp [Value.oneCell']) (by omega) (by decide)
                  obtain ⟨A4, c4, rfl, _, _⟩ := (hT4.row 2 rfl).slice_
                  refine eff_append_run _ _ 39 rfl _ _ rfl rfl hr4 ?_
                  refine ⟨hT4.pick [8] (by simp) rfl, hK _ _ ?_⟩
                  clear hK Kv hr4 hT3
                  refine pb_one 6 (by kernel_rfl) (by kernel_rfl) ?_
                  refine kOp_eff rfl rfl fun Kv hK => ?_
                  go_simp
                  have hlk : Links w24 w24.heap.size A4 (l ++ [m]) := by
                    have hh := hT4.reads 2 rfl
                    rw [← linkCells_snoc] at hh
                    have e : (l ++ [m]).length = l.length + 1 := by simp
                    unfold Links
                    rw [e]
                    exact hh
                  refine eff_call (HG2.out _ _ _ hlk) (fun e w25 hc => ?_)
                  obtain ⟨v5, rfl, hc⟩ := hc
                  obtain ⟨A5, c5, rfl, _, _⟩ := (hc.row 0 rfl).slice_
                  have hT5 := hT4.join hc
                  left
                  refine ⟨_, rfl, hT5.pick [9] (by simp) rfl, hK _ _ ?_⟩
                  clear hK Kv hc hlk hT4
                  refine pb_one 8 (by kernel_rfl) (by kernel_rfl) ?_
                  refine kOp_eff rfl rfl fun Kv hK => ?_
                  go_simp
                  refine eff_call (HLG2.out.from_no (c := c5) (hT5.reads 0 rfl) HB2.out) (fun e w26 hc => ?_)
                  obtain ⟨rfl, hc⟩ := hc
                  have hT6 := hT5.call hc
                  left
                  refine ⟨_, rfl, hT6.pick [9] (by simp) rfl, hK _ _ ?_⟩
                  clear hK Kv hc hT5
                  refine pb_told 9 (.tuple #[.agg #[.slice none 0 0, .slice none 0 0], .int .i64 7]) (by kernel_rfl) rfl (by kernel_rfl) (by kernel_rfl) (by kernel_rfl) (by kernel_rfl) (hT6.pick [9] (by simp) rfl) rfl (fun _ _ => rfl) (fun Kv hK => ?_)
                  go_simp
                  refine hK _ ?_
                  clear hK Kv
                  refine pb_told 10 (.agg #[.slice none 0 0, .slice none 0 0]) (by kernel_rfl) rfl (by kernel_rfl) (by kernel_rfl) (by kernel_rfl) (by kernel_rfl) (hT6.pick [9] (by simp) rfl) rfl (fun _ _ => rfl) (fun Kv hK => ?_)
                  go_simp
                  refine hK _ ?_
                  clear hK Kv
                  refine pb_told 11 (.int .i64 7) (by kernel_rfl) rfl (by kernel_rfl) (by kernel_rfl) (by kernel_rfl) (by kernel_rfl) (hT6.pick [9] (by simp) rfl) rfl (fun _ _ => rfl) (fun Kv hK => ?_)
                  go_simp
                  refine hK _ ?_
                  clear hK Kv
                  refine pb_one 13 (by kernel_rfl) (by kernel_rfl) ?_
                  refine kOp_eff rfl rfl fun Kv hK => ?_
                  refine eff_store_row 50 _ _ rfl ub #[.slice none 0 0, .slice none 0 0] rfl rfl _ _ (hT6.blk 2 rfl) (by kernel_rfl) rfl (by simp [Value.oneCell']) (fun w27 ho4 hh4 => ?_)
                  have hT7 := hT6.only 2 rfl ho4 hh4
                  refine ⟨hT7.pick [9] (by simp) rfl, hK _ _ ?_⟩
                  clear hK Kv ho4 hh4 hT6
                  refine pb_end (by kernel_rfl) ?_
                  clear HCL HG2 HJ
                  have HU := Lib.hid (hT7.below)
                  clear hT7
                  go_wp2_with fail
                  go_meet
                  exact ⟨rfl, HU.out⟩
              · skip
                refine kOp_eff rfl rfl fun Kv hK => ?_
                go_simp
                obtain ⟨nb, hnb⟩ : ∃ nb, nb = w20.heap.size := ⟨_, rfl⟩
                have hT1 := hT0.alloc #[.int .u8 m.fr, .int .u8 m.to, .int .i16 m.wt] 42
                rw [← hnb] at hT1 ⊢
                obtain ⟨w21, hw_⟩ : ∃ w21, w21 = w20.alloc (.cells #[.int .u8 m.fr, .int .u8 m.to, .int .i16 m.wt] 42) := ⟨_, rfl⟩
                rw [← hw_] at hT1 ⊢
                refine ⟨hT1.pick [6] (by simp) rfl, hK _ _ ?_⟩
                clear hK Kv hnb hw_ hT0
                refine pb_two 2 12 (by kernel_rfl) (by kernel_rfl) (by kernel_rfl) ?_ ?_ 
                · skip
                  refine kOp_eff rfl rfl fun Kv hK => ?_
                  go_simp
                  refine eff_call (HCL.out _ hT1.below) (fun e w22 hc => ?_)
                  obtain ⟨v3, rfl, hc⟩ := hc
                  obtain ⟨A3, c3, rfl, _, _⟩ := (hc.row 0 rfl).slice_
                  have hT2 := hT1.join hc
                  left
                  refine ⟨_, rfl, hT2.pick [7] (by simp) rfl, hK _ _ ?_⟩
                  clear hK Kv hc hT1
                  refine pb_two 5 12 (by kernel_rfl) (by kernel_rfl) (by kernel_rfl) ?_ ?_ 
                  · skip
                    refine kOp_eff rfl rfl fun Kv hK => ?_
                    obtain ⟨v4, w23, hr4, hT3⟩ := run_append_from (P := Try.prog) 39 39 hT2 0 j0 (.agg #[.int .u8 0, .int .u8 0, .int .i16 0]) 3 4 Try.underlying39 HJ.out.1 HJ.out.2.1 HJ.out.2.2.1 HJ.out.2.2.2 rfl (by decide) _ l.length 1 1 (linkCells l) [.int .u8 m.fr, .int .u8 m.to, .int .i16 m.wt] rfl (by decide) ⟨nb, 0, none⟩ rfl (fun j u hu => by rw [Addr.add_mid, Nat.zero_add]; exact hT2.cell 1 rfl j (by simpa using hu)) (by simp [Value.oneCell']) (by omega) (by decide)
                    obtain ⟨A4, c4, rfl, _, _⟩ := (hT3.row 0 rfl).slice_
                    refine eff_append_run _ _ 39 rfl _ _ rfl rfl hr4 ?_
                    refine ⟨hT3.pick [7] (by simp) rfl, hK _ _ ?_⟩
                    clear hK Kv hr4 hT2
                    refine pb_two 6 12 (by kernel_rfl) (by kernel_rfl) (by kernel_rfl) ?_ ?_ 
                    · skip
                      refine kOp_eff rfl rfl fun Kv hK => ?_
                      go_simp
                      have hlk : Links w23 w23.heap.size A4 (l ++ [m]) := by
                        have hh := hT3.reads 0 rfl
                        rw [← linkCells_snoc] at hh
                        have e : (l ++ [m]).length = l.length + 1 := by simp
                        unfold Links
                        rw [e]
                        exact hh
                      refine eff_call (HG2.out _ _ _ hlk) (fun e w24 hc => ?_)
                      obtain ⟨v5, rfl, hc⟩ := hc
                      obtain ⟨A5, c5, rfl, _, _⟩ := (hc.row 0 rfl).slice_
                      have hT4 := hT3.join hc
                      left
                      refine ⟨_, rfl, hT4.pick [8] (by simp) rfl, hK _ _ ?_⟩
                      clear hK Kv hc hlk hT3
                      refine pb_two 8 12 (by kernel_rfl) (by kernel_rfl) (by kernel_rfl) ?_ ?_ 
                      · skip
                        refine kOp_eff rfl rfl fun Kv hK => ?_
                        go_simp
                        refine eff_call (HLG2.out.from_no (c := c5) (hT4.reads 0 rfl) HB2.out) (fun e w25 hc => ?_)
                        obtain ⟨rfl, hc⟩ := hc
                        have hT5 := hT4.call hc
                        left
                        refine ⟨_, rfl, hT5.pick [8] (by simp) rfl, hK _ _ ?_⟩
                        clear hK Kv hc hT4
                        refine pb_told 9 (.tuple #[.agg #[.slice none 0 0, .slice none 0 0], .int .i64 7]) (by kernel_rfl) rfl (by kernel_rfl) (by kernel_rfl) (by kernel_rfl) (by kernel_rfl) (hT5.pick [8] (by simp) rfl) rfl (fun _ _ => rfl) (fun Kv hK => ?_)
                        go_simp
                        refine hK _ ?_
                        clear hK Kv
                        refine pb_told 10 (.agg #[.slice none 0 0, .slice none 0 0]) (by kernel_rfl) rfl (by kernel_rfl) (by kernel_rfl) (by kernel_rfl) (by kernel_rfl) (hT5.pick [8] (by simp) rfl) rfl (fun _ _ => rfl) (fun Kv hK => ?_)
                        go_simp
                        refine hK _ ?_
                        clear hK Kv
                        refine pb_told 11 (.int .i64 7) (by kernel_rfl) rfl (by kernel_rfl) (by kernel_rfl) (by kernel_rfl) (by kernel_rfl) (hT5.pick [8] (by simp) rfl) rfl (fun _ _ => rfl) (fun Kv hK => ?_)
                        go_simp
                        refine hK _ ?_
                        clear hK Kv
                        refine pb_one 12 (by kernel_rfl) (by kernel_rfl) ?_
                        refine kOp_eff rfl rfl fun Kv hK => ?_
                        go_simp
                        obtain ⟨ub, hub⟩ : ∃ ub, ub = w25.heap.size := ⟨_, rfl⟩
                        have hT6 := hT5.alloc #[.slice none 0 0, .slice none 0 0] 50
                        rw [← hub] at hT6 ⊢
                        obtain ⟨w26, hw_⟩ : ∃ w26, w26 = w25.alloc (.cells #[.slice none 0 0, .slice none 0 0] 50) := ⟨_, rfl⟩
                        rw [← hw_] at hT6 ⊢
                        refine ⟨hT6.pick [9] (by simp) rfl, hK _ _ ?_⟩
                        clear hK Kv hub hw_ hT5
                        refine pb_one 13 (by kernel_rfl) (by kernel_rfl) ?_
                        refine kOp_eff rfl rfl fun Kv hK => ?_
                        refine eff_store_row 50 _ _ rfl ub #[.slice none 0 0, .slice none 0 0] rfl rfl _ _ (hT6.blk 0 rfl) (by kernel_rfl) rfl (by simp [Value.oneCell']) (fun w27 ho4 hh4 => ?_)
                        have hT7 := hT6.only 0 rfl ho4 hh4
                        refine ⟨hT7.pick [9] (by simp) rfl, hK _ _ ?_⟩
                        clear hK Kv ho4 hh4 hT6
                        refine pb_end (by kernel_rfl) ?_
                        clear HCL HG2 HJ
                        have HU := Lib.hid (hT7.below)
                        clear hT7
                        go_wp2_with fail
                        go_meet
                        exact ⟨rfl, HU.out⟩
                      · skip
                        refine kOp_eff rfl rfl fun Kv hK => ?_
                        go_simp
                        obtain ⟨ub, hub⟩ : ∃ ub, ub = w24.heap.size := ⟨_, rfl⟩
                        have hT5 := hT4.alloc #[.slice none 0 0, .slice none 0 0] 50
                        rw [← hub] at hT5 ⊢
                        obtain ⟨w25, hw_⟩ : ∃ w25, w25 = w24.alloc (.cells #[.slice none 0 0, .slice none 0 0] 50) := ⟨_, rfl⟩
                        rw [← hw_] at hT5 ⊢
                        refine ⟨hT5.pick [9] (by simp) rfl, hK _ _ ?_⟩
                        clear hK Kv hub hw_ hT4
                        refine pb_one 8 (by kernel_rfl) (by kernel_rfl) ?_
                        refine kOp_eff rfl rfl fun Kv hK => ?_
                        go_simp
                        refine eff_call (HLG2.out.from_no (c := c5) (hT5.reads 1 rfl) HB2.out) (fun e w26 hc => ?_)
                        obtain ⟨rfl, hc⟩ := hc
                        have hT6 := hT5.call hc
                        left
                        refine ⟨_, rfl, hT6.pick [9] (by simp) rfl, hK _ _ ?_⟩
                        clear hK Kv hc hT5
                        refine pb_told 9 (.tuple #[.agg #[.slice none 0 0, .slice none 0 0], .int .i64 7]) (by kernel_rfl) rfl (by kernel_rfl) (by kernel_rfl) (by kernel_rfl) (by kernel_rfl) (hT6.pick [9] (by simp) rfl) rfl (fun _ _ => rfl) (fun Kv hK => ?_)
                        go_simp
                        refine hK _ ?_
                        clear hK Kv
                        refine pb_told 10 (.agg #[.slice none 0 0, .slice none 0 0]) (by kernel_rfl) rfl (by kernel_rfl) (by kernel_rfl) (by kernel_rfl) (by kernel_rfl) (hT6.pick [9] (by simp) rfl) rfl (fun _ _ => rfl) (fun Kv hK => ?_)
                        go_simp
                        refine hK _ ?_
                        clear hK Kv
                        refine pb_told 11 (.int .i64 7) (by kernel_rfl) rfl (by kernel_rfl) (by kernel_rfl) (by kernel_rfl) (by kernel_rfl) (hT6.pick [9] (by simp) rfl) rfl (fun _ _ => rfl) (fun Kv hK => ?_)
                        go_simp
                        refine hK _ ?_
                        clear hK Kv
                        refine pb_one 13 (by kernel_rfl) (by kernel_rfl) ?_
                        refine kOp_eff rfl rfl fun Kv hK => ?_
                        refine eff_store_row 50 _ _ rfl ub #[.slice none 0 0, .slice none 0 0] rfl rfl _ _ (hT6.blk 0 rfl) (by kernel_rfl) rfl (by simp [Value.oneCell']) (fun w27 ho4 hh4 => ?_)
                        have hT7 := hT6.only 0 rfl ho4 hh4
                        refine ⟨hT7.pick [9] (by simp) rfl, hK _ _ ?_⟩
                        clear hK Kv ho4 hh4 hT6
                        refine pb_end (by kernel_rfl) ?_
                        clear HCL HG2 HJ
                        have HU := Lib.hid (hT7.below)
                        clear hT7
                        go_wp2_with fail
                        go_meet
                        exact ⟨rfl, HU.out⟩
                    · skip
                      refine kOp_eff rfl rfl fun Kv hK => ?_
                      go_simp
                      obtain ⟨ub, hub⟩ : ∃ ub, ub = w23.heap.size := ⟨_, rfl⟩
                      have hT4 := hT3.alloc #[.slice none 0 0, .slice none 0 0] 50
                      rw [← hub] at hT4 ⊢
                      obtain ⟨w24, hw_⟩ : ∃ w24, w24 = w23.alloc (.cells #[.slice none 0 0, .slice none 0 0] 50) := ⟨_, rfl⟩
                      rw [← hw_] at hT4 ⊢
                      refine ⟨hT4.pick [8] (by simp) rfl, hK _ _ ?_⟩
                      clear hK Kv hub hw_ hT3
                      refine pb_one 6 (by kernel_rfl) (by kernel_rfl) ?_
                      refine kOp_eff rfl rfl fun Kv hK => ?_
                      go_simp
                      have hlk : Links w24 w24.heap.size A4 (l ++ [m]) := by
                        have hh := hT4.reads 1 rfl
                        rw [← linkCells_snoc] at hh
                        have e : (l ++ [m]).length = l.length + 1 := by simp
                        unfold Links
                        rw [e]
                        exact hh
                      refine eff_call (HG2.out _ _ _ hlk) (fun e w25 hc => ?_)
                      obtain ⟨v5, rfl, hc⟩ := hc
                      obtain ⟨A5, c5, rfl, _, _⟩ := (hc.row 0 rfl).slice_
                      have hT5 := hT4.join hc
                      left
                      refine ⟨_, rfl, hT5.pick [9] (by simp) rfl, hK _ _ ?_⟩
                      clear hK Kv hc hlk hT4
                      refine pb_one 8 (by kernel_rfl) (by kernel_rfl) ?_
                      refine kOp_eff rfl rfl fun Kv hK => ?_
                      go_simp
                      refine eff_call (HLG2.out.from_no (c := c5) (hT5.reads 0 rfl) HB2.out) (fun e w26 hc => ?_)
                      obtain ⟨rfl, hc⟩ := hc
                      have hT6 := hT5.call hc
                      left
                      refine ⟨_, rfl, hT6.pick [9] (by simp) rfl, hK _ _ ?_⟩
                      clear hK Kv hc hT5
                      refine pb_told 9 (.tuple #[.agg #[.slice none 0 0, .slice none 0 0], .int .i64 7]) (by kernel_rfl) rfl (by kernel_rfl) (by kernel_rfl) (by kernel_rfl) (by kernel_rfl) (hT6.pick [9] (by simp) rfl) rfl (fun _ _ => rfl) (fun Kv hK => ?_)
                      go_simp
                      refine hK _ ?_
                      clear hK Kv
                      refine pb_told 10 (.agg #[.slice none 0 0, .slice none 0 0]) (by kernel_rfl) rfl (by kernel_rfl) (by kernel_rfl) (by kernel_rfl) (by kernel_rfl) (hT6.pick [9] (by simp) rfl) rfl (fun _ _ => rfl) (fun Kv hK => ?_)
                      go_simp
                      refine hK _ ?_
                      clear hK Kv
                      refine pb_told 11 (.int .i64 7) (by kernel_rfl) rfl (by kernel_rfl) (by kernel_rfl) (by kernel_rfl) (by kernel_rfl) (hT6.pick [9] (by simp) rfl) rfl (fun _ _ => rfl) (fun Kv hK => ?_)
                      go_simp
                      refine hK _ ?_
                      clear hK Kv
                      refine pb_one 13 (by kernel_rfl) (by kernel_rfl) ?_
                      refine kOp_eff rfl rfl fun Kv hK => ?_
                      refine eff_store_row 50 _ _ rfl ub #[.slice none 0 0, .slice none 0 0] rfl rfl _ _ (hT6.blk 1 rfl) (by kernel_rfl) rfl (by simp [Value.oneCell']) (fun w27 ho4 hh4 => ?_)
                      have hT7 := hT6.only 1 rfl ho4 hh4
                      refine ⟨hT7.pick [9] (by simp) rfl, hK _ _ ?_⟩
                      clear hK Kv ho4 hh4 hT6
                      refine pb_end (by kernel_rfl) ?_
                      clear HCL HG2 HJ
                      have HU := Lib.hid (hT7.below)
                      clear hT7
                      go_wp2_with fail
                      go_meet
                      exact ⟨rfl, HU.out⟩
                  · skip
                    refine kOp_eff rfl rfl fun Kv hK => ?_
                    go_simp
                    obtain ⟨ub, hub⟩ : ∃ ub, ub = w22.heap.size := ⟨_, rfl⟩
                    have hT3 := hT2.alloc #[.slice none 0 0, .slice none 0 0] 50
                    rw [← hub] at hT3 ⊢
                    obtain ⟨w23, hw_⟩ : ∃ w23, w23 = w22.alloc (.cells #[.slice none 0 0, .slice none 0 0] 50) := ⟨_, rfl⟩
                    rw [← hw_] at hT3 ⊢
                    refine ⟨hT3.pick [8] (by simp) rfl, hK _ _ ?_⟩
                    clear hK Kv hub hw_ hT2
                    refine pb_one 5 (by kernel_rfl) (by kernel_rfl) ?_
                    refine kOp_eff rfl rfl fun Kv hK => ?_
                    obtain ⟨v4, w24, hr4, hT4⟩ := run_append_from (P := Try.prog) 39 39 hT3 1 j0 (.agg #[.int .u8 0, .int .u8 0, .int .i16 0]) 3 4 Try.underlying39 HJ.out.1 HJ.out.2.1 HJ.out.2.2.1 HJ.out.2.2.2 rfl (by decide) _ l.length 1 1 (linkCells l) [.int .u8 m.fr, .int .u8 m.to, .int .i16 m.wt] rfl (by decide) ⟨nb, 0, none⟩ rfl (fun j u hu => by rw [Addr.add_mid, Nat.zero_add]; exact hT3.cell 2 rfl j (by simpa using hu)) (by simp [Value.oneCell']) (by omega) (by decide)
                    obtain ⟨A4, c4, rfl, _, _⟩ := (hT4.row 1 rfl).slice_
                    refine eff_append_run _ _ 39 rfl _ _ rfl rfl hr4 ?_
                    refine ⟨hT4.pick [8] (by simp) rfl, hK _ _ ?_⟩
                    clear hK Kv hr4 hT3
                    refine pb_one 6 (by kernel_rfl) (by kernel_rfl) ?_
                    refine kOp_eff rfl rfl fun Kv hK => ?_
                    go_simp
                    have hlk : Links w24 w24.heap.size A4 (l ++ [m]) := by
                      have hh := hT4.reads 1 rfl
                      rw [← linkCells_snoc] at hh
                      have e : (l ++ [m]).length = l.length + 1 := by simp
                      unfold Links
                      rw [e]
                      exact hh
                    refine eff_call (HG2.out _ _ _ hlk) (fun e w25 hc => ?_)
                    obtain ⟨v5, rfl, hc⟩ := hc
                    obtain ⟨A5, c5, rfl, _, _⟩ := (hc.row 0 rfl).slice_
                    have hT5 := hT4.join hc
                    left
                    refine ⟨_, rfl, hT5.pick [9] (by simp) rfl, hK _ _ ?_⟩
                    clear hK Kv hc hlk hT4
                    refine pb_one 8 (by kernel_rfl) (by kernel_rfl) ?_
                    refine kOp_eff rfl rfl fun Kv hK => ?_
                    go_simp
                    refine eff_call (HLG2.out.from_no (c := c5) (hT5.reads 0 rfl) HB2.out) (fun e w26 hc => ?_)
                    obtain ⟨rfl, hc⟩ := hc
                    have hT6 := hT5.call hc
                    left
                    refine ⟨_, rfl, hT6.pick [9] (by simp) rfl, hK _ _ ?_⟩
                    clear hK Kv hc hT5
                    refine pb_told 9 (.tuple #[.agg #[.slice none 0 0, .slice none 0 0], .int .i64 7]) (by kernel_rfl) rfl (by kernel_rfl) (by kernel_rfl) (by kernel_rfl) (by kernel_rfl) (hT6.pick [9] (by simp) rfl) rfl (fun _ _ => rfl) (fun Kv hK => ?_)
                    go_simp
                    refine hK _ ?_
                    clear hK Kv
                    refine pb_told 10 (.agg #[.slice none 0 0, .slice none 0 0]) (by kernel_rfl) rfl (by kernel_rfl) (by kernel_rfl) (by kernel_rfl) (by kernel_rfl) (hT6.pick [9] (by simp) rfl) rfl (fun _ _ => rfl) (fun Kv hK => ?_)
                    go_simp
                    refine hK _ ?_
                    clear hK Kv
                    refine pb_told 11 (.int .i64 7) (by kernel_rfl) rfl (by kernel_rfl) (by kernel_rfl) (by kernel_rfl) (by kernel_rfl) (hT6.pick [9] (by simp) rfl) rfl (fun _ _ => rfl) (fun Kv hK => ?_)
                    go_simp
                    refine hK _ ?_
                    clear hK Kv
                    refine pb_one 13 (by kernel_rfl) (by kernel_rfl) ?_
                    refine kOp_eff rfl rfl fun Kv hK => ?_
                    refine eff_store_row 50 _ _ rfl ub #[.slice none 0 0, .slice none 0 0] rfl rfl _ _ (hT6.blk 1 rfl) (by kernel_rfl) rfl (by simp [Value.oneCell']) (fun w27 ho4 hh4 => ?_)
                    have hT7 := hT6.only 1 rfl ho4 hh4
                    refine ⟨hT7.pick [9] (by simp) rfl, hK _ _ ?_⟩
                    clear hK Kv ho4 hh4 hT6
                    refine pb_end (by kernel_rfl) ?_
                    clear HCL HG2 HJ
                    have HU := Lib.hid (hT7.below)
                    clear hT7
                    go_wp2_with fail
                    go_meet
                    exact ⟨rfl, HU.out⟩
                · skip
                  refine kOp_eff rfl rfl fun Kv hK => ?_
                  go_simp
                  obtain ⟨ub, hub⟩ : ∃ ub, ub = w21.heap.size := ⟨_, rfl⟩
                  have hT2 := hT1.alloc #[.slice none 0 0, .slice none 0 0] 50
                  rw [← hub] at hT2 ⊢
                  obtain ⟨w22, hw_⟩ : ∃ w22, w22 = w21.alloc (.cells #[.slice none 0 0, .slice none 0 0] 50) := ⟨_, rfl⟩
                  rw [← hw_] at hT2 ⊢
                  refine ⟨hT2.pick [7] (by simp) rfl, hK _ _ ?_⟩
                  clear hK Kv hub hw_ hT1
                  refine pb_one 2 (by kernel_rfl) (by kernel_rfl) ?_
                  refine kOp_eff rfl rfl fun Kv hK => ?_
                  go_simp
                  refine eff_call (HCL.out _ hT2.below) (fun e w23 hc => ?_)
                  obtain ⟨v3, rfl, hc⟩ := hc
                  obtain ⟨A3, c3, rfl, _, _⟩ := (hc.row 0 rfl).slice_
                  have hT3 := hT2.join hc
                  left
                  refine ⟨_, rfl, hT3.pick [8] (by simp) rfl, hK _ _ ?_⟩
                  clear hK Kv hc hT2
                  refine pb_one 5 (by kernel_rfl) (by kernel_rfl) ?_
                  refine kOp_eff rfl rfl fun Kv hK => ?_
                  obtain ⟨v4, w24, hr4, hT4⟩ := run_append_from (P := Try.prog) 39 39 hT3 0 j0 (.agg #[.int .u8 0, .int .u8 0, .int .i16 0]) 3 4 Try.underlying39 HJ.out.1 HJ.out.2.1 HJ.out.2.2.1 HJ.out.2.2.2 rfl (by decide) _ l.length 1 1 (linkCells l) [.int .u8 m.fr, .int .u8 m.to, .int .i16 m.wt] rfl (by decide) ⟨nb, 0, none⟩ rfl (fun j u hu => by rw [Addr.add_mid, Nat.zero_add]; exact hT3.cell 2 rfl j (by simpa using hu)) (by simp [Value.oneCell']) (by omega) (by decide)
                  obtain ⟨A4, c4, rfl, _, _⟩ := (hT4.row 0 rfl).slice_
                  refine eff_append_run _ _ 39 rfl _ _ rfl rfl hr4 ?_
                  refine ⟨hT4.pick [8] (by simp) rfl, hK _ _ ?_⟩
                  clear hK Kv hr4 hT3
                  refine pb_one 6 (by kernel_rfl) (by kernel_rfl) ?_
                  refine kOp_eff rfl rfl fun Kv hK => ?_
                  go_simp
                  have hlk : Links w24 w24.heap.size A4 (l ++ [m]) := by
                    have hh := hT4.reads 0 rfl
                    rw [← linkCells_snoc] at hh
                    have e : (l ++ [m]).length = l.length + 1 := by simp
                    unfold Links
                    rw [e]
                    exact hh
                  refine eff_call (HG2.out _ _ _ hlk) (fun e w25 hc => ?_)
                  obtain ⟨v5, rfl, hc⟩ := hc
                  obtain ⟨A5, c5, rfl, _, _⟩ := (hc.row 0 rfl).slice_
                  have hT5 := hT4.join hc
                  left
                  refine ⟨_, rfl, hT5.pick [9] (by simp) rfl, hK _ _ ?_⟩
                  clear hK Kv hc hlk hT4
                  refine pb_one 8 (by kernel_rfl) (by kernel_rfl) ?_
                  refine kOp_eff rfl rfl fun Kv hK => ?_
                  go_simp
                  refine eff_call (HLG2.out.from_no (c := c5) (hT5.reads 0 rfl) HB2.out) (fun e w26 hc => ?_)
                  obtain ⟨rfl, hc⟩ := hc
                  have hT6 := hT5.call hc
                  left
                  refine ⟨_, rfl, hT6.pick [9] (by simp) rfl, hK _ _ ?_⟩
                  clear hK Kv hc hT5
                  refine pb_told 9 (.tuple #[.agg #[.slice none 0 0, .slice none 0 0], .int .i64 7]) (by kernel_rfl) rfl (by kernel_rfl) (by kernel_rfl) (by kernel_rfl) (by kernel_rfl) (hT6.pick [9] (by simp) rfl) rfl (fun _ _ => rfl) (fun Kv hK => ?_)
                  go_simp
                  refine hK _ ?_
                  clear hK Kv
                  refine pb_told 10 (.agg #[.slice none 0 0, .slice none 0 0]) (by kernel_rfl) rfl (by kernel_rfl) (by kernel_rfl) (by kernel_rfl) (by kernel_rfl) (hT6.pick [9] (by simp) rfl) rfl (fun _ _ => rfl) (fun Kv hK => ?_)
                  go_simp
                  refine hK _ ?_
                  clear hK Kv
                  refine pb_told 11 (.int .i64 7) (by kernel_rfl) rfl (by kernel_rfl) (by kernel_rfl) (by kernel_rfl) (by kernel_rfl) (hT6.pick [9] (by simp) rfl) rfl (fun _ _ => rfl) (fun Kv hK => ?_)
                  go_simp
                  refine hK _ ?_
                  clear hK Kv
                  refine pb_one 13 (by kernel_rfl) (by kernel_rfl) ?_
                  refine kOp_eff rfl rfl fun Kv hK => ?_
                  refine eff_store_row 50 _ _ rfl ub #[.slice none 0 0, .slice none 0 0] rfl rfl _ _ (hT6.blk 2 rfl) (by kernel_rfl) rfl (by simp [Value.oneCell']) (fun w27 ho4 hh4 => ?_)
                  have hT7 := hT6.only 2 rfl ho4 hh4
                  refine ⟨hT7.pick [9] (by simp) rfl, hK _ _ ?_⟩
                  clear hK Kv ho4 hh4 hT6
                  refine pb_end (by kernel_rfl) ?_
                  clear HCL HG2 HJ
                  have HU := Lib.hid (hT7.below)
                  clear hT7
                  go_wp2_with fail
                  go_meet
                  exact ⟨rfl, HU.out⟩
              · skip
                refine kOp_eff rfl rfl fun Kv hK => ?_
                go_simp
                obtain ⟨ub, hub⟩ : ∃ ub, ub = w20.heap.size := ⟨_, rfl⟩
                have hT1 := hT0.alloc #[.slice none 0 0, .slice none 0 0] 50
                rw [← hub] at hT1 ⊢
                obtain ⟨w21, hw_⟩ : ∃ w21, w21 = w20.alloc (.cells #[.slice none 0 0, .slice none 0 0] 50) := ⟨_, rfl⟩
                rw [← hw_] at hT1 ⊢
                refine ⟨hT1.pick [6] (by simp) rfl, hK _ _ ?_⟩
                clear hK Kv hub hw_ hT0
                refine pb_two 2 4 (by kernel_rfl) (by kernel_rfl) (by kernel_rfl) ?_ ?_ 
                · skip
                  refine kOp_eff rfl rfl fun Kv hK => ?_
                  go_simp
                  refine eff_call (HCL.out _ hT1.below) (fun e w22 hc => ?_)
                  obtain ⟨v3, rfl, hc⟩ := hc
                  obtain ⟨A3, c3, rfl, _, _⟩ := (hc.row 0 rfl).slice_
                  have hT2 := hT1.join hc
                  left
                  refine ⟨_, rfl, hT2.pick [7] (by simp) rfl, hK _ _ ?_⟩
                  clear hK Kv hc hT1
                  refine pb_one 4 (by kernel_rfl) (by kernel_rfl) ?_
                  refine kOp_eff rfl rfl fun Kv hK => ?_
                  go_simp
                  obtain ⟨nb, hnb⟩ : ∃ nb, nb = w22.heap.size := ⟨_, rfl⟩
                  have hT3 := hT2.alloc #[.int .u8 m.fr, .int .u8 m.to, .int .i16 m.wt] 42
                  rw [← hnb] at hT3 ⊢
                  obtain ⟨w23, hw_⟩ : ∃ w23, w23 = w22.alloc (.cells #[.int .u8 m.fr, .int .u8 m.to, .int .i16 m.wt] 42) := ⟨_, rfl⟩
                  rw [← hw_] at hT3 ⊢
                  refine ⟨hT3.pick [8] (by simp) rfl, hK _ _ ?_⟩
                  clear hK Kv hnb hw_ hT2
                  refine pb_one 5 (by kernel_rfl) (by kernel_rfl) ?_
                  refine kOp_eff rfl rfl fun Kv hK => ?_
                  obtain ⟨v4, w24, hr4, hT4⟩ := run_append_from (P := Try.prog) 39 39 hT3 1 j0 (.agg #[.int .u8 0, .int .u8 0, .int .i16 0]) 3 4 Try.underlying39 HJ.out.1 HJ.out.2.1 HJ.out.2.2.1 HJ.out.2.2.2 rfl (by decide) _ l.length 1 1 (linkCells l) [.int .u8 m.fr, .int .u8 m.to, .int .i16 m.wt] rfl (by decide) ⟨nb, 0, none⟩ rfl (fun j u hu => by rw [Addr.add_mid, Nat.zero_add]; exact hT3.cell 0 rfl j (by simpa using hu)) (by simp [Value.oneCell']) (by omega) (by decide)
                  obtain ⟨A4, c4, rfl, _, _⟩ := (hT4.row 1 rfl).slice_
                  refine eff_append_run _ _ 39 rfl _ _ rfl rfl hr4 ?_
                  refine ⟨hT4.pick [8] (by simp) rfl, hK _ _ ?_⟩
                  clear hK Kv hr4 hT3
                  refine pb_one 6 (by kernel_rfl) (by kernel_rfl) ?_
                  refine kOp_eff rfl rfl fun Kv hK => ?_
                  go_simp
                  have hlk : Links w24 w24.heap.size A4 (l ++ [m]) := by
                    have hh := hT4.reads 1 rfl
                    rw [← linkCells_snoc] at hh
                    have e : (l ++ [m]).length = l.length + 1 := by simp
                    unfold Links
                    rw [e]
                    exact hh
                  refine eff_call (HG2.out _ _ _ hlk) (fun e w25 hc => ?_)
                  obtain ⟨v5, rfl, hc⟩ := hc
                  obtain ⟨A5, c5, rfl, _, _⟩ := (hc.row 0 rfl).slice_
                  have hT5 := hT4.join hc
                  left
                  refine ⟨_, rfl, hT5.pick [9] (by simp) rfl, hK _ _ ?_⟩
                  clear hK Kv hc hlk hT4
                  refine pb_one 8 (by kernel_rfl) (by kernel_rfl) ?_
                  refine kOp_eff rfl rfl fun Kv hK => ?_
                  go_simp
                  refine eff_call (HLG2.out.from_no (c := c5) (hT5.reads 0 rfl) HB2.out) (fun e w26 hc => ?_)
                  obtain ⟨rfl, hc⟩ := hc
                  have hT6 := hT5.call hc
                  left
                  refine ⟨_, rfl, hT6.pick [9] (by simp) rfl, hK _ _ ?_⟩
                  clear hK Kv hc hT5
                  refine pb_told 9 (.tuple #[.agg #[.slice none 0 0, .slice none 0 0], .int .i64 7]) (by kernel_rfl) rfl (by kernel_rfl) (by kernel_rfl) (by kernel_rfl) (by kernel_rfl) (hT6.pick [9] (by simp) rfl) rfl (fun _ _ => rfl) (fun Kv hK => ?_)
                  go_simp
                  refine hK _ ?_
                  clear hK Kv
                  refine pb_told 10 (.agg #[.slice none 0 0, .slice none 0 0]) (by kernel_rfl) rfl (by kernel_rfl) (by kernel_rfl) (by kernel_rfl) (by kernel_rfl) (hT6.pick [9] (by simp) rfl) rfl (fun _ _ => rfl) (fun Kv hK => ?_)
                  go_simp
                  refine hK _ ?_
                  clear hK Kv
                  refine pb_told 11 (.int .i64 7) (by kernel_rfl) rfl (by kernel_rfl) (by kernel_rfl) (by kernel_rfl) (by kernel_rfl) (hT6.pick [9] (by simp) rfl) rfl (fun _ _ => rfl) (fun Kv hK => ?_)
                  go_simp
                  refine hK _ ?_
                  clear hK Kv
                  refine pb_one 13 (by kernel_rfl) (by kernel_rfl) ?_
                  refine kOp_eff rfl rfl fun Kv hK => ?_
                  refine eff_store_row 50 _ _ rfl ub #[.slice none 0 0, .slice none 0 0] rfl rfl _ _ (hT6.blk 3 rfl) (by kernel_rfl) rfl (by simp [Value.oneCell']) (fun w27 ho4 hh4 => ?_)
                  have hT7 := hT6.only 3 rfl ho4 hh4
                  refine ⟨hT7.pick [9] (by simp) rfl, hK _ _ ?_⟩
                  clear hK Kv ho4 hh4 hT6
                  refine pb_end (by kernel_rfl) ?_
                  clear HCL HG2 HJ
                  have HU := Lib.hid (hT7.below)
                  clear hT7
                  go_wp2_with fail
                  go_meet
                  exact ⟨rfl, HU.out⟩
                · skip
                  refine kOp_eff rfl rfl fun Kv hK => ?_
                  go_simp
                  obtain ⟨nb, hnb⟩ : ∃ nb, nb = w21.heap.size := ⟨_, rfl⟩
                  have hT2 := hT1.alloc #[.int .u8 m.fr, .int .u8 m.to, .int .i16 m.wt] 42
                  rw [← hnb] at hT2 ⊢
                  obtain ⟨w22, hw_⟩ : ∃ w22, w22 = w21.alloc (.cells #[.int .u8 m.fr, .int .u8 m.to, .int .i16 m.wt] 42) := ⟨_, rfl⟩
                  rw [← hw_] at hT2 ⊢
                  refine ⟨hT2.pick [7] (by simp) rfl, hK _ _ ?_⟩
                  clear hK Kv hnb hw_ hT1
                  refine pb_one 2 (by kernel_rfl) (by kernel_rfl) ?_
                  refine kOp_eff rfl rfl fun Kv hK => ?_
                  go_simp
                  refine eff_call (HCL.out _ hT2.below) (fun e w23 hc => ?_)
                  obtain ⟨v3, rfl, hc⟩ := hc
                  obtain ⟨A3, c3, rfl, _, _⟩ := (hc.row 0 rfl).slice_
                  have hT3 := hT2.join hc
                  left
                  refine ⟨_, rfl, hT3.pick [8] (by simp) rfl, hK _ _ ?_⟩
                  clear hK Kv hc hT2
                  refine pb_one 5 (by kernel_rfl) (by kernel_rfl) ?_
                  refine kOp_eff rfl rfl fun Kv hK => ?_
                  obtain ⟨v4, w24, hr4, hT4⟩ := run_append_from (P := Try.prog) 39 39 hT3 0 j0 (.agg #[.int .u8 0, .int .u8 0, .int .i16 0]) 3 4 Try.underlying39 HJ.out.1 HJ.out.2.1 HJ.out.2.2.1 HJ.out.2.2.2 rfl (by decide) _ l.length 1 1 (linkCells l) [.int .u8 m.fr, .int .u8 m.to, .int .i16 m.wt] rfl (by decide) ⟨nb, 0, none⟩ rfl (fun j u hu => by rw [Addr.add_mid, Nat.zero_add]; exact hT3.cell 1 rfl j (by simpa using hu)) (by simp [Value.oneCell']) (by omega) (by decide)
                  obtain ⟨A4, c4, rfl, _, _⟩ := (hT4.row 0 rfl).slice_
                  refine eff_append_run _ _ 39 rfl _ _ rfl rfl hr4 ?_
                  refine ⟨hT4.pick [8] (by simp) rfl, hK _ _ ?_⟩
                  clear hK Kv hr4 hT3
                  refine pb_one 6 (by kernel_rfl) (by kernel_rfl) ?_
                  refine kOp_eff rfl rfl fun Kv hK => ?_
                  go_simp
                  have hlk : Links w24 w24.heap.size A4 (l ++ [m]) := by
                    have hh := hT4.reads 0 rfl
                    rw [← linkCells_snoc] at hh
                    have e : (l ++ [m]).length = l.length + 1 := by simp
                    unfold Links
                    rw [e]
                    exact hh
                  refine eff_call (HG2.out _ _ _ hlk) (fun e w25 hc => ?_)
                  obtain ⟨v5, rfl, hc⟩ := hc
                  obtain ⟨A5, c5, rfl, _, _⟩ := (hc.row 0 rfl).slice_
                  have hT5 := hT4.join hc
                  left
                  refine ⟨_, rfl, hT5.pick [9] (by simp) rfl, hK _ _ ?_⟩
                  clear hK Kv hc hlk hT4
                  refine pb_one 8 (by kernel_rfl) (by kernel_rfl) ?_
                  refine kOp_eff rfl rfl fun Kv hK => ?_
                  go_simp
                  refine eff_call (HLG2.out.from_no (c := c5) (hT5.reads 0 rfl) HB2.out) (fun e w26 hc => ?_)
                  obtain ⟨rfl, hc⟩ := hc
                  have hT6 := hT5.call hc
                  left
                  refine ⟨_, rfl, hT6.pick [9] (by simp) rfl, hK _ _ ?_⟩
                  clear hK Kv hc hT5
                  refine pb_told 9 (.tuple #[.agg #[.slice none 0 0, .slice none 0 0], .int .i64 7]) (by kernel_rfl) rfl (by kernel_rfl) (by kernel_rfl) (by kernel_rfl) (by kernel_rfl) (hT6.pick [9] (by simp) rfl) rfl (fun _ _ => rfl) (fun Kv hK => ?_)
                  go_simp
                  refine hK _ ?_
                  clear hK Kv
                  refine pb_told 10 (.agg #[.slice none 0 0, .slice none 0 0]) (by kernel_rfl) rfl (by kernel_rfl) (by kernel_rfl) (by kernel_rfl) (by kernel_rfl) (hT6.pick [9] (by simp) rfl) rfl (fun _ _ => rfl) (fun Kv hK => ?_)
                  go_simp
                  refine hK _ ?_
                  clear hK Kv
                  refine pb_told 11 (.int .i64 7) (by kernel_rfl) rfl (by kernel_rfl) (by kernel_rfl) (by kernel_rfl) (by kernel_rfl) (hT6.pick [9] (by simp) rfl) rfl (fun _ _ => rfl) (fun Kv hK => ?_)
                  go_simp
                  refine hK _ ?_
                  clear hK Kv
                  refine pb_one 13 (by kernel_rfl) (by kernel_rfl) ?_
                  refine kOp_eff rfl rfl fun Kv hK => ?_
                  refine eff_store_row 50 _ _ rfl ub #[.slice none 0 0, .slice none 0 0] rfl rfl _ _ (hT6.blk 3 rfl) (by kernel_rfl) rfl (by simp [Value.oneCell']) (fun w27 ho4 hh4 => ?_)
                  have hT7 := hT6.only 3 rfl ho4 hh4
                  refine ⟨hT7.pick [9] (by simp) rfl, hK _ _ ?_⟩
                  clear hK Kv ho4 hh4 hT6
                  refine pb_end (by kernel_rfl) ?_
                  clear HCL HG2 HJ
                  have HU := Lib.hid (hT7.below)
                  clear hT7
                  go_wp2_with fail
                  go_meet
                  exact ⟨rfl, HU.out⟩
            case rest =>
              clear hS HCL HG2 HJ
              obtain ⟨rfl, hB⟩ := hcut
              have HB := Lib.hid hB
              clear hB
              go_wp2_with fail
              go_ret
              exact ⟨rfl, HB.out⟩
    · have HFR := Lib.hid (HLG.out.from_no (c := c2) (hS3.reads 1 rfl) hb1)
      have HS3 := Lib.hid hS3
      clear hS3 hb1
      go_wp2_with (go_at_call 24; (with_reducible refine HFR.out.mono ?_); rintro e w4 ⟨rfl, hb4⟩
                   have HE5 := Lib.hid (HS3.out.call hb4)
                   clear hb4 c0 c1)
      go_ret
      exact ⟨rfl, HE5.out.below.trans ((Below.refl _ _).alloc HE5.out.size _)⟩
end Go.Proofs.Ytaaffahjlkfbgaa
