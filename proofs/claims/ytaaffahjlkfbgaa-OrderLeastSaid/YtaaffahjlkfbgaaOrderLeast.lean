/- The walk of law OrderLeast. -/
import Derived.Test.YtaaffahjlkfbgaaOrderLates
namespace Go.Proofs.Ytaaffahjlkfbgaa
open Go.ChangeShapes Go.WideShapes Go.ChangeAt Go.RowKit
set_option linter.unusedVariables false
theorem late_stepN (N : Nat) (V0 : Nat → Int) (k : Nat) (X : Int) (h : V0 k = X) : nums (fun j => if j = k then X else if j < k then V0 j else 0) N = nums (fun j => if j < k + 1 then V0 j else 0) N := nums_ext fun j hj => by
  by_cases e : j = k
  · rw [if_pos e, if_pos (by omega), e, h]
  · rw [if_neg e]
    by_cases e2 : j < k
    · rw [if_pos e2, if_pos (by omega)]
    · rw [if_neg e2, if_neg (by omega)]
theorem late_step2 (N : Nat) (V0 : Nat → Int) (k : Nat) (X Y : Int) (h : V0 k = X) : nums (fun j => if j = k then X else if j = k then Y else if j < k then V0 j else 0) N = nums (fun j => if j < k + 1 then V0 j else 0) N := by
  rw [← late_stepN N V0 k X h]
  exact nums_ext fun j hj => by by_cases e : j = k <;> simp [e]
theorem late_skipN (N : Nat) (V0 : Nat → Int) (k : Nat) (h : V0 k = 0) : nums (fun j => if j < k then V0 j else 0) N = nums (fun j => if j < k + 1 then V0 j else 0) N := nums_ext fun j hj => by
  by_cases e : j = k
  · rw [if_neg (by omega), if_pos (by omega), e, h]
  · by_cases e2 : j < k
    · rw [if_pos e2, if_pos (by omega)]
    · rw [if_neg e2, if_neg (by omega)]
set_option maxRecDepth 100000 in
set_option maxHeartbeats 8000000 in
theorem orderLeast0 (W : World) (n : Int) (A : Option Addr) (cap : Nat) (l : List LinkV) (hr : Links W W.heap.size A l) (hl : l.length ≤ maxLen) (hok : ∀ a ∈ l, a.ok) (n0 : 0 ≤ n) (n1 : n ≤ 255) (FA : Option Addr) (fc : Nat) (fl : List Int) (hfr : Reads W W.heap.size 1 FA fl.length (fl.map (.int .i32))) (hfl : fl.length ≤ maxLen) (hfw : ∀ x ∈ fl, (Lit.int .i32 x).wf = true)
    (MA : Option Addr) (mc : Nat) (ml : List Int) (hmr : Reads W W.heap.size 1 MA ml.length (ml.map (.int .i32))) (hml : ml.length ≤ maxLen) (hmw : ∀ x ∈ ml, (Lit.int .i32 x).wf = true) :
    Calls Try.prog 9 #[.int .u8 n, .slice A l.length cap, .slice FA fl.length fc, .slice MA ml.length mc] W fun e w' => e = .returned (.bool true) ∧ Below W.heap.size W w' := by
  have HS0 := Lib.hid (SL.start (Nat.le_refl W.heap.size))
  obtain ⟨N, L1, hlo1, hgr⟩ := lawO_pack cap hr hl hok n0 n1
  have HGR := Lib.hid (fun w' (h : Below W.heap.size W w') => forward_any W n A cap l.length N L1 w' h hlo1 hgr)
  have hlo := lawO_fwd hlo1
  obtain ⟨L, hL⟩ : ∃ L, fwd L1 = L := ⟨_, rfl⟩
  have hup : ∀ a ∈ L, a.fr < a.to := fun a ha => by rw [← hL] at ha; exact fwd_up ha
  rw [hL] at HGR hlo
  obtain ⟨out, hg, hs⟩ := exists_out N L
  have hoN : out.length = N := by have := up_whole hup hlo.inn hs; have := hg.len; omega
  have HLO := Lib.hid hlo
  have HG := Lib.hid (And.intro hg (And.intro hs hoN))
  have HIN := Lib.hid hlo.inn
  have HWT := Lib.hid hlo.wt
  have hn1 := hlo.n1
  have hn8 := hlo.n8
  have hlen := hlo.len
  obtain ⟨B0, hB0⟩ : ∃ B0, begF N fl = B0 := ⟨_, rfl⟩
  obtain ⟨M0, hM0⟩ : ∃ M0, begF N ml = M0 := ⟨_, rfl⟩
  have hB32 : ∀ j, -2147483648 ≤ B0 j ∧ B0 j ≤ 2147483647 := fun j => by rw [← hB0]; exact begF_bnd hfw N j
  have hM32 : ∀ j, -2147483648 ≤ M0 j ∧ M0 j ≤ 2147483647 := fun j => by rw [← hM0]; exact begF_bnd hmw N j
  obtain ⟨V0, hV0⟩ : ∃ V0 : Nat → Int, V0 = fun j => B0 j + (if M0 j < 0 then 0 else M0 j) := ⟨_, rfl⟩
  have hV32 : ∀ j, -4294967296 ≤ V0 j ∧ V0 j ≤ 4294967296 := fun j => by have := hB32 j; have := hM32 j; rw [hV0]; show _ ≤ B0 j + _ ∧ B0 j + _ ≤ _; split <;> omega
  have hBV : ∀ j, B0 j ≤ V0 j := fun j => by rw [hV0]; show _ ≤ B0 j + _; split <;> omega
  have HVB := Lib.hid hB32
  have HBV := Lib.hid hBV
  have HBND : Hid (∀ r, r ≤ N → ∀ k, k ≤ L.length → ∀ j, j < N → -4294967296 ≤ (L.take k).foldl relaxA (roundsA L V0 r) j ∧ (L.take k).foldl relaxA (roundsA L V0 r) j ≤ 8589934592) := Lib.hid (fun r hr k hk j hj => late_bnd hlo.len hlo.wt hV32 r (by omega) k j)
  have HVI : Hid (∀ j, j < N → ∀ h : j < fl.length, B0 j = fl[j]) := Lib.hid (fun j hj h => by rw [← hB0]; exact begF_at hj h)
  have HVO : Hid (∀ j, ¬ j < fl.length → B0 j = 0) := Lib.hid (fun j h => by rw [← hB0]; exact begF_out h)
  have HVL : Hid (∀ j, ((List.range N).map B0).getD j 0 = B0 j) := Lib.hid (fun j => by rw [← hB0]; exact begF_list N fl j)
  have HMI : Hid (∀ j, j < N → ∀ h : j < ml.length, V0 j = B0 j + (if ml[j] < 0 then 0 else ml[j])) := Lib.hid (fun j hj h => by rw [hV0]; show B0 j + _ = _; rw [← hM0, begF_at hj h])
  have HMO : Hid (∀ j, ¬ j < ml.length → V0 j = B0 j) := Lib.hid (fun j h => by rw [hV0]; show B0 j + _ = _; rw [← hM0, begF_out h]; simp)
  have HFR : Hid (∀ (w' : World), Below W.heap.size W w' → Reads w' w'.heap.size 1 FA fl.length (fl.map (.int .i32))) := Lib.hid (fun w' h => reads_more (Reads.below hfr h) h.size)
  have HMR : Hid (∀ (w' : World), Below W.heap.size W w' → Reads w' w'.heap.size 1 MA ml.length (ml.map (.int .i32))) := Lib.hid (fun w' h => reads_more (Reads.below hmr h) h.size)
  have HFW := Lib.hid hfw
  have HMW := Lib.hid hmw
  have hfl' : fl.length ≤ 9223372036854775807 := by unfold maxLen at hfl; omega
  have hml' : ml.length ≤ 9223372036854775807 := by unfold maxLen at hml; omega
  clear hr hok hlo1 hgr hlo hup hL hg hs hoN hV0 hV32 hB0 hM0 hB32 hM32 hBV hfr hfw hfl hmr hmw hml
  go_enter Try.func9, Try.ntmps9
  go_upto_region 4 with (first
    | (go_at_call 31; (with_reducible refine (awake08 _).mono ?_); rintro e w1 ⟨rfl, hb1⟩; have HS1 := Lib.hid (HS0.out.call hb1); clear hb1)
    | (go_at_call 35; (with_reducible refine (HGR.out _ HS1.out.below).mono ?_); rintro e w2 ⟨v, rfl, hS⟩
       obtain ⟨A2, c2, rfl, _, _⟩ := (hS.row 0 rfl).slice_
       have hS2 := HS1.out.join hS
       clear hS))
  have hS3 := hS2.alloc #[.int .i64 N, .slice A2 L.length c2] 45
  obtain ⟨gb, hgb⟩ : ∃ gb, gb = w2.heap.size := ⟨_, rfl⟩
  generalize (w2.alloc (.cells #[.int .i64 N, .slice A2 L.length c2] 45)) = w3 at *
  rw [← hgb] at hS3 ⊢
  clear hgb hS2
  go_cut [10, 11] (fun s10 s11 wx => ∃ bb ob g8 o8 : Nat, s10 = .slice (some ⟨bb, ob, none⟩) N N ∧ s11 = .slice (some ⟨g8, o8, none⟩) N N ∧ SL W W.heap.size [.row 2 1 (.slice (some ⟨g8, o8, none⟩) N N) N (nums (fun _ => 0) N), .row 2 1 (.slice (some ⟨bb, ob, none⟩) N N) N (nums (fun _ => 0) N), .blk gb #[.int .i64 N, .slice A2 L.length c2] 45, .row 55 3 (.slice A2 L.length c2) L.length (arcCells L)] wx)
  case first =>
    refine wp_region_slb [0,1,3,4] [2,5,6] [7] [.blk gb #[.int .i64 N, .slice A2 L.length c2] 45, .row 55 3 (.slice A2 L.length c2) L.length (arcCells L)] hS3 (by simp) (by kernel_rfl) (by kernel_rfl) (.cons rfl .nil) (fun C cw _ hC => ?_)
    have q0 : ∀ c, (cw c).cell? ⟨gb, 0, none⟩ = some (.int .i64 N) := fun c => (hC c).cell 0 rfl 0 rfl
    repeat (refine pl_look rfl rfl rfl (fun Kv hK => ?_); go_big_quiet_op; refine hK _ ?_; clear hK Kv)
    clear q0 hC
    have hm1 := make_int64s N (by omega)
    have HRW : Hid (∀ (w : World) (g1 g2 : Nat) (R : List Rs), SL W W.heap.size (.blk g1 (iarr (fun _ => 0) N) 2 :: .blk g2 (iarr (fun _ => 0) N) 2 :: R) w → SL W W.heap.size (.row 2 1 (.slice (some ⟨g1, 0, none⟩) N N) N (nums (fun _ => 0) N) :: .row 2 1 (.slice (some ⟨g2, 0, none⟩) N N) N (nums (fun _ => 0) N) :: R) w) := Lib.hid (fun w g1 g2 R h => (h.asRow 0 rfl (by unfold maxLen; omega)).asRow 1 rfl (by unfold maxLen; omega))
    refine pl_end ?_
    intro w4 hS4
    refine pb_two 2 5 (by kernel_rfl) (by kernel_rfl) (by kernel_rfl) ?_ ?_
    · refine kOp_eff rfl rfl fun Kv hK => ?_
      go_simp
      have hS5 := hS4.alloc (iarr (fun _ => 0) N) 2
      refine ⟨hS5.tail, hK _ _ ?_⟩
      clear hK Kv
      refine pb_two 5 6 (by kernel_rfl) (by kernel_rfl) (by kernel_rfl) ?_ ?_
      · refine kOp_eff rfl rfl fun Kv hK => ?_
        go_simp
        have hS6 := hS5.alloc (iarr (fun _ => 0) N) 2
        refine ⟨hS6.tail.tail, hK _ _ ?_⟩
        clear hK Kv
        refine pb_one 6 (by kernel_rfl) (by kernel_rfl) ?_
        refine kOp_eff rfl rfl fun Kv hK => ?_
        go_simp
        refine ⟨hS6.tail.tail, hK _ _ ?_⟩
        clear hK Kv
        refine pb_end (by kernel_rfl) ?_
        clear hm1
        go_wp2_with fail
        go_meet
        exact ⟨_, _, _, _, rfl, rfl, HRW.out _ _ _ _ (by simpa using hS6)⟩
      · refine kOp_eff rfl rfl fun Kv hK => ?_
        go_simp
        refine ⟨hS5.tail, hK _ _ ?_⟩
        clear hK Kv
        refine pb_one 5 (by kernel_rfl) (by kernel_rfl) ?_
        refine kOp_eff rfl rfl fun Kv hK => ?_
        go_simp
        have hS6 := hS5.alloc (iarr (fun _ => 0) N) 2
        refine ⟨hS6.tail.tail, hK _ _ ?_⟩
        clear hK Kv
        refine pb_end (by kernel_rfl) ?_
        clear hm1
        go_wp2_with fail
        go_meet
        exact ⟨_, _, _, _, rfl, rfl, HRW.out _ _ _ _ (by simpa using hS6)⟩
    · refine kOp_eff rfl rfl fun Kv hK => ?_
      go_simp
      have hS5 := hS4.alloc (iarr (fun _ => 0) N) 2
      refine ⟨hS5.tail, hK _ _ ?_⟩
      clear hK Kv
      refine pb_one 2 (by kernel_rfl) (by kernel_rfl) ?_
      refine kOp_eff rfl rfl fun Kv hK => ?_
      go_simp
      have hS6 := hS5.alloc (iarr (fun _ => 0) N) 2
      refine ⟨hS6.tail.tail, hK _ _ ?_⟩
      clear hK Kv
      refine pb_one 6 (by kernel_rfl) (by kernel_rfl) ?_
      refine kOp_eff rfl rfl fun Kv hK => ?_
      go_simp
      refine ⟨hS6.tail.tail, hK _ _ ?_⟩
      clear hK Kv
      refine pb_end (by kernel_rfl) ?_
      clear hm1
      go_wp2_with fail
      go_meet
      exact ⟨_, _, _, _, rfl, rfl, HRW.out _ _ _ _ (by have h := hS6.perm (List.Perm.swap _ _ _); simpa using h)⟩
  case rest =>
  clear hS3
  obtain ⟨bb, ob, g8, o8, rfl, rfl, hS1⟩ := hcut
  have HS4 : Hid (SL W W.heap.size [.row 2 1 (.slice (some ⟨g8, o8, none⟩) N N) N (nums (fun j => if j < 0 then V0 j else 0) N), .row 2 1 (.slice (some ⟨bb, ob, none⟩) N N) N (nums (fun j => if j < 0 then B0 j else 0) N), .blk gb #[.int .i64 N, .slice A2 L.length c2] 45, .row 55 3 (.slice A2 L.length c2) L.length (arcCells L)] wc) := Lib.hid (by
    have e : ∀ f : Nat → Int, nums (fun j => if j < 0 then f j else 0) N = nums (fun _ => 0) N := fun f => nums_ext fun i _ => if_neg (by omega)
    rw [e, e]
    exact hS1)
  clear hS1
  go_wp2_with fail
  go_loopw [31] (fun i wr => ∃ k : Nat, k ≤ N ∧ i = .int .i64 k ∧ SL W W.heap.size [.row 2 1 (.slice (some ⟨g8, o8, none⟩) N N) N (nums (fun j => if j < k then V0 j else 0) N), .row 2 1 (.slice (some ⟨bb, ob, none⟩) N N) N (nums (fun j => if j < k then B0 j else 0) N), .blk gb #[.int .i64 N, .slice A2 L.length c2] 45, .row 55 3 (.slice A2 L.length c2) L.length (arcCells L)] wr) (fun i _ => N - (intOf i).toNat)
  case atStart => exact ⟨0, by omega, rfl, HS4.out⟩
  case round =>
    clear HS4
    obtain ⟨k, hk, rfl, hS⟩ := hrel
    by_cases hlt : k < N
    · have HS := Lib.hid hS
      clear hS
      go_upto_if 37 with fail
      go_cut [] (fun wx => SL W W.heap.size [.row 2 1 (.slice (some ⟨g8, o8, none⟩) N N) N (nums (fun j => if j < k then V0 j else 0) N), .row 2 1 (.slice (some ⟨bb, ob, none⟩) N N) N (nums (fun j => if j < k + 1 then B0 j else 0) N), .blk gb #[.int .i64 N, .slice A2 L.length c2] 45, .row 55 3 (.slice A2 L.length c2) L.length (arcCells L)] wx)
      case first =>
        by_cases hkf : k < fl.length
        · obtain ⟨bf, pf, rfl, hbf, e0⟩ := reads_plain (HFR.out _ HS.out.below) (by omega) Nat.one_pos
          have x0 : wr.cell? ⟨bf, pf + k, none⟩ = some (.int .i32 fl[k]) := e0 k _ (by simp [hkf])
          have hx := HFW.out _ (List.getElem_mem hkf)
          simp [Lit.wf, IntKind.min, IntKind.max, IntKind.signed, IntKind.bits] at hx
          have HX := Lib.hid (HVI.out k hlt hkf)
          obtain ⟨X, hX⟩ : ∃ X, fl[k] = X := ⟨_, rfl⟩
          rw [hX] at x0 hx HX
          obtain ⟨hx0, hx1⟩ := hx
          have d0 : wr.cell? ⟨bb, ob + k, none⟩ = some (.int .i64 (if k < k then B0 k else 0)) := HS.out.rowCell 1 rfl k (nums_get _ _ _ hlt)
          have d1 := HS.out.rowFree 1 rfl (ob + k) (by omega)
          have hS4 := HS.out.setRowCell 1 rfl k (by omega) (.int .i64 X)
          rw [nums_set, late_stepN N B0 k X HX.out] at hS4
          have HS4 := Lib.hid hS4
          clear hS4 e0 hX hbf HS
          go_wp2_with fail
          go_meet
          exact HS4.out
        · have hS := HS.out
          rw [late_skipN N B0 k (HVO.out k hkf)] at hS
          have HS4 := Lib.hid hS
          clear hS HS
          go_wp2_with fail
          go_meet
          exact HS4.out
      case rest =>
      clear HS
      have hS := hcut
      clear hcut
      obtain ⟨Bk, hBk⟩ : ∃ Bk, B0 k = Bk := ⟨_, rfl⟩
      have d0 : wc.cell? ⟨bb, ob + k, none⟩ = some (.int .i64 Bk) := by
        have h := hS.rowCell 1 rfl k (nums_get _ _ _ hlt)
        rw [if_pos (by omega), hBk] at h
        exact h
      have d1 := hS.rowFree 0 rfl (o8 + k) (by omega)
      have d2 : wc.cell? ⟨g8, o8 + k, none⟩ = some (.int .i64 (if k < k then V0 k else 0)) := hS.rowCell 0 rfl k (nums_get _ _ _ hlt)
      have hS4 := hS.setRowCell 0 rfl k (by omega) (.int .i64 Bk)
      rw [nums_set] at hS4
      obtain ⟨w5, hw5⟩ : ∃ w5, wc.setCell ⟨g8, o8 + k, none⟩ (.int .i64 Bk) = w5 := ⟨_, rfl⟩
      rw [hw5] at hS4
      have HB9 := Lib.hid (HVB.out k)
      rw [hBk] at HB9
      by_cases hkm : k < ml.length
      · have HX := Lib.hid (HMI.out k hlt hkm)
        have hx := HMW.out _ (List.getElem_mem hkm)
        simp [Lit.wf, IntKind.min, IntKind.max, IntKind.signed, IntKind.bits] at hx
        obtain ⟨bm, pm, rfl, hbm, e0⟩ := reads_plain (HMR.out _ hS4.below) (by omega) Nat.one_pos
        have HXC : Hid (∀ (w' : World), Below W.heap.size W w' → w'.cell? ⟨bm, pm + k, none⟩ = some (.int .i32 ml[k])) := Lib.hid (fun w' h => by
          obtain ⟨b9, p9, e9, _, h9⟩ := reads_plain (HMR.out _ h) (by omega) Nat.one_pos
          cases e9
          exact h9 k _ (by simp [hkm]))
        obtain ⟨X, hX⟩ : ∃ X, ml[k] = X := ⟨_, rfl⟩
        rw [hX] at hx HX HXC
        rw [hBk] at HX
        obtain ⟨hx0, hx1⟩ := hx
        obtain ⟨Z, hZ⟩ : ∃ Z, (if X < 0 then 0 else X) = Z := ⟨_, rfl⟩
        have hz : 0 ≤ Z ∧ Z ≤ 2147483647 := by rw [← hZ]; split <;> omega
        rw [hZ] at HX
        have HZ := Lib.hid hZ
        obtain ⟨hz0, hz1⟩ := hz
        obtain ⟨hb0, hb1⟩ := HB9.out
        clear hX hbm e0 hZ hBk HB9 hS
        have HW5 := Lib.hid hw5
        have HS4 := Lib.hid hS4
        clear hw5 hS4
        go_upto_region 12 with fail
        rw [HW5.out]
        have hS4 := HS4.out
        clear HW5 HS4 d0 d1 d2
        refine wp_region_sl [0,1,2,3,4,5,6,7,8,9,10] [] [11,12] _ hS4 (List.Sublist.refl _) (by kernel_rfl) (by kernel_rfl) (.cons rfl (.cons rfl .nil)) (fun C cw _ hC => ?_)
        have q0 : ∀ c, (cw c).cell? ⟨g8, o8 + k, none⟩ = some (.int .i64 Bk) := fun c => by
          have h := (hC c).rowCell 0 rfl k (nums_get _ _ _ hlt)
          rw [if_pos rfl] at h
          exact h
        have q1 : ∀ c, (cw c).cell? ⟨bm, pm + k, none⟩ = some (.int .i32 X) := fun c => HXC.out _ (hC c).below
        repeat (first | (refine pl_look rfl rfl rfl (fun Kv hK => ?_); go_big_quiet_op; refine hK _ ?_; clear hK Kv) | (refine pl_max _ _ _ _ _ _ _ _ rfl rfl rfl rfl rfl HZ.out (fun Kv hK => ?_); go_simp; refine hK _ ?_; clear hK Kv))
        clear q0 q1 hC
        refine pl_end ?_
        intro w1 hS5
        refine pm_end ?_
        have y4 : w1.cell? ⟨g8, o8 + k, none⟩ = some (.int .i64 Bk) := by
          have h := hS5.rowCell 0 rfl k (nums_get _ _ _ hlt)
          rw [if_pos rfl] at h
          exact h
        have y5 := hS5.rowFree 0 rfl (o8 + k) (by omega)
        have hS6 := hS5.setRowCell 0 rfl k (by omega) (.int .i64 (Bk + Z))
        rw [nums_set, late_step2 N V0 k (Bk + Z) Bk HX.out] at hS6
        have HS6 := Lib.hid hS6
        clear hS4 hS5 hS6
        go_wp2_with fail
        go_roundw
        case rel => exact ⟨k + 1, by omega, by go_num, HS6.out⟩
        case measure => simp [intOf]; omega
      · have HX := HMO.out k hkm
        rw [hBk] at HX
        rw [late_stepN N V0 k Bk HX] at hS4
        clear hBk HB9 hS HX
        rw [← hw5] at hS4
        have HS4 := Lib.hid hS4
        clear hw5 hS4
        go_wp2_with fail
        go_roundw
        case rel => exact ⟨k + 1, by omega, by go_num, HS4.out⟩
        case measure => simp [intOf]; omega
    · obtain rfl : k = N := by omega
      have e5 : ∀ f : Nat → Int, nums (fun j => if j < k then f j else 0) k = nums f k := fun f => nums_ext fun j hj => if_pos hj
      rw [e5, e5] at hS
      have c0 : wr.cell? ⟨gb, 0, none⟩ = some (.int .i64 k) := hS.cell 2 rfl 0 rfl
      have HSR : Hid (SL W W.heap.size (.row 2 1 (.slice (some ⟨g8, o8, none⟩) k k) k (nums (roundsA L V0 0) k) :: [.row 2 1 (.slice (some ⟨bb, ob, none⟩) k k) k (nums B0 k), .blk gb #[.int .i64 k, .slice A2 L.length c2] 45, .row 55 3 (.slice A2 L.length c2) L.length (arcCells L)]) wr) := Lib.hid hS
      clear hS e5
      obtain ⟨N, rfl⟩ : ∃ N, N = k := ⟨_, rfl⟩
      obtain ⟨RS, hRS⟩ : ∃ RS : List Rs, RS = [.row 2 1 (.slice (some ⟨bb, ob, none⟩) N N) N (nums B0 N), .blk gb #[.int .i64 N, .slice A2 L.length c2] 45, .row 55 3 (.slice A2 L.length c2) L.length (arcCells L)] := ⟨_, rfl⟩
      rw [← hRS] at HSR
      obtain ⟨ig, hig⟩ : ∃ ig : Nat, ig = 1 := ⟨_, rfl⟩
      have HGB : Hid (RS[ig]? = some (.blk gb #[.int .i64 N, .slice A2 L.length c2] 45)) := Lib.hid (by rw [hRS, hig]; rfl)
      have HAR : Hid (∀ w', SL W W.heap.size RS w' → Arcs w' w'.heap.size A2 L) := Lib.hid (fun w' h => by rw [hRS] at h; exact h.reads 2 rfl)
      have HRS := Lib.hid hRS
      clear hRS hig
      go_wp2_with fail
      clear c0
      go_loopw [72] (fun i wr => ∃ r : Nat, r ≤ N ∧ i = .int .i64 r ∧ SL W W.heap.size (.row 2 1 (.slice (some ⟨g8, o8, none⟩) N N) N (nums (roundsA L V0 r) N) :: RS) wr) (fun i _ => N - (intOf i).toNat)
      case atStart => exact ⟨0, by omega, rfl, HSR.out⟩
      case round =>
        clear HSR
        obtain ⟨r, hr, rfl, hS⟩ := hrel
        by_cases hltr : r < N
        · obtain ⟨F, hF⟩ : ∃ F, F = roundsA L V0 r := ⟨_, rfl⟩
          have HB := Lib.hid (HBND.out r (by omega))
          rw [← hF] at hS HB
          have HF := Lib.hid hF
          clear hF
          have c0 : wr.cell? ⟨gb, 0, none⟩ = some (.int .i64 N) := hS.cell (ig + 1) HGB.out 0 rfl
          have c1 : wr.cell? ⟨gb, 1, none⟩ = some (.slice A2 L.length c2) := hS.cell (ig + 1) HGB.out 1 rfl
          have HSI : Hid (SL W W.heap.size (.row 2 1 (.slice (some ⟨g8, o8, none⟩) N N) N (nums ((L.take 0).foldl relaxA F) N) :: RS) wr) := Lib.hid hS
          obtain ⟨wo, rfl⟩ : ∃ wo : World, wo = wr := ⟨_, rfl⟩
          clear hS
          go_wp2_with fail
          clear c0 c1
          go_loopw [77] (fun i wi => ∃ k : Nat, k ≤ L.length ∧ i = .int .i64 k ∧ SL W W.heap.size (.row 2 1 (.slice (some ⟨g8, o8, none⟩) N N) N (nums ((L.take k).foldl relaxA F) N) :: RS) wi) (fun i _ => L.length - (intOf i).toNat)
          case atStart => exact ⟨0, by omega, rfl, HSI.out⟩
          case round =>
            clear HSI
            obtain ⟨k, hk, rfl, hS⟩ := hrel
            by_cases hltk : k < L.length
            · obtain ⟨b, p, rfl, hb, a0, a1, a2⟩ := arcs_at (HAR.out _ hS.tail) hltk
              obtain ⟨⟨f0, f1⟩, t0, t1⟩ := HIN.out _ (List.getElem_mem hltk)
              obtain ⟨wt0, wt1⟩ := HWT.out _ (List.getElem_mem hltk)
              have hbF := HB.out k (by omega) L[k].fr.toNat (by omega)
              have HQ : Hid ((L.take (k + 1)).foldl relaxA F = relaxA ((L.take k).foldl relaxA F) L[k]) := Lib.hid (by rw [List.take_succ_eq_append_getElem hltk, List.foldl_append]; rfl)
              obtain ⟨G, hG⟩ : ∃ G, G = (L.take k).foldl relaxA F := ⟨_, rfl⟩
              rw [← hG] at hS HQ hbF
              obtain ⟨a, ha⟩ : ∃ a, L[k] = a := ⟨_, rfl⟩
              rw [ha] at a0 a1 a2 f0 f1 t0 t1 wt0 wt1 HQ hbF
              clear ha hG
              obtain ⟨Fv, hFv⟩ : ∃ Fv, G a.fr.toNat = Fv := ⟨_, rfl⟩
              obtain ⟨Gv, hGv⟩ : ∃ Gv, G a.to.toNat = Gv := ⟨_, rfl⟩
              rw [hFv] at hbF
              obtain ⟨hbF0, hbF1⟩ := hbF
              have HFG := Lib.hid (And.intro hFv hGv)
              clear hFv hGv
              have hS2 := hS.alloc #[.int .i64 a.fr, .int .i64 a.to, .int .i64 a.wt] 55
              have hz1 : b < wr.heap.size := hb
              clear hS
              go_upto_region 19 with fail
              obtain ⟨ar, har⟩ : ∃ ar, ar = wr.heap.size := ⟨_, rfl⟩
              generalize (wr.alloc (.cells #[.int .i64 a.fr, .int .i64 a.to, .int .i64 a.wt] 55)) = w9 at *
              rw [← har] at hS2 ⊢
              clear har a0 a1 a2 hz1 hb
              refine wp_region_sl [0,1,2,3,4,5,6,7,8,9,10,11,12,13,14,15,16] [] [17,18] _ hS2 (List.Sublist.refl _) (by kernel_rfl) (by kernel_rfl) (.cons rfl (.cons rfl .nil)) (fun C cw _ hC => ?_)
              have q0 : ∀ c, (cw c).cell? ⟨ar, 0, none⟩ = some (.int .i64 a.fr) := fun c => (hC c).cell 0 rfl 0 rfl
              have q1 : ∀ c, (cw c).cell? ⟨ar, 1, none⟩ = some (.int .i64 a.to) := fun c => (hC c).cell 0 rfl 1 rfl
              have q2 : ∀ c, (cw c).cell? ⟨ar, 2, none⟩ = some (.int .i64 a.wt) := fun c => (hC c).cell 0 rfl 2 rfl
              have q3 : ∀ c, (cw c).cell? ⟨g8, o8 + a.fr.toNat, none⟩ = some (.int .i64 Fv) := fun c => by rw [← HFG.out.1]; exact (hC c).rowCell 1 rfl _ (nums_get _ _ _ (by omega))
              have q4 : ∀ c, (cw c).cell? ⟨g8, o8 + a.to.toNat, none⟩ = some (.int .i64 Gv) := fun c => by rw [← HFG.out.2]; exact (hC c).rowCell 1 rfl _ (nums_get _ _ _ (by omega))
              repeat (first | (refine pl_look rfl rfl rfl (fun Kv hK => ?_); go_big_quiet_op; refine hK _ ?_; clear hK Kv) | (refine pl_max _ _ _ _ _ _ _ _ rfl rfl rfl rfl rfl rfl (fun Kv hK => ?_); go_simp; refine hK _ ?_; clear hK Kv))
              clear q0 q1 q2 q3 q4 hC
              refine pl_end ?_
              intro w1 hS4
              refine pm_end ?_
              have y4 : w1.cell? ⟨g8, o8 + a.to.toNat, none⟩ = some (.int .i64 Gv) := by rw [← HFG.out.2]; exact hS4.rowCell 1 rfl _ (nums_get _ _ _ (by omega))
              have y5 := hS4.rowFree 1 rfl (o8 + a.to.toNat) (by omega)
              have hS5 := hS4.setRowCell 1 rfl a.to.toNat (by omega) (.int .i64 (if Gv < Fv + a.wt then Fv + a.wt else Gv))
              rw [nums_set] at hS5
              have HS5 := Lib.hid hS5
              clear hS2 hS4 hS5
              go_wp2_with fail
              go_roundw
              case rel =>
                refine ⟨k + 1, by omega, by go_num, ?_⟩
                rw [HQ.out]
                have e : nums (relaxA G a) N = nums (fun j => if j = a.to.toNat then (if Gv < Fv + a.wt then Fv + a.wt else Gv) else G j) N := nums_ext fun v hv => by
                  unfold relaxA
                  by_cases ev : v = a.to.toNat
                  · rw [if_pos ev, if_pos ev, HFG.out.1, HFG.out.2]
                    split <;> omega
                  · rw [if_neg ev, if_neg ev]
                rw [e]
                exact HS5.out.tail
              case measure => simp [intOf]; omega
            · obtain rfl : k = L.length := by omega
              rw [List.take_length] at hS
              have HS := Lib.hid hS
              clear hS
              go_wp2_with fail
              go_roundw
              case rel =>
                refine ⟨r + 1, by omega, by go_num, ?_⟩
                show SL W W.heap.size (.row 2 1 _ N (nums (roundA L (roundsA L V0 r)) N) :: RS) _
                rw [← HF.out]
                exact HS.out
              case measure => simp [intOf]; omega
        · obtain rfl : r = N := by omega
          rw [HRS.out] at hS
          have c0 : wr.cell? ⟨gb, 0, none⟩ = some (.int .i64 r) := hS.cell 2 rfl 0 rfl
          have c1 : wr.cell? ⟨gb, 1, none⟩ = some (.slice A2 L.length c2) := hS.cell 2 rfl 1 rfl
          have hrd := hS.reads 1 rfl
          have hml : ((List.range r).map B0).length = r := by simp
          have HLT : Hid (Calls Try.prog 36 #[.agg #[.int .i64 r, .slice A2 L.length c2], .slice (some ⟨bb, ob, none⟩) r r] wr fun e w' => ∃ g v, e = .returned (.tuple #[.slice (some ⟨g, 0, none⟩) r r, .int .i64 0]) ∧ SL wr wr.heap.size [.blk g (iarr v r) 2] w' ∧ ∀ j, j < r → v j ≤ roundsA L V0 r j ∧ B0 j ≤ v j) := Lib.hid (by
            refine (late_fin r A2 c2 L _ r ((List.range r).map B0) wr (hS.reads 3 rfl) (by rw [hml]; unfold nums at hrd; rw [List.map_map]; exact hrd) hml HLO.out.check ?_).mono ?_
            · rintro ⟨x, hx, hb⟩
              obtain ⟨j, _, rfl⟩ := List.mem_map.1 hx
              have := HVB.out j
              unfold farB at hb
              simp at hb
              omega
            · rintro e w' ⟨o2, g2, s2, h⟩
              obtain rfl := g2.one HG.out.1 s2 HG.out.2.1
              rcases h with ⟨_, g, v, rfl, hSv, hlv⟩ | ⟨hlt2, _⟩
              · refine ⟨g, v, rfl, hSv, fun j hj => ?_⟩
                have e6 : (fun j => ((List.range r).map B0).getD j 0) = B0 := funext HVL.out
                rw [e6] at hlv
                exact ⟨late_least hlv HG.out.1 HG.out.2.2 HIN.out HBV.out j hj, hlv.low j⟩
              · have := HG.out.2.2; omega)
          have HS5 := Lib.hid hS
          clear hS hrd hml
          go_upto_region 23 with (first
            | (go_at_call 36; (with_reducible refine HLT.out.mono ?_); rintro e w6 ⟨lb, v6, rfl, hSv, hv6⟩
               have hS6 := HS5.out.join hSv
               have HV6 := Lib.hid hv6
               clear hSv hv6 c0 c1))
          have c0 : w6.cell? ⟨gb, 0, none⟩ = some (.int .i64 r) := hS6.cell 3 rfl 0 rfl
          have HS6 := Lib.hid hS6
          clear hS6 HLT HS5
          go_wp2_with fail
          clear c0
          go_loopw [118] (fun i wi => ∃ k : Nat, k ≤ r ∧ i = .int .i64 k ∧ SL W W.heap.size [.blk lb (iarr v6 r) 2, .row 2 1 (.slice (some ⟨g8, o8, none⟩) r r) r (nums (roundsA L V0 r) r), .row 2 1 (.slice (some ⟨bb, ob, none⟩) r r) r (nums B0 r), .blk gb #[.int .i64 r, .slice A2 L.length c2] 45, .row 55 3 (.slice A2 L.length c2) L.length (arcCells L)] wi) (fun i _ => r - (intOf i).toNat)
          case atStart => exact ⟨0, by omega, rfl, HS6.out⟩
          case round =>
            clear HS6
            obtain ⟨k, hk, rfl, hS⟩ := hrel
            by_cases hltk : k < r
            · obtain ⟨hv1, hv2⟩ := HV6.out k hltk
              obtain ⟨X, hX⟩ : ∃ X, v6 k = X := ⟨_, rfl⟩
              obtain ⟨Y, hY⟩ : ∃ Y, roundsA L V0 r k = Y := ⟨_, rfl⟩
              obtain ⟨Z, hZ⟩ : ∃ Z, B0 k = Z := ⟨_, rfl⟩
              have HE := Lib.hid (And.intro hX (And.intro hY hZ))
              rw [hX] at hv1 hv2
              rw [hY] at hv1
              rw [hZ] at hv2
              have hd1 : decide (Y < X) = false := decide_eq_false (by omega)
              have hd2 : decide (X < Z) = false := decide_eq_false (by omega)
              clear hX hY hZ hv1 hv2
              go_upto_region 28 with fail
              refine wp_region_sl [0,1,2,3,4,5,6,7,8,9,10,11,12,13,14,15,16,17,18,19] [] [] _ hS (List.Sublist.refl _) (by kernel_rfl) (by kernel_rfl) .nil (fun C cw _ hC => ?_)
              have q0 : ∀ c, (cw c).cell? ⟨lb, k, none⟩ = some (.int .i64 X) := fun c => by rw [← HE.out.1]; exact (hC c).cell 0 rfl k (iarr_get _ _ _ hltk)
              have q1 : ∀ c, (cw c).cell? ⟨g8, o8 + k, none⟩ = some (.int .i64 Y) := fun c => by rw [← HE.out.2.1]; exact (hC c).rowCell 1 rfl k (nums_get _ _ _ hltk)
              have q2 : ∀ c, (cw c).cell? ⟨bb, ob + k, none⟩ = some (.int .i64 Z) := fun c => by rw [← HE.out.2.2]; exact (hC c).rowCell 2 rfl k (nums_get _ _ _ hltk)
              repeat (first | (refine pl_look rfl rfl rfl (fun Kv hK => ?_); go_big_quiet_op; refine hK _ ?_; clear hK Kv) | (refine pl_skip rfl rfl (fun Kv hK => ?_); go_simp; refine hK _ ?_; clear hK Kv))
              clear q0 q1 q2 hC hS
              refine pl_end ?_
              intro w7 hS7
              refine pm_end ?_
              have HS7 := Lib.hid hS7
              clear hS7
              go_wp2_with fail
              go_roundw
              case rel => exact ⟨k + 1, by omega, by go_num, HS7.out⟩
              case measure => simp [intOf]; omega
            · obtain rfl : k = r := by omega
              have HS := Lib.hid hS
              clear hS
              go_wp2_with fail
              go_ret
              exact ⟨rfl, HS.out.below⟩
set_option maxRecDepth 100000 in
theorem orderLeast_walk {H : Type} {enc : TypeId × Value → H} {base : Nat} (W : World) (n : Int) (_hn : (Lit.int .u8 n).wf = true) (v : Value) (d : DataW H) (p : List MemPlace) (o : Value.okWide Try.prog W .any base 39 v) (k : DataW.Trod enc Try.prog W 0 (fun _ => true) true 39 v d p)
    (FA : Option Addr) (fc : Nat) (fl : List Int) (hfr : Reads W W.heap.size 1 FA fl.length (fl.map (.int .i32))) (hfl : fl.length ≤ maxLen) (hfw : ∀ x ∈ fl, (Lit.int .i32 x).wf = true)
    (MA : Option Addr) (mc : Nat) (ml : List Int) (hmr : Reads W W.heap.size 1 MA ml.length (ml.map (.int .i32))) (hml : ml.length ≤ maxLen) (hmw : ∀ x ∈ ml, (Lit.int .i32 x).wf = true) :
    Calls Try.prog 9 #[.int .u8 n, v, .slice FA fl.length fc, .slice MA ml.length mc] W fun e w' => e = .returned (.bool true) ∧ Below W.heap.size W w' := by
  obtain ⟨A, cap, l, rfl, hr, hl, hok⟩ := links_open o k
  simp [Lit.wf, IntKind.min, IntKind.max, IntKind.signed, IntKind.bits] at _hn
  exact orderLeast0 W n A cap l hr hl hok _hn.1 _hn.2 FA fc fl hfr hfl hfw MA mc ml hmr hml hmw
end Go.Proofs.Ytaaffahjlkfbgaa
