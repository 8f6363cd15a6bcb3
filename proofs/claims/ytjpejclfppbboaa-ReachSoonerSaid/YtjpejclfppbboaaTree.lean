/- The walk of path.start. -/
import Derived.Test.YtjpejclfppbboaaBendR
import Derived.Test.YtjpejclfppbboaaIarr
import Derived.Deep.LoopGhost
import Derived.Deep.CutRange
import Derived.Deep.DeepCutAuto
import Derived.WalkSpells
import Derived.Outline
namespace Go.Proofs.Ytjpejclfppbboaa
open Go.ChangeShapes Go.WideShapes Go.ChangeAt Go.RowKit
set_option linter.unusedVariables false
theorem int64_info : (Try.prog.info? 2).map (fun i => (i.zero, i.size, i.bytes)) = some (some (.int .i64 0), 1, 8) := by kernel_rfl
theorem make_int64s (N : Nat) (hN : N ≤ 20000) (w : World) : (Instr.makeSlice 51 (.int .i64 (N : Int)) (.int .i64 (N : Int))).run Try.prog w = .ok (.slice (some ⟨w.heap.size, 0, none⟩) N N) (w.alloc (.cells (iarr (fun _ => 0) N) 2)) := by
 obtain ⟨i, h1, h2, h3, h4⟩ := info_parts int64_info
 have := run_make (P := Try.prog) w 51 2 i _ Try.underlying51 h1 h2 .i64 .i64 N N (by omega) (by omega) (by rw [h4]; omega) (by omega)
 rw [this, h3]
 simp only [Int.toNat_natCast, Nat.mul_one]
 rw [← iarr_made]; rfl
theorem make_intz (N : Nat) (hN : N ≤ 20000) (w : World) : (Instr.makeSlice 44 (.int .i64 (N : Int)) (.int .i64 (N : Int))).run Try.prog w = .ok (.slice (some ⟨w.heap.size, 0, none⟩) N N) (w.alloc (.cells (iarr (fun _ => 0) N) 3)) := by
 obtain ⟨i, h1, h2, h3, h4⟩ := info_parts int_info
 have := run_make (P := Try.prog) w 44 3 i _ Try.underlying44 h1 h2 .i64 .i64 N N (by omega) (by omega) (by rw [h4]; omega) (by omega)
 rw [this, h3]
 simp only [Int.toNat_natCast, Nat.mul_one]
 rw [← iarr_made]; rfl
theorem SL.swap {W w : World} {B : Nat} {a b : Rs} {l : List Rs} (h : SL W B (a :: b :: l) w) : SL W B (b :: a :: l) w := h.perm (.swap _ _ _)
theorem SL.swap2 {W w : World} {B : Nat} {a b c : Rs} {l : List Rs} (h : SL W B (a :: b :: c :: l) w) : SL W B (a :: c :: b :: l) w := h.perm (.cons _ (.swap _ _ _))
theorem alloc_size (w : World) (o : Obj) : (w.alloc o).heap.size = w.heap.size + 1 := by simp
theorem below_step (k : Nat) (c d : Int) : (fun v : Nat => if v = k then c else if v < k then c else d) = fun v => if v < k + 1 then c else d := by
 funext v
 by_cases e : v = k
 · rw [if_pos e, if_pos (by omega)]
 · rw [if_neg e]
   by_cases e2 : v < k
   · rw [if_pos e2, if_pos (by omega)]
   · rw [if_neg e2, if_neg (by omega)]
def StartPost (W : World) (N f : Nat) (e : Ending) (w' : World) : Prop :=
 ∃ fb bb, e = .returned (.agg #[.slice (some ⟨fb, 0, none⟩) N N, .slice (some ⟨bb, 0, none⟩) N N]) ∧ SL W W.heap.size [.blk fb (iarr (BS.start f).far N) 2, .blk bb (iarr (BS.start f).by_ N) 3] w'
set_option maxRecDepth 100000 in
set_option maxHeartbeats 4000000 in
theorem start_any (N f : Nat) (w : World) (hN : N ≤ 1000) (hf : f < N) :
 Calls Try.prog 82 #[.int .i64 N, .int .i64 f] w (StartPost w N f) := by
 have hS0 := SL.start (Nat.le_refl w.heap.size)
 have hS1 := hS0.alloc #[.slice none 0 0, .slice none 0 0] 115
 have hm1 := make_int64s N (by omega)
 have hm2 := make_intz N (by omega)
 go_enter Try.func82, Try.ntmps82
 go_upto_region 1 with fail
 generalize (w.alloc (Obj.cells #[.slice none 0 0, .slice none 0 0] 115)) = wq at *
 go_cut [5] (fun s5 wx => ∃ tb fb bb : Nat, s5 = .pointer (some ⟨tb, 0, none⟩) ∧ SL w w.heap.size [.blk tb #[.slice (some ⟨fb, 0, none⟩) N N, .slice (some ⟨bb, 0, none⟩) N N] 115, .blk fb (iarr (fun _ => 0) N) 2, .blk bb (iarr (fun _ => 0) N) 3, .blk w.heap.size #[.slice none 0 0, .slice none 0 0] 115] wx)
 case first =>
  refine wp_region_slb [0,2] [1,3,4,5] [6] [] hS1 (by simp) (by kernel_rfl) (by kernel_rfl) (.cons rfl .nil) (fun C cw _ hC => ?_)
  repeat (refine pl_look rfl rfl rfl (fun Kv hK => ?_); go_big_quiet_op; refine hK _ ?_; clear hK Kv)
  clear hC
  refine pl_end ?_
  intro w1 hT0
  refine pb_three 1 3 5 (by kernel_rfl) (by kernel_rfl) (by kernel_rfl) (by kernel_rfl) ?_ ?_ ?_
  · skip
    refine kOp_eff rfl rfl fun Kv hK => ?_
    go_simp
    have hT1 := hT0.alloc (iarr (fun _ => 0) N) 2
    refine ⟨hT1.sub (by simp), hK _ _ ?_⟩
    clear hK Kv
    refine pb_two 3 5 (by kernel_rfl) (by kernel_rfl) (by kernel_rfl) ?_ ?_
    · skip
      refine kOp_eff rfl rfl fun Kv hK => ?_
      go_simp
      have hT2 := hT1.alloc (iarr (fun _ => 0) N) 3
      refine ⟨hT2.sub (by simp), hK _ _ ?_⟩
      clear hK Kv
      refine pb_two 4 5 (by kernel_rfl) (by kernel_rfl) (by kernel_rfl) ?_ ?_
      · skip
        refine kOp_eff rfl rfl fun Kv hK => ?_
        go_simp
        refine ⟨hT2.sub (by simp), hK _ _ ?_⟩
        clear hK Kv
        refine pb_one 5 (by kernel_rfl) (by kernel_rfl) ?_
        refine kOp_eff rfl rfl fun Kv hK => ?_
        go_simp
        have hT3 := hT2.alloc #[.slice none 0 0, .slice none 0 0] 115
        refine ⟨hT3.sub (by simp), hK _ _ ?_⟩
        clear hK Kv
        refine pb_end (by kernel_rfl) ?_
        clear hm1 hm2
        have hV := hT3
        simp only [alloc_size] at hV
        refine wpList_store_abs rfl 115 _ _ rfl rfl (w1.heap.size + 1 + 1) #[.slice (some ⟨w1.heap.size, 0, none⟩) N N, .slice (some ⟨w1.heap.size + 1, 0, none⟩) N N] rfl rfl _ _ (hV.blk 0 rfl) (by kernel_rfl) rfl (by simp [Value.oneCell']) (fun w5 ho5 hh5 => ?_)
        have hU := hV.only 0 rfl ho5 hh5
        go_wp2_with fail
        go_meet
        exact ⟨_, _, _, rfl, (SL.swap2 hU)⟩
      · skip
        refine kOp_eff rfl rfl fun Kv hK => ?_
        go_simp
        have hT3 := hT2.alloc #[.slice none 0 0, .slice none 0 0] 115
        refine ⟨hT3.sub (by simp), hK _ _ ?_⟩
        clear hK Kv
        refine pb_one 4 (by kernel_rfl) (by kernel_rfl) ?_
        refine kOp_eff rfl rfl fun Kv hK => ?_
        go_simp
        refine ⟨hT3.sub (by simp), hK _ _ ?_⟩
        clear hK Kv
        refine pb_end (by kernel_rfl) ?_
        clear hm1 hm2
        have hV := hT3
        simp only [alloc_size] at hV
        refine wpList_store_abs rfl 115 _ _ rfl rfl (w1.heap.size + 1 + 1) #[.slice (some ⟨w1.heap.size, 0, none⟩) N N, .slice (some ⟨w1.heap.size + 1, 0, none⟩) N N] rfl rfl _ _ (hV.blk 0 rfl) (by kernel_rfl) rfl (by simp [Value.oneCell']) (fun w5 ho5 hh5 => ?_)
        have hU := hV.only 0 rfl ho5 hh5
        go_wp2_with fail
        go_meet
        exact ⟨_, _, _, rfl, (SL.swap2 hU)⟩
    · skip
      refine kOp_eff rfl rfl fun Kv hK => ?_
      go_simp
      have hT2 := hT1.alloc #[.slice none 0 0, .slice none 0 0] 115
      refine ⟨hT2.sub (by simp), hK _ _ ?_⟩
      clear hK Kv
      refine pb_one 3 (by kernel_rfl) (by kernel_rfl) ?_
      refine kOp_eff rfl rfl fun Kv hK => ?_
      go_simp
      have hT3 := hT2.alloc (iarr (fun _ => 0) N) 3
      refine ⟨hT3.sub (by simp), hK _ _ ?_⟩
      clear hK Kv
      refine pb_one 4 (by kernel_rfl) (by kernel_rfl) ?_
      refine kOp_eff rfl rfl fun Kv hK => ?_
      go_simp
      refine ⟨hT3.sub (by simp), hK _ _ ?_⟩
      clear hK Kv
      refine pb_end (by kernel_rfl) ?_
      clear hm1 hm2
      have hV := hT3
      simp only [alloc_size] at hV
      refine wpList_store_abs rfl 115 _ _ rfl rfl (w1.heap.size + 1) #[.slice (some ⟨w1.heap.size, 0, none⟩) N N, .slice (some ⟨w1.heap.size + 1 + 1, 0, none⟩) N N] rfl rfl _ _ (hV.blk 1 rfl) (by kernel_rfl) rfl (by simp [Value.oneCell']) (fun w5 ho5 hh5 => ?_)
      have hU := hV.only 1 rfl ho5 hh5
      go_wp2_with fail
      go_meet
      exact ⟨_, _, _, rfl, (SL.swap2 (SL.swap hU))⟩
  · skip
    refine kOp_eff rfl rfl fun Kv hK => ?_
    go_simp
    have hT1 := hT0.alloc (iarr (fun _ => 0) N) 3
    refine ⟨hT1.sub (by simp), hK _ _ ?_⟩
    clear hK Kv
    refine pb_two 1 5 (by kernel_rfl) (by kernel_rfl) (by kernel_rfl) ?_ ?_
    · skip
      refine kOp_eff rfl rfl fun Kv hK => ?_
      go_simp
      have hT2 := hT1.alloc (iarr (fun _ => 0) N) 2
      refine ⟨hT2.sub (by simp), hK _ _ ?_⟩
      clear hK Kv
      refine pb_two 4 5 (by kernel_rfl) (by kernel_rfl) (by kernel_rfl) ?_ ?_
      · skip
        refine kOp_eff rfl rfl fun Kv hK => ?_
        go_simp
        refine ⟨hT2.sub (by simp), hK _ _ ?_⟩
        clear hK Kv
        refine pb_one 5 (by kernel_rfl) (by kernel_rfl) ?_
        refine kOp_eff rfl rfl fun Kv hK => ?_
        go_simp
        have hT3 := hT2.alloc #[.slice none 0 0, .slice none 0 0] 115
        refine ⟨hT3.sub (by simp), hK _ _ ?_⟩
        clear hK Kv
        refine pb_end (by kernel_rfl) ?_
        clear hm1 hm2
        have hV := hT3
        simp only [alloc_size] at hV
        refine wpList_store_abs rfl 115 _ _ rfl rfl (w1.heap.size + 1 + 1) #[.slice (some ⟨w1.heap.size + 1, 0, none⟩) N N, .slice (some ⟨w1.heap.size, 0, none⟩) N N] rfl rfl _ _ (hV.blk 0 rfl) (by kernel_rfl) rfl (by simp [Value.oneCell']) (fun w5 ho5 hh5 => ?_)
        have hU := hV.only 0 rfl ho5 hh5
        go_wp2_with fail
        go_meet
        exact ⟨_, _, _, rfl, hU⟩
      · skip
        refine kOp_eff rfl rfl fun Kv hK => ?_
        go_simp
        have hT3 := hT2.alloc #[.slice none 0 0, .slice none 0 0] 115
        refine ⟨hT3.sub (by simp), hK _ _ ?_⟩
        clear hK Kv
        refine pb_one 4 (by kernel_rfl) (by kernel_rfl) ?_
        refine kOp_eff rfl rfl fun Kv hK => ?_
        go_simp
        refine ⟨hT3.sub (by simp), hK _ _ ?_⟩
        clear hK Kv
        refine pb_end (by kernel_rfl) ?_
        clear hm1 hm2
        have hV := hT3
        simp only [alloc_size] at hV
        refine wpList_store_abs rfl 115 _ _ rfl rfl (w1.heap.size + 1 + 1) #[.slice (some ⟨w1.heap.size + 1, 0, none⟩) N N, .slice (some ⟨w1.heap.size, 0, none⟩) N N] rfl rfl _ _ (hV.blk 0 rfl) (by kernel_rfl) rfl (by simp [Value.oneCell']) (fun w5 ho5 hh5 => ?_)
        have hU := hV.only 0 rfl ho5 hh5
        go_wp2_with fail
        go_meet
        exact ⟨_, _, _, rfl, hU⟩
    · skip
      refine kOp_eff rfl rfl fun Kv hK => ?_
      go_simp
      have hT2 := hT1.alloc #[.slice none 0 0, .slice none 0 0] 115
      refine ⟨hT2.sub (by simp), hK _ _ ?_⟩
      clear hK Kv
      refine pb_one 1 (by kernel_rfl) (by kernel_rfl) ?_
      refine kOp_eff rfl rfl fun Kv hK => ?_
      go_simp
      have hT3 := hT2.alloc (iarr (fun _ => 0) N) 2
      refine ⟨hT3.sub (by simp), hK _ _ ?_⟩
      clear hK Kv
      refine pb_one 4 (by kernel_rfl) (by kernel_rfl) ?_
      refine kOp_eff rfl rfl fun Kv hK => ?_
      go_simp
      refine ⟨hT3.sub (by simp), hK _ _ ?_⟩
      clear hK Kv
      refine pb_end (by kernel_rfl) ?_
      clear hm1 hm2
      have hV := hT3
      simp only [alloc_size] at hV
      refine wpList_store_abs rfl 115 _ _ rfl rfl (w1.heap.size + 1) #[.slice (some ⟨w1.heap.size + 1 + 1, 0, none⟩) N N, .slice (some ⟨w1.heap.size, 0, none⟩) N N] rfl rfl _ _ (hV.blk 1 rfl) (by kernel_rfl) rfl (by simp [Value.oneCell']) (fun w5 ho5 hh5 => ?_)
      have hU := hV.only 1 rfl ho5 hh5
      go_wp2_with fail
      go_meet
      exact ⟨_, _, _, rfl, (SL.swap hU)⟩
  · skip
    refine kOp_eff rfl rfl fun Kv hK => ?_
    go_simp
    have hT1 := hT0.alloc #[.slice none 0 0, .slice none 0 0] 115
    refine ⟨hT1.sub (by simp), hK _ _ ?_⟩
    clear hK Kv
    refine pb_two 1 3 (by kernel_rfl) (by kernel_rfl) (by kernel_rfl) ?_ ?_
    · skip
      refine kOp_eff rfl rfl fun Kv hK => ?_
      go_simp
      have hT2 := hT1.alloc (iarr (fun _ => 0) N) 2
      refine ⟨hT2.sub (by simp), hK _ _ ?_⟩
      clear hK Kv
      refine pb_one 3 (by kernel_rfl) (by kernel_rfl) ?_
      refine kOp_eff rfl rfl fun Kv hK => ?_
      go_simp
      have hT3 := hT2.alloc (iarr (fun _ => 0) N) 3
      refine ⟨hT3.sub (by simp), hK _ _ ?_⟩
      clear hK Kv
      refine pb_one 4 (by kernel_rfl) (by kernel_rfl) ?_
      refine kOp_eff rfl rfl fun Kv hK => ?_
      go_simp
      refine ⟨hT3.sub (by simp), hK _ _ ?_⟩
      clear hK Kv
      refine pb_end (by kernel_rfl) ?_
      clear hm1 hm2
      have hV := hT3
      simp only [alloc_size] at hV
      refine wpList_store_abs rfl 115 _ _ rfl rfl (w1.heap.size) #[.slice (some ⟨w1.heap.size + 1, 0, none⟩) N N, .slice (some ⟨w1.heap.size + 1 + 1, 0, none⟩) N N] rfl rfl _ _ (hV.blk 2 rfl) (by kernel_rfl) rfl (by simp [Value.oneCell']) (fun w5 ho5 hh5 => ?_)
      have hU := hV.only 2 rfl ho5 hh5
      go_wp2_with fail
      go_meet
      exact ⟨_, _, _, rfl, (SL.swap (SL.swap2 (SL.swap hU)))⟩
    · skip
      refine kOp_eff rfl rfl fun Kv hK => ?_
      go_simp
      have hT2 := hT1.alloc (iarr (fun _ => 0) N) 3
      refine ⟨hT2.sub (by simp), hK _ _ ?_⟩
      clear hK Kv
      refine pb_one 1 (by kernel_rfl) (by kernel_rfl) ?_
      refine kOp_eff rfl rfl fun Kv hK => ?_
      go_simp
      have hT3 := hT2.alloc (iarr (fun _ => 0) N) 2
      refine ⟨hT3.sub (by simp), hK _ _ ?_⟩
      clear hK Kv
      refine pb_one 4 (by kernel_rfl) (by kernel_rfl) ?_
      refine kOp_eff rfl rfl fun Kv hK => ?_
      go_simp
      refine ⟨hT3.sub (by simp), hK _ _ ?_⟩
      clear hK Kv
      refine pb_end (by kernel_rfl) ?_
      clear hm1 hm2
      have hV := hT3
      simp only [alloc_size] at hV
      refine wpList_store_abs rfl 115 _ _ rfl rfl (w1.heap.size) #[.slice (some ⟨w1.heap.size + 1 + 1, 0, none⟩) N N, .slice (some ⟨w1.heap.size + 1, 0, none⟩) N N] rfl rfl _ _ (hV.blk 2 rfl) (by kernel_rfl) rfl (by simp [Value.oneCell']) (fun w5 ho5 hh5 => ?_)
      have hU := hV.only 2 rfl ho5 hh5
      go_wp2_with fail
      go_meet
      exact ⟨_, _, _, rfl, (SL.swap (SL.swap2 hU))⟩
 case rest =>
  clear hS1 hm1 hm2
  obtain ⟨tb, fb, bb, rfl, hS⟩ := hcut
  obtain ⟨wa, rfl⟩ : ∃ wa : World, wa = wc := ⟨_, rfl⟩
  have HS := Lib.hid hS
  clear hS
  go_wp2_with fail
  go_loopw [13] (fun i wr => ∃ k : Nat, k ≤ N ∧ i = .int .i64 k ∧ SL w w.heap.size [.blk tb #[.slice (some ⟨fb, 0, none⟩) N N, .slice (some ⟨bb, 0, none⟩) N N] 115, .blk fb (iarr (fun v => if v < k then FAR else 0) N) 2, .blk bb (iarr (fun v => if v < k then -1 else 0) N) 3, .blk w.heap.size #[.slice none 0 0, .slice none 0 0] 115] wr) (fun i _ => N - (intOf i).toNat)
  case atStart => exact ⟨0, by omega, rfl, by simpa using HS.out⟩
  case round =>
   clear HS
   obtain ⟨k, hk, rfl, hS⟩ := hrel
   have c0 : wr.cell? ⟨tb, 0, none⟩ = some (.slice (some ⟨fb, 0, none⟩) N N) := hS.cell 0 rfl 0 rfl
   have c1 : wr.cell? ⟨tb, 1, none⟩ = some (.slice (some ⟨bb, 0, none⟩) N N) := hS.cell 0 rfl 1 rfl
   by_cases hlt : k < N
   · skip
     go_upto_region 5 with fail
     refine wp_region_sl [0,1,2,3,4,5,6] [7] [8,9] [.blk tb #[.slice (some ⟨fb, 0, none⟩) N N, .slice (some ⟨bb, 0, none⟩) N N] 115] hS (by simp) (by kernel_rfl) (by kernel_rfl) (.cons rfl (.cons rfl .nil)) (fun C cw _ hC => ?_)
     have q0 : ∀ c, (cw c).cell? ⟨tb, 0, none⟩ = some (.slice (some ⟨fb, 0, none⟩) N N) := fun c => (hC c).cell 0 rfl 0 rfl
     have q1 : ∀ c, (cw c).cell? ⟨tb, 1, none⟩ = some (.slice (some ⟨bb, 0, none⟩) N N) := fun c => (hC c).cell 0 rfl 1 rfl
     repeat (refine pl_look rfl rfl rfl (fun Kv hK => ?_); go_big_quiet_op; refine hK _ ?_; clear hK Kv)
     clear q0 q1 hC c0 c1
     refine pl_end ?_
     intro w1 hT
     have d0 : w1.cell? ⟨fb, k, none⟩ = some (.int .i64 (if k < k then FAR else 0)) := hT.cell 1 rfl k (iarr_get _ _ _ hlt)
     have d1 := hT.free 1 rfl k
     have hT1 := hT.setInt 1 rfl k 1152921504606846976
     refine pm_eff rfl rfl fun Kv hK => ?_
     go_simp
     refine ⟨hT1.sub (by simp), hK _ _ ?_⟩
     clear hK Kv d0 d1 hS hT
     refine pm_end ?_
     generalize (w1.setCell ⟨fb, k, none⟩ (.int .i64 1152921504606846976)) = w2 at *
     have d2 := hT1.cell 2 rfl k (iarr_get _ _ _ hlt)
     have d3 := hT1.free 2 rfl k
     have HT2 := Lib.hid (hT1.setInt 2 rfl k (-1))
     clear hT1
     go_wp2_with fail
     go_roundw
     case rel =>
      refine ⟨k + 1, by omega, by go_num, ?_⟩
      have h : SL w w.heap.size [.blk tb #[.slice (some ⟨fb, 0, none⟩) N N, .slice (some ⟨bb, 0, none⟩) N N] 115, .blk fb (iarr (fun v => if v = k then FAR else if v < k then FAR else 0) N) 2, .blk bb (iarr (fun v => if v = k then -1 else if v < k then -1 else 0) N) 3, .blk w.heap.size #[.slice none 0 0, .slice none 0 0] 115] _ := HT2.out
      rw [below_step, below_step] at h
      exact h
     case measure => simp [intOf]; omega
   · obtain rfl : k = N := by omega
     have hT1 := hS.setInt 1 rfl f 0
     have d0 := hS.cell 1 rfl f (iarr_get _ _ _ hf)
     have d1 := hS.free 1 rfl f
     have c2 := hT1.cell 0 rfl 0 rfl
     have c3 := hT1.cell 0 rfl 1 rfl
     have HT1 := Lib.hid hT1
     clear hS hT1
     go_upto_region 8 with fail
     generalize (wr.setCell ⟨fb, f, none⟩ (.int .i64 0)) = w4 at *
     go_wp2_with (refine wpList_store_abs rfl 115 (.tmp 4) (.tmp 29) rfl rfl w.heap.size #[.slice (some ⟨fb, 0, none⟩) k k, .slice (some ⟨bb, 0, none⟩) k k] rfl rfl _ _ (HT1.out.blk 3 rfl) (by kernel_rfl) rfl (by simp [Value.oneCell']) ?_; intro w5 ho5 hh5; have HU := Lib.hid (HT1.out.only 3 rfl ho5 hh5); have c5 := HU.out.cell 3 rfl 0 rfl; have c6 := HU.out.cell 3 rfl 1 rfl; clear c2 c3 ho5 hh5)
     refine retArr rfl _ _ w.heap.size 115 _ _ rfl (HU.out.blk 3 rfl) Try.underlying115 rfl (by kernel_rfl) ⟨fb, bb, rfl, ?_⟩
     have h := HU.out
     have e1 : iarr (fun j => if j = f then 0 else if j < k then FAR else 0) k = iarr (BS.start f).far k := iarr_ext fun j hj => by
      show (if j = f then 0 else if j < k then FAR else 0) = if j = f then 0 else FAR
      rw [if_pos hj]
     have e2 : iarr (fun v => if v < k then -1 else 0) k = iarr (BS.start f).by_ k := iarr_ext fun j hj => by
      show (if j < k then (-1 : Int) else 0) = -1
      rw [if_pos hj]
     simp only [List.set_cons_succ, List.set_cons_zero] at h
     rw [e1, e2] at h
     exact h.sub (by simp)
end Go.Proofs.Ytjpejclfppbboaa
