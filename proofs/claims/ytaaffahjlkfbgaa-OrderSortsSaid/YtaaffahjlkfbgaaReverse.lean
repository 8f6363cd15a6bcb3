/- slices.Reverse of a row of numbers that the call owns. -/
import Derived.Test.YtaaffahjlkfbgaaIarr
import Derived.Test.YtaaffahjlkfbgaaRows
import Derived.Deep.LoopGhost
import Derived.Deep.CutRange
import Derived.Deep.DeepCutAuto
import Derived.WalkSpells
import Derived.Outline
namespace Go.Proofs.Ytaaffahjlkfbgaa
open Go.ChangeShapes Go.WideShapes Go.ChangeAt Go.RowKit
set_option linter.unusedVariables false
/-- The first k and the last k have changed places. -/
def revF (f : Nat → Int) (n k : Nat) : Nat → Int := fun j => if j < k ∨ n ≤ j + k then f (n - 1 - j) else f j
theorem revF_zero (f : Nat → Int) (n : Nat) : nums (revF f n 0) n = nums f n := nums_ext fun j hj => by unfold revF; rw [if_neg (by omega)]
theorem revF_step (f : Nat → Int) (n k : Nat) (h : 2 * k + 1 < n) : nums (fun j => if j = n - 1 - k then revF f n k k else if j = k then revF f n k (n - 1 - k) else revF f n k j) n = nums (revF f n (k + 1)) n := nums_ext fun j hj => by
  unfold revF
  by_cases e1 : j = n - 1 - k
  · rw [if_pos e1, if_neg (by omega), if_pos (by omega), e1]
    congr 1
    omega
  · rw [if_neg e1]
    by_cases e2 : j = k
    · rw [if_pos e2, if_neg (by omega), if_pos (by omega), e2]
    · rw [if_neg e2]
      by_cases e3 : j < k ∨ n ≤ j + k
      · rw [if_pos e3, if_pos (by omega)]
      · rw [if_neg e3, if_neg (by omega)]
theorem revF_end (f : Nat → Int) (n k : Nat) (h : ¬ 2 * k + 1 < n) : nums (revF f n k) n = nums (fun j => f (n - 1 - j)) n := nums_ext fun j hj => by
  unfold revF
  split
  · rfl
  · congr 1; omega
theorem nums_reverse (zs : List Int) : nums (fun j => zs.getD (zs.length - 1 - j) 0) zs.length = zs.reverse.map (.int .i64) := by
  rw [nums_list]
  simp only [List.length_reverse]
  refine nums_ext fun j hj => ?_
  have h1 : zs.length - 1 - j < zs.length := by omega
  simp [hj, h1]
theorem set_self {α : Type} {l : List α} {i : Nat} {a : α} (h : l[i]? = some a) : l.set i a = l := by
  obtain ⟨h1, rfl⟩ := List.getElem?_eq_some_iff.1 h
  exact List.set_getElem_self h1
set_option maxHeartbeats 4000000 in
theorem reverse_any (W : World) (B : Nat) (rs : List Rs) (w : World) (it : Nat) (v : Value) (zs : List Int) (hS : SL W B rs w) (hi : rs[it]? = some (.row 3 1 v zs.length (zs.map (.int .i64)))) (hl : zs.length ≤ 1000000) :
    Calls Try.prog 52 #[v] w fun e w' => e = .returned (.tuple #[]) ∧ SL W B (rs.set it (.row 3 1 v zs.length (zs.reverse.map (.int .i64)))) w' := by
  obtain ⟨A, c, rfl, hc, hA⟩ := (hS.row it hi).slice_
  rw [nums_list] at hi
  rw [← nums_reverse]
  obtain ⟨f, hf⟩ : ∃ f, f = fun j => zs.getD j 0 := ⟨_, rfl⟩
  have ef : (fun j => zs.getD (zs.length - 1 - j) 0) = fun j => f (zs.length - 1 - j) := by rw [hf]
  rw [ef]
  rw [← hf] at hi
  clear ef hf
  generalize zs.length = n at *
  have HS0 : Hid (SL W B (rs.set it (.row 3 1 (.slice A n c) n (nums (revF f n 0) n))) w) := by
    rw [revF_zero, set_self hi]
    exact Lib.hid hS
  have HI : Hid (∀ xs : List Value, (rs.set it (.row 3 1 (.slice A n c) n xs))[it]? = some (.row 3 1 (.slice A n c) n xs)) := Lib.hid (fun xs => List.getElem?_set_self (List.getElem?_eq_some_iff.1 hi).1)
  have HII : Hid (∀ xs ys : List Value, (rs.set it (.row 3 1 (.slice A n c) n xs)).set it (.row 3 1 (.slice A n c) n ys) = rs.set it (.row 3 1 (.slice A n c) n ys)) := Lib.hid (fun xs ys => List.set_set ..)
  have HA := Lib.hid (And.intro hA (hS.row it hi))
  clear hS hi hA
  go_enter Try.func52, Try.ntmps52
  go_wp2
  go_loopw [2, 3] (fun vi vj wr => ∃ k : Nat, 2 * k ≤ n + 1 ∧ vi = .int .i64 k ∧ vj = .int .i64 ((n : Int) - 1 - k) ∧ SL W B (rs.set it (.row 3 1 (.slice A n c) n (nums (revF f n k) n))) wr) (fun vi _ _ => n - (intOf vi).toNat)
  case atStart => exact ⟨0, by omega, rfl, by simp, HS0.out⟩
  case round =>
    clear HS0
    obtain ⟨k, hk, rfl, rfl, hS⟩ := hrel
    by_cases hlt : 2 * k + 1 < n
    · obtain ⟨g, off, rfl⟩ : ∃ g off, A = some ⟨g, off, none⟩ := by
        rcases HA.out.2.2 with ⟨h0, _⟩ | ⟨g, off, cap, cur, e1, _⟩
        · omega
        · simp only [Value.slice.injEq] at e1
          exact ⟨g, off, e1.1⟩
      have ht : (k : Int) < (n : Int) - 1 - k := by omega
      have ej : ((n : Int) - 1 - k).toNat = n - 1 - k := by omega
      have hj0 : 0 ≤ (n : Int) - 1 - k := by omega
      have h5 : k < n := by omega
      have h6 : n - 1 - k < n := by omega
      go_upto_region 3 with fail
      refine wp_region_slb [0,1,2,3,4,5,6,8,9,10] [7,11,12,13] [14,15] [] hS (List.nil_sublist _) (by kernel_rfl) (by kernel_rfl) (.cons rfl (.cons rfl .nil)) (fun C cw _ hC => ?_)
      repeat (refine pl_look rfl rfl rfl (fun Kv hK => ?_); go_big_quiet_op; refine hK _ ?_; clear hK Kv)
      clear hC
      refine pl_end ?_
      intro w1 hT
      have q0 := hT.rowCell it (HI.out _) k (nums_get _ _ _ (by omega))
      have q1 := hT.rowCell it (HI.out _) (n - 1 - k) (nums_get _ _ _ (by omega))
      have q2 := hT.rowFree it (HI.out _) (off + k) (by omega)
      have q3 := hT.rowFree it (HI.out _) (off + (n - 1 - k)) (by omega)
      have HK := Lib.hid (SL.sub hT (List.nil_sublist _))
      have hT1 := hT.setRowCell it (HI.out _) k (by omega) (.int .i64 (revF f n k (n - 1 - k)))
      rw [HII.out, nums_set] at hT1
      have HT1 := Lib.hid hT1
      clear hS hT hT1
      refine pb_two 7 11 (by kernel_rfl) (by kernel_rfl) (by kernel_rfl) ?_ ?_
      · skip
        refine kOp_eff rfl rfl fun Kv hK => ?_
        go_simp
        refine ⟨HK.out, hK _ _ ?_⟩
        clear hK Kv
        refine pb_one 11 (by kernel_rfl) (by kernel_rfl) ?_
        refine kOp_eff rfl rfl fun Kv hK => ?_
        go_simp
        refine ⟨HK.out, hK _ _ ?_⟩
        clear hK Kv
        refine pb_one 12 (by kernel_rfl) (by kernel_rfl) ?_
        refine kOp_eff rfl rfl fun Kv hK => ?_
        go_simp
        refine ⟨HK.out, hK _ _ ?_⟩
        clear hK Kv
        refine pb_one 13 (by kernel_rfl) (by kernel_rfl) ?_
        refine kOp_eff rfl rfl fun Kv hK => ?_
        go_simp
        refine ⟨SL.sub HT1.out (List.nil_sublist _), hK _ _ ?_⟩
        clear hK Kv
        refine pb_end (by kernel_rfl) ?_
        clear q0 q1 q2 q3 HK
        generalize (w1.setCell ⟨g, off + k, none⟩ (.int .i64 (revF f n k (n - 1 - k)))) = w2 at *
        have d0 := HT1.out.rowCell it (HI.out _) (n - 1 - k) (nums_get _ _ _ (by omega))
        have d1 := HT1.out.rowFree it (HI.out _) (off + (n - 1 - k)) (by omega)
        have HT2 := Lib.hid (HT1.out.setRowCell it (HI.out _) (n - 1 - k) (by omega) (.int .i64 (revF f n k k)))
        go_wp2_with fail
        go_roundw
        case rel =>
          refine ⟨k + 1, by omega, by go_num, by go_num, ?_⟩
          have h := HT2.out
          rw [HII.out, nums_set, revF_step f n k hlt] at h
          exact h
        case measure => simp [intOf]; omega
      · skip
        refine kOp_eff rfl rfl fun Kv hK => ?_
        go_simp
        refine ⟨HK.out, hK _ _ ?_⟩
        clear hK Kv
        refine pb_one 7 (by kernel_rfl) (by kernel_rfl) ?_
        refine kOp_eff rfl rfl fun Kv hK => ?_
        go_simp
        refine ⟨HK.out, hK _ _ ?_⟩
        clear hK Kv
        refine pb_one 12 (by kernel_rfl) (by kernel_rfl) ?_
        refine kOp_eff rfl rfl fun Kv hK => ?_
        go_simp
        refine ⟨HK.out, hK _ _ ?_⟩
        clear hK Kv
        refine pb_one 13 (by kernel_rfl) (by kernel_rfl) ?_
        refine kOp_eff rfl rfl fun Kv hK => ?_
        go_simp
        refine ⟨SL.sub HT1.out (List.nil_sublist _), hK _ _ ?_⟩
        clear hK Kv
        refine pb_end (by kernel_rfl) ?_
        clear q0 q1 q2 q3 HK
        generalize (w1.setCell ⟨g, off + k, none⟩ (.int .i64 (revF f n k (n - 1 - k)))) = w2 at *
        have d0 := HT1.out.rowCell it (HI.out _) (n - 1 - k) (nums_get _ _ _ (by omega))
        have d1 := HT1.out.rowFree it (HI.out _) (off + (n - 1 - k)) (by omega)
        have HT2 := Lib.hid (HT1.out.setRowCell it (HI.out _) (n - 1 - k) (by omega) (.int .i64 (revF f n k k)))
        go_wp2_with fail
        go_roundw
        case rel =>
          refine ⟨k + 1, by omega, by go_num, by go_num, ?_⟩
          have h := HT2.out
          rw [HII.out, nums_set, revF_step f n k hlt] at h
          exact h
        case measure => simp [intOf]; omega
    · have ht : ¬ (k : Int) < (n : Int) - 1 - k := by omega
      have HS := Lib.hid hS
      clear hS
      go_wp2_with fail
      refine bodyPost_end (results_none rfl _ _ _) rfl ⟨rfl, ?_⟩
      have h := HS.out
      rw [revF_end f n k hlt] at h
      exact h
end Go.Proofs.Ytaaffahjlkfbgaa
