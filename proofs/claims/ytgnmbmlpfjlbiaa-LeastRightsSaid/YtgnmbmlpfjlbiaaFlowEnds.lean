/- The walk of flow.Ends. -/
import Derived.Test.YtgnmbmlpfjlbiaaFlowCheck
namespace Go.Proofs.Ytgnmbmlpfjlbiaa
open Go.ChangeShapes Go.WideShapes Go.ChangeAt Go.RowKit
set_option linter.unusedVariables false
/-- What Ends answers. -/
def endsP (N : Int) (l : List PipeV) (s t : Int) : Int := if checkP N l ≠ 0 then checkP N l else if s < 0 ∨ N ≤ s ∨ t < 0 ∨ N ≤ t ∨ s = t then 2 else 0
set_option maxHeartbeats 4000000 in
theorem endsP_any (N : Int) (A : Option Addr) (cap : Nat) (l : List PipeV) (s t : Int) (w : World) (hr : Pipes w w.heap.size A l) (hl : l.length ≤ maxLen) :
    Calls Try.prog 23 #[.agg #[.int .i64 N, .slice A l.length cap], .int .i64 s, .int .i64 t] w fun e w' => e = .returned (.int .i64 (endsP N l s t)) ∧ Below w.heap.size w w' := by
  have hS0 := (SL.start (Nat.le_refl w.heap.size)).alloc #[.int .i64 N, .slice A l.length cap] 26
  have HRD : Hid (Pipes (w.alloc (.cells #[.int .i64 N, .slice A l.length cap] 26)) (w.alloc (.cells #[.int .i64 N, .slice A l.length cap] 26)).heap.size A l) := Lib.hid (reads_more (Reads.below hr hS0.below) (by simp))
  have HS0 := Lib.hid hS0
  have HL := Lib.hid hl
  clear hr hS0 hl
  obtain ⟨C, hC⟩ : ∃ C, C = checkP N l := ⟨_, rfl⟩
  have HC := Lib.hid hC
  by_cases c0 : C = 0
  · rw [c0] at HC
    clear c0
    by_cases q0 : s < 0
    · have HE : Hid (endsP N l s t = 2) := Lib.hid (by unfold endsP; rw [← HC.out, if_neg (by omega), if_pos (by omega)])
      clear hC
      go_enter Try.func23, Try.ntmps23
      go_wp2_with (go_at_call 22; (with_reducible refine (checkP_any _ _ _ _ _ HRD.out HL.out).mono ?_); rintro e w2 ⟨rfl, hB⟩; rw [← HC.out]; have HS1 := Lib.hid (HS0.out.call hB); have hy0 := HS1.out.cell 0 rfl 0 rfl; clear hB)
      go_ret
      exact ⟨retInt HE.out.symm, HS1.out.below⟩
    · skip
      by_cases q1 : N ≤ s
      · have HE : Hid (endsP N l s t = 2) := Lib.hid (by unfold endsP; rw [← HC.out, if_neg (by omega), if_pos (by omega)])
        clear hC
        go_enter Try.func23, Try.ntmps23
        go_wp2_with (go_at_call 22; (with_reducible refine (checkP_any _ _ _ _ _ HRD.out HL.out).mono ?_); rintro e w2 ⟨rfl, hB⟩; rw [← HC.out]; have HS1 := Lib.hid (HS0.out.call hB); have hy0 := HS1.out.cell 0 rfl 0 rfl; clear hB)
        go_ret
        exact ⟨retInt HE.out.symm, HS1.out.below⟩
      · skip
        by_cases q2 : t < 0
        · have HE : Hid (endsP N l s t = 2) := Lib.hid (by unfold endsP; rw [← HC.out, if_neg (by omega), if_pos (by omega)])
          clear hC
          go_enter Try.func23, Try.ntmps23
          go_wp2_with (go_at_call 22; (with_reducible refine (checkP_any _ _ _ _ _ HRD.out HL.out).mono ?_); rintro e w2 ⟨rfl, hB⟩; rw [← HC.out]; have HS1 := Lib.hid (HS0.out.call hB); have hy0 := HS1.out.cell 0 rfl 0 rfl; clear hB)
          go_ret
          exact ⟨retInt HE.out.symm, HS1.out.below⟩
        · skip
          by_cases q3 : N ≤ t
          · have HE : Hid (endsP N l s t = 2) := Lib.hid (by unfold endsP; rw [← HC.out, if_neg (by omega), if_pos (by omega)])
            clear hC
            go_enter Try.func23, Try.ntmps23
            go_wp2_with (go_at_call 22; (with_reducible refine (checkP_any _ _ _ _ _ HRD.out HL.out).mono ?_); rintro e w2 ⟨rfl, hB⟩; rw [← HC.out]; have HS1 := Lib.hid (HS0.out.call hB); have hy0 := HS1.out.cell 0 rfl 0 rfl; clear hB)
            go_ret
            exact ⟨retInt HE.out.symm, HS1.out.below⟩
          · skip
            by_cases q4 : s = t
            · have HE : Hid (endsP N l s t = 2) := Lib.hid (by unfold endsP; rw [← HC.out, if_neg (by omega), if_pos (by omega)])
              clear hC
              go_enter Try.func23, Try.ntmps23
              go_wp2_with (go_at_call 22; (with_reducible refine (checkP_any _ _ _ _ _ HRD.out HL.out).mono ?_); rintro e w2 ⟨rfl, hB⟩; rw [← HC.out]; have HS1 := Lib.hid (HS0.out.call hB); have hy0 := HS1.out.cell 0 rfl 0 rfl; clear hB)
              go_ret
              exact ⟨retInt HE.out.symm, HS1.out.below⟩
            · skip
              have HE : Hid (endsP N l s t = 0) := Lib.hid (by unfold endsP; rw [← HC.out, if_neg (by omega), if_neg (by omega)])
              have q5 : (s == t) = false := by simpa using q4
              clear hC
              go_enter Try.func23, Try.ntmps23
              go_wp2_with (go_at_call 22; (with_reducible refine (checkP_any _ _ _ _ _ HRD.out HL.out).mono ?_); rintro e w2 ⟨rfl, hB⟩; rw [← HC.out]; have HS1 := Lib.hid (HS0.out.call hB); have hy0 := HS1.out.cell 0 rfl 0 rfl; clear hB)
              go_ret
              exact ⟨retInt HE.out.symm, HS1.out.below⟩
  · have HE : Hid (endsP N l s t = C) := Lib.hid (by unfold endsP; rw [← hC, if_pos c0])
    have hz : (C != 0) = true := by simpa using c0
    clear hC c0
    go_enter Try.func23, Try.ntmps23
    go_wp2_with (go_at_call 22; (with_reducible refine (checkP_any _ _ _ _ _ HRD.out HL.out).mono ?_); rintro e w2 ⟨rfl, hB⟩; rw [← HC.out]; have HS1 := Lib.hid (HS0.out.call hB); have hy0 := HS1.out.cell 0 rfl 0 rfl; clear hB)
    go_ret
    exact ⟨retInt HE.out.symm, HS1.out.below⟩
end Go.Proofs.Ytgnmbmlpfjlbiaa
