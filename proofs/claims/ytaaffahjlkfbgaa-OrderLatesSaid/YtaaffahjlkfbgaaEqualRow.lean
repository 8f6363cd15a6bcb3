/- slices.Equal at two rows of as many numbers; a block as a row. -/
import Derived.Test.YtaaffahjlkfbgaaEqualAny
import Derived.Test.YtaaffahjlkfbgaaIarr
import Derived.Test.YtaaffahjlkfbgaaTree
namespace Go.Proofs.Ytaaffahjlkfbgaa
open Go.ChangeShapes Go.WideShapes Go.ChangeAt Go.RowKit
set_option linter.unusedVariables false
/-- slices.Equal at two rows of as many numbers. -/
theorem equal_nums64 (F G : Nat → Int) (N : Nat) (A A' : Option Addr) (c c' : Nat) (w : World) (hN : N ≤ 20000) (h1 : Reads w w.heap.size 1 A N (nums F N)) (h2 : Reads w w.heap.size 1 A' N (nums G N)) :
    Calls Try.prog 38 #[.slice A N c, .slice A' N c'] w fun e w' => ∃ b : Bool, e = .returned (.bool b) ∧ (b = true ↔ ∀ v, v < N → F v = G v) ∧ Below w.heap.size w w' := by
  have e1 : nums F N = ((List.range N).map F).map (.int .i64) := by unfold nums; simp
  have e2 : nums G N = ((List.range N).map G).map (.int .i64) := by unfold nums; simp
  have h := equalA_int64s A A' c c' ((List.range N).map F) ((List.range N).map G) w (by simpa [e1] using h1) (by simpa [e2] using h2) (by simp [maxLen]; omega) (by simp [maxLen]; omega)
  simp only [List.length_map, List.length_range] at h
  refine h.mono fun e w' ⟨he, hb⟩ => ⟨_, he, ?_, hb⟩
  rw [decide_eq_true_iff]
  constructor
  · intro h v hv
    have := congrArg (fun l => l[v]?) h
    simpa [hv] using this
  · intro h
    exact List.map_congr_left fun v hv => h v (by simpa using hv)
end Go.Proofs.Ytaaffahjlkfbgaa
