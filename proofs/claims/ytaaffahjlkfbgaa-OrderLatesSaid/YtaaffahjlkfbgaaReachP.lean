/- What a search over a graph leaves behind: a row that tells what one comes to. -/
import Derived.Test.YtaaffahjlkfbgaaReachM
import Derived.Test.YtaaffahjlkfbgaaSL
import Derived.Deep.LoopGhost
namespace Go.Proofs.Ytaaffahjlkfbgaa
open Go.ChangeShapes Go.WideShapes Go.ChangeAt Go.RowKit
set_option linter.unusedVariables false
theorem bool_info : (Try.prog.info? 4).map (fun i => (i.zero, i.size, i.bytes)) = some (some (.bool false), 1, 1) := by kernel_rfl
/-- What is handed back: a row of N booleans, true just where one comes to. -/
def ReachPost (W : World) (N : Nat) (l : List ArcV) (s : Int) (e : Ending) (w' : World) : Prop :=
  ∃ (f : Nat → Bool) (g : Nat), e = .returned (.slice (some ⟨g, 0, none⟩) N N) ∧ w'.heap[g]? = some (.cells (barr f N) 4 (0, 0)) ∧ Below W.heap.size W w' ∧ ∀ j, j < N → (f j = true ↔ Rch l s j)
end Go.Proofs.Ytaaffahjlkfbgaa
