/- Instances and plans that came in, opened. -/
import Derived.Test.YtpbhbmdghafkmaaNest
import Derived.Test.YtpbhbmdghafkmaaOpen
import Derived.Test.YtpbhbmdghafkmaaRows
import Derived.Deep.Matrix
namespace Go.Proofs.Ytpbhbmdghafkmaa
open Go.ChangeShapes Go.WideShapes Go.Deep Go.Joins Go.RowKit
set_option linter.unusedVariables false
section
variable {H : Type} {enc : TypeId × Value → H} {W : World}
theorem open_one {n : Nat} {t : TypeId} {k : IntKind} (ht : Try.prog.underlying t = some (.int k)) {v : Value} {y : DataW H × List MemPlace} (h : DataW.trod enc Try.prog W 0 (fun _ => true) true n t [v] = some y) : ∃ a : Int, v = .int k a ∧ (Lit.int k a).wf = true := by
 obtain ⟨a, e, _, hw⟩ := DataW.trod_int ht h
 simp only [List.cons.injEq, and_true] at e
 exact ⟨a, e, hw⟩
instance : Nonempty (List StopV × SlA) := ⟨([], ⟨none, 0⟩)⟩
instance : Nonempty (BikeV × SlA) := ⟨(⟨0, []⟩, ⟨none, 0⟩)⟩
end
end Go.Proofs.Ytpbhbmdghafkmaa
