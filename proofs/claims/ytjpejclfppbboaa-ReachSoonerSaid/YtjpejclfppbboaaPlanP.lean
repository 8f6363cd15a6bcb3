/- What plan.Check tells, as plain functions: may the stops be, do they have room, what is carried, what is left. Sets of numbers, as lists. -/
import Derived.Test.YtjpejclfppbboaaNest
import Derived.Test.YtjpejclfppbboaaBitsW
namespace Go.Proofs.Ytjpejclfppbboaa
open Go.ChangeShapes Go.WideShapes Go.ChangeAt Go.RowKit
set_option linter.unusedVariables false
/-! sets -/
/-! trucks -/
/-! bikes -/
def noCust : CustV := ⟨0, 0, 0, 0⟩
/-! what is carried, what is left -/
/-! the plan's error -/
end Go.Proofs.Ytjpejclfppbboaa
