/- A matrix that is owned: rows of numbers, each its own slice. No program in sight. -/
import Derived.Test.YtjpejclfppbboaaNest
import Derived.Test.YtjpejclfppbboaaApartM
namespace Go.Proofs.Ytjpejclfppbboaa
open Go.ChangeShapes Go.WideShapes Go.ChangeAt Go.RowKit
set_option linter.unusedVariables false
section
variable {W w : World} {B : Nat} {v : Value} {ps : List (List Int × Value)} {R : List Rs} {g off c gk ok k : Nat}
end
end Go.Proofs.Ytjpejclfppbboaa
