/- A matrix that is owned, of which all rows are as long; how wharfagelaw14.apart fills it. No program in sight. -/
import Derived.Test.YtjpejclfppbboaaMatO
import Derived.Test.YtjpejclfppbboaaMakeW
import Derived.Test.YtjpejclfppbboaaReachA
namespace Go.Proofs.Ytjpejclfppbboaa
open Go.ChangeShapes Go.WideShapes Go.ChangeAt Go.RowKit
set_option linter.unusedVariables false
section
variable {W w : World} {B : Nat} {v v' : Value} {ps : List (List Int × Value)} {R : List Rs} {g off c gk ok k N j b L m n : Nat} {l : List Int} {r : Rs}
end
/-! how it is filled -/
section
variable {N : Nat} {T : Nat → Nat → Int} {I : Nat → Bool} {i m : Nat}
end
end Go.Proofs.Ytjpejclfppbboaa
