/- Plain laws on bits: how many ones, the least one. No program in sight. Contracts: bits.OnesCount64, Set.Len. -/
import Derived.Test.YtjpejclfppbboaaSetB
namespace Go.Proofs.Ytjpejclfppbboaa
set_option linter.unusedVariables false
end Go.Proofs.Ytjpejclfppbboaa
namespace Go.Proofs.Ytjpejclfppbboaa
open Go.ChangeShapes Go.WideShapes Go.ChangeAt Go.RowKit
set_option linter.unusedVariables false
/-! the least one -/
end Go.Proofs.Ytjpejclfppbboaa
