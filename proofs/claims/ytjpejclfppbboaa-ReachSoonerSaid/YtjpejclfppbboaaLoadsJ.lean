/- The walk of Plan.bikes. (printed by gen/plantb.py) The walks of plan.Loads and Plan.drops. (printed by gen/loads.py) -/
import Derived.Test.YtjpejclfppbboaaPlanT
import Derived.Test.YtjpejclfppbboaaIarr
namespace Go.Proofs.Ytjpejclfppbboaa
open Go.ChangeShapes Go.WideShapes Go.ChangeAt Go.RowKit
set_option linter.unusedVariables false
end Go.Proofs.Ytjpejclfppbboaa
namespace Go.Proofs.Ytjpejclfppbboaa
open Go.ChangeShapes Go.WideShapes Go.ChangeAt Go.RowKit
set_option linter.unusedVariables false
end Go.Proofs.Ytjpejclfppbboaa
