/- The walk of Plan.bikes. (printed by gen/plantb.py) The walks of plan.Loads and Plan.drops. (printed by gen/loads.py) -/
import Derived.Test.YtpbhbmdghafkmaaPlanT
import Derived.Test.YtpbhbmdghafkmaaIarr
namespace Go.Proofs.Ytpbhbmdghafkmaa
open Go.ChangeShapes Go.WideShapes Go.ChangeAt Go.RowKit
set_option linter.unusedVariables false
end Go.Proofs.Ytpbhbmdghafkmaa
namespace Go.Proofs.Ytpbhbmdghafkmaa
open Go.ChangeShapes Go.WideShapes Go.ChangeAt Go.RowKit
set_option linter.unusedVariables false
end Go.Proofs.Ytpbhbmdghafkmaa
