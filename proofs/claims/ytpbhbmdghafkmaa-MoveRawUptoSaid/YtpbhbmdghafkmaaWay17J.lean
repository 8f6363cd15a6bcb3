/- The walk of plan.Check. (printed by gen/plancheck.py) The walks of plan.Way, Bike.Nodes and Truck.Nodes. (printed by gen/way17.py) -/
import Derived.Test.YtpbhbmdghafkmaaLoadsJ
import Derived.Test.YtpbhbmdghafkmaaInstK
import Derived.Test.YtpbhbmdghafkmaaEqualAny
namespace Go.Proofs.Ytpbhbmdghafkmaa
open Go.ChangeShapes Go.WideShapes Go.ChangeAt Go.RowKit
set_option linter.unusedVariables false
end Go.Proofs.Ytpbhbmdghafkmaa
namespace Go.Proofs.Ytpbhbmdghafkmaa
open Go.ChangeShapes Go.WideShapes Go.ChangeAt Go.RowKit
set_option linter.unusedVariables false
end Go.Proofs.Ytpbhbmdghafkmaa
