/- The walks of Bike.Nodes and Truck.Nodes. (printed by gen/nodes17.py) The walk of plan.Cost. (printed by gen/cost17.py) -/
import Derived.Test.YtpbhbmdghafkmaaWay17J
import Derived.Test.YtpbhbmdghafkmaaMakeW
namespace Go.Proofs.Ytpbhbmdghafkmaa
open Go.ChangeShapes Go.WideShapes Go.ChangeAt Go.RowKit
set_option linter.unusedVariables false
end Go.Proofs.Ytpbhbmdghafkmaa
namespace Go.Proofs.Ytpbhbmdghafkmaa
open Go.ChangeShapes Go.WideShapes Go.ChangeAt Go.RowKit
set_option linter.unusedVariables false
end Go.Proofs.Ytpbhbmdghafkmaa
