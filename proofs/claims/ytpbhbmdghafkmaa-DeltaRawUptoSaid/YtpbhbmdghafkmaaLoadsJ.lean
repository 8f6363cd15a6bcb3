/- The walk of Plan.trucks. (printed by gen/plantb.py) The walk of Plan.bikes. (printed by gen/plantb.py) The walks of plan.Loads and Plan.drops. (printed by gen/loads.py) -/
import Derived.Test.YtpbhbmdghafkmaaPlanPJ
import Derived.Test.YtpbhbmdghafkmaaMake
import Derived.Test.YtpbhbmdghafkmaaRowRun
import Derived.Outline
import Derived.Deep.LoopGhost
import Derived.Deep.CutBlock
import Derived.Deep.CutRange
import Derived.Deep.DeepCutAuto
import Derived.Test.YtpbhbmdghafkmaaIarr
namespace Go.Proofs.Ytpbhbmdghafkmaa
open Go.ChangeShapes Go.WideShapes Go.ChangeAt Go.RowKit
set_option linter.unusedVariables false
end Go.Proofs.Ytpbhbmdghafkmaa
namespace Go.Proofs.Ytpbhbmdghafkmaa
open Go.ChangeShapes Go.WideShapes Go.ChangeAt Go.RowKit
set_option linter.unusedVariables false
end Go.Proofs.Ytpbhbmdghafkmaa
namespace Go.Proofs.Ytpbhbmdghafkmaa
open Go.ChangeShapes Go.WideShapes Go.ChangeAt Go.RowKit
set_option linter.unusedVariables false
end Go.Proofs.Ytpbhbmdghafkmaa
