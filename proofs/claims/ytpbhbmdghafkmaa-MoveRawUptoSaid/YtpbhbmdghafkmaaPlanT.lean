/- The walk of Plan.trucks. (printed by gen/plantb.py) -/
import Derived.Test.YtpbhbmdghafkmaaPlanP
import Derived.Test.YtpbhbmdghafkmaaMake
import Derived.Test.YtpbhbmdghafkmaaRowRun
import Derived.Outline
import Derived.Deep.LoopGhost
import Derived.Deep.CutBlock
import Derived.Deep.CutRange
import Derived.Deep.DeepCutAuto
namespace Go.Proofs.Ytpbhbmdghafkmaa
open Go.ChangeShapes Go.WideShapes Go.ChangeAt Go.RowKit
set_option linter.unusedVariables false
end Go.Proofs.Ytpbhbmdghafkmaa
