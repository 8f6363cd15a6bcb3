/- The walk of law11.Make. (printed by gen/make.py) -/
import Derived.Test.YtpbhbmdghafkmaaMake
import Derived.Test.YtpbhbmdghafkmaaRowRun
import Derived.Deep.CutBlock
import Derived.Deep.CutRange
import Derived.Deep.DeepCutAuto
namespace Go.Proofs.Ytpbhbmdghafkmaa
open Go.ChangeShapes Go.WideShapes Go.ChangeAt Go.RowKit
set_option linter.unusedVariables false
end Go.Proofs.Ytpbhbmdghafkmaa
