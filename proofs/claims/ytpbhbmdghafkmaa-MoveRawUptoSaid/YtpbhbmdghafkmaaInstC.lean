/- The walks of Instance.numbers and Instance.Check. (printed by gen/instc.py) -/
import Derived.Test.YtpbhbmdghafkmaaInstW
import Derived.Test.YtpbhbmdghafkmaaIarr
import Derived.Deep.CutBlock
import Derived.Deep.CutRange
import Derived.Deep.DeepCutAuto
namespace Go.Proofs.Ytpbhbmdghafkmaa
open Go.ChangeShapes Go.WideShapes Go.ChangeAt Go.RowKit
set_option linter.unusedVariables false
end Go.Proofs.Ytpbhbmdghafkmaa
