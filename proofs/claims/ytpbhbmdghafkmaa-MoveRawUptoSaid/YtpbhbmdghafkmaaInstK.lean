/- The walk of Instance.Check. (printed by gen/instc.py) -/
import Derived.Test.YtpbhbmdghafkmaaInstC
import Derived.Test.YtpbhbmdghafkmaaRowRun
namespace Go.Proofs.Ytpbhbmdghafkmaa
open Go.ChangeShapes Go.WideShapes Go.ChangeAt Go.RowKit
set_option linter.unusedVariables false
end Go.Proofs.Ytpbhbmdghafkmaa
