/- law23.Bikes. (printed by gen/bikes23.py) -/
import Derived.Test.YtpbhbmdghafkmaaAwake23
namespace Go.Proofs.Ytpbhbmdghafkmaa
open Go.ChangeShapes Go.WideShapes Go.ChangeAt Go.RowKit
set_option linter.unusedVariables false
end Go.Proofs.Ytpbhbmdghafkmaa
