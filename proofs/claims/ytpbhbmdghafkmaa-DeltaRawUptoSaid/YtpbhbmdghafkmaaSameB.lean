/- law17.Same of two plans of bikes alone; law23.Same. (printed by gen/sameb.py) -/
import Derived.Test.YtpbhbmdghafkmaaApply
import Derived.Test.YtpbhbmdghafkmaaPlanC17J
import Derived.LoopN
namespace Go.Proofs.Ytpbhbmdghafkmaa
open Go.ChangeShapes Go.WideShapes Go.ChangeAt Go.RowKit
set_option linter.unusedVariables false
end Go.Proofs.Ytpbhbmdghafkmaa
