/- The walk of law11.square. -/
import Derived.Test.YtpbhbmdghafkmaaMakeM
import Derived.Test.YtpbhbmdghafkmaaIarr
import Derived.Test.YtpbhbmdghafkmaaRows
import Derived.Outline
import Derived.Deep.LoopGhost
namespace Go.Proofs.Ytpbhbmdghafkmaa
open Go.ChangeShapes Go.WideShapes Go.ChangeAt Go.RowKit
set_option linter.unusedVariables false
end Go.Proofs.Ytpbhbmdghafkmaa
