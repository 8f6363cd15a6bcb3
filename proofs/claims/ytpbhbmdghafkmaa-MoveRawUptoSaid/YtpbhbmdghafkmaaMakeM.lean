/- The plain part of law11.Make: an instance by small numbers; it may be. Rows of rows that the call owns. No program in sight. -/
import Derived.Test.YtpbhbmdghafkmaaNest
namespace Go.Proofs.Ytpbhbmdghafkmaa
open Go.ChangeShapes Go.WideShapes Go.ChangeAt Go.RowKit
set_option linter.unusedVariables false
/-! rows of rows, owned -/
/-! what law11.square makes -/
/-! law11.Make -/
end Go.Proofs.Ytpbhbmdghafkmaa
