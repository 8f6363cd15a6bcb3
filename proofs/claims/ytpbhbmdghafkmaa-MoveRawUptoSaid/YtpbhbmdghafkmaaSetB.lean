/- Contracts of package set: With; what a set holds, bit by bit. More contracts of package set: Without, Has, And, Or, Less. -/
import Derived.Test.YtpbhbmdghafkmaaRows
import Derived.Test.YtpbhbmdghafkmaaSL
import Derived.WalkKit
import Derived.ProofKit
import Derived.OpenShut
import Derived.Lib.Hide
import Derived.Laws.Rows
import Derived.Great.BuildSlice
import Derived.Laws.BitsAllLaws
import Derived.Deep.Draws
import Derived.Deep.AppendLies
import Derived.WalkSpells
import Derived.WalkLawsBesides
namespace Go.Proofs.Ytpbhbmdghafkmaa
open Go.ChangeShapes Go.WideShapes Go.ChangeAt Go.RowKit
set_option linter.unusedVariables false
end Go.Proofs.Ytpbhbmdghafkmaa
namespace Go.Proofs.Ytpbhbmdghafkmaa
open Go.ChangeShapes Go.WideShapes Go.ChangeAt Go.RowKit
set_option linter.unusedVariables false
end Go.Proofs.Ytpbhbmdghafkmaa
