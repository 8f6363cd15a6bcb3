/- slices.Equal at any two rows: it answers whether they are the same. -/
import Derived.Test.YtjpejclfppbboaaRows
import Derived.Test.YtjpejclfppbboaaSL
import Derived.Deep.QuietTactic
import Derived.BigQuiet
import Derived.WalkSmall
namespace Go.Proofs.Ytjpejclfppbboaa
open Go.ChangeShapes Go.WideShapes Go.ChangeAt Go.RowKit
set_option linter.unusedVariables false
end Go.Proofs.Ytjpejclfppbboaa
