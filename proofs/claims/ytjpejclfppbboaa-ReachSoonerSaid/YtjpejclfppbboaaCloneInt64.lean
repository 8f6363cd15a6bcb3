/- slices.Clone of []int64. -/
import Derived.Test.YtjpejclfppbboaaRowRun
import Derived.Test.YtjpejclfppbboaaRows
import Derived.WalkSpells
import Derived.Outline
namespace Go.Proofs.Ytjpejclfppbboaa
open Go.ChangeShapes Go.WideShapes Go.ChangeAt Go.RowKit
set_option linter.unusedVariables false
end Go.Proofs.Ytjpejclfppbboaa
