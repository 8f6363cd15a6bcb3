/- The walk of Plan.trucks. (printed by gen/plantb.py) -/
import Derived.Test.YtjpejclfppbboaaPlanP
import Derived.Test.YtjpejclfppbboaaMake
import Derived.Test.YtjpejclfppbboaaRowRun
import Derived.Outline
import Derived.Deep.LoopGhost
import Derived.Deep.CutBlock
import Derived.Deep.CutRange
import Derived.Deep.DeepCutAuto
namespace Go.Proofs.Ytjpejclfppbboaa
open Go.ChangeShapes Go.WideShapes Go.ChangeAt Go.RowKit
set_option linter.unusedVariables false
end Go.Proofs.Ytjpejclfppbboaa
