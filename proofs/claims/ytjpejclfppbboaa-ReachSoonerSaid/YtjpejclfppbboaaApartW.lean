/- wharfagelaw14.apart, of an instance that may be. (printed by gen/apartw.py) -/
import Derived.Test.YtjpejclfppbboaaMatN
import Derived.Test.YtjpejclfppbboaaCloneInt64
import Derived.Deep.CutBlock
import Derived.Deep.CutRange
import Derived.Deep.DeepCutAuto
namespace Go.Proofs.Ytjpejclfppbboaa
open Go.ChangeShapes Go.WideShapes Go.ChangeAt Go.RowKit
set_option linter.unusedVariables false
set_option linter.unusedSimpArgs false
end Go.Proofs.Ytjpejclfppbboaa
