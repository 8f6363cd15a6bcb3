/- slices.Equal at any two rows: it answers whether they are the same. The walk of plan.Check. (printed by gen/plancheck.py) -/
import Derived.Test.YtjpejclfppbboaaRows
import Derived.Test.YtjpejclfppbboaaSL
import Derived.Deep.QuietTactic
import Derived.BigQuiet
import Derived.WalkSmall
import Derived.Test.YtjpejclfppbboaaLoadsJ
import Derived.Test.YtjpejclfppbboaaInstK
namespace Go.Proofs.Ytjpejclfppbboaa
open Go.ChangeShapes Go.WideShapes Go.ChangeAt Go.RowKit
set_option linter.unusedVariables false
end Go.Proofs.Ytjpejclfppbboaa
namespace Go.Proofs.Ytjpejclfppbboaa
open Go.ChangeShapes Go.WideShapes Go.ChangeAt Go.RowKit
set_option linter.unusedVariables false
theorem InstIn.at_ {w wx : World} {p : IAt} {x : InstV} (h : InstIn w w.heap.size p x) (hb : Below w.heap.size w wx) : InstIn wx wx.heap.size p x := (h.below hb).more hb.size
end Go.Proofs.Ytjpejclfppbboaa
