/- The walk of plan.Check. (printed by gen/plancheck.py) -/
import Derived.Test.YtjpejclfppbboaaLoadsJ
import Derived.Test.YtjpejclfppbboaaInstK
import Derived.Test.YtjpejclfppbboaaEqualAny
namespace Go.Proofs.Ytjpejclfppbboaa
open Go.ChangeShapes Go.WideShapes Go.ChangeAt Go.RowKit
set_option linter.unusedVariables false
theorem InstIn.at_ {w wx : World} {p : IAt} {x : InstV} (h : InstIn w w.heap.size p x) (hb : Below w.heap.size w wx) : InstIn wx wx.heap.size p x := (h.below hb).more hb.size
end Go.Proofs.Ytjpejclfppbboaa
