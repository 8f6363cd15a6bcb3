/- The walk of law ReachReadies. (printed by gen/reachreadies.py) -/
import Derived.Test.YtjpejclfppbboaaAwake14
import Derived.Test.YtjpejclfppbboaaReachE
import Derived.Test.YtjpejclfppbboaaEqualAny
import Derived.Test.YtjpejclfppbboaaSmallOpen
import Derived.Deep.CutBlock
import Derived.Deep.CutRange
import Derived.Deep.DeepCutAuto
namespace Go.Proofs.Ytjpejclfppbboaa
open Go.ChangeShapes Go.WideShapes Go.ChangeAt Go.RowKit
set_option linter.unusedVariables false
set_option linter.unusedSimpArgs false
theorem small_fit {x : InstV} (h : x.Small) : x.Fit := by
 have h1 := h.fin
 have h2 := h.br
 refine ⟨h.code, h.lens, h.sats, h.custs, by omega, by omega, fun s hs => ?_, fun c hc => ?_, h.timeLen, fun i hi j hj => ?_⟩
 · have := h.satsIn s hs; omega
 · have := h.custsIn c hc; omega
 · have := h.timeIn i hi j hj; omega
end Go.Proofs.Ytjpejclfppbboaa
