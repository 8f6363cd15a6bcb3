/- wharfagelaw14.Ways, of an instance that may be. (printed by gen/reachf.py) -/
import Derived.Test.YtjpejclfppbboaaReachE
import Derived.Test.YtjpejclfppbboaaReachD
import Derived.Deep.CutBlock
import Derived.Deep.CutRange
import Derived.Deep.DeepCutAuto
namespace Go.Proofs.Ytjpejclfppbboaa
open Go.ChangeShapes Go.WideShapes Go.ChangeAt Go.RowKit
set_option linter.unusedVariables false
set_option linter.unusedSimpArgs false
theorem out_at {x : InstV} (h : x.Fit) {s : Nat} (hs : s < x.sats.length) {c : Nat} (hc : c < x.custs.length) :
 (0 ≤ apartM x.n (timeF x) (stayF x) (inWays x s) (1 + s) (1 + x.sats.length + c) ∧ apartM x.n (timeF x) (stayF x) (inWays x s) (1 + s) (1 + x.sats.length + c) ≤ 10000) ∧ (outM x s)[c]? = some (apartM x.n (timeF x) (stayF x) (inWays x s) (1 + s) (1 + x.sats.length + c)) := by
 refine ⟨apart_bd (time_in h) (fun i => (stay_in h i).1) (inWays_s x s) (inWays_c x s hc) (by omega), ?_⟩
 unfold outM
 rw [List.getElem?_map, List.getElem?_range hc, Option.map_some]
theorem back_at {x : InstV} (h : x.Fit) {s : Nat} (hs : s < x.sats.length) {c : Nat} (hc : c < x.custs.length) :
 (0 ≤ apartM x.n (timeF x) (stayF x) (inWays x s) (1 + x.sats.length + c) (1 + s) ∧ apartM x.n (timeF x) (stayF x) (inWays x s) (1 + x.sats.length + c) (1 + s) ≤ 10000) ∧ (backM x s)[c]? = some ((x.custs[c]'hc).stay + apartM x.n (timeF x) (stayF x) (inWays x s) (1 + x.sats.length + c) (1 + s)) := by
 refine ⟨apart_bd (time_in h) (fun i => (stay_in h i).1) (inWays_c x s hc) (inWays_s x s) (by omega), ?_⟩
 unfold backM
 rw [List.getElem?_map, List.getElem?_range hc, Option.map_some]
 congr 2
 simp [hc]
end Go.Proofs.Ytjpejclfppbboaa
