/- wharfagelaw14.Readies, of an instance that may be. (printed by gen/reache.py) -/
import Derived.Test.YtjpejclfppbboaaApartW
import Derived.Test.YtjpejclfppbboaaReachC
import Derived.Test.YtjpejclfppbboaaMakeW
import Derived.Deep.CutBlock
import Derived.Deep.CutRange
import Derived.Deep.DeepCutAuto
namespace Go.Proofs.Ytjpejclfppbboaa
open Go.ChangeShapes Go.WideShapes Go.ChangeAt Go.RowKit
set_option linter.unusedVariables false
set_option linter.unusedSimpArgs false
theorem readies_at {x : InstV} (h : x.Fit) {i : Nat} (hi : i < x.sats.length) :
 (0 ≤ apartM x.n (timeF x) (fun _ => 0) (inSat x) 0 (1 + i) ∧ apartM x.n (timeF x) (fun _ => 0) (inSat x) 0 (1 + i) ≤ 10000) ∧ (readyM x)[i]? = some (apartM x.n (timeF x) (fun _ => 0) (inSat x) 0 (1 + i) + (x.sats[i]'hi).hold) := by
 have h0 : inSat x 0 = true := by unfold inSat; rw [decide_eq_true_eq]; omega
 have h1 : inSat x (1 + i) = true := by unfold inSat; rw [decide_eq_true_eq]; omega
 refine ⟨apart_bd (n := x.n) (st := fun _ => 0) (time_in h) (fun i => Int.le_refl 0) h0 h1 (by omega), ?_⟩
 unfold readyM
 rw [List.getElem?_map, List.getElem?_range hi, Option.map_some]
 congr 2
 simp [hi]
end Go.Proofs.Ytjpejclfppbboaa
