/- The walks of plan.Way, Bike.Nodes and Truck.Nodes. (printed by gen/way17.py) -/
import Derived.Test.YtjpejclfppbboaaPlanC17
namespace Go.Proofs.Ytjpejclfppbboaa
open Go.ChangeShapes Go.WideShapes Go.ChangeAt Go.RowKit
set_option linter.unusedVariables false
theorem sat_any (x : InstV) (p : IAt) (s : Int) (w : World) : Calls Try.prog 51 #[.agg (x.cells p), .int .i64 s] w fun e w' => e = .returned (.int .i64 (wrap64 (1 + s))) ∧ Below w.heap.size w w' := by
 unfold InstV.cells
 go_enter Try.func51, Try.ntmps51
 go_wp2
 go_ret
 exact ⟨rfl, (Below.refl _ _).alloc (Nat.le_refl _) _⟩
theorem customer_any (x : InstV) (p : IAt) (c : Int) (w : World) (h1 : x.sats.length ≤ 1000) : Calls Try.prog 52 #[.agg (x.cells p), .int .i64 c] w fun e w' => e = .returned (.int .i64 (wrap64 (1 + x.sats.length + c))) ∧ Below w.heap.size w w' := by
 unfold InstV.cells
 go_enter Try.func52, Try.ntmps52
 go_wp2
 go_ret
 exact ⟨rfl, (Below.refl _ _).alloc (Nat.le_refl _) _⟩
end Go.Proofs.Ytjpejclfppbboaa
