/- Contracts of package set: With; what a set holds, bit by bit. More contracts of package set: Without, Has, And, Or, Less. Plain laws on bits: how many ones, the least one. No program in sight. Contracts: bits.OnesCount64, Set.Len. What plan.Check tells, as plain functions: may the stops be, do they have room, what is carried, what is left. Sets of numbers, as lists. -/
import Derived.Test.YtpbhbmdghafkmaaRows
import Derived.Test.YtpbhbmdghafkmaaSL
import Derived.WalkKit
import Derived.ProofKit
import Derived.OpenShut
import Derived.Lib.Hide
import Derived.Laws.Rows
import Derived.Great.BuildSlice
import Derived.Laws.BitsAllLaws
import Derived.Deep.Draws
import Derived.Deep.AppendLies
import Derived.WalkSpells
import Derived.WalkLawsBesides
import Derived.Test.YtpbhbmdghafkmaaNest
namespace Go.Proofs.Ytpbhbmdghafkmaa
open Go.ChangeShapes Go.WideShapes Go.ChangeAt Go.RowKit
set_option linter.unusedVariables false
end Go.Proofs.Ytpbhbmdghafkmaa
namespace Go.Proofs.Ytpbhbmdghafkmaa
open Go.ChangeShapes Go.WideShapes Go.ChangeAt Go.RowKit
set_option linter.unusedVariables false
end Go.Proofs.Ytpbhbmdghafkmaa
namespace Go.Proofs.Ytpbhbmdghafkmaa
set_option linter.unusedVariables false
end Go.Proofs.Ytpbhbmdghafkmaa
namespace Go.Proofs.Ytpbhbmdghafkmaa
open Go.ChangeShapes Go.WideShapes Go.ChangeAt Go.RowKit
set_option linter.unusedVariables false
/-! the least one -/
end Go.Proofs.Ytpbhbmdghafkmaa
namespace Go.Proofs.Ytpbhbmdghafkmaa
open Go.ChangeShapes Go.WideShapes Go.ChangeAt Go.RowKit
set_option linter.unusedVariables false
/-! sets -/
/-! trucks -/
/-! bikes -/
def allStops (bs : List BikeV) : List Int := bs.flatMap (·.stops)
theorem allStops_succ {bs : List BikeV} {k : Nat} (h : k < bs.length) : allStops (bs.take (k + 1)) = allStops (bs.take k) ++ bs[k].stops := by
 unfold allStops
 rw [List.take_succ_eq_append_getElem h, List.flatMap_append, List.flatMap_singleton]
/-! what is carried, what is left -/
theorem allStops_take (bs : List BikeV) (k : Nat) : (allStops (bs.take k)).length ≤ (allStops bs).length := by
 have : bs.take k ++ bs.drop k = bs := List.take_append_drop k bs
 have h : allStops bs = allStops (bs.take k) ++ allStops (bs.drop k) := by
  unfold allStops
  rw [← List.flatMap_append, this]
 rw [h, List.length_append]; omega
theorem stops_le {bs : List BikeV} {k : Nat} (h : k < bs.length) : (allStops (bs.take k)).length + bs[k].stops.length ≤ (allStops bs).length := by
 have := allStops_take bs (k + 1)
 rw [allStops_succ h, List.length_append] at this
 exact this
theorem flatten_succ {ts : List (List StopV)} {k : Nat} (h : k < ts.length) : (ts.take (k + 1)).flatten = (ts.take k).flatten ++ ts[k] := by
 rw [List.take_succ_eq_append_getElem h, List.flatten_append, List.flatten_singleton]
theorem flatten_le {ts : List (List StopV)} {k : Nat} (h : k < ts.length) : (ts.take k).flatten.length + ts[k].length ≤ ts.flatten.length := by
 have h1 : (ts.take (k + 1)).flatten.length ≤ ts.flatten.length := by
  have : ts.flatten = (ts.take (k + 1)).flatten ++ (ts.drop (k + 1)).flatten := by rw [← List.flatten_append, List.take_append_drop]
  rw [this, List.length_append]; omega
 rw [flatten_succ h, List.length_append] at h1
 exact h1
/-! the plan's error -/
/-- Few stops. -/
structure PlanL (p : PlanV) : Prop where
 trucks : p.trucks.length ≤ 100000
 bikes : p.bikes.length ≤ 100000
 stops : p.trucks.flatten.length ≤ 100000
 custs : (allStops p.bikes).length ≤ 100000
end Go.Proofs.Ytpbhbmdghafkmaa
