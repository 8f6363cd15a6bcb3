/- The walk of plan.Cost. (printed by gen/cost17.py) Two changes done again are as they were; what stays long stays long. No program in sight. -/
import Derived.Test.YtpbhbmdghafkmaaNodes17
import Derived.Test.YtpbhbmdghafkmaaMoveP
import Derived.Test.YtpbhbmdghafkmaaPlanPJ
namespace Go.Proofs.Ytpbhbmdghafkmaa
open Go.ChangeShapes Go.WideShapes Go.ChangeAt Go.RowKit
set_option linter.unusedVariables false
theorem wayOf_in {x : InstV} (h : x.Small) {l : List Int} (hl : l.length ≤ 100001) : 0 ≤ wayOf x l ∧ wayOf x l ≤ 3000030 := by
 unfold wayOf
 split
 · have := stepsK_in h l l.length; omega
 · omega
end Go.Proofs.Ytpbhbmdghafkmaa
namespace Go.Proofs.Ytpbhbmdghafkmaa
open Go.ChangeShapes Go.WideShapes Go.ChangeAt Go.RowKit
set_option linter.unusedVariables false
theorem stops_put {bs : List BikeV} {a k : Nat} (l : List Int) (ha : a < bs.length) : stopsAt (putStops bs (a : Int) l) (k : Int) = if k = a then l else stopsAt bs (k : Int) := by
 unfold stopsAt putStops
 simp only [Int.toNat_natCast]
 by_cases h : k = a
 · subst h; simp [ha]
 · rw [if_neg h]; simp [List.getElem?_set_ne (Ne.symm h)]
theorem atB_nat {bs : List BikeV} {a i : Int} (h : atB bs a i = true) : ∃ k j : Nat, a = k ∧ i = j ∧ k < bs.length ∧ j < (stopsAt bs (k : Int)).length := by
 unfold atB at h
 simp only [Bool.and_eq_true, decide_eq_true_eq] at h
 obtain ⟨⟨h1, h2⟩, h3, h4⟩ := h
 refine ⟨a.toNat, i.toNat, by omega, by omega, by omega, ?_⟩
 rw [show ((a.toNat : Nat) : Int) = a by omega]
 omega
end Go.Proofs.Ytpbhbmdghafkmaa
