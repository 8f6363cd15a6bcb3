/- What delta.Change tells, as plain functions: by the bikes that change alone it is what all bikes tell. No program in sight. delta.pick. (printed by gen/pick24.py) delta.Rounds, of an instance that may be. (printed by gen/rounds24.py) delta.Change, of an instance that may be. (printed by gen/change24.py) -/
import Derived.Test.YtpbhbmdghafkmaaMoveP
import Derived.Test.YtpbhbmdghafkmaaWay17J
import Derived.Test.YtpbhbmdghafkmaaSameB
import Derived.Test.YtpbhbmdghafkmaaPhase
import Derived.Deep.CutBlock
import Derived.Deep.CutRange
import Derived.Deep.DeepCutAuto
import Derived.Test.YtpbhbmdghafkmaaCost17J
import Derived.Test.YtpbhbmdghafkmaaKeepM
import Derived.Test.YtpbhbmdghafkmaaInstK
namespace Go.Proofs.Ytpbhbmdghafkmaa
open Go.ChangeShapes Go.WideShapes Go.ChangeAt Go.RowKit
set_option linter.unusedVariables false
/-! one bike, two bikes -/
section
variable {bs : List BikeV} {a b : Nat}
end
end Go.Proofs.Ytpbhbmdghafkmaa
namespace Go.Proofs.Ytpbhbmdghafkmaa
open Go.ChangeShapes Go.WideShapes Go.ChangeAt Go.RowKit
set_option linter.unusedVariables false
set_option linter.unusedSimpArgs false
/-- Bikes whose stops lie somewhere. -/
def Heads (w : World) (B : Nat) (qs : List (BikeV × Value)) : Prop := ∀ q ∈ qs, ∃ a c, q.2 = .slice a q.1.stops.length c ∧ IntsAt w B a q.1.stops
theorem bikes_heads {w : World} {B : Nat} {A : Option Addr} {T t : TypeId} {qs : List (BikeV × Value)} (h0 : Reads w B 2 A qs.length ((bikeN T t).heads qs)) (h : Heads w B qs) : Bikes w B A (qs.map (·.1)) := by
 have key : ∀ i, ∃ sa : SlA, ∀ hi : i < qs.length, qs[i].2 = .slice sa.A qs[i].1.stops.length sa.c ∧ IntsAt w B sa.A qs[i].1.stops := fun i => by
  by_cases hi : i < qs.length
  · obtain ⟨a, c, e, hr⟩ := h _ (List.getElem_mem hi)
    exact ⟨⟨a, c⟩, fun _ => ⟨e, hr⟩⟩
  · exact ⟨⟨none, 0⟩, fun hi' => absurd hi' hi⟩
 refine ⟨fun i => (key i).choose, ?_, fun i hi => ?_⟩
 · have e : (List.range (qs.map (·.1)).length).flatMap (fun i => bikeHd ((qs.map (·.1)).getD i noBike) ((key i).choose)) = (bikeN T t).heads qs := by
    rw [List.length_map]
    refine range_zip (bikeN T t).head _ qs fun i hi => ?_
    have := ((key i).choose_spec hi).1
    simp only [Nest.head, bikeHd, bikeN] at this ⊢
    rw [this]
    simp [hi]
   rw [e, List.length_map]
   exact h0
 · have hi' : i < qs.length := by simpa using hi
   have := ((key i).choose_spec hi').2
   simpa [IntsAt, hi'] using this
theorem heads_snoc' (T t : TypeId) (qs : List (BikeV × Value)) (b : BikeV) (v : Value) : (bikeN T t).heads (qs ++ [(b, v)]) = (bikeN T t).heads qs ++ [.int .i64 b.sat, v] := by
 unfold Nest.heads; rw [List.flatMap_append]; rfl
end Go.Proofs.Ytpbhbmdghafkmaa
namespace Go.Proofs.Ytpbhbmdghafkmaa
open Go.ChangeShapes Go.WideShapes Go.ChangeAt Go.RowKit
set_option linter.unusedVariables false
set_option linter.unusedSimpArgs false
end Go.Proofs.Ytpbhbmdghafkmaa
namespace Go.Proofs.Ytpbhbmdghafkmaa
open Go.ChangeShapes Go.WideShapes Go.ChangeAt Go.RowKit
set_option linter.unusedVariables false
set_option linter.unusedSimpArgs false
end Go.Proofs.Ytpbhbmdghafkmaa
