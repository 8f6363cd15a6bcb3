/- law23.Apply, of any move. (printed by gen/lawapply.py) move.Apply and law23.Apply in one shape. (printed by gen/both23.py) -/
import Derived.Test.YtpbhbmdghafkmaaLawApA
import Derived.Test.YtpbhbmdghafkmaaLawApB
import Derived.Test.YtpbhbmdghafkmaaLawApC
import Derived.Test.YtpbhbmdghafkmaaLawApD
import Derived.Test.YtpbhbmdghafkmaaKeepM
namespace Go.Proofs.Ytpbhbmdghafkmaa
open Go.ChangeShapes Go.WideShapes Go.ChangeAt Go.RowKit
set_option linter.unusedVariables false
set_option linter.unusedSimpArgs false
theorem lapply_any (sats : Int) (A : Option Addr) (c : Nat) (bs : List BikeV) (kd a i b j : Int) (w : World) (hB : Bikes w w.heap.size A bs) (hl : bs.length ≤ 100000) (hs : (allStops bs).length ≤ 100000) :
 Calls Try.prog 16 #[.int .i64 sats, .slice A bs.length c, .agg #[.int .i64 kd, .int .i64 a, .int .i64 i, .int .i64 b, .int .i64 j]] w (LApplyPost w (applyM sats bs ⟨kd, a, i, b, j⟩)) := by
 by_cases hA : kd = 0
 · exact lapply_A sats A c bs kd a i b j w hB hl hs hA
 by_cases hD : kd = 4
 · exact lapply_D sats A c bs kd a i b j w hB hl hs hD
 by_cases hC : kd = 1 ∨ kd = 2
 · exact lapply_B sats A c bs kd a i b j w hB hl hs hC
 · exact lapply_C sats A c bs kd a i b j w hB hl hs ⟨hA, hD, by omega, by omega⟩
end Go.Proofs.Ytpbhbmdghafkmaa
namespace Go.Proofs.Ytpbhbmdghafkmaa
open Go.ChangeShapes Go.WideShapes Go.ChangeAt Go.RowKit
set_option linter.unusedVariables false
set_option linter.unusedSimpArgs false
def AB (o : Option (List BikeV)) (l : List BikeV) (ok : Bool) : Prop :=
 match o with
 | none => l = [] ∧ ok = false
 | some bs => l = bs ∧ ok = true
def ABPost (w : World) (o : Option (List BikeV)) (e : Ending) (w' : World) : Prop :=
 ∃ A c l ok, e = .returned (.tuple #[.slice A (List.length l) c, .bool ok]) ∧ AB o l ok ∧ Bikes w' w'.heap.size A l ∧ Below w.heap.size w w'
theorem bikes_none (w : World) (B : Nat) : Bikes w B none [] := ⟨fun _ => ⟨none, 0⟩, ⟨rfl, fun h => absurd h (by simp)⟩, fun i hi => absurd hi (by simp)⟩
theorem ab_lapply {w w' : World} {o : Option (List BikeV)} {e : Ending} (h : LApplyPost w o e w') : ABPost w o e w' := by
 cases o with
 | none =>
   obtain ⟨rfl, hb⟩ := h
   exact ⟨none, 0, [], false, rfl, ⟨rfl, rfl⟩, bikes_none _ _, hb⟩
 | some now =>
   obtain ⟨A, c, rfl, hB, hb⟩ := h
   exact ⟨A, c, now, true, rfl, ⟨rfl, rfl⟩, hB, hb⟩
theorem lab_any (sats : Int) (A : Option Addr) (c : Nat) (bs : List BikeV) (kd a i b j : Int) (w : World) (hB : Bikes w w.heap.size A bs) (hl : bs.length ≤ 100000) (hs : (allStops bs).length ≤ 100000) :
 Calls Try.prog 16 #[.int .i64 sats, .slice A bs.length c, .agg #[.int .i64 kd, .int .i64 a, .int .i64 i, .int .i64 b, .int .i64 j]] w (ABPost w (applyM sats bs ⟨kd, a, i, b, j⟩)) :=
 (lapply_any sats A c bs kd a i b j w hB hl hs).mono fun e w' h => ab_lapply h
theorem ab_len {sats : Int} {bs l : List BikeV} {m : MoveV} {ok : Bool} (h : AB (applyM sats bs m) l ok) : l.length ≤ bs.length + 1 ∧ (allStops l).length ≤ (allStops bs).length := by
 cases ho : applyM sats bs m with
 | none => rw [ho] at h; rw [h.1]; simp [allStops]
 | some r =>
   rw [ho] at h
   rw [h.1]
   refine ⟨?_, Nat.le_of_eq (apply_sort ho).2⟩
   unfold applyM at ho
   cases hr : rawM sats bs m with
   | none => rw [hr] at ho; cases ho
   | some r0 =>
     rw [hr] at ho
     simp only [Option.map_some, Option.some.injEq] at ho
     rw [← ho]
     exact Nat.le_trans (List.length_filter_le _ _) (raw_len hr)
end Go.Proofs.Ytpbhbmdghafkmaa
