/- What move.Apply tells, as plain functions. No program in sight. -/
import Derived.Test.YtpbhbmdghafkmaaNest
namespace Go.Proofs.Ytpbhbmdghafkmaa
open Go.ChangeShapes Go.WideShapes Go.ChangeAt Go.RowKit
set_option linter.unusedVariables false
def keepB (b : BikeV) : Bool := decide (0 < b.stops.length)
structure MoveV where
 kind : Int
 a : Int
 i : Int
 b : Int
 j : Int
def MoveV.cells (m : MoveV) : Array Value := #[.int .i64 m.kind, .int .i64 m.a, .int .i64 m.i, .int .i64 m.b, .int .i64 m.j]
def satAt (bs : List BikeV) (a : Int) : Int := (bs.getD a.toNat noBike).sat
def stopsAt (bs : List BikeV) (a : Int) : List Int := (bs.getD a.toNat noBike).stops
def atB (bs : List BikeV) (a i : Int) : Bool := decide (0 ≤ a ∧ a < bs.length) && decide (0 ≤ i ∧ i < (stopsAt bs a).length)
def behindB (bs : List BikeV) (a i : Int) : Bool := decide (0 ≤ a ∧ a < bs.length) && decide (0 ≤ i ∧ i ≤ (stopsAt bs a).length)
def putStops (bs : List BikeV) (a : Int) (l : List Int) : List BikeV := bs.set a.toNat ⟨satAt bs a, l⟩
def elseOk (bs : List BikeV) (m : MoveV) (many : Nat) : Bool := atB bs m.a m.i && decide (m.i ≤ (stopsAt bs m.a).length - many) && decide (0 ≤ m.b ∧ m.b ≤ bs.length)
def more (bs : List BikeV) (m : MoveV) : List BikeV := if m.b = bs.length then bs ++ [⟨satAt bs m.a, []⟩] else bs
def less (bs : List BikeV) (m : MoveV) (many : Nat) : List BikeV := putStops (more bs m) m.a ((stopsAt bs m.a).take m.i.toNat ++ (stopsAt bs m.a).drop (m.i.toNat + many))
def elseM (bs : List BikeV) (m : MoveV) (many : Nat) : Option (List BikeV) :=
 if elseOk bs m many = false then none else if behindB (less bs m many) m.b m.j = false then none
 else some (putStops (less bs m many) m.b ((stopsAt (less bs m many) m.b).take m.j.toNat ++ ((stopsAt bs m.a).drop m.i.toNat).take many ++ (stopsAt (less bs m many) m.b).drop m.j.toNat))
def swap1 (bs : List BikeV) (m : MoveV) : List BikeV := putStops bs m.a ((stopsAt bs m.a).set m.i.toNat ((stopsAt bs m.b).getD m.j.toNat 0))
def swapM (bs : List BikeV) (m : MoveV) : Option (List BikeV) :=
 if (atB bs m.a m.i && atB bs m.b m.j) = false then none
 else some (putStops (swap1 bs m) m.b ((stopsAt (swap1 bs m) m.b).set m.j.toNat ((stopsAt bs m.a).getD m.i.toNat 0)))
def turnM (bs : List BikeV) (m : MoveV) : Option (List BikeV) :=
 if (atB bs m.a m.i && decide (m.a = m.b) && atB bs m.a m.j && decide (m.i ≤ m.j)) = false then none
 else some (putStops bs m.a ((stopsAt bs m.a).take m.i.toNat ++ (((stopsAt bs m.a).drop m.i.toNat).take (m.j.toNat + 1 - m.i.toNat)).reverse ++ (stopsAt bs m.a).drop (m.j.toNat + 1)))
def tailsM (bs : List BikeV) (m : MoveV) : Option (List BikeV) :=
 if (!decide (m.a = m.b) && behindB bs m.a m.i && behindB bs m.b m.j) = false then none
 else some (putStops (putStops bs m.a ((stopsAt bs m.a).take m.i.toNat ++ (stopsAt bs m.b).drop m.j.toNat)) m.b ((stopsAt bs m.b).take m.j.toNat ++ (stopsAt bs m.a).drop m.i.toNat))
def baseM (sats : Int) (bs : List BikeV) (m : MoveV) : Option (List BikeV) :=
 if (behindB bs m.a 0 && decide (m.i = 0) && decide (m.j = 0) && decide (0 ≤ m.b) && decide (m.b < sats)) = false then none
 else some (bs.set m.a.toNat ⟨m.b, stopsAt bs m.a⟩)
def rawM (sats : Int) (bs : List BikeV) (m : MoveV) : Option (List BikeV) :=
 if m.kind = 0 then elseM bs m 1 else if m.kind = 4 then elseM bs m 2 else if m.kind = 1 then swapM bs m else if m.kind = 2 then turnM bs m else if m.kind = 3 then tailsM bs m else if m.kind = 5 then baseM sats bs m else none
def applyM (sats : Int) (bs : List BikeV) (m : MoveV) : Option (List BikeV) := (rawM sats bs m).map (·.filter keepB)
theorem satAt_lt {bs : List BikeV} {k : Nat} (h : k < bs.length) : satAt bs (k : Int) = bs[k].sat := by unfold satAt; simp [h]
theorem stopsAt_lt {bs : List BikeV} {k : Nat} (h : k < bs.length) : stopsAt bs (k : Int) = bs[k].stops := by unfold stopsAt; simp [h]
theorem putStops_len (bs : List BikeV) (a : Int) (l : List Int) : (putStops bs a l).length = bs.length := by unfold putStops; simp
end Go.Proofs.Ytpbhbmdghafkmaa
