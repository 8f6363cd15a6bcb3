/- What delta.Change tells, as plain functions: by the bikes that change alone it is what all bikes tell. No program in sight. delta.pick. (printed by gen/pick24.py) delta.Rounds, of an instance that may be. (printed by gen/rounds24.py) delta.Change, of an instance that may be. (printed by gen/change24.py) -/
import Derived.Test.YtpbhbmdghafkmaaMoveP
import Derived.Test.YtpbhbmdghafkmaaWay17
import Derived.Test.YtpbhbmdghafkmaaSameB
import Derived.Test.YtpbhbmdghafkmaaPhase
import Derived.Deep.CutBlock
import Derived.Deep.CutRange
import Derived.Deep.DeepCutAuto
import Derived.Test.YtpbhbmdghafkmaaNodes17
import Derived.Test.YtpbhbmdghafkmaaBackMJ
import Derived.Test.YtpbhbmdghafkmaaKeepM
import Derived.Test.YtpbhbmdghafkmaaInstK
namespace Go.Proofs.Ytpbhbmdghafkmaa
open Go.ChangeShapes Go.WideShapes Go.ChangeAt Go.RowKit
set_option linter.unusedVariables false
def roundOf (x : InstV) (b : BikeV) : Int := if b.stops.length = 0 then 0 else wayOf x (bikeNodes x.sats.length b b.stops.length)
def roundsOf (x : InstV) (bs : List BikeV) : Int := (bs.map (roundOf x)).sum
/-- The bikes of these numbers, rising. -/
def pickDK (bs : List BikeV) (at_ : List Int) (k : Nat) : List BikeV := ((List.range k).filter fun (i : Nat) => at_.contains (i : Int)).map fun (i : Nat) => bs.getD i noBike
def pickD (bs : List BikeV) (at_ : List Int) : List BikeV := pickDK bs at_ bs.length
def someM (bs : List BikeV) (m : MoveV) : List BikeV := if m.kind = 5 ∨ m.kind = 2 then pickD bs [m.a] else pickD bs [m.a, m.b]
def newM (m : MoveV) : MoveV := if m.kind = 5 then ⟨m.kind, 0, m.i, m.b, m.j⟩ else if m.a = m.b then ⟨m.kind, 0, m.i, 0, m.j⟩ else if m.b < m.a then ⟨m.kind, 1, m.i, 0, m.j⟩ else ⟨m.kind, 0, m.i, 1, m.j⟩
def rangeB (bs : List BikeV) (m : MoveV) : Bool := decide (0 ≤ m.a ∧ m.a < bs.length) && (decide (m.kind = 5) || decide (0 ≤ m.b ∧ m.b ≤ bs.length))
def changeM (x : InstV) (bs : List BikeV) (m : MoveV) : Option Int :=
 if rangeB bs m = false then none else (applyM x.sats.length (someM bs m) (newM m)).map fun now => roundsOf x now - roundsOf x (someM bs m)
theorem pickK_succ (bs : List BikeV) (at_ : List Int) {k : Nat} (h : k < bs.length) : pickDK bs at_ (k + 1) = pickDK bs at_ k ++ if at_.contains (k : Int) then [bs[k]] else [] := by
 unfold pickDK
 rw [List.range_succ, List.filter_append, List.map_append]
 congr 1
 by_cases hc : at_.contains (k : Int) = true
 · rw [List.filter_cons, if_pos hc, if_pos hc]
   simp [h]
 · rw [List.filter_cons, if_neg hc, if_neg hc]
   simp
theorem rounds_snoc (x : InstV) (bs : List BikeV) (b : BikeV) : roundsOf x (bs ++ [b]) = roundsOf x bs + roundOf x b := by unfold roundsOf; simp
theorem rounds_take (x : InstV) {bs : List BikeV} {k : Nat} (h : k < bs.length) : roundsOf x (bs.take (k + 1)) = roundsOf x (bs.take k) + roundOf x bs[k] := by
 rw [List.take_succ_eq_append_getElem h, rounds_snoc]
theorem rounds_set (x : InstV) : ∀ (bs : List BikeV) (k : Nat) (b : BikeV) (h : k < bs.length), roundsOf x (bs.set k b) = roundsOf x bs - roundOf x bs[k] + roundOf x b
 | [], k, b, h => by simp at h
 | c :: r, 0, b, h => by unfold roundsOf; simp; omega
 | c :: r, k + 1, b, h => by
   have ih := rounds_set x r k b (by simpa using h)
   unfold roundsOf at ih ⊢
   simp only [List.set_cons_succ, List.map_cons, List.sum_cons, List.getElem_cons_succ, ih]
   omega
theorem rounds_keep (x : InstV) : ∀ bs : List BikeV, roundsOf x (bs.filter keepB) = roundsOf x bs
 | [] => rfl
 | b :: r => by
   have ih := rounds_keep x r
   unfold roundsOf at ih ⊢
   by_cases hb : keepB b = true
   · rw [List.filter_cons, if_pos hb]; simp [ih]
   · rw [List.filter_cons, if_neg hb]
     have h0 : roundOf x b = 0 := by
      unfold keepB at hb
      have : b.stops.length = 0 := by simpa using hb
      unfold roundOf; rw [if_pos this]
     simp [ih, h0]
/-! one bike, two bikes -/
theorem pick_one {bs : List BikeV} {a : Nat} (h : a < bs.length) : pickD bs [(a : Int)] = [bs[a]] := by
 have : ∀ k, k ≤ bs.length → pickDK bs [(a : Int)] k = if a < k then [bs[a]] else [] := by
  intro k
  induction k with
  | zero => intro _; rfl
  | succ k ih =>
    intro hk
    rw [pickK_succ bs _ (by omega), ih (by omega)]
    by_cases e : a = k
    · subst e; simp
    · by_cases hl : a < k
      · have : ¬ (k : Int) = (a : Int) := by omega
        simp [hl, this, show a < k + 1 by omega]
      · have : ¬ (k : Int) = (a : Int) := by omega
        simp [hl, this, show ¬ a < k + 1 by omega]
 unfold pickD
 rw [this _ (Nat.le_refl _), if_pos h]
theorem pick_same {bs : List BikeV} {a : Nat} (h : a < bs.length) : pickD bs [(a : Int), (a : Int)] = [bs[a]] := by
 rw [← pick_one h]
 unfold pickD pickDK
 simp
theorem pick_far {bs : List BikeV} {a : Nat} (h : a < bs.length) : pickD bs [(a : Int), (bs.length : Int)] = [bs[a]] := by
 rw [← pick_one h]
 unfold pickD pickDK
 congr 1
 apply List.filter_congr
 intro i hi
 have hi2 : i < bs.length := by simpa using hi
 simp
 omega
theorem pick_two {bs : List BikeV} {a b : Nat} (hab : a < b) (hb : b < bs.length) : pickD bs [(a : Int), (b : Int)] = [bs[a], bs[b]] := by
 have : ∀ k, k ≤ bs.length → pickDK bs [(a : Int), (b : Int)] k = (if a < k then [bs[a]] else []) ++ (if b < k then [bs[b]] else []) := by
  intro k
  induction k with
  | zero => intro _; rfl
  | succ k ih =>
    intro hk
    rw [pickK_succ bs _ (by omega), ih (by omega)]
    by_cases e1 : a = k
    · subst e1
      simp [show ¬ b < a by omega, show ¬ b < a + 1 by omega]
    · by_cases e2 : b = k
      · subst e2
        simp [hab, show a < b + 1 by omega]
      · have n1 : ¬ (k : Int) = (a : Int) := by omega
        have n2 : ¬ (k : Int) = (b : Int) := by omega
        have c1 : (a < k + 1) = (a < k) := by apply propext; omega
        have c2 : (b < k + 1) = (b < k) := by apply propext; omega
        simp [n1, n2, c1, c2]
 unfold pickD
 rw [this _ (Nat.le_refl _), if_pos (by omega), if_pos hb]; rfl
theorem pick_two' {bs : List BikeV} {a b : Nat} (hab : b < a) (ha : a < bs.length) : pickD bs [(a : Int), (b : Int)] = [bs[b], bs[a]] := by
 rw [← pick_two hab ha]
 unfold pickD pickDK
 congr 1
 apply List.filter_congr
 intro i _
 simp only [List.contains_cons, List.contains_nil, Bool.or_false]
 exact Bool.or_comm _ _
/-- What two other bikes become. -/
def pairM (kind i j : Int) (x y : BikeV) : Option (BikeV × BikeV) :=
 if kind = 0 ∨ kind = 4 then
  if (0 ≤ i ∧ i < x.stops.length) ∧ i ≤ x.stops.length - (if kind = 0 then (1 : Nat) else 2 : Nat) ∧ (0 ≤ j ∧ j ≤ y.stops.length) then
   some (⟨x.sat, x.stops.take i.toNat ++ x.stops.drop (i.toNat + if kind = 0 then 1 else 2)⟩, ⟨y.sat, y.stops.take j.toNat ++ (x.stops.drop i.toNat).take (if kind = 0 then 1 else 2) ++ y.stops.drop j.toNat⟩) else none
 else if kind = 1 then
  if (0 ≤ i ∧ i < x.stops.length) ∧ (0 ≤ j ∧ j < y.stops.length) then some (⟨x.sat, x.stops.set i.toNat (y.stops.getD j.toNat 0)⟩, ⟨y.sat, y.stops.set j.toNat (x.stops.getD i.toNat 0)⟩) else none
 else if kind = 3 then
  if (0 ≤ i ∧ i ≤ x.stops.length) ∧ (0 ≤ j ∧ j ≤ y.stops.length) then some (⟨x.sat, x.stops.take i.toNat ++ y.stops.drop j.toNat⟩, ⟨y.sat, y.stops.take j.toNat ++ x.stops.drop i.toNat⟩) else none
 else none
section
variable {bs : List BikeV} {a b : Nat}
theorem atD_nat (h : a < bs.length) (i : Int) : atB bs a i = decide (0 ≤ i ∧ i < bs[a].stops.length) := by
 unfold atB; rw [stopsAt_lt h]; simp [h]
theorem behindD_nat (h : a < bs.length) (i : Int) : behindB bs a i = decide (0 ≤ i ∧ i ≤ bs[a].stops.length) := by
 unfold behindB; rw [stopsAt_lt h]; simp [h]
theorem putD_nat (h : a < bs.length) (l : List Int) : putStops bs a l = bs.set a ⟨bs[a].sat, l⟩ := by
 unfold putStops; rw [satAt_lt h]; simp
theorem setD_other (hb : b < bs.length) (hab : a ≠ b) (x : BikeV) : (bs.set a x)[b]'(by simpa using hb) = bs[b] := by
 rw [List.getElem_set_ne hab]
theorem else_pair (kd : Int) (ha : a < bs.length) (hb : b < bs.length) (hab : a ≠ b) (i j : Int) (many : Nat) :
 elseM bs ⟨kd, a, i, b, j⟩ many = if (0 ≤ i ∧ i < bs[a].stops.length) ∧ i ≤ bs[a].stops.length - many ∧ (0 ≤ j ∧ j ≤ bs[b].stops.length) then
  some ((bs.set a ⟨bs[a].sat, bs[a].stops.take i.toNat ++ bs[a].stops.drop (i.toNat + many)⟩).set b ⟨bs[b].sat, bs[b].stops.take j.toNat ++ (bs[a].stops.drop i.toNat).take many ++ bs[b].stops.drop j.toNat⟩) else none := by
 have e0 : more bs ⟨kd, a, i, b, j⟩ = bs := by unfold more; rw [if_neg]; simp; omega
 have e1 : less bs ⟨kd, a, i, b, j⟩ many = bs.set a ⟨bs[a].sat, bs[a].stops.take i.toNat ++ bs[a].stops.drop (i.toNat + many)⟩ := by
  unfold less; rw [e0]; simp only [stopsAt_lt ha]; rw [putD_nat ha]
 have hb2 : b < (bs.set a ⟨bs[a].sat, bs[a].stops.take i.toNat ++ bs[a].stops.drop (i.toNat + many)⟩).length := by simpa using hb
 have e2 : behindB (less bs ⟨kd, a, i, b, j⟩ many) b j = decide (0 ≤ j ∧ j ≤ bs[b].stops.length) := by
  rw [e1, behindD_nat hb2, setD_other hb hab]
 have e3 : elseOk bs ⟨kd, a, i, b, j⟩ many = decide ((0 ≤ i ∧ i < bs[a].stops.length) ∧ i ≤ bs[a].stops.length - many) := by
  unfold elseOk
  simp only [atD_nat ha, stopsAt_lt ha]
  have : (0 : Int) ≤ b ∧ (b : Int) ≤ bs.length := ⟨by omega, by omega⟩
  rw [decide_eq_true this, Bool.and_true, ← Bool.decide_and]
 unfold elseM
 simp only [e3, e2, stopsAt_lt ha]
 by_cases c1 : (0 ≤ i ∧ i < bs[a].stops.length) ∧ i ≤ bs[a].stops.length - many
 · rw [decide_eq_true c1, if_neg (by simp)]
   by_cases c2 : 0 ≤ j ∧ j ≤ bs[b].stops.length
   · rw [decide_eq_true c2, if_neg (by simp), if_pos ⟨c1.1, c1.2, c2⟩]
     rw [e1, stopsAt_lt hb2, putD_nat hb2, setD_other hb hab]
   · rw [decide_eq_false c2, if_pos rfl, if_neg (fun h => c2 h.2.2)]
 · rw [decide_eq_false c1, if_pos rfl, if_neg (fun h => c1 ⟨h.1, h.2.1⟩)]
theorem raw_pair (sats kd : Int) (ha : a < bs.length) (hb : b < bs.length) (hab : a ≠ b) (h5 : kd ≠ 5) (i j : Int) :
 rawM sats bs ⟨kd, a, i, b, j⟩ = (pairM kd i j bs[a] bs[b]).map fun q => (bs.set a q.1).set b q.2 := by
 unfold rawM pairM
 have hne : ¬ (a : Int) = (b : Int) := by omega
 by_cases k0 : kd = 0
 · subst k0
   simp only [if_pos, true_or, else_pair 0 ha hb hab]
   split <;> rfl
 by_cases k4 : kd = 4
 · subst k4
   simp only [if_neg k0, if_true, or_true, else_pair 4 ha hb hab]
   split <;> rfl
 simp only [if_neg k0, if_neg k4, if_neg (show ¬ (kd = 0 ∨ kd = 4) from fun h => h.elim k0 k4)]
 by_cases k1 : kd = 1
 · subst k1
   simp only [if_true]
   unfold swapM
   simp only [atD_nat ha, atD_nat hb, stopsAt_lt ha, stopsAt_lt hb, ← Bool.decide_and]
   have e1 : swap1 bs ⟨1, a, i, b, j⟩ = bs.set a ⟨bs[a].sat, bs[a].stops.set i.toNat (bs[b].stops.getD j.toNat 0)⟩ := by
    unfold swap1; simp only [stopsAt_lt ha, stopsAt_lt hb]; rw [putD_nat ha]
   by_cases c : (0 ≤ i ∧ i < bs[a].stops.length) ∧ (0 ≤ j ∧ j < bs[b].stops.length)
   · rw [decide_eq_true c, if_neg (by simp), if_pos c, e1]
     have hb2 : b < (bs.set a ⟨bs[a].sat, bs[a].stops.set i.toNat (bs[b].stops.getD j.toNat 0)⟩).length := by simpa using hb
     rw [stopsAt_lt hb2, putD_nat hb2, setD_other hb hab]; rfl
   · rw [decide_eq_false c, if_pos rfl, if_neg c]; rfl
 simp only [if_neg k1]
 by_cases k2 : kd = 2
 · subst k2
   simp only [if_true]
   unfold turnM
   simp only [decide_eq_false hne, Bool.and_false, Bool.false_and]
   rfl
 simp only [if_neg k2]
 by_cases k3 : kd = 3
 · subst k3
   simp only [if_true]
   unfold tailsM
   simp only [behindD_nat ha, behindD_nat hb, stopsAt_lt ha, stopsAt_lt hb, decide_eq_false hne, Bool.not_false, Bool.true_and, ← Bool.decide_and]
   by_cases c : (0 ≤ i ∧ i ≤ bs[a].stops.length) ∧ (0 ≤ j ∧ j ≤ bs[b].stops.length)
   · rw [decide_eq_true c, if_neg (by simp), if_pos c, putD_nat ha]
     have hb2 : b < (bs.set a ⟨bs[a].sat, bs[a].stops.take i.toNat ++ bs[b].stops.drop j.toNat⟩).length := by simpa using hb
     rw [putD_nat hb2, setD_other hb hab]; rfl
   · rw [decide_eq_false c, if_pos rfl, if_neg c]; rfl
 simp only [if_neg k3, if_neg h5]
 rfl
theorem raw_far (sats kd : Int) (ha : a < bs.length) (h5 : kd ≠ 5) (i j : Int) :
 rawM sats bs ⟨kd, a, i, (bs.length : Nat), j⟩ = (if kd = 0 ∨ kd = 4 then pairM kd i j bs[a] ⟨bs[a].sat, []⟩ else none).map fun q => bs.set a q.1 ++ [q.2] := by
 have hne : ¬ (a : Int) = (bs.length : Int) := by omega
 have ha' : a < (bs ++ [(⟨bs[a].sat, []⟩ : BikeV)]).length := by simp; omega
 have hb' : bs.length < (bs ++ [(⟨bs[a].sat, []⟩ : BikeV)]).length := by simp
 have g1 : (bs ++ [(⟨bs[a].sat, []⟩ : BikeV)])[a] = bs[a] := List.getElem_append_left ha
 have g2 : (bs ++ [(⟨bs[a].sat, []⟩ : BikeV)])[bs.length] = ⟨bs[a].sat, []⟩ := by simp
 have s1 : stopsAt (bs ++ [(⟨bs[a].sat, []⟩ : BikeV)]) a = stopsAt bs a := by rw [stopsAt_lt ha', stopsAt_lt ha, g1]
 have s2 : satAt (bs ++ [(⟨bs[a].sat, []⟩ : BikeV)]) a = satAt bs a := by rw [satAt_lt ha', satAt_lt ha, g1]
 have key : ∀ many, elseM bs ⟨kd, a, i, (bs.length : Nat), j⟩ many = elseM (bs ++ [⟨bs[a].sat, []⟩]) ⟨kd, a, i, (bs.length : Nat), j⟩ many := by
  intro many
  have m1 : more bs ⟨kd, a, i, (bs.length : Nat), j⟩ = bs ++ [⟨bs[a].sat, []⟩] := by unfold more; rw [if_pos rfl]; simp only [satAt_lt ha]
  have m2 : more (bs ++ [⟨bs[a].sat, []⟩]) ⟨kd, a, i, (bs.length : Nat), j⟩ = bs ++ [⟨bs[a].sat, []⟩] := by unfold more; rw [if_neg (by simp; omega)]
  have l1 : less bs ⟨kd, a, i, (bs.length : Nat), j⟩ many = less (bs ++ [⟨bs[a].sat, []⟩]) ⟨kd, a, i, (bs.length : Nat), j⟩ many := by
   unfold less
   rw [m1, m2]
   simp only [s1]
  have o1 : elseOk bs ⟨kd, a, i, (bs.length : Nat), j⟩ many = elseOk (bs ++ [⟨bs[a].sat, []⟩]) ⟨kd, a, i, (bs.length : Nat), j⟩ many := by
   unfold elseOk
   simp only [s1, atD_nat ha, atD_nat ha', g1]
   congr 1
   apply decide_eq_decide.2
   simp; omega
  unfold elseM
  rw [l1, o1]
  simp only [s1]
 have fin : ∀ q : BikeV × BikeV, ((bs ++ [(⟨bs[a].sat, []⟩ : BikeV)]).set a q.1).set bs.length q.2 = bs.set a q.1 ++ [q.2] := fun q => by
  rw [List.set_append_left _ _ ha, List.set_append_right _ _ (by simp), List.length_set, Nat.sub_self]; rfl
 unfold rawM
 by_cases k0 : kd = 0
 · subst k0
   have h := raw_pair sats 0 ha' hb' (by omega) (by decide) i j
   unfold rawM at h
   simp only [if_true, true_or, key] at h ⊢
   rw [h, g1, g2]
   congr 1
   funext q
   exact fin q
 by_cases k4 : kd = 4
 · subst k4
   have h := raw_pair sats 4 ha' hb' (by omega) (by decide) i j
   unfold rawM at h
   simp only [if_neg k0, if_true, or_true, key] at h ⊢
   rw [h, g1, g2]
   congr 1
   funext q
   exact fin q
 simp only [if_neg k0, if_neg k4, if_neg (show ¬ (kd = 0 ∨ kd = 4) from fun h => h.elim k0 k4)]
 have out : ∀ j, atB bs (bs.length : Nat) j = false := fun j => by unfold atB; rw [decide_eq_false (by omega)]; rfl
 have out2 : ∀ j, behindB bs (bs.length : Nat) j = false := fun j => by unfold behindB; rw [decide_eq_false (by omega)]; rfl
 by_cases k1 : kd = 1
 · subst k1
   simp only [if_true]
   unfold swapM
   simp only [out, Bool.and_false, if_true]
   rfl
 simp only [if_neg k1]
 by_cases k2 : kd = 2
 · subst k2
   simp only [if_true]
   unfold turnM
   simp only [decide_eq_false hne, Bool.and_false, Bool.false_and]
   rfl
 simp only [if_neg k2]
 by_cases k3 : kd = 3
 · subst k3
   simp only [if_true]
   unfold tailsM
   simp only [out2, Bool.and_false, if_true]
   rfl
 simp only [if_neg k3, if_neg h5]
 rfl
/-- What one bike becomes. -/
def soloM (kind i j : Int) (x : BikeV) : Option BikeV :=
 if kind = 0 ∨ kind = 4 then
  if (0 ≤ i ∧ i < x.stops.length) ∧ i ≤ x.stops.length - (if kind = 0 then (1 : Nat) else 2 : Nat) ∧ (0 ≤ j ∧ j ≤ (x.stops.take i.toNat ++ x.stops.drop (i.toNat + if kind = 0 then 1 else 2)).length) then
   some ⟨x.sat, (x.stops.take i.toNat ++ x.stops.drop (i.toNat + if kind = 0 then 1 else 2)).take j.toNat ++ (x.stops.drop i.toNat).take (if kind = 0 then 1 else 2) ++ (x.stops.take i.toNat ++ x.stops.drop (i.toNat + if kind = 0 then 1 else 2)).drop j.toNat⟩ else none
 else if kind = 1 then
  if (0 ≤ i ∧ i < x.stops.length) ∧ (0 ≤ j ∧ j < x.stops.length) then some ⟨x.sat, (x.stops.set i.toNat (x.stops.getD j.toNat 0)).set j.toNat (x.stops.getD i.toNat 0)⟩ else none
 else if kind = 2 then
  if (0 ≤ i ∧ i < x.stops.length) ∧ (0 ≤ j ∧ j < x.stops.length) ∧ i ≤ j then some ⟨x.sat, x.stops.take i.toNat ++ ((x.stops.drop i.toNat).take (j.toNat + 1 - i.toNat)).reverse ++ x.stops.drop (j.toNat + 1)⟩ else none
 else none
theorem else_solo (kd : Int) (ha : a < bs.length) (i j : Int) (many : Nat) :
 elseM bs ⟨kd, a, i, a, j⟩ many = if (0 ≤ i ∧ i < bs[a].stops.length) ∧ i ≤ bs[a].stops.length - many ∧ (0 ≤ j ∧ j ≤ (bs[a].stops.take i.toNat ++ bs[a].stops.drop (i.toNat + many)).length) then
  some (bs.set a ⟨bs[a].sat, (bs[a].stops.take i.toNat ++ bs[a].stops.drop (i.toNat + many)).take j.toNat ++ (bs[a].stops.drop i.toNat).take many ++ (bs[a].stops.take i.toNat ++ bs[a].stops.drop (i.toNat + many)).drop j.toNat⟩) else none := by
 have e0 : more bs ⟨kd, a, i, a, j⟩ = bs := by unfold more; rw [if_neg]; simp; omega
 have e1 : less bs ⟨kd, a, i, a, j⟩ many = bs.set a ⟨bs[a].sat, bs[a].stops.take i.toNat ++ bs[a].stops.drop (i.toNat + many)⟩ := by
  unfold less; rw [e0]; simp only [stopsAt_lt ha]; rw [putD_nat ha]
 have hb2 : a < (bs.set a ⟨bs[a].sat, bs[a].stops.take i.toNat ++ bs[a].stops.drop (i.toNat + many)⟩).length := by simpa using ha
 have e3 : elseOk bs ⟨kd, a, i, a, j⟩ many = decide ((0 ≤ i ∧ i < bs[a].stops.length) ∧ i ≤ bs[a].stops.length - many) := by
  unfold elseOk
  simp only [atD_nat ha, stopsAt_lt ha]
  have : (0 : Int) ≤ a ∧ (a : Int) ≤ bs.length := ⟨by omega, by omega⟩
  rw [decide_eq_true this, Bool.and_true, ← Bool.decide_and]
 unfold elseM
 simp only [e3, e1, behindD_nat hb2, stopsAt_lt ha, stopsAt_lt hb2, List.getElem_set_self]
 by_cases c1 : (0 ≤ i ∧ i < bs[a].stops.length) ∧ i ≤ bs[a].stops.length - many
 · rw [decide_eq_true c1, if_neg (by simp)]
   by_cases c2 : 0 ≤ j ∧ j ≤ (bs[a].stops.take i.toNat ++ bs[a].stops.drop (i.toNat + many)).length
   · rw [decide_eq_true c2, if_neg (by simp), if_pos ⟨c1.1, c1.2, c2⟩, putD_nat hb2]
     simp
   · rw [decide_eq_false c2, if_pos rfl, if_neg (fun h => c2 h.2.2)]
 · rw [decide_eq_false c1, if_pos rfl, if_neg (fun h => c1 ⟨h.1, h.2.1⟩)]
theorem raw_solo (sats kd : Int) (ha : a < bs.length) (h5 : kd ≠ 5) (i j : Int) : rawM sats bs ⟨kd, a, i, a, j⟩ = (soloM kd i j bs[a]).map fun q => bs.set a q := by
 unfold rawM soloM
 by_cases k0 : kd = 0
 · subst k0
   simp only [if_pos, true_or, else_solo 0 ha]
   split <;> rfl
 by_cases k4 : kd = 4
 · subst k4
   simp only [if_neg k0, if_true, or_true, else_solo 4 ha]
   split <;> rfl
 simp only [if_neg k0, if_neg k4, if_neg (show ¬ (kd = 0 ∨ kd = 4) from fun h => h.elim k0 k4)]
 by_cases k1 : kd = 1
 · subst k1
   simp only [if_true]
   unfold swapM
   simp only [atD_nat ha, stopsAt_lt ha, ← Bool.decide_and]
   have e1 : swap1 bs ⟨1, a, i, a, j⟩ = bs.set a ⟨bs[a].sat, bs[a].stops.set i.toNat (bs[a].stops.getD j.toNat 0)⟩ := by
    unfold swap1; simp only [stopsAt_lt ha]; rw [putD_nat ha]
   by_cases c : (0 ≤ i ∧ i < bs[a].stops.length) ∧ (0 ≤ j ∧ j < bs[a].stops.length)
   · rw [decide_eq_true c, if_neg (by simp), if_pos c, e1]
     have hb2 : a < (bs.set a ⟨bs[a].sat, bs[a].stops.set i.toNat (bs[a].stops.getD j.toNat 0)⟩).length := by simpa using ha
     rw [stopsAt_lt hb2, putD_nat hb2]
     simp
   · rw [decide_eq_false c, if_pos rfl, if_neg c]; rfl
 simp only [if_neg k1]
 by_cases k2 : kd = 2
 · subst k2
   simp only [if_true]
   unfold turnM
   simp only [atD_nat ha, stopsAt_lt ha, decide_true, Bool.and_true, ← Bool.decide_and]
   by_cases c : ((0 ≤ i ∧ i < bs[a].stops.length) ∧ (0 ≤ j ∧ j < bs[a].stops.length)) ∧ i ≤ j
   · rw [decide_eq_true c, if_neg (by simp), if_pos ⟨c.1.1, c.1.2, c.2⟩, putD_nat ha]; rfl
   · rw [decide_eq_false c, if_pos rfl, if_neg (fun h => c ⟨⟨h.1, h.2.1⟩, h.2.2⟩)]; rfl
 simp only [if_neg k2]
 by_cases k3 : kd = 3
 · subst k3
   simp only [if_true]
   unfold tailsM
   simp only [decide_true, Bool.not_true, Bool.false_and, if_true]
   rfl
 simp only [if_neg k3, if_neg h5]
 rfl
theorem raw_base (sats : Int) (ha : a < bs.length) (i b j : Int) : rawM sats bs ⟨5, a, i, b, j⟩ = if i = 0 ∧ j = 0 ∧ 0 ≤ b ∧ b < sats then some (bs.set a ⟨b, bs[a].stops⟩) else none := by
 unfold rawM baseM
 have hb : behindB bs a 0 = true := by rw [behindD_nat ha]; exact decide_eq_true ⟨by omega, by omega⟩
 simp only [hb, stopsAt_lt ha, Bool.true_and, ← Bool.decide_and, Int.toNat_natCast]
 rw [if_neg (by decide), if_neg (by decide), if_neg (by decide), if_neg (by decide), if_neg (by decide), if_pos trivial]
 by_cases c : ((i = 0 ∧ j = 0) ∧ 0 ≤ b) ∧ b < sats
 · rw [decide_eq_true c, if_neg (by simp), if_pos ⟨c.1.1.1, c.1.1.2, c.1.2, c.2⟩]
 · rw [decide_eq_false c, if_pos rfl, if_neg (fun h => c ⟨⟨⟨h.1, h.2.1⟩, h.2.2.1⟩, h.2.2.2⟩)]
theorem turnD_ne {m : MoveV} (h : m.a ≠ m.b) : turnM bs m = none := by
 unfold turnM
 rw [decide_eq_false h]
 simp
end
theorem rawD2 (sats : Int) (bs : List BikeV) (m : MoveV) (h : m.kind = 2) (hne : m.a ≠ m.b) : rawM sats bs m = none := by
 unfold rawM
 simp [h, turnD_ne hne]
theorem rawD_out (sats : Int) (bs : List BikeV) (m : MoveV) (h : rangeB bs m = false) : rawM sats bs m = none := by
 obtain ⟨kd, a, i, b, j⟩ := m
 unfold rangeB at h
 simp only at h
 by_cases ca : 0 ≤ a ∧ a < bs.length
 · rw [decide_eq_true ca, Bool.true_and] at h
   simp only [Bool.or_eq_false_iff, decide_eq_false_iff_not] at h
   obtain ⟨h5, hb⟩ := h
   have at0 : ∀ j, atB bs b j = false := fun j => by unfold atB; rw [decide_eq_false (by omega)]; rfl
   have be0 : ∀ j, behindB bs b j = false := fun j => by unfold behindB; rw [decide_eq_false (by omega)]; rfl
   have el : ∀ many, elseM bs ⟨kd, a, i, b, j⟩ many = none := fun many => by
    unfold elseM elseOk
    simp only [decide_eq_false hb, Bool.and_false, if_true]
   unfold rawM
   simp only [el]
   split
   · rfl
   split
   · rfl
   split
   · unfold swapM; simp only [at0, Bool.and_false, if_true]
   split
   · exact turnD_ne (by intro e; simp only at e; omega)
   split
   · unfold tailsM; simp only [be0, Bool.and_false, if_true]
   first | rfl | rw [if_neg h5]
 · have at0 : ∀ j, atB bs a j = false := fun j => by unfold atB; rw [decide_eq_false ca]; rfl
   have be0 : ∀ j, behindB bs a j = false := fun j => by unfold behindB; rw [decide_eq_false ca]; rfl
   unfold rawM
   split
   · unfold elseM elseOk; simp only [at0, Bool.false_and, if_true]
   split
   · unfold elseM elseOk; simp only [at0, Bool.false_and, if_true]
   split
   · unfold swapM; simp only [at0, Bool.false_and, if_true]
   split
   · unfold turnM; simp only [at0, Bool.false_and, if_true]
   split
   · unfold tailsM; simp only [be0, Bool.and_false, Bool.false_and, if_true]
   split
   · unfold baseM; simp only [be0, Bool.false_and, if_true]
   rfl
theorem change_pair (x : InstV) {s bs : List BikeV} {o : Option (List BikeV)} {p : Option (List BikeV)} (ho : ∀ r, o = some r → ∃ r', p = some r' ∧ roundsOf x r - roundsOf x s = roundsOf x r' - roundsOf x bs) (hn : o = none → p = none) :
 (o.map (·.filter keepB)).map (fun now => roundsOf x now - roundsOf x s) = (p.map (·.filter keepB)).map fun now => roundsOf x now - roundsOf x bs := by
 cases o with
 | none => rw [hn rfl]; rfl
 | some r =>
   obtain ⟨r', e, h⟩ := ho r rfl
   subst e
   simp only [Option.map_some, rounds_keep, h]
theorem change_is (x : InstV) (bs : List BikeV) (m : MoveV) : changeM x bs m = (applyM x.sats.length bs m).map fun now => roundsOf x now - roundsOf x bs := by
 unfold changeM applyM
 cases hr : rangeB bs m
 · rw [if_pos rfl, rawD_out _ bs m hr]; rfl
 rw [if_neg (by simp)]
 obtain ⟨kd, a, i, b, j⟩ := m
 unfold rangeB at hr
 simp only [Bool.and_eq_true, Bool.or_eq_true, decide_eq_true_eq] at hr
 obtain ⟨⟨ha0, ha1⟩, hb⟩ := hr
 obtain ⟨a, rfl⟩ : ∃ n : Nat, a = n := ⟨a.toNat, by omega⟩
 have ha : a < bs.length := by omega
 have one : ∀ y z : BikeV, roundsOf x [y] - roundsOf x [z] = roundOf x y - roundOf x z := fun y z => by unfold roundsOf; simp
 have two : ∀ y z u v : BikeV, roundsOf x [y, z] - roundsOf x [u, v] = roundOf x y - roundOf x u + (roundOf x z - roundOf x v) := fun y z u v => by unfold roundsOf; simp; omega
 have h1 : ∀ y, roundsOf x (bs.set a y) - roundsOf x bs = roundOf x y - roundOf x bs[a] := fun y => by rw [rounds_set x bs a y ha]; omega
 have l1 : 0 < [bs[a]].length := by simp
 by_cases k5 : kd = 5
 · subst k5
   have e1 : someM bs ⟨5, a, i, b, j⟩ = [bs[a]] := by unfold someM; rw [if_pos (.inl rfl)]; exact pick_one ha
   have e2 : newM ⟨5, a, i, b, j⟩ = ⟨5, ((0 : Nat) : Int), i, b, j⟩ := by unfold newM; rw [if_pos rfl]; rfl
   rw [e1, e2, raw_base _ l1, raw_base _ ha]
   refine change_pair x (fun r hr => ?_) (fun hn => ?_)
   · split at hr
     · rename_i c
       cases hr
       rw [if_pos c]
       exact ⟨_, rfl, by rw [h1]; exact one _ _⟩
     · cases hr
   · split at hn
     · cases hn
     · rename_i c; rw [if_neg c]
 obtain ⟨hb0, hb1⟩ := hb.resolve_left k5
 obtain ⟨b, rfl⟩ : ∃ n : Nat, b = n := ⟨b.toNat, by omega⟩
 by_cases hab : a = b
 · subst hab
   have e1 : someM bs ⟨kd, a, i, a, j⟩ = [bs[a]] := by
    unfold someM
    split
    · exact pick_one ha
    · exact pick_same ha
   have e2 : newM ⟨kd, a, i, a, j⟩ = ⟨kd, ((0 : Nat) : Int), i, ((0 : Nat) : Int), j⟩ := by unfold newM; rw [if_neg k5, if_pos rfl]; rfl
   rw [e1, e2, raw_solo _ _ l1 k5, raw_solo _ _ ha k5]
   refine change_pair x (fun r hr => ?_) (fun hn => ?_)
   · cases hs : soloM kd i j [bs[a]][0] with
     | none => rw [hs] at hr; cases hr
     | some y =>
       rw [hs] at hr
       cases hr
       have hs' : soloM kd i j bs[a] = some y := hs
       rw [hs']
       exact ⟨_, rfl, by rw [h1]; exact one _ _⟩
   · cases hs : soloM kd i j [bs[a]][0] with
     | none =>
       have hs' : soloM kd i j bs[a] = none := hs
       rw [hs']; rfl
     | some y => rw [hs] at hn; cases hn
 have hne : ¬ (a : Int) = (b : Int) := by omega
 by_cases k2 : kd = 2
 · subst k2
   have z1 : rawM x.sats.length bs ⟨2, a, i, b, j⟩ = none := rawD2 _ _ _ rfl hne
   have z2 : rawM x.sats.length (someM bs ⟨2, a, i, b, j⟩) (newM ⟨2, a, i, b, j⟩) = none := by
    unfold newM
    simp only [if_neg hne]
    rw [if_neg (by simp)]
    split
    · exact rawD2 _ _ _ rfl (by simp)
    · exact rawD2 _ _ _ rfl (by simp)
   rw [z1, z2]; rfl
 have k52 : ¬ (kd = 5 ∨ kd = 2) := fun h => h.elim k5 k2
 by_cases hbn : b < bs.length
 · have h2 : ∀ y z, roundsOf x ((bs.set a y).set b z) - roundsOf x bs = roundOf x y - roundOf x bs[a] + (roundOf x z - roundOf x bs[b]) := fun y z => by
    rw [rounds_set x (bs.set a y) b z (by simpa using hbn), rounds_set x bs a y ha, setD_other hbn hab]; omega
   by_cases hlt : b < a
   · have e1 : someM bs ⟨kd, a, i, b, j⟩ = [bs[b], bs[a]] := by unfold someM; rw [if_neg k52]; exact pick_two' hlt ha
     have e2 : newM ⟨kd, a, i, b, j⟩ = ⟨kd, ((1 : Nat) : Int), i, ((0 : Nat) : Int), j⟩ := by unfold newM; rw [if_neg k5]; simp only; rw [if_neg hne, if_pos (by omega)]; rfl
     have p1 : rawM x.sats.length [bs[b], bs[a]] ⟨kd, ((1 : Nat) : Int), i, ((0 : Nat) : Int), j⟩ = (pairM kd i j bs[a] bs[b]).map fun q => [q.2, q.1] := raw_pair (bs := [bs[b], bs[a]]) (a := 1) (b := 0) _ kd (by simp) (by simp) (by decide) k5 i j
     rw [e1, e2, p1, raw_pair _ kd ha hbn hab k5]
     refine change_pair x (fun r hr => ?_) (fun hn => ?_)
     · cases hs : pairM kd i j bs[a] bs[b] with
       | none => rw [hs] at hr; cases hr
       | some y =>
         rw [hs] at hr
         cases hr
         exact ⟨_, rfl, by rw [h2, two]; omega⟩
     · cases hs : pairM kd i j bs[a] bs[b] with
       | none => rfl
       | some y => rw [hs] at hn; cases hn
   · have hlt2 : a < b := by omega
     have e1 : someM bs ⟨kd, a, i, b, j⟩ = [bs[a], bs[b]] := by unfold someM; rw [if_neg k52]; exact pick_two hlt2 hbn
     have e2 : newM ⟨kd, a, i, b, j⟩ = ⟨kd, ((0 : Nat) : Int), i, ((1 : Nat) : Int), j⟩ := by unfold newM; rw [if_neg k5]; simp only; rw [if_neg hne, if_neg (by omega)]; rfl
     have p1 : rawM x.sats.length [bs[a], bs[b]] ⟨kd, ((0 : Nat) : Int), i, ((1 : Nat) : Int), j⟩ = (pairM kd i j bs[a] bs[b]).map fun q => [q.1, q.2] := raw_pair (bs := [bs[a], bs[b]]) (a := 0) (b := 1) _ kd (by simp) (by simp) (by decide) k5 i j
     rw [e1, e2, p1, raw_pair _ kd ha hbn hab k5]
     refine change_pair x (fun r hr => ?_) (fun hn => ?_)
     · cases hs : pairM kd i j bs[a] bs[b] with
       | none => rw [hs] at hr; cases hr
       | some y =>
         rw [hs] at hr
         cases hr
         exact ⟨_, rfl, by rw [h2, two]⟩
     · cases hs : pairM kd i j bs[a] bs[b] with
       | none => rfl
       | some y => rw [hs] at hn; cases hn
 · obtain rfl : b = bs.length := by omega
   have e1 : someM bs ⟨kd, a, i, (bs.length : Nat), j⟩ = [bs[a]] := by unfold someM; rw [if_neg k52]; exact pick_far ha
   have e2 : newM ⟨kd, a, i, (bs.length : Nat), j⟩ = ⟨kd, ((0 : Nat) : Int), i, (([bs[a]].length : Nat) : Int), j⟩ := by unfold newM; rw [if_neg k5]; simp only; rw [if_neg hne, if_neg (by omega)]; rfl
   have p1 := raw_far (bs := [bs[a]]) (a := 0) x.sats.length kd l1 k5 i j
   rw [e1, e2, p1, raw_far _ kd ha k5]
   have e3 : [bs[a]][0] = bs[a] := rfl
   rw [e3]
   refine change_pair x (fun r hr => ?_) (fun hn => ?_)
   · cases hs : (if kd = 0 ∨ kd = 4 then pairM kd i j bs[a] ⟨bs[a].sat, []⟩ else none) with
     | none => rw [hs] at hr; cases hr
     | some y =>
       rw [hs] at hr
       cases hr
       have e : roundsOf x ([bs[a]].set 0 y.1 ++ [y.2]) - roundsOf x [bs[a]] = roundOf x y.1 - roundOf x bs[a] + roundOf x y.2 := by unfold roundsOf; simp; omega
       have e' : roundsOf x (bs.set a y.1 ++ [y.2]) - roundsOf x bs = roundOf x y.1 - roundOf x bs[a] + roundOf x y.2 := by rw [rounds_snoc]; have := h1 y.1; omega
       exact ⟨_, rfl, e.trans e'.symm⟩
   · cases hs : (if kd = 0 ∨ kd = 4 then pairM kd i j bs[a] ⟨bs[a].sat, []⟩ else none) with
     | none => rfl
     | some y => rw [hs] at hn; cases hn
end Go.Proofs.Ytpbhbmdghafkmaa
namespace Go.Proofs.Ytpbhbmdghafkmaa
open Go.ChangeShapes Go.WideShapes Go.ChangeAt Go.RowKit
set_option linter.unusedVariables false
set_option linter.unusedSimpArgs false
/-- Bikes whose stops lie somewhere. -/
def Heads (w : World) (B : Nat) (qs : List (BikeV × Value)) : Prop := ∀ q ∈ qs, ∃ a c, q.2 = .slice a q.1.stops.length c ∧ IntsAt w B a q.1.stops
theorem Heads.below {w w' : World} {B : Nat} {qs : List (BikeV × Value)} (h : Heads w B qs) (hb : Below B w w') : Heads w' B qs := fun q hq => by
 obtain ⟨a, c, e, hi⟩ := h q hq
 exact ⟨a, c, e, Reads.below hi hb⟩
theorem Heads.more {w : World} {B B' : Nat} {qs : List (BikeV × Value)} (h : Heads w B qs) (hB : B ≤ B') : Heads w B' qs := fun q hq => by
 obtain ⟨a, c, e, hi⟩ := h q hq
 exact ⟨a, c, e, reads_more hi hB⟩
theorem Heads.snoc {w : World} {B : Nat} {qs : List (BikeV × Value)} (h : Heads w B qs) {b : BikeV} {a : Option Addr} {c : Nat} (hi : IntsAt w B a b.stops) : Heads w B (qs ++ [(b, .slice a b.stops.length c)]) := fun q hq => by
 rcases List.mem_append.1 hq with hq | hq
 · exact h q hq
 · have : q = (b, .slice a b.stops.length c) := by simpa using hq
   subst this
   exact ⟨a, c, rfl, hi⟩
theorem bikes_heads {w : World} {B : Nat} {A : Option Addr} {T t : TypeId} {qs : List (BikeV × Value)} (h0 : Reads w B 2 A qs.length ((bikeN T t).heads qs)) (h : Heads w B qs) : Bikes w B A (qs.map (·.1)) := by
 have key : ∀ i, ∃ sa : SlA, ∀ hi : i < qs.length, qs[i].2 = .slice sa.A qs[i].1.stops.length sa.c ∧ IntsAt w B sa.A qs[i].1.stops := fun i => by
  by_cases hi : i < qs.length
  · obtain ⟨a, c, e, hr⟩ := h _ (List.getElem_mem hi)
    exact ⟨⟨a, c⟩, fun _ => ⟨e, hr⟩⟩
  · exact ⟨⟨none, 0⟩, fun hi' => absurd hi' hi⟩
 refine ⟨fun i => (key i).choose, ?_, fun i hi => ?_⟩
 · have e : (List.range (qs.map (·.1)).length).flatMap (fun i => bikeHd ((qs.map (·.1)).getD i noBike) ((key i).choose)) = (bikeN T t).heads qs := by
    rw [List.length_map]
    refine range_zip (bikeN T t).head _ qs fun i hi => ?_
    have := ((key i).choose_spec hi).1
    simp only [Nest.head, bikeHd, bikeN] at this ⊢
    rw [this]
    simp [hi]
   rw [e, List.length_map]
   exact h0
 · have hi' : i < qs.length := by simpa using hi
   have := ((key i).choose_spec hi').2
   simpa [IntsAt, hi'] using this
theorem heads_snoc' (T t : TypeId) (qs : List (BikeV × Value)) (b : BikeV) (v : Value) : (bikeN T t).heads (qs ++ [(b, v)]) = (bikeN T t).heads qs ++ [.int .i64 b.sat, v] := by
 unfold Nest.heads; rw [List.flatMap_append]; rfl
theorem ints_blk {w : World} {g : Nat} {t : TypeId} (l : List Int) (h : w.heap[g]? = some (.cells (l.map (.int .i64)).toArray t (0, 0))) : IntsAt w w.heap.size (some ⟨g, 0, none⟩) l := by
 refine ⟨by simp, fun _ => ⟨_, rfl, (Array.getElem?_eq_some_iff.1 h).1, fun j u hu => ?_⟩⟩
 rw [Addr.add_mid, Nat.zero_add, cell_of_row _ _ _ _ _ _ h]
 simpa using hu
/-- Bikes that may be read. -/
def BikesR (w : World) (bs : List BikeV) (e : Ending) (w' : World) : Prop := ∃ A c, e = .returned (.slice A bs.length c) ∧ Bikes w' w'.heap.size A bs ∧ Below w.heap.size w w'
set_option maxRecDepth 100000 in
set_option maxHeartbeats 4000000 in
theorem pick_any (A : Option Addr) (c : Nat) (bs : List BikeV) (A2 : Option Addr) (c2 : Nat) (l : List Int) (w : World) (hB : Bikes w w.heap.size A bs) (hr : IntsAt w w.heap.size A2 l) (hl : bs.length ≤ 100000) (hl2 : l.length ≤ 100000) :
 Calls Try.prog 50 #[.slice A bs.length c, .slice A2 l.length c2] w (BikesR w (pickD bs l)) := by
 have HB := Lib.hid hB
 have HR := Lib.hid hr
 obtain ⟨i1, hi1, hz1, hzz, hbb⟩ := info_parts info_bikeE
 have HI1 := Lib.hid (And.intro hi1 (And.intro hz1 (And.intro hzz hbb)))
 obtain ⟨n, hn⟩ : ∃ n, bs.length = n := ⟨_, rfl⟩
 obtain ⟨m, hm⟩ : ∃ n, l.length = n := ⟨_, rfl⟩
 have HN := Lib.hid (And.intro hn hm)
 rw [hn] at hl ⊢
 rw [hm] at hl2 ⊢
 clear hB hr hn hm hi1 hz1 hzz hbb
 go_enter Try.func50, Try.ntmps50
 go_upto_region 3 with fail
 go_loopw [12, 5] (fun iv v5 wr => ∃ (k : Nat) (qs : List (BikeV × Value)), k ≤ n ∧ iv = .int .i64 k ∧ Hid (qs.map (·.1) = pickDK bs l k ∧ qs.length ≤ k) ∧ Hid (Heads w w.heap.size qs) ∧ SL w w.heap.size [.row 44 2 v5 qs.length ((bikeN 44 3).heads qs)] wr) (fun iv _ _ => n - (intOf iv).toNat)
 case atStart => exact ⟨0, [], by omega, rfl, Lib.hid ⟨rfl, Nat.le_refl _⟩, Lib.hid (fun q hq => by cases hq), (SL.start (Nat.le_refl _)).nil _ _⟩
 case round =>
  obtain ⟨k, qs, hk, rfl, HQ, HH, hS⟩ := hrel
  obtain ⟨A5, c5, rfl, _, _⟩ := (hS.row 0 rfl).slice_
  by_cases hlt : k < n
  · have hb : k < bs.length := by rw [HN.out.1]; exact hlt
    obtain ⟨b, o, a, cc, hA, hlw, d00, d01, hst⟩ := bikes_at HB.out hb
    have d0 := (hS.below.cell (p := ⟨b, o + k * 2, none⟩) hlw).trans d00
    have d1 := (hS.below.cell (p := ⟨b, o + k * 2 + 1, none⟩) hlw).trans d01
    have HPS := Lib.hid (pickK_succ bs l hb)
    obtain ⟨t, ht⟩ : ∃ t, bs[k] = t := ⟨_, rfl⟩
    rw [ht] at d0 d1 hst HPS
    have HST := Lib.hid hst
    obtain ⟨N, hN⟩ : ∃ N, qs.length = N := ⟨_, rfl⟩
    have HNL := Lib.hid hN
    rw [hN] at hS
    have HS2 := Lib.hid (hS.alloc #[.int .i64 t.sat, .slice a t.stops.length cc] 44)
    rw [hA]
    rw [hN]
    clear d00 d01 hst ht hS hA hN
    go_upto_region 6 with fail
    obtain ⟨tb, htb⟩ : ∃ b, wr.heap.size = b := ⟨_, rfl⟩
    rw [htb] at HS2 ⊢
    obtain ⟨w2, hw2⟩ : ∃ w2, wr.alloc (.cells #[.int .i64 t.sat, .slice a t.stops.length cc] 44) = w2 := ⟨_, rfl⟩
    rw [hw2] at HS2 ⊢
    clear htb hw2 d0 d1 hlw
    go_loopw [19, 5] (fun iv v5 wr => ∃ j : Nat, j ≤ m ∧ iv = .int .i64 j ∧ v5 = .slice A5 N c5 ∧ Hid (∀ i (h : i < l.length), i < j → l[i] ≠ (k : Int)) ∧ SL w w.heap.size [.blk tb #[.int .i64 t.sat, .slice a t.stops.length cc] 44, .row 44 2 (.slice A5 N c5) N ((bikeN 44 3).heads qs)] wr) (fun iv _ _ => m - (intOf iv).toNat)
    case atStart => exact ⟨0, by omega, rfl, rfl, Lib.hid (fun i _ h => absurd h (by omega)), HS2.out⟩
    case round =>
     clear HS2
     obtain ⟨j, hj, rfl, rfl, HE, hS⟩ := hrel
     by_cases hltj : j < m
     · have hjl : j < l.length := by rw [HN.out.2]; exact hltj
       obtain ⟨b2, o2, hA2, hlw2, f00⟩ := ints_at HR.out hjl
       have f0 := (hS.below.cell (p := ⟨b2, o2 + j, none⟩) hlw2).trans f00
       obtain ⟨y, hy⟩ : ∃ y, l[j] = y := ⟨_, rfl⟩
       have HY := Lib.hid hy
       rw [hy] at f0
       have HS := Lib.hid hS
       subst hA2
       clear f00 hy hS hlw2
       by_cases hyk : y = (k : Int)
       · subst hyk
         have HPK : Hid (pickDK bs l (k + 1) = pickDK bs l k ++ [t]) := Lib.hid (by
          rw [HPS.out, if_pos]
          rw [List.contains_iff_mem, ← HY.out]
          exact List.getElem_mem hjl)
         have y0 : wr.cell? ⟨tb, 0, none⟩ = some (.int .i64 t.sat) := HS.out.cell 0 rfl 0 rfl
         have y1 : wr.cell? ⟨tb, 1, none⟩ = some (.slice a t.stops.length cc) := HS.out.cell 0 rfl 1 rfl
         have hN9 : N ≤ 100001 := by have := HQ.out.2; have := HNL.out; omega
         clear HE
         go_wp2_with (at_builtin; refine stopHere ?_)
         show wpList _ _ _ _ _ _
         refine wpList_append_sl rfl _ _ 27 rfl HS.out 1 i1 (.agg #[.int .i64 0, .slice none 0 0]) 2 32 Try.underlying27 HI1.out.1 HI1.out.2.1 HI1.out.2.2.1 HI1.out.2.2.2 rfl (by decide) _ _ 1 _ rfl rfl _ rfl rfl (by decide) rfl (by simp [Value.oneCell']) (by omega) (by decide) ?_
         intro v7 w7 hS7 hz7
         have HS7 := Lib.hid hS7.tail
         clear hS7 hz7 y0 y1
         go_wp2_with fail
         go_roundw
         case rel => exact ⟨k + 1, qs ++ [(t, .slice a t.stops.length cc)], by omega, by go_num, Lib.hid ⟨by rw [List.map_append, HQ.out.1, HPK.out]; rfl, by rw [List.length_append]; have := HQ.out.2; simp; omega⟩, Lib.hid (HH.out.snoc HST.out), by rw [List.length_append, heads_snoc', HNL.out]; exact HS7.out⟩
         case measure => simp [intOf]; omega
       · have hne : (y == (k : Int)) = false := by rw [beq_eq_false_iff_ne]; exact hyk
         have HE2 : Hid (∀ i (h : i < l.length), i < j + 1 → l[i] ≠ (k : Int)) := Lib.hid (fun i h hi => by
          by_cases e : i = j
          · subst e; rw [HY.out]; exact hyk
          · exact HE.out i h (by omega))
         clear HE
         go_wp2_with fail
         go_roundw
         case rel => exact ⟨j + 1, by omega, by go_num, rfl, HE2, HS.out⟩
         case measure => simp [intOf]; omega
     · obtain rfl : j = m := by omega
       have HPK : Hid (pickDK bs l (k + 1) = pickDK bs l k) := Lib.hid (by
        rw [HPS.out, if_neg, List.append_nil]
        intro h
        rw [List.contains_iff_mem] at h
        obtain ⟨i, hi, e⟩ := List.getElem_of_mem h
        exact HE.out i hi (by have := HN.out.2; omega) e)
       have HS7 := Lib.hid hS.tail
       clear hS HE hltj
       go_wp2_with fail
       go_roundw
       case rel => exact ⟨k + 1, qs, by omega, by go_num, Lib.hid ⟨by rw [HQ.out.1, HPK.out], by have := HQ.out.2; omega⟩, HH, by rw [HNL.out]; exact HS7.out⟩
       case measure => simp [intOf]; omega
  · obtain rfl : k = n := by omega
    have HF : Hid (qs.map (·.1) = pickD bs l) := Lib.hid (by rw [HQ.out.1]; unfold pickD; rw [HN.out.1])
    have HL : Hid (qs.length = (pickD bs l).length) := Lib.hid (by rw [← HF.out, List.length_map])
    have HRD : Hid (Bikes wr wr.heap.size A5 (pickD bs l)) := Lib.hid (by
     rw [← HF.out]
     exact bikes_heads (T := 44) (t := 3) (hS.reads 0 rfl) ((HH.out.below hS.below).more hS.size))
    have HBL := Lib.hid hS.below
    rw [HL.out]
    clear hS hlt HQ HH
    go_wp2_with fail
    go_ret
    exact ⟨_, _, rfl, HRD.out, HBL.out⟩
end Go.Proofs.Ytpbhbmdghafkmaa
namespace Go.Proofs.Ytpbhbmdghafkmaa
open Go.ChangeShapes Go.WideShapes Go.ChangeAt Go.RowKit
set_option linter.unusedVariables false
set_option linter.unusedSimpArgs false
theorem roundOf_in {x : InstV} (hx : x.Small) {b : BikeV} (h : b.stops.length ≤ 100000) : 0 ≤ roundOf x b ∧ roundOf x b ≤ 3000030 := by
 unfold roundOf
 split
 · omega
 · exact wayOf_in hx (by simp [bikeNodes]; omega)
theorem roundsOf_in {x : InstV} (hx : x.Small) {bs : List BikeV} (h : ∀ b ∈ bs, b.stops.length ≤ 100000) : ∀ k, k ≤ bs.length → 0 ≤ roundsOf x (bs.take k) ∧ roundsOf x (bs.take k) ≤ 3000030 * k := by
 intro k
 induction k with
 | zero => intro _; simp [roundsOf]
 | succ k ih =>
   intro hk
   have h1 := ih (by omega)
   have h2 := roundOf_in hx (h _ (List.getElem_mem (show k < bs.length by omega)))
   rw [rounds_take x (show k < bs.length by omega)]
   omega
set_option maxRecDepth 100000 in
set_option maxHeartbeats 4000000 in
theorem rounds_any (x : InstV) (p : IAt) (A : Option Addr) (c : Nat) (bs : List BikeV) (w : World) (hI : InstIn w w.heap.size p x) (hx : x.Small) (hB : Bikes w w.heap.size A bs) (hl : bs.length ≤ 100000) (hs : ∀ b ∈ bs, b.stops.length ≤ 100000) :
 Calls Try.prog 23 #[.agg (x.cells p), .slice A bs.length c] w fun e w' => e = .returned (.int .i64 (roundsOf x bs)) ∧ Below w.heap.size w w' := by
 have HWY : Hid (∀ A c l wx, Below w.heap.size w wx → IntsAt wx wx.heap.size A l → l.length ≤ 100001 → Calls Try.prog 48 #[.agg #[.int .i64 x.fin, .int .i64 x.tm, .int .i64 x.tr, .int .i64 x.bm, .int .i64 x.br, .slice p.SA x.sats.length p.sc, .slice p.CA x.custs.length p.cc, .slice p.KA x.cost.length p.kc, .slice p.TA x.time.length p.tc], .slice A l.length c] wx fun e w' => e = .returned (.int .i64 (wayOf x l)) ∧ Below wx.heap.size wx w') := Lib.hid (fun A c l wx hb hr hl => way_any x p A c l wx (hI.at_ hb) hx hr hl)
 have HBN : Hid (∀ A c (b : BikeV) wx, IntsAt wx wx.heap.size A b.stops → b.stops.length ≤ 100000 → Calls Try.prog 49 #[.agg #[.int .i64 b.sat, .slice A b.stops.length c], .agg #[.int .i64 x.fin, .int .i64 x.tm, .int .i64 x.tr, .int .i64 x.bm, .int .i64 x.br, .slice p.SA x.sats.length p.sc, .slice p.CA x.custs.length p.cc, .slice p.KA x.cost.length p.kc, .slice p.TA x.time.length p.tc]] wx (ListPost wx (bikeNodes x.sats.length b b.stops.length))) := Lib.hid (fun A c b wx hr hl => bikeNodes_any x p A c b wx hx hr hl)
 have HB := Lib.hid hB
 have HX := Lib.hid hx
 have HSL := Lib.hid hs
 have HRI := Lib.hid (roundsOf_in hx hs)
 have hS0 := (SL.start (Nat.le_refl w.heap.size)).alloc (x.cells p) 58
 obtain ⟨n, hn⟩ : ∃ n, bs.length = n := ⟨_, rfl⟩
 have HN := Lib.hid hn
 rw [hn] at hl HRI ⊢
 unfold InstV.cells at hS0 ⊢
 have HS0 := Lib.hid hS0
 clear hI hx hB hs hS0 hn
 go_enter Try.func23, Try.ntmps23
 go_upto_region 3 with fail
 obtain ⟨ib, hib⟩ : ∃ b, w.heap.size = b := ⟨_, rfl⟩
 obtain ⟨w1, hw1⟩ : ∃ w1, w.alloc (.cells #[.int .i64 x.fin, .int .i64 x.tm, .int .i64 x.tr, .int .i64 x.bm, .int .i64 x.br, .slice p.SA x.sats.length p.sc, .slice p.CA x.custs.length p.cc, .slice p.KA x.cost.length p.kc, .slice p.TA x.time.length p.tc] 58) = w1 := ⟨_, rfl⟩
 obtain ⟨ic, hic⟩ : ∃ ic : Array Value, ic = #[.int .i64 x.fin, .int .i64 x.tm, .int .i64 x.tr, .int .i64 x.bm, .int .i64 x.br, .slice p.SA x.sats.length p.sc, .slice p.CA x.custs.length p.cc, .slice p.KA x.cost.length p.kc, .slice p.TA x.time.length p.tc] := ⟨_, rfl⟩
 have HIC := Lib.hid hic
 have HS1 : Hid (SL w w.heap.size [.blk ib ic 58] w1) := Lib.hid (by rw [← hw1, ← hib, hic]; exact HS0.out)
 rw [hw1, hib]
 clear hic HS0 hib hw1
 go_loopw [10, 5] (fun i v5 wr => ∃ k : Nat, k ≤ n ∧ i = .int .i64 k ∧ v5 = .int .i64 (roundsOf x (bs.take k)) ∧ SL w w.heap.size [.blk ib ic 58] wr) (fun i _ _ => n - (intOf i).toNat)
 case atStart => exact ⟨0, by omega, rfl, by simp [roundsOf], HS1.out⟩
 case round =>
  clear HS1
  obtain ⟨k, hk, rfl, rfl, hS⟩ := hrel
  have hri := HRI.out k hk
  by_cases hlt : k < n
  · have hkb : k < bs.length := by rw [HN.out]; exact hlt
    obtain ⟨b, o, a, c, hBA, hb, d00, d01, hst⟩ := bikes_at HB.out hkb
    have d0 := (hS.below.cell (p := ⟨b, o + k * 2, none⟩) hb).trans d00
    have d1 := (hS.below.cell (p := ⟨b, o + k * 2 + 1, none⟩) hb).trans d01
    have htl := HSL.out _ (List.getElem_mem hkb)
    have hwi := roundOf_in HX.out htl
    have HRS := Lib.hid (rounds_take x hkb)
    obtain ⟨t, ht⟩ : ∃ t, bs[k] = t := ⟨_, rfl⟩
    rw [ht] at d0 d1 hst htl HRS hwi
    obtain ⟨rk, hrk⟩ : ∃ r, roundsOf x (bs.take k) = r := ⟨_, rfl⟩
    rw [hrk] at HRS hri ⊢
    obtain ⟨r0, r1⟩ := hri
    obtain ⟨u0, u1⟩ := hwi
    have HRO : Hid (roundOf x t = if t.stops.length = 0 then 0 else wayOf x (bikeNodes x.sats.length t t.stops.length)) := Lib.hid rfl
    obtain ⟨wv, hwv⟩ : ∃ v, roundOf x t = v := ⟨_, rfl⟩
    rw [hwv] at HRS HRO u0 u1
    have hS2 := hS.alloc #[.int .i64 t.sat, .slice a t.stops.length c] 44
    have HST := Lib.hid hst
    have HS2 := Lib.hid hS2
    have hr9 : rk ≤ 300003000000 := by omega
    rw [hBA]
    clear ht hst hS hS2 hBA d00 d01 hwv hrk r1
    go_upto_region 5 with fail
    obtain ⟨tb, htb⟩ : ∃ tb, wr.heap.size = tb := ⟨_, rfl⟩
    obtain ⟨w3, hw3⟩ : ∃ w3, wr.alloc (.cells #[.int .i64 t.sat, .slice a t.stops.length c] 44) = w3 := ⟨_, rfl⟩
    rw [htb, hw3] at HS2
    rw [htb, hw3]
    clear htb hw3 d0 d1 hb
    have y1 : w3.cell? ⟨tb, 1, none⟩ = some (.slice a t.stops.length c) := HS2.out.cell 0 rfl 1 rfl
    by_cases hz : t.stops.length = 0
    · have HW0 : Hid (wv = 0) := Lib.hid (by rw [HRO.out, if_pos hz])
      have hz2 : decide (0 < (t.stops.length : Int)) = false := decide_eq_false (by omega)
      have hz3 : ¬ (0 : Int) < (t.stops.length : Int) := by omega
      go_wp2_with fail
      go_roundw
      case rel => exact ⟨k + 1, by omega, by go_num, by rw [HRS.out, HW0.out, Int.add_zero], HS2.out.tail⟩
      case measure => simp [intOf]; omega
    · have HWV : Hid (wayOf x (bikeNodes x.sats.length t t.stops.length) = wv) := Lib.hid (by rw [HRO.out, if_neg hz])
      have hz3 : (0 : Int) < (t.stops.length : Int) := by omega
      go_upto_region 6 with fail
      clear y1
      refine wp_region_sl [0,1,2,3] [4,5] [6,7] _ HS2.out (List.Sublist.refl _) (by kernel_rfl) (by kernel_rfl) (.cons rfl (.cons rfl .nil)) (fun C cw _ hC => ?_)
      have q0 : ∀ c, (cw c).cell? ⟨ib, 0, none⟩ = some (.int .i64 x.fin) := fun c => (hC c).cell 1 rfl 0 (by rw [HIC.out]; rfl)
      have q1 : ∀ c, (cw c).cell? ⟨ib, 1, none⟩ = some (.int .i64 x.tm) := fun c => (hC c).cell 1 rfl 1 (by rw [HIC.out]; rfl)
      have q2 : ∀ c, (cw c).cell? ⟨ib, 2, none⟩ = some (.int .i64 x.tr) := fun c => (hC c).cell 1 rfl 2 (by rw [HIC.out]; rfl)
      have q3 : ∀ c, (cw c).cell? ⟨ib, 3, none⟩ = some (.int .i64 x.bm) := fun c => (hC c).cell 1 rfl 3 (by rw [HIC.out]; rfl)
      have q4 : ∀ c, (cw c).cell? ⟨ib, 4, none⟩ = some (.int .i64 x.br) := fun c => (hC c).cell 1 rfl 4 (by rw [HIC.out]; rfl)
      have q5 : ∀ c, (cw c).cell? ⟨ib, 5, none⟩ = some (.slice p.SA x.sats.length p.sc) := fun c => (hC c).cell 1 rfl 5 (by rw [HIC.out]; rfl)
      have q6 : ∀ c, (cw c).cell? ⟨ib, 6, none⟩ = some (.slice p.CA x.custs.length p.cc) := fun c => (hC c).cell 1 rfl 6 (by rw [HIC.out]; rfl)
      have q7 : ∀ c, (cw c).cell? ⟨ib, 7, none⟩ = some (.slice p.KA x.cost.length p.kc) := fun c => (hC c).cell 1 rfl 7 (by rw [HIC.out]; rfl)
      have q8 : ∀ c, (cw c).cell? ⟨ib, 8, none⟩ = some (.slice p.TA x.time.length p.tc) := fun c => (hC c).cell 1 rfl 8 (by rw [HIC.out]; rfl)
      have qt : ∀ d, (cw d).cell? ⟨tb, 0, none⟩ = some (.int .i64 t.sat) := fun d => (hC d).cell 0 rfl 0 rfl
      have qs : ∀ d, (cw d).cell? ⟨tb, 1, none⟩ = some (.slice a t.stops.length c) := fun d => (hC d).cell 0 rfl 1 rfl
      repeat (refine pl_look rfl rfl rfl (fun Kv hK => ?_); go_big_quiet_op; refine hK _ ?_; clear hK Kv)
      clear q0 q1 q2 q3 q4 q5 q6 q7 q8 qt qs hC HS2
      refine pl_end ?_
      intro w4 hS4
      refine pm_eff rfl rfl fun Kv hK => ?_
      go_simp
      refine eff_call (HBN.out a c t w4 (reads_more (Reads.below HST.out hS4.below) hS4.size) htl) (fun e w5 h => ?_)
      obtain ⟨v, rfl, hq⟩ := h
      obtain ⟨NA, nc, rfl, _, _⟩ := (hq.row 0 rfl).slice_
      have hS5 := hS4.join hq
      clear hq
      left
      refine ⟨_, rfl, hS5.tail, hK _ _ ?_⟩
      clear hK Kv hS4
      refine pm_eff rfl rfl fun Kv hK => ?_
      go_simp
      refine eff_call (HWY.out NA nc (bikeNodes x.sats.length t t.stops.length) w5 hS5.below (hS5.reads 0 rfl) (by simp [bikeNodes]; omega)) (fun e w6 h => ?_)
      obtain ⟨rfl, hb6⟩ := h
      have HS6 := Lib.hid (hS5.call hb6)
      clear hb6 hS5
      left
      refine ⟨_, rfl, HS6.out.tail, hK _ _ ?_⟩
      clear hK Kv
      refine pm_end ?_
      rw [HWV.out]
      go_wp2_with fail
      go_roundw
      case rel => exact ⟨k + 1, by omega, by go_num, by rw [HRS.out], HS6.out.tail.tail⟩
      case measure => simp [intOf]; omega
  · obtain rfl : k = n := by omega
    have HTK : Hid (roundsOf x (bs.take k) = roundsOf x bs) := Lib.hid (by rw [List.take_of_length_le (by rw [HN.out]; exact Nat.le_refl _)])
    have HBL := Lib.hid hS.below
    rw [HTK.out]
    clear hS hlt hri
    go_wp2_with fail
    go_ret
    exact ⟨rfl, HBL.out⟩
end Go.Proofs.Ytpbhbmdghafkmaa
namespace Go.Proofs.Ytpbhbmdghafkmaa
open Go.ChangeShapes Go.WideShapes Go.ChangeAt Go.RowKit
set_option linter.unusedVariables false
set_option linter.unusedSimpArgs false
theorem pick_in (bs : List BikeV) (l : List Int) : ∀ k, k ≤ bs.length → (pickDK bs l k).length ≤ k ∧ (allStops (pickDK bs l k)).length ≤ (allStops (bs.take k)).length ∧ ∀ b ∈ pickDK bs l k, b ∈ bs := by
 intro k
 induction k with
 | zero => intro _; exact ⟨Nat.le_refl _, Nat.le_refl _, fun b hb => by cases hb⟩
 | succ k ih =>
   intro hk
   have hkl : k < bs.length := by omega
   obtain ⟨h1, h2, h3⟩ := ih (by omega)
   have e : ∀ (l : List BikeV) (b : BikeV), allStops (l ++ [b]) = allStops l ++ b.stops := fun l b => by unfold allStops; simp
   rw [pickK_succ bs l hkl, List.take_succ_eq_append_getElem hkl, e]
   split
   · rw [e, List.length_append, List.length_append, List.length_append]
     refine ⟨by simp; omega, by omega, fun b hb => ?_⟩
     rcases List.mem_append.1 hb with hb | hb
     · exact h3 b hb
     · have : b = bs[k] := by simpa using hb
       subst this; exact List.getElem_mem hkl
   · rw [List.append_nil, List.length_append]
     exact ⟨by omega, by omega, h3⟩
theorem pick_bounds (bs : List BikeV) (l : List Int) : (pickD bs l).length ≤ bs.length ∧ (allStops (pickD bs l)).length ≤ (allStops bs).length ∧ ∀ b ∈ pickD bs l, b ∈ bs := by
 have h := pick_in bs l bs.length (Nat.le_refl _)
 rw [List.take_length] at h
 exact h
theorem some_bounds (bs : List BikeV) (m : MoveV) : (someM bs m).length ≤ bs.length ∧ (allStops (someM bs m)).length ≤ (allStops bs).length ∧ ∀ b ∈ someM bs m, b ∈ bs := by
 unfold someM
 split <;> exact pick_bounds _ _
def ChangePost (w : World) (o : Option Int) (e : Ending) (w' : World) : Prop := (∃ d ok, e = .returned (.tuple #[.int .i64 d, .bool ok]) ∧ (match o with | none => d = 0 ∧ ok = false | some n => d = n ∧ ok = true)) ∧ Below w.heap.size w w'
set_option maxRecDepth 100000 in
set_option maxHeartbeats 8000000 in
theorem change_any (x : InstV) (p : IAt) (A : Option Addr) (c : Nat) (bs : List BikeV) (kd a i b j : Int) (w : World) (hI : InstIn w w.heap.size p x) (hx : x.Small) (hB : Bikes w w.heap.size A bs) (hl : bs.length ≤ 99999) (hs : (allStops bs).length ≤ 100000) :
 Calls Try.prog 25 #[.agg (x.cells p), .slice A bs.length c, .agg #[.int .i64 kd, .int .i64 a, .int .i64 i, .int .i64 b, .int .i64 j]] w (ChangePost w (changeM x bs ⟨kd, a, i, b, j⟩)) := by
 have HCK : Hid (∀ wx, Below w.heap.size w wx → Calls Try.prog 26 #[.agg #[.int .i64 x.fin, .int .i64 x.tm, .int .i64 x.tr, .int .i64 x.bm, .int .i64 x.br, .slice p.SA x.sats.length p.sc, .slice p.CA x.custs.length p.cc, .slice p.KA x.cost.length p.kc, .slice p.TA x.time.length p.tc]] wx fun e w' => e = .returned (.int .i64 0) ∧ Below wx.heap.size wx w') := Lib.hid (fun wx hb => by rw [← hx.code]; exact check_any x p wx (hI.at_ hb) hx.lens)
 have HRO : Hid (∀ (A : Option Addr) (c : Nat) (l : List BikeV) (wx : World), Below w.heap.size w wx → Bikes wx wx.heap.size A l → l.length ≤ 100000 → (∀ b ∈ l, b.stops.length ≤ 100000) → Calls Try.prog 23 #[.agg #[.int .i64 x.fin, .int .i64 x.tm, .int .i64 x.tr, .int .i64 x.bm, .int .i64 x.br, .slice p.SA x.sats.length p.sc, .slice p.CA x.custs.length p.cc, .slice p.KA x.cost.length p.kc, .slice p.TA x.time.length p.tc], .slice A l.length c] wx fun e w' => e = .returned (.int .i64 (roundsOf x l)) ∧ Below wx.heap.size wx w') := Lib.hid (fun A c l wx hb hB hl hs => rounds_any x p A c l wx (hI.at_ hb) hx hB hl hs)
 have HB := Lib.hid hB
 have HX := Lib.hid hx
 have HSB := Lib.hid (some_bounds bs ⟨kd, a, i, b, j⟩)
 have HLS := Lib.hid hs
 have HST : Hid (∀ b ∈ bs, b.stops.length ≤ 100000) := Lib.hid (fun b hb => Nat.le_trans (stops_le_all hb) hs)
 have HCM : Hid (changeM x bs ⟨kd, a, i, b, j⟩ = if rangeB bs ⟨kd, a, i, b, j⟩ = false then none else (applyM x.sats.length (someM bs ⟨kd, a, i, b, j⟩) (newM ⟨kd, a, i, b, j⟩)).map fun now => roundsOf x now - roundsOf x (someM bs ⟨kd, a, i, b, j⟩)) := Lib.hid rfl
 have HRB : Hid (rangeB bs ⟨kd, a, i, b, j⟩ = (decide (0 ≤ a ∧ a < (bs.length : Int)) && (decide (kd = 5) || decide (0 ≤ b ∧ b ≤ (bs.length : Int))))) := Lib.hid rfl
 obtain ⟨cm, hcm⟩ : ∃ o, changeM x bs ⟨kd, a, i, b, j⟩ = o := ⟨_, rfl⟩
 rw [hcm] at HCM ⊢
 obtain ⟨n, hn⟩ : ∃ n, bs.length = n := ⟨_, rfl⟩
 have HN := Lib.hid hn
 rw [hn] at hl HRB ⊢
 unfold InstV.cells
 have hS0 := ((SL.start (W := w) (Nat.le_refl w.heap.size)).alloc #[.int .i64 x.fin, .int .i64 x.tm, .int .i64 x.tr, .int .i64 x.bm, .int .i64 x.br, .slice p.SA x.sats.length p.sc, .slice p.CA x.custs.length p.cc, .slice p.KA x.cost.length p.kc, .slice p.TA x.time.length p.tc] 58).alloc #[.int .i64 kd, .int .i64 a, .int .i64 i, .int .i64 b, .int .i64 j] 33
 have hsz : (w.alloc (.cells #[.int .i64 x.fin, .int .i64 x.tm, .int .i64 x.tr, .int .i64 x.bm, .int .i64 x.br, .slice p.SA x.sats.length p.sc, .slice p.CA x.custs.length p.cc, .slice p.KA x.cost.length p.kc, .slice p.TA x.time.length p.tc] 58)).heap.size = w.heap.size + 1 := Array.size_push _
 rw [hsz] at hS0
 obtain ⟨ib, hib⟩ : ∃ b, w.heap.size = b := ⟨_, rfl⟩
 obtain ⟨mb, hmb⟩ : ∃ b, ib + 1 = b := ⟨_, rfl⟩
 obtain ⟨w1, hw1⟩ : ∃ w1, (w.alloc (.cells #[.int .i64 x.fin, .int .i64 x.tm, .int .i64 x.tr, .int .i64 x.bm, .int .i64 x.br, .slice p.SA x.sats.length p.sc, .slice p.CA x.custs.length p.cc, .slice p.KA x.cost.length p.kc, .slice p.TA x.time.length p.tc] 58)).alloc (.cells #[.int .i64 kd, .int .i64 a, .int .i64 i, .int .i64 b, .int .i64 j] 33) = w1 := ⟨_, rfl⟩
 obtain ⟨ic, hic⟩ : ∃ ic : Array Value, ic = #[.int .i64 x.fin, .int .i64 x.tm, .int .i64 x.tr, .int .i64 x.bm, .int .i64 x.br, .slice p.SA x.sats.length p.sc, .slice p.CA x.custs.length p.cc, .slice p.KA x.cost.length p.kc, .slice p.TA x.time.length p.tc] := ⟨_, rfl⟩
 have HIC := Lib.hid hic
 have HS1 : Hid (SL w w.heap.size [.blk mb #[.int .i64 kd, .int .i64 a, .int .i64 i, .int .i64 b, .int .i64 j] 33, .blk ib ic 58] w1) := Lib.hid (by rw [← hw1, ← hmb, ← hib, hic]; exact hS0)
 have HBL := Lib.hid (And.intro hib (And.intro hmb hw1))
 have HSI : Hid ((Try.prog.info? 58).map (·.size) = some ic.size) := Lib.hid (by rw [hic]; kernel_rfl)
 have HSM : Hid ((Try.prog.info? 33).map (·.size) = some 5) := Lib.hid move_size
 rw [← hic] at HCK HRO
 clear hI hx hB hs hS0 hsz hib hmb hw1 hcm hn
 go_enter Try.func25, Try.ntmps25
 go_upto_region 1 with fail
 rw [HBL.out.2.2, HBL.out.1, HBL.out.2.1]
 rw [← HIC.out]
 clear hic
 go_upto_region 3 with first
  | (refine wpList_load_row rfl 58 _ rfl ib rfl _ ic _ _ (HS1.out.blk 1 rfl) Try.underlying58 rfl HSI.out ?_)
  | (go_at_call 26; (with_reducible refine (HCK.out _ HS1.out.below).mono ?_); rintro e w2 ⟨rfl, hb2⟩
     have HS2 := Lib.hid (HS1.out.call hb2)
     clear hb2 HS1 HCK)
 have ym : ∀ wx, SL w w.heap.size [.blk mb #[.int .i64 kd, .int .i64 a, .int .i64 i, .int .i64 b, .int .i64 j] 33, .blk ib ic 58] wx → (wx.cell? ⟨mb, 0, none⟩ = some (.int .i64 kd) ∧ wx.cell? ⟨mb, 1, none⟩ = some (.int .i64 a) ∧ wx.cell? ⟨mb, 2, none⟩ = some (.int .i64 i) ∧ wx.cell? ⟨mb, 3, none⟩ = some (.int .i64 b) ∧ wx.cell? ⟨mb, 4, none⟩ = some (.int .i64 j)) := fun wx h => ⟨h.cell 0 rfl 0 rfl, h.cell 0 rfl 1 rfl, h.cell 0 rfl 2 rfl, h.cell 0 rfl 3 rfl, h.cell 0 rfl 4 rfl⟩
 have YM := Lib.hid ym
 clear ym
 obtain ⟨y0, y1, y2, y3, y4⟩ := YM.out _ HS2.out
 go_upto_region 4 with fail
 have hSA := HS2.out.alloc #[.int .i64 a, .int .i64 b] 3
 have HPK : Hid (Calls Try.prog 50 #[.slice A n c, .slice (some ⟨w2.heap.size, 0, none⟩) 2 2] (w2.alloc (.cells #[.int .i64 a, .int .i64 b] 3)) (BikesR (w2.alloc (.cells #[.int .i64 a, .int .i64 b] 3)) (pickD bs [a, b]))) := Lib.hid (by
  have h := pick_any A c bs (some ⟨w2.heap.size, 0, none⟩) 2 [a, b] _ (bikes_more (HB.out.below hSA.below) hSA.size) (ints_blk [a, b] (hSA.blk 0 rfl)) (by rw [HN.out]; omega) (by simp)
  rw [HN.out] at h
  exact h)
 have HSA := Lib.hid hSA
 clear hSA
 obtain ⟨w3, hw3⟩ : ∃ w3, w2.alloc (.cells #[.int .i64 a, .int .i64 b] 3) = w3 := ⟨_, rfl⟩
 obtain ⟨ab, hab⟩ : ∃ b, w2.heap.size = b := ⟨_, rfl⟩
 rw [hw3, hab] at HPK HSA
 rw [hw3, hab]
 clear hw3 hab y0 y1 y2 y3 y4
 go_upto_region 5 with (go_at_call 50; (with_reducible refine HPK.out.mono ?_); rintro e w4 ⟨QA, qc, rfl, hQ, hb4⟩
                        have HS4 := Lib.hid ((HSA.out.call hb4).tail)
                        have HQ4 := Lib.hid hQ
                        clear hQ hb4 HPK HSA)
 go_cut [31] (fun v31 wx => v31 = .bool (decide (kd = 5 ∨ kd = 2)) ∧ wx = w4)
 case first =>
  obtain ⟨y0, y1, y2, y3, y4⟩ := YM.out _ HS4.out
  by_cases k5 : kd = 5
  · subst k5
    go_wp2_with fail
    go_meet
    exact ⟨rfl, rfl⟩
  · have t5 : (kd == 5) = false := by rw [beq_eq_false_iff_ne]; exact k5
    by_cases k2 : kd = 2
    · subst k2
      go_wp2_with fail
      go_meet
      exact ⟨rfl, rfl⟩
    · have t2 : (kd == 2) = false := by rw [beq_eq_false_iff_ne]; exact k2
      have HT : Hid (decide (kd = 5 ∨ kd = 2) = false) := Lib.hid (decide_eq_false (fun h => h.elim k5 k2))
      go_wp2_with fail
      go_meet
      exact ⟨by rw [HT.out], rfl⟩
 case rest =>
 obtain ⟨hv, hw⟩ := hcut
 subst hv hw
 obtain ⟨bt, hbt⟩ : ∃ t, decide (kd = 5 ∨ kd = 2) = t := ⟨_, rfl⟩
 have HBT := Lib.hid hbt
 rw [hbt]
 clear hbt
 go_upto_if 31 with fail
 go_cut [9] (fun v9 wx => ∃ QA qc, v9 = .slice QA (someM bs ⟨kd, a, i, b, j⟩).length qc ∧ Bikes wx wx.heap.size QA (someM bs ⟨kd, a, i, b, j⟩) ∧ SL w w.heap.size [.blk mb #[.int .i64 kd, .int .i64 a, .int .i64 i, .int .i64 b, .int .i64 j] 33, .blk ib ic 58] wx)
 case first =>
  cases bt with
  | true =>
    have HSM5 : Hid (someM bs ⟨kd, a, i, b, j⟩ = pickD bs [a]) := Lib.hid (by unfold someM; rw [if_pos (of_decide_eq_true HBT.out)])
    obtain ⟨y0, y1, y2, y3, y4⟩ := YM.out _ HS4.out
    have hSA := HS4.out.alloc #[.int .i64 a] 3
    have HC4 : Hid (Calls Try.prog 50 #[.slice A n c, .slice (some ⟨wc.heap.size, 0, none⟩) 1 1] (wc.alloc (.cells #[.int .i64 a] 3)) (BikesR (wc.alloc (.cells #[.int .i64 a] 3)) (pickD bs [a]))) := Lib.hid (by
     have h := pick_any A c bs (some ⟨wc.heap.size, 0, none⟩) 1 [a] _ (bikes_more (HB.out.below hSA.below) hSA.size) (ints_blk [a] (hSA.blk 0 rfl)) (by rw [HN.out]; omega) (by simp)
     rw [HN.out] at h
     exact h)
    have HSA := Lib.hid hSA
    clear hSA
    go_wp2_with (go_at_call 50; (with_reducible refine HC4.out.mono ?_); rintro e w5 ⟨QB, qd, rfl, hQ5, hb5⟩
                 have HS5 := Lib.hid ((HSA.out.call hb5).tail)
                 have HQ5 := Lib.hid hQ5
                 clear hQ5 hb5 HC4)
    go_meet
    rw [HSM5.out]
    exact ⟨QB, qd, rfl, HQ5.out, HS5.out⟩
  | false =>
    have HSM5 : Hid (someM bs ⟨kd, a, i, b, j⟩ = pickD bs [a, b]) := Lib.hid (by unfold someM; rw [if_neg (of_decide_eq_false HBT.out)])
    go_wp2_with fail
    go_meet
    rw [HSM5.out]
    exact ⟨QA, qc, rfl, HQ4.out, HS4.out⟩
 case rest =>
  obtain ⟨SA, sc, rfl, hQ5, hS5⟩ := hcut
  have HS5 := Lib.hid hS5
  have HQ5 := Lib.hid hQ5
  have HSB := HSB
  clear hS5 hQ5 HS4 HQ4 HS2
  obtain ⟨sm, hsm⟩ : ∃ s, someM bs ⟨kd, a, i, b, j⟩ = s := ⟨_, rfl⟩
  rw [hsm] at HQ5 HSB HCM ⊢
  clear hsm
  have HQB : Hid (∀ wx, Below wc.heap.size wc wx → Bikes wx wx.heap.size SA sm) := Lib.hid (fun wx hb => bikes_more (HQ5.out.below hb) hb.size)
  obtain ⟨y0, y1, y2, y3, y4⟩ := YM.out _ HS5.out
  go_upto_block 0 with fail
  clear y0 y1 y2 y3 y4 HQ5
  have hS6 := HS5.out.alloc #[.int .i64 kd, .int .i64 0, .int .i64 i, .int .i64 1, .int .i64 j] 33
  have hB6 : Below wc.heap.size wc (wc.alloc (.cells #[.int .i64 kd, .int .i64 0, .int .i64 i, .int .i64 1, .int .i64 j] 33)) := (Below.refl _ _).alloc (Nat.le_refl _) _
  obtain ⟨nb, hnb⟩ : ∃ b, wc.heap.size = b := ⟨_, rfl⟩
  obtain ⟨w6, hw6⟩ : ∃ w6, wc.alloc (.cells #[.int .i64 kd, .int .i64 0, .int .i64 i, .int .i64 1, .int .i64 j] 33) = w6 := ⟨_, rfl⟩
  rw [hnb, hw6] at hS6
  rw [hw6] at hB6
  rw [hnb, hw6]
  have HS6 := Lib.hid hS6
  have HB6 := Lib.hid hB6
  have HNB := Lib.hid hnb
  obtain ⟨nm, hnm⟩ : ∃ m, newM ⟨kd, a, i, b, j⟩ = m := ⟨_, rfl⟩
  have HNM : Hid (nm = if kd = 5 then ⟨kd, 0, i, b, j⟩ else if a = b then ⟨kd, 0, i, 0, j⟩ else if b < a then ⟨kd, 1, i, 0, j⟩ else ⟨kd, 0, i, 1, j⟩) := Lib.hid (by rw [← hnm]; rfl)
  rw [hnm] at HCM
  clear hS6 hB6 hnb hw6 hnm HS5
  have HBW : Hid (∀ (k : Nat) (v : Value) (wx : World), Below wc.heap.size wc wx → Below wc.heap.size wc (wx.setCell ⟨nb, k, none⟩ v)) := Lib.hid (fun k v wx hb => hb.trans ((only_setCell wx nb k v).below (by rw [HNB.out]; exact Nat.le_refl _)))
  go_cut [10] (fun v10 wx => v10 = .pointer (some ⟨nb, 0, none⟩) ∧ SL w w.heap.size [.blk nb nm.cells 33, .blk mb #[.int .i64 kd, .int .i64 a, .int .i64 i, .int .i64 b, .int .i64 j] 33, .blk ib ic 58] wx ∧ Bikes wx wx.heap.size SA sm)
  case first =>
   obtain ⟨y0, y1, y2, y3, y4⟩ := YM.out _ HS6.out.tail
   have e1 : w6.cell? ⟨nb, 1, none⟩ = some (.int .i64 0) := HS6.out.cell 0 rfl 1 rfl
   have e3 : w6.cell? ⟨nb, 3, none⟩ = some (.int .i64 1) := HS6.out.cell 0 rfl 3 rfl
   have f1 : w6.frozen? ⟨nb, 1, none⟩ = false := HS6.out.free 0 rfl 1
   have f3 : w6.frozen? ⟨nb, 3, none⟩ = false := HS6.out.free 0 rfl 3
   by_cases k5 : kd = 5
   · subst k5
     have HN5 : Hid (nm = ⟨5, 0, i, b, j⟩) := Lib.hid (by rw [HNM.out, if_pos rfl])
     have HF := Lib.hid (HS6.out.setCell 0 rfl 3 (.int .i64 b))
     have HG := Lib.hid (HQB.out _ (HBW.out 3 (.int .i64 b) _ HB6.out))
     go_wp2_with fail
     go_meet
     rw [HN5.out]
     exact ⟨rfl, HF.out, HG.out⟩
   have t5 : (kd == 5) = false := by rw [beq_eq_false_iff_ne]; exact k5
   by_cases hab : a = b
   · subst hab
     have HN5 : Hid (nm = ⟨kd, 0, i, 0, j⟩) := Lib.hid (by rw [HNM.out, if_neg k5, if_pos rfl])
     have HF := Lib.hid (HS6.out.setCell 0 rfl 3 (.int .i64 0))
     have HG := Lib.hid (HQB.out _ (HBW.out 3 (.int .i64 0) _ HB6.out))
     go_wp2_with fail
     go_meet
     rw [HN5.out]
     exact ⟨rfl, HF.out, HG.out⟩
   have tab : (a == b) = false := by rw [beq_eq_false_iff_ne]; exact hab
   by_cases hlt : b < a
   · have HN5 : Hid (nm = ⟨kd, 1, i, 0, j⟩) := Lib.hid (by rw [HNM.out, if_neg k5, if_neg hab, if_pos hlt])
     have HF := Lib.hid ((HS6.out.setCell 0 rfl 1 (.int .i64 1)).setCell 0 rfl 3 (.int .i64 0))
     have HG := Lib.hid (HQB.out _ (HBW.out 3 (.int .i64 0) _ (HBW.out 1 (.int .i64 1) _ HB6.out)))
     go_wp2_with fail
     go_meet
     rw [HN5.out]
     exact ⟨rfl, HF.out, HG.out⟩
   · have HN5 : Hid (nm = ⟨kd, 0, i, 1, j⟩) := Lib.hid (by rw [HNM.out, if_neg k5, if_neg hab, if_neg hlt])
     have HG := Lib.hid (HQB.out _ HB6.out)
     have tlt : decide (b < a) = false := decide_eq_false hlt
     go_wp2_with fail
     go_meet
     rw [HN5.out]
     exact ⟨rfl, HS6.out, HG.out⟩
  case rest =>
   obtain ⟨rfl, hS7, hQ7⟩ := hcut
   obtain ⟨k2, a2, i2, b2, j2⟩ := nm
   have HS7 := Lib.hid hS7
   have HQ7 := Lib.hid hQ7
   clear hS7 hQ7 HQB HB6 HS6 HBW HNB
   unfold MoveV.cells at HS7
   go_upto_region 14 with fail
   obtain ⟨rb, hrb⟩ : ∃ r, rangeB bs ⟨kd, a, i, b, j⟩ = r := ⟨_, rfl⟩
   rw [hrb] at HCM HRB
   clear hrb
   go_cut [92] (fun v wx => v = .bool (!rb) ∧ wx = wc)
   case first =>
    obtain ⟨y0, y1, y2, y3, y4⟩ := YM.out _ HS7.out.tail
    by_cases c1 : a < 0
    · have HV : Hid (rb = false) := Lib.hid (by rw [HRB.out, decide_eq_false (by omega)]; rfl)
      have t1 : decide (a < 0) = true := decide_eq_true c1
      clear c1
      go_wp2_with fail
      go_meet
      exact ⟨by rw [HV.out]; rfl, rfl⟩
    have t1 : decide (a < 0) = false := decide_eq_false c1
    by_cases c2 : (n : Int) ≤ a
    · have HV : Hid (rb = false) := Lib.hid (by rw [HRB.out, decide_eq_false (by omega)]; rfl)
      have t2 : decide ((n : Int) ≤ a) = true := decide_eq_true c2
      clear c1 c2
      go_wp2_with fail
      go_meet
      exact ⟨by rw [HV.out]; rfl, rfl⟩
    have t2 : decide ((n : Int) ≤ a) = false := decide_eq_false c2
    have HR1 : Hid (decide (0 ≤ a ∧ a < (n : Int)) = true) := Lib.hid (decide_eq_true (by omega))
    by_cases c3 : kd = 5
    · subst c3
      have HV : Hid (rb = true) := Lib.hid (by rw [HRB.out, HR1.out]; rfl)
      clear c1 c2
      go_wp2_with fail
      go_meet
      exact ⟨by rw [HV.out]; rfl, rfl⟩
    have t5 : (kd == 5) = false := by rw [beq_eq_false_iff_ne]; exact c3
    have t5b : (kd != 5) = true := by simpa using c3
    by_cases c4 : b < 0
    · have HV : Hid (rb = false) := Lib.hid (by rw [HRB.out, HR1.out, decide_eq_false c3, decide_eq_false (by omega)]; rfl)
      have t4 : decide (b < 0) = true := decide_eq_true c4
      clear c1 c2 c4
      go_wp2_with fail
      go_meet
      exact ⟨by rw [HV.out]; rfl, rfl⟩
    have t4 : decide (b < 0) = false := decide_eq_false c4
    by_cases c6 : (n : Int) < b
    · have HV : Hid (rb = false) := Lib.hid (by rw [HRB.out, HR1.out, decide_eq_false c3, decide_eq_false (by omega)]; rfl)
      have t6 : decide ((n : Int) < b) = true := decide_eq_true c6
      clear c1 c2 c4 c6
      go_wp2_with fail
      go_meet
      exact ⟨by rw [HV.out]; rfl, rfl⟩
    · have HV : Hid (rb = true) := Lib.hid (by rw [HRB.out, HR1.out, decide_eq_false c3, decide_eq_true (by omega)]; rfl)
      have t6 : decide ((n : Int) < b) = false := decide_eq_false c6
      clear c1 c2 c4 c6
      go_wp2_with fail
      go_meet
      exact ⟨by rw [HV.out]; rfl, rfl⟩
   case rest =>
    obtain ⟨hv, hw⟩ := hcut
    subst hv hw
    cases rb with
    | false =>
      have HC0 : Hid (cm = none) := Lib.hid (by rw [HCM.out, if_pos rfl])
      go_wp2_with fail
      go_ret2
      rw [HC0.out]
      exact ⟨⟨_, _, rfl, rfl, rfl⟩, HS7.out.below⟩
    | true =>
      have HC1 : Hid (cm = (applyM x.sats.length sm ⟨k2, a2, i2, b2, j2⟩).map fun now => roundsOf x now - roundsOf x sm) := Lib.hid (by rw [HCM.out, if_neg (by simp)])
      have HAP := Lib.hid (apply_any (x.sats.length : Nat) SA sc sm k2 a2 i2 b2 j2 wc HQ7.out (by have := HSB.out.1; have := HN.out; omega) (by have := HSB.out.2.1; have := HLS.out; omega))
      obtain ⟨o, ho⟩ : ∃ o, applyM x.sats.length sm ⟨k2, a2, i2, b2, j2⟩ = o := ⟨_, rfl⟩
      have HAO := Lib.hid ho
      have HNS := HX.out.sats
      rw [ho] at HC1 HAP
      clear ho
      have yi : wc.cell? ⟨ib, 5, none⟩ = some (.slice p.SA x.sats.length p.sc) := HS7.out.cell 2 rfl 5 (by rw [HIC.out]; rfl)
      cases o with
      | none =>
        have HC0 : Hid (cm = none) := Lib.hid (by rw [HC1.out]; rfl)
        go_wp2_with first
         | (refine wpList_load_row rfl 33 _ rfl nb rfl _ #[.int .i64 k2, .int .i64 a2, .int .i64 i2, .int .i64 b2, .int .i64 j2] _ _ (HS7.out.blk 0 rfl) Try.underlying33 rfl HSM.out ?_)
         | (go_at_call 13; (with_reducible refine HAP.out.mono ?_); rintro e w8 ⟨rfl, hb8⟩
            have HS8 := Lib.hid (HS7.out.call hb8)
            clear hb8 HAP)
        go_ret2
        rw [HC0.out]
        exact ⟨⟨_, _, rfl, rfl, rfl⟩, HS8.out.below⟩
      | some now =>
        have HC0 : Hid (cm = some (roundsOf x now - roundsOf x sm)) := Lib.hid (by rw [HC1.out]; rfl)
        go_upto_region 19 with first
         | (refine wpList_load_row rfl 33 _ rfl nb rfl _ #[.int .i64 k2, .int .i64 a2, .int .i64 i2, .int .i64 b2, .int .i64 j2] _ _ (HS7.out.blk 0 rfl) Try.underlying33 rfl HSM.out ?_)
         | (go_at_call 13; (with_reducible refine HAP.out.mono ?_); rintro e w8 ⟨v8, ps, rfl, hps, h8⟩
            obtain ⟨A8, c8, hv8, _, _⟩ := (own_outer h8 (fun r hr => hr)).slice_
            have hpl : ps.length = now.length := by rw [← hps, List.length_map]
            rw [hpl] at hv8
            subst hv8
            have HS8 := Lib.hid (HS7.out.call h8.below)
            have HQ8 : Hid (Bikes w8 w8.heap.size A8 now) := Lib.hid (by
             rw [← hps]
             exact bikes_own (T := 44) (t := 3) (A := A8) (c := c8) h8 (fun r hr => by rw [hpl] at hr; exact hr))
            have HM8 : Hid (Bikes w8 w8.heap.size SA sm) := Lib.hid (bikes_more (HQ7.out.below h8.below) h8.size)
            clear hps h8 hpl HAP HQ7)
        clear yi
        have HLN : Hid (now.length ≤ 100000 ∧ ∀ b ∈ now, b.stops.length ≤ 100000) := Lib.hid (by
         have h1 := apply_sort HAO.out
         have h2 := HSB.out.2.1
         have h3 := HLS.out
         refine ⟨?_, fun b hb => Nat.le_trans (stops_le_all hb) (by omega)⟩
         have h4 := HAO.out
         unfold applyM at h4
         cases hr : rawM x.sats.length sm ⟨k2, a2, i2, b2, j2⟩ with
         | none => rw [hr] at h4; cases h4
         | some r =>
           rw [hr] at h4
           cases h4
           have := raw_len hr
           have := HSB.out.1
           have := HN.out
           have := List.length_filter_le keepB r
           show (r.filter keepB).length ≤ 100000
           omega)
        have HLM : Hid (sm.length ≤ 100000 ∧ ∀ b ∈ sm, b.stops.length ≤ 100000) := Lib.hid ⟨by have := HSB.out.1; have := HN.out; omega, fun b hb => HST.out b (HSB.out.2.2 b hb)⟩
        have hr1 := roundsOf_in HX.out HLN.out.2 now.length (Nat.le_refl _)
        have hr2 := roundsOf_in HX.out HLM.out.2 sm.length (Nat.le_refl _)
        rw [List.take_length] at hr1 hr2
        have hl1 := HLN.out.1
        have hl2 := HLM.out.1
        have HR1 : Hid (∀ wx, Below w8.heap.size w8 wx → Calls Try.prog 23 #[.agg ic, .slice A8 now.length c8] wx fun e w' => e = .returned (.int .i64 (roundsOf x now)) ∧ Below wx.heap.size wx w') := Lib.hid (fun wx hb => HRO.out A8 c8 now wx (HS8.out.below.trans (hb.mono HS8.out.below.size)) (bikes_more (HQ8.out.below hb) hb.size) HLN.out.1 HLN.out.2)
        have HR2 : Hid (∀ wx, Below w8.heap.size w8 wx → Calls Try.prog 23 #[.agg ic, .slice SA sm.length sc] wx fun e w' => e = .returned (.int .i64 (roundsOf x sm)) ∧ Below wx.heap.size wx w') := Lib.hid (fun wx hb => HRO.out SA sc sm wx (HS8.out.below.trans (hb.mono HS8.out.below.size)) (bikes_more (HM8.out.below hb) hb.size) HLM.out.1 HLM.out.2)
        obtain ⟨r1, hq1⟩ : ∃ r, roundsOf x now = r := ⟨_, rfl⟩
        obtain ⟨r2, hq2⟩ : ∃ r, roundsOf x sm = r := ⟨_, rfl⟩
        rw [hq1] at HR1 HC0 hr1
        rw [hq2] at HR2 HC0 hr2
        obtain ⟨g1, g2⟩ := hr1
        obtain ⟨g3, g4⟩ := hr2
        have g5 : r1 ≤ 300003000000 := by omega
        have g6 : r2 ≤ 300003000000 := by omega
        clear hq1 hq2 g2 g4
        have hlt1 := (HS8.out.lt 2 rfl).2
        refine wp_region_sq _ (SL.start (Nat.le_refl w8.heap.size)) (by kernel_rfl) (by kernel_rfl) fun C cw _ hC hin => ?_
        have h1 : ∀ c, Calls Try.prog 23 #[.agg #[.int .i64 x.fin, .int .i64 x.tm, .int .i64 x.tr, .int .i64 x.bm, .int .i64 x.br, .slice p.SA x.sats.length p.sc, .slice p.CA x.custs.length p.cc, .slice p.KA x.cost.length p.kc, .slice p.TA x.time.length p.tc], .slice A8 now.length c8] (cw c) fun e w' => e = .returned (.int .i64 r1) ∧ ∃ c', w' = cw c' := fun c => sq_call (hC c) hin (by rw [← HIC.out]; exact HR1.out _ (hC c).below)
        have h2 : ∀ c, Calls Try.prog 23 #[.agg #[.int .i64 x.fin, .int .i64 x.tm, .int .i64 x.tr, .int .i64 x.bm, .int .i64 x.br, .slice p.SA x.sats.length p.sc, .slice p.CA x.custs.length p.cc, .slice p.KA x.cost.length p.kc, .slice p.TA x.time.length p.tc], .slice SA sm.length sc] (cw c) fun e w' => e = .returned (.int .i64 r2) ∧ ∃ c', w' = cw c' := fun c => sq_call (hC c) hin (by rw [← HIC.out]; exact HR2.out _ (hC c).below)
        have HH1 := Lib.hid h1
        have HH2 := Lib.hid h2
        have q0 : ∀ c, (cw c).cell? ⟨ib, 0, none⟩ = some (.int .i64 x.fin) := fun c => ((hC c).below.cell (p := ⟨ib, 0, none⟩) hlt1).trans (HS8.out.cell 2 rfl 0 (by rw [HIC.out]; rfl))
        have q1 : ∀ c, (cw c).cell? ⟨ib, 1, none⟩ = some (.int .i64 x.tm) := fun c => ((hC c).below.cell (p := ⟨ib, 1, none⟩) hlt1).trans (HS8.out.cell 2 rfl 1 (by rw [HIC.out]; rfl))
        have q2 : ∀ c, (cw c).cell? ⟨ib, 2, none⟩ = some (.int .i64 x.tr) := fun c => ((hC c).below.cell (p := ⟨ib, 2, none⟩) hlt1).trans (HS8.out.cell 2 rfl 2 (by rw [HIC.out]; rfl))
        have q3 : ∀ c, (cw c).cell? ⟨ib, 3, none⟩ = some (.int .i64 x.bm) := fun c => ((hC c).below.cell (p := ⟨ib, 3, none⟩) hlt1).trans (HS8.out.cell 2 rfl 3 (by rw [HIC.out]; rfl))
        have q4 : ∀ c, (cw c).cell? ⟨ib, 4, none⟩ = some (.int .i64 x.br) := fun c => ((hC c).below.cell (p := ⟨ib, 4, none⟩) hlt1).trans (HS8.out.cell 2 rfl 4 (by rw [HIC.out]; rfl))
        have q5 : ∀ c, (cw c).cell? ⟨ib, 5, none⟩ = some (.slice p.SA x.sats.length p.sc) := fun c => ((hC c).below.cell (p := ⟨ib, 5, none⟩) hlt1).trans (HS8.out.cell 2 rfl 5 (by rw [HIC.out]; rfl))
        have q6 : ∀ c, (cw c).cell? ⟨ib, 6, none⟩ = some (.slice p.CA x.custs.length p.cc) := fun c => ((hC c).below.cell (p := ⟨ib, 6, none⟩) hlt1).trans (HS8.out.cell 2 rfl 6 (by rw [HIC.out]; rfl))
        have q7 : ∀ c, (cw c).cell? ⟨ib, 7, none⟩ = some (.slice p.KA x.cost.length p.kc) := fun c => ((hC c).below.cell (p := ⟨ib, 7, none⟩) hlt1).trans (HS8.out.cell 2 rfl 7 (by rw [HIC.out]; rfl))
        have q8 : ∀ c, (cw c).cell? ⟨ib, 8, none⟩ = some (.slice p.TA x.time.length p.tc) := fun c => ((hC c).below.cell (p := ⟨ib, 8, none⟩) hlt1).trans (HS8.out.cell 2 rfl 8 (by rw [HIC.out]; rfl))
        have HB8 := Lib.hid HS8.out.below
        clear hC hin h1 h2 HS8
        repeat (go_big_quiet_step (first | (go_at_call 23; with_reducible exact HH1.out _) | (go_at_call 23; with_reducible exact HH2.out _)))
        refine wpQuiet_nil ?_
        intro w9 hS9
        have HB9 := Lib.hid (HB8.out.trans (hS9.below.mono HB8.out.size))
        clear hS9 q0 q1 q2 q3 q4 q5 q6 q7 q8
        go_wp2_with fail
        go_ret2
        rw [HC0.out]
        exact ⟨⟨_, _, rfl, by first | rfl | go_num, rfl⟩, HB9.out⟩
end Go.Proofs.Ytpbhbmdghafkmaa
