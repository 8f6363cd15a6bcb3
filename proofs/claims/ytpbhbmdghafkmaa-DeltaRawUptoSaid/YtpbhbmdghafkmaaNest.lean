/- Instances in memory: satellites, customers, rows of rows; what inst.Check tells, as a plain function. No program in sight. Plans in memory: trucks and bikes; what plan.Check and plan.Cost tell, as plain functions. No program in sight. Trucks whose rows of stops have the room that a slice of them needs. Rows whose elements end in a slice of their own: owned, element by element; read; changed at one place. No program in sight. Rows of rows of any kind that a call owns, behind other things: where their cells lie, and a change of one. No program in sight. -/
import Derived.Test.YtpbhbmdghafkmaaIarr
import Derived.Test.YtpbhbmdghafkmaaRowRun
namespace Go.Proofs.Ytpbhbmdghafkmaa
open Go.ChangeShapes Go.WideShapes Go.ChangeAt Go.RowKit
set_option linter.unusedVariables false
/-! rows of structs, in general -/
theorem flat_len {α : Type} (f : α → List Value) (s : Nat) (hs : ∀ a, (f a).length = s) (l : List α) : (l.flatMap f).length = l.length * s := by
 induction l with
 | nil => simp
 | cons a r ih => rw [List.flatMap_cons, List.length_append, ih, hs, List.length_cons, Nat.succ_mul]; omega
theorem flat_get {α : Type} (f : α → List Value) (s : Nat) (hs : ∀ a, (f a).length = s) (l : List α) (k j : Nat) (hk : k < l.length) (hj : j < s) : (l.flatMap f)[k * s + j]? = (f l[k])[j]? := by
 induction l generalizing k with
 | nil => simp at hk
 | cons a r ih =>
   rw [List.flatMap_cons]
   cases k with
   | zero => rw [Nat.zero_mul, Nat.zero_add, List.getElem?_append_left (by rw [hs]; exact hj)]; rfl
   | succ k =>
     rw [List.getElem?_append_right (by rw [hs, Nat.succ_mul]; omega), hs, Nat.succ_mul, show k * s + s + j - s = k * s + j by omega, ih k (by simpa using hk)]
     rfl
theorem flat_snoc {α : Type} (f : α → List Value) (l : List α) (a : α) : (l ++ [a]).flatMap f = l.flatMap f ++ f a := by simp
/-- Cells of structs that lie in memory, as a row. -/
theorem reads_flat {α : Type} (f : α → List Value) (s : Nat) (hs : ∀ a, (f a).length = s) (hs0 : 0 < s) {w : World} {a : Addr} {len : Nat} (P : α → Prop) (h : ∀ i, i < len → ∃ x : α, P x ∧ ∀ j u, (f x)[j]? = some u → w.cell? (a.add (i * s + j)) = some u) :
 ∃ l : List α, l.length = len ∧ Reads w w.heap.size s (some a) l.length (l.flatMap f) ∧ ∀ x ∈ l, P x := by
 induction len with
 | zero => exact ⟨[], rfl, ⟨by simp, fun h => absurd h (by simp)⟩, by simp⟩
 | succ n ih =>
   obtain ⟨l, hl, hr, hp⟩ := ih fun i hi => h i (by omega)
   obtain ⟨x, hx, hc⟩ := h n (by omega)
   refine ⟨l ++ [x], by simp [hl], ⟨by rw [flat_len f s hs], fun _ => ⟨a, rfl, ?_, fun j u hu => ?_⟩⟩, ?_⟩
   · have := World.block_lt_of_cell? w _ (hc 0 _ (List.getElem?_eq_getElem (by rw [hs]; exact hs0)))
     rwa [block_of_add] at this
   · have hlen := flat_len f s hs l
     rw [flat_snoc] at hu
     by_cases hj : j < (l.flatMap f).length
     · rw [List.getElem?_append_left hj] at hu
       have h0 : 0 < l.length := by
        rcases Nat.eq_zero_or_pos l.length with h0 | h0
        · rw [hlen, h0] at hj; omega
        · exact h0
       obtain ⟨ad, e, _, hg⟩ := hr.2 h0
       injection e with e
       subst e
       exact hg j u hu
     · rw [List.getElem?_append_right (by omega)] at hu
       have := hc _ u hu
       rw [hlen, hl] at this
       rw [show n * s + (j - n * s) = j by rw [hlen, hl] at hj; omega] at this
       exact this
   · intro y hy
     rcases List.mem_append.1 hy with hy | hy
     · exact hp y hy
     · simp at hy; subst hy; exact hx
/-- An element of a row of structs. -/
theorem flat_at {α : Type} (f : α → List Value) (s : Nat) (hs : ∀ a, (f a).length = s) (hs0 : 0 < s) {w : World} {B : Nat} {A : Option Addr} {l : List α} (h : Reads w B s A l.length (l.flatMap f)) {k : Nat} (hk : k < l.length) :
 ∃ b o, A = some ⟨b, o, none⟩ ∧ b < B ∧ ∀ j u, (f l[k])[j]? = some u → w.cell? ⟨b, o + (k * s + j), none⟩ = some u := by
 obtain ⟨b, o, e, hb, hc⟩ := reads_plain h (by omega) hs0
 refine ⟨b, o, e, hb, fun j u hu => hc _ _ ?_⟩
 have hj : j < s := by have := (List.getElem?_eq_some_iff.1 hu).1; rw [hs] at this; exact this
 rw [flat_get f s hs l k j hk hj]; exact hu
/-! what an instance is made of -/
structure SatV where
 room : Int
 hold : Int
def SatV.cells (a : SatV) : List Value := [.int .i64 a.room, .int .i64 a.hold]
theorem SatV.cells_len (a : SatV) : a.cells.length = 2 := rfl
structure CustV where
 load : Int
 opn : Int
 cls : Int
 stay : Int
def CustV.cells (a : CustV) : List Value := [.int .i64 a.load, .int .i64 a.opn, .int .i64 a.cls, .int .i64 a.stay]
theorem CustV.cells_len (a : CustV) : a.cells.length = 4 := rfl
def Sats (w : World) (B : Nat) (A : Option Addr) (l : List SatV) : Prop := Reads w B 2 A l.length (l.flatMap SatV.cells)
def Custs (w : World) (B : Nat) (A : Option Addr) (l : List CustV) : Prop := Reads w B 4 A l.length (l.flatMap CustV.cells)
theorem sats_at {w : World} {B : Nat} {A : Option Addr} {l : List SatV} (h : Sats w B A l) {k : Nat} (hk : k < l.length) :
 ∃ b o, A = some ⟨b, o, none⟩ ∧ b < B ∧ w.cell? ⟨b, o + k * 2, none⟩ = some (.int .i64 l[k].room) ∧ w.cell? ⟨b, o + k * 2 + 1, none⟩ = some (.int .i64 l[k].hold) := by
 obtain ⟨b, o, e, hb, hc⟩ := flat_at SatV.cells 2 SatV.cells_len (by decide) h hk
 exact ⟨b, o, e, hb, hc 0 _ rfl, hc 1 _ rfl⟩
theorem custs_at {w : World} {B : Nat} {A : Option Addr} {l : List CustV} (h : Custs w B A l) {k : Nat} (hk : k < l.length) :
 ∃ b o, A = some ⟨b, o, none⟩ ∧ b < B ∧ w.cell? ⟨b, o + k * 4, none⟩ = some (.int .i64 l[k].load) ∧ w.cell? ⟨b, o + k * 4 + 1, none⟩ = some (.int .i64 l[k].opn) ∧ w.cell? ⟨b, o + k * 4 + 2, none⟩ = some (.int .i64 l[k].cls) ∧ w.cell? ⟨b, o + k * 4 + 3, none⟩ = some (.int .i64 l[k].stay) := by
 obtain ⟨b, o, e, hb, hc⟩ := flat_at CustV.cells 4 CustV.cells_len (by decide) h hk
 exact ⟨b, o, e, hb, hc 0 _ rfl, hc 1 _ rfl, hc 2 _ rfl, hc 3 _ rfl⟩
/-- Rows of numbers. -/
def Mat (w : World) (B : Nat) (A : Option Addr) (m : List (List Int)) : Prop :=
 ∃ hs : List Value, Reads w B 1 A m.length hs ∧ ∀ i (h : i < m.length), ∃ a c, hs[i]? = some (.slice a m[i].length c) ∧ Reads w B 1 a m[i].length (m[i].map (.int .i64))
theorem Mat.keep {w w' : World} {B : Nat} {A : Option Addr} {m : List (List Int)} (h : Mat w B A m) (hk : ∀ p : Addr, p.block < B → w'.cell? p = w.cell? p) : Mat w' B A m := by
 obtain ⟨hs, h1, h2⟩ := h
 refine ⟨hs, h1.keep hk, fun i hi => ?_⟩
 obtain ⟨a, c, e, hr⟩ := h2 i hi
 exact ⟨a, c, e, hr.keep hk⟩
theorem Mat.below {w w' : World} {B : Nat} {A : Option Addr} {m : List (List Int)} (h : Mat w B A m) (hb : Below B w w') : Mat w' B A m := h.keep fun _ hp => hb.cell hp
theorem mat_more {w : World} {B B' : Nat} {A : Option Addr} {m : List (List Int)} (h : Mat w B A m) (hB : B ≤ B') : Mat w B' A m := by
 obtain ⟨hs, h1, h2⟩ := h
 refine ⟨hs, reads_more h1 hB, fun i hi => ?_⟩
 obtain ⟨a, c, e, hr⟩ := h2 i hi
 exact ⟨a, c, e, reads_more hr hB⟩
theorem mat_at {w : World} {B : Nat} {A : Option Addr} {m : List (List Int)} (h : Mat w B A m) {i : Nat} (hi : i < m.length) :
 ∃ b o a c, A = some ⟨b, o, none⟩ ∧ b < B ∧ w.cell? ⟨b, o + i, none⟩ = some (.slice a m[i].length c) ∧ Reads w B 1 a m[i].length (m[i].map (.int .i64)) := by
 obtain ⟨hs, h1, h2⟩ := h
 obtain ⟨b, o, e, hb, hc⟩ := reads_plain h1 (by omega) Nat.one_pos
 obtain ⟨a, c, e2, hr⟩ := h2 i hi
 exact ⟨b, o, a, c, e, hb, hc i _ e2, hr⟩
structure InstV where
 fin : Int
 tm : Int
 tr : Int
 bm : Int
 br : Int
 sats : List SatV
 custs : List CustV
 cost : List (List Int)
 time : List (List Int)
/-- How many nodes. -/
def InstV.n (x : InstV) : Nat := 1 + x.sats.length + x.custs.length
/-- Where it lies. -/
structure IAt where
 SA : Option Addr
 sc : Nat
 CA : Option Addr
 cc : Nat
 KA : Option Addr
 kc : Nat
 TA : Option Addr
 tc : Nat
def InstV.cells (x : InstV) (p : IAt) : Array Value := #[.int .i64 x.fin, .int .i64 x.tm, .int .i64 x.tr, .int .i64 x.bm, .int .i64 x.br, .slice p.SA x.sats.length p.sc, .slice p.CA x.custs.length p.cc, .slice p.KA x.cost.length p.kc, .slice p.TA x.time.length p.tc]
structure InstIn (w : World) (B : Nat) (p : IAt) (x : InstV) : Prop where
 sats : Sats w B p.SA x.sats
 custs : Custs w B p.CA x.custs
 cost : Mat w B p.KA x.cost
 time : Mat w B p.TA x.time
theorem InstIn.below {w w' : World} {B : Nat} {p : IAt} {x : InstV} (h : InstIn w B p x) (hb : Below B w w') : InstIn w' B p x :=
 ⟨Reads.below h.sats hb, Reads.below h.custs hb, h.cost.below hb, h.time.below hb⟩
theorem InstIn.more {w : World} {B B' : Nat} {p : IAt} {x : InstV} (h : InstIn w B p x) (hB : B ≤ B') : InstIn w B' p x :=
 ⟨reads_more h.sats hB, reads_more h.custs hB, mat_more h.cost hB, mat_more h.time hB⟩
/-- Of lengths that a slice can have. -/
structure InstL (x : InstV) : Prop where
 sats : x.sats.length ≤ maxLen
 custs : x.custs.length ≤ maxLen
 cost : x.cost.length ≤ maxLen ∧ ∀ r ∈ x.cost, r.length ≤ maxLen
 time : x.time.length ≤ maxLen ∧ ∀ r ∈ x.time, r.length ≤ maxLen
/-! what inst.Check tells -/
def mayB (n least : Int) : Bool := decide (least ≤ n ∧ n ≤ 1000000000)
def manyB (n most : Int) : Bool := decide (1 ≤ n ∧ n ≤ most)
def sqB (m : List (List Int)) (n : Nat) : Bool := decide (m.length = n) && m.all fun r => decide (r.length = n)
def satB (s : SatV) : Bool := mayB s.room 0 && mayB s.hold 0
def custB (c : CustV) : Bool := mayB c.load 1 && mayB c.opn 0 && mayB c.cls c.opn && mayB c.stay 0
/-- One number of a row of rows: none but 0 from a node to itself. -/
def cellB (i k : Nat) (n : Int) : Bool := mayB n 0 && (decide (i ≠ k) || decide (n = 0))
def rowB (i : Nat) (r : List Int) : Bool := (List.range r.length).all fun k => cellB i k (r.getD k 0)
def matB (m : List (List Int)) : Bool := (List.range m.length).all fun i => rowB i (m.getD i [])
def InstV.countB (x : InstV) : Bool := manyB x.tm 60 && manyB x.bm 60 && manyB x.sats.length 12 && manyB x.custs.length 48
def InstV.sizeB (x : InstV) : Bool := sqB x.cost x.n && sqB x.time x.n
def InstV.numsB (x : InstV) : Bool := mayB x.fin 0 && mayB x.tr 0 && mayB x.br 0 && x.sats.all satB && x.custs.all custB && matB x.cost && matB x.time
def InstV.code (x : InstV) : Int := if x.countB = false then 9 else if x.sizeB = false then 4 else if x.numsB = false then 2 else 0
theorem all_take {α : Type} (f : α → Bool) (l : List α) (k : Nat) (h : k < l.length) : (l.take (k + 1)).all f = ((l.take k).all f && f l[k]) := by
 rw [List.take_succ_eq_append_getElem h, List.all_append]; simp
theorem all_range {f : Nat → Bool} (k : Nat) : (List.range (k + 1)).all f = ((List.range k).all f && f k) := by
 rw [List.range_succ, List.all_append]; simp
end Go.Proofs.Ytpbhbmdghafkmaa
namespace Go.Proofs.Ytpbhbmdghafkmaa
open Go.ChangeShapes Go.WideShapes Go.ChangeAt Go.RowKit
set_option linter.unusedVariables false
structure StopV where
 sat : Int
 load : Int
def StopV.cells (a : StopV) : List Value := [.int .i64 a.sat, .int .i64 a.load]
theorem StopV.cells_len (a : StopV) : a.cells.length = 2 := rfl
def Stops (w : World) (B : Nat) (A : Option Addr) (l : List StopV) : Prop := Reads w B 2 A l.length (l.flatMap StopV.cells)
def IntsAt (w : World) (B : Nat) (A : Option Addr) (l : List Int) : Prop := Reads w B 1 A l.length (l.map (.int .i64))
structure BikeV where
 sat : Int
 stops : List Int
/-- Where a slice lies. -/
structure SlA where
 A : Option Addr
 c : Nat
def truckHd (t : List StopV) (p : SlA) : Value := .slice p.A t.length p.c
def bikeHd (b : BikeV) (p : SlA) : List Value := [.int .i64 b.sat, .slice p.A b.stops.length p.c]
/-- Trucks: a row of slices. -/
def Trucks (w : World) (B : Nat) (A : Option Addr) (l : List (List StopV)) : Prop :=
 ∃ ps : Nat → SlA, Reads w B 1 A l.length ((List.range l.length).map fun i => truckHd (l.getD i []) (ps i)) ∧ ∀ i (h : i < l.length), Stops w B (ps i).A l[i]
def noBike : BikeV := ⟨0, []⟩
def Bikes (w : World) (B : Nat) (A : Option Addr) (l : List BikeV) : Prop :=
 ∃ ps : Nat → SlA, Reads w B 2 A l.length ((List.range l.length).flatMap fun i => bikeHd (l.getD i noBike) (ps i)) ∧ ∀ i (h : i < l.length), IntsAt w B (ps i).A l[i].stops
theorem Trucks.keep {w w' : World} {B : Nat} {A : Option Addr} {l : List (List StopV)} (h : Trucks w B A l) (hk : ∀ p : Addr, p.block < B → w'.cell? p = w.cell? p) : Trucks w' B A l := by
 obtain ⟨ps, h1, h2⟩ := h
 exact ⟨ps, h1.keep hk, fun i hi => Reads.keep (h2 i hi) hk⟩
theorem Bikes.keep {w w' : World} {B : Nat} {A : Option Addr} {l : List BikeV} (h : Bikes w B A l) (hk : ∀ p : Addr, p.block < B → w'.cell? p = w.cell? p) : Bikes w' B A l := by
 obtain ⟨ps, h1, h2⟩ := h
 exact ⟨ps, h1.keep hk, fun i hi => Reads.keep (h2 i hi) hk⟩
theorem Trucks.below {w w' : World} {B : Nat} {A : Option Addr} {l : List (List StopV)} (h : Trucks w B A l) (hb : Below B w w') : Trucks w' B A l := h.keep fun _ hp => hb.cell hp
theorem Bikes.below {w w' : World} {B : Nat} {A : Option Addr} {l : List BikeV} (h : Bikes w B A l) (hb : Below B w w') : Bikes w' B A l := h.keep fun _ hp => hb.cell hp
theorem trucks_more {w : World} {B B' : Nat} {A : Option Addr} {l : List (List StopV)} (h : Trucks w B A l) (hB : B ≤ B') : Trucks w B' A l := by
 obtain ⟨ps, h1, h2⟩ := h
 exact ⟨ps, reads_more h1 hB, fun i hi => reads_more (h2 i hi) hB⟩
theorem bikes_more {w : World} {B B' : Nat} {A : Option Addr} {l : List BikeV} (h : Bikes w B A l) (hB : B ≤ B') : Bikes w B' A l := by
 obtain ⟨ps, h1, h2⟩ := h
 exact ⟨ps, reads_more h1 hB, fun i hi => reads_more (h2 i hi) hB⟩
theorem trucks_at {w : World} {B : Nat} {A : Option Addr} {l : List (List StopV)} (h : Trucks w B A l) {i : Nat} (hi : i < l.length) :
 ∃ b o a c, A = some ⟨b, o, none⟩ ∧ b < B ∧ w.cell? ⟨b, o + i, none⟩ = some (.slice a l[i].length c) ∧ Stops w B a l[i] := by
 obtain ⟨ps, h1, h2⟩ := h
 obtain ⟨b, o, e, hb, hc⟩ := reads_plain h1 (by omega) Nat.one_pos
 refine ⟨b, o, (ps i).A, (ps i).c, e, hb, ?_, h2 i hi⟩
 have := hc i (truckHd (l.getD i []) (ps i)) (by simp [hi])
 rw [List.getD_eq_getElem?_getD, List.getElem?_eq_getElem hi] at this
 exact this
theorem bikes_at {w : World} {B : Nat} {A : Option Addr} {l : List BikeV} (h : Bikes w B A l) {i : Nat} (hi : i < l.length) :
 ∃ b o a c, A = some ⟨b, o, none⟩ ∧ b < B ∧ w.cell? ⟨b, o + i * 2, none⟩ = some (.int .i64 l[i].sat) ∧ w.cell? ⟨b, o + i * 2 + 1, none⟩ = some (.slice a l[i].stops.length c) ∧ IntsAt w B a l[i].stops := by
 obtain ⟨ps, h1, h2⟩ := h
 obtain ⟨b, o, e, hb, hc⟩ := reads_plain h1 (by omega) (by decide)
 have hg : ∀ j, ((List.range l.length).flatMap fun i => bikeHd (l.getD i noBike) (ps i))[i * 2 + j]? = if j < 2 then (bikeHd (l.getD i noBike) (ps i))[j]? else ((List.range l.length).flatMap fun i => bikeHd (l.getD i noBike) (ps i))[i * 2 + j]? := by
  intro j
  split
  · rename_i hj
    have := flat_get (fun i => bikeHd (l.getD i noBike) (ps i)) 2 (fun _ => rfl) (List.range l.length) i j (by simpa using hi) hj
    rw [this]; simp
  · rfl
 have e0 : l.getD i noBike = l[i] := by simp [hi]
 refine ⟨b, o, (ps i).A, (ps i).c, e, hb, ?_, ?_, h2 i hi⟩
 · have := hc (i * 2 + 0) (.int .i64 l[i].sat) (by rw [hg 0, e0]; rfl)
   exact this
 · have := hc (i * 2 + 1) (.slice (ps i).A l[i].stops.length (ps i).c) (by rw [hg 1, e0]; rfl)
   exact this
structure PlanV where
 trucks : List (List StopV)
 bikes : List BikeV
structure PlanIn (w : World) (B : Nat) (TA BA : Option Addr) (p : PlanV) : Prop where
 trucks : Trucks w B TA p.trucks
 bikes : Bikes w B BA p.bikes
end Go.Proofs.Ytpbhbmdghafkmaa
namespace Go.Proofs.Ytpbhbmdghafkmaa
open Go.ChangeShapes Go.WideShapes Go.ChangeAt Go.RowKit
set_option linter.unusedVariables false
def TrucksC (w : World) (B : Nat) (A : Option Addr) (l : List (List StopV)) : Prop :=
 ∃ ps : Nat → SlA, Reads w B 1 A l.length ((List.range l.length).map fun i => truckHd (l.getD i []) (ps i)) ∧ ∀ i (h : i < l.length), Stops w B (ps i).A l[i] ∧ l[i].length ≤ (ps i).c
theorem TrucksC.plain {w : World} {B : Nat} {A : Option Addr} {l : List (List StopV)} (h : TrucksC w B A l) : Trucks w B A l := by
 obtain ⟨ps, h1, h2⟩ := h
 exact ⟨ps, h1, fun i hi => (h2 i hi).1⟩
end Go.Proofs.Ytpbhbmdghafkmaa
namespace Go.Proofs.Ytpbhbmdghafkmaa
open Go.ChangeShapes Go.WideShapes Go.ChangeAt Go.RowKit
set_option linter.unusedVariables false
theorem flat_set {α : Type} (f : α → List Value) (s : Nat) (hs : ∀ a, (f a).length = s) (l : List α) (i j : Nat) (hi : i < l.length) (x : α) (u : Value) (hj : j < s) (hx : f x = (f l[i]).set j u) : (l.set i x).flatMap f = (l.flatMap f).set (i * s + j) u := by
 induction l generalizing i with
 | nil => simp at hi
 | cons a r ih =>
   cases i with
   | zero =>
     simp only [List.set_cons_zero, List.flatMap_cons, Nat.zero_mul, Nat.zero_add]
     rw [List.set_append, if_pos (by rw [hs]; exact hj)]
     rw [hx]; rfl
   | succ i =>
     simp only [List.set_cons_succ, List.flatMap_cons]
     rw [List.set_append, if_neg (by rw [hs, Nat.succ_mul]; omega), hs, Nat.succ_mul, show i * s + s + j - s = i * s + j by omega, ih i (by simpa using hi) hx]
/-- A kind of such rows: the outer elements' type and size, the inner ones'; what stands ahead of the slice; how long, and what, the slice is. -/
structure Nest (α : Type) where
 T : TypeId
 S : Nat
 t : TypeId
 s : Nat
 pre : α → List Value
 len : α → Nat
 cells : α → List Value
structure Nest.Ok {α : Type} (N : Nest α) : Prop where
 pre : ∀ a, (N.pre a).length + 1 = N.S
 cells : ∀ a, (N.cells a).length = N.len a * N.s
namespace Nest
variable {α : Type} (N : Nest α)
def head (q : α × Value) : List Value := N.pre q.1 ++ [q.2]
def inner (q : α × Value) : Rs := .row N.t N.s q.2 (N.len q.1) (N.cells q.1)
def heads (ps : List (α × Value)) : List Value := ps.flatMap N.head
def own (v : Value) (ps : List (α × Value)) : List Rs := .row N.T N.S v ps.length (N.heads ps) :: ps.map N.inner
variable {N}
theorem head_len (h : N.Ok) (q : α × Value) : (N.head q).length = N.S := by unfold head; rw [List.length_append]; exact h.pre q.1
theorem heads_len (h : N.Ok) (ps : List (α × Value)) : (N.heads ps).length = ps.length * N.S := flat_len N.head N.S (head_len h) ps
theorem own_get (v : Value) (ps : List (α × Value)) (i : Nat) (hi : i < ps.length) (rest : List Rs) : (N.own v ps ++ rest)[i + 1]? = some (N.inner ps[i]) := by
 unfold own
 rw [List.cons_append, List.getElem?_cons_succ, List.getElem?_append_left (by simpa using hi), List.getElem?_map, List.getElem?_eq_getElem hi]; rfl
/-- Element i's slice has become h, and holds what a' tells. -/
theorem own_set (hN : N.Ok) (v : Value) (ps : List (α × Value)) (i : Nat) (hi : i < ps.length) (a' : α) (h : Value) (hp : N.pre a' = N.pre ps[i].1) (rest : List Rs) :
 ((N.own v ps ++ rest).set (i + 1) (N.inner (a', h))).set 0 (.row N.T N.S v ps.length ((N.heads ps).set (i * N.S + (N.S - 1)) h)) = N.own v (ps.set i (a', h)) ++ rest := by
 unfold own
 rw [List.cons_append, List.set_cons_succ, List.set_cons_zero, List.set_append, if_pos (by simpa using hi), ← List.map_set, List.length_set]
 have e : N.heads (ps.set i (a', h)) = (N.heads ps).set (i * N.S + (N.S - 1)) h := by
  have hpos := hN.pre a'
  refine flat_set N.head N.S (head_len hN) ps i (N.S - 1) hi (a', h) h (by omega) ?_
  unfold head
  have hl := hN.pre ps[i].1
  rw [List.set_append, if_neg (by omega), show N.S - 1 - (N.pre ps[i].1).length = 0 by omega, hp]; rfl
 rw [e]; rfl
theorem own_snoc (v : Value) (ps : List (α × Value)) (q : α × Value) : N.own v (ps ++ [q]) = .row N.T N.S v (ps.length + 1) (N.heads ps ++ N.head q) :: (ps.map N.inner ++ [N.inner q]) := by
 unfold own heads
 rw [List.flatMap_append, List.map_append, List.length_append]
 simp
end Nest
/-! the kinds -/
def bikeN (T t : TypeId) : Nest BikeV := ⟨T, 2, t, 1, fun b => [.int .i64 b.sat], fun b => b.stops.length, fun b => b.stops.map (.int .i64)⟩
def truckN (T t : TypeId) : Nest (List StopV) := ⟨T, 1, t, 2, fun _ => [], fun l => l.length, fun l => l.flatMap StopV.cells⟩
def listN (T t : TypeId) : Nest (List Int) := ⟨T, 1, t, 1, fun _ => [], fun l => l.length, fun l => l.map (.int .i64)⟩
theorem bikeN_ok (T t : TypeId) : (bikeN T t).Ok := ⟨fun _ => rfl, fun b => by simp [bikeN]⟩
theorem listN_ok (T t : TypeId) : (listN T t).Ok := ⟨fun _ => rfl, fun b => by simp [listN]⟩
theorem own_outer {α : Type} {N : Nest α} {W w : World} {B : Nat} {l : List Rs} (hS : SL W B l w) {v : Value} {ps : List (α × Value)} (h : ∀ r ∈ N.own v ps, r ∈ l) : OwnsQ w 0 N.T N.S v ps.length (N.heads ps) :=
 hS.holds (.row N.T N.S v ps.length (N.heads ps)) (h _ (by unfold Nest.own; exact List.mem_cons_self))
/-- Where the slices of what is owned lie. -/
theorem own_slices {α : Type} {N : Nest α} {W w : World} {B : Nat} {l : List Rs} (hS : SL W B l w) {v : Value} {ps : List (α × Value)} (h : ∀ r ∈ N.own v ps, r ∈ l) :
 ∃ sa : Nat → SlA, ∀ i (hi : i < ps.length), ps[i].2 = .slice (sa i).A (N.len ps[i].1) (sa i).c ∧ N.len ps[i].1 ≤ (sa i).c ∧ Reads w w.heap.size N.s (sa i).A (N.len ps[i].1) (N.cells ps[i].1) := by
 have key : ∀ i, ∃ sa : SlA, ∀ hi : i < ps.length, ps[i].2 = .slice sa.A (N.len ps[i].1) sa.c ∧ N.len ps[i].1 ≤ sa.c ∧ Reads w w.heap.size N.s sa.A (N.len ps[i].1) (N.cells ps[i].1) := fun i => by
  by_cases hi : i < ps.length
  · have hr : OwnsQ w 0 N.t N.s ps[i].2 (N.len ps[i].1) (N.cells ps[i].1) := hS.holds (N.inner ps[i]) (h _ (by unfold Nest.own; exact List.mem_cons_of_mem _ (List.mem_map_of_mem (List.getElem_mem hi))))
    obtain ⟨A, c, e, hc, _⟩ := hr.slice_
    rw [e] at hr
    exact ⟨⟨A, c⟩, fun _ => ⟨e, hc, hr.reads⟩⟩
  · exact ⟨⟨none, 0⟩, fun hi' => absurd hi' hi⟩
 exact ⟨fun i => (key i).choose, fun i hi => (key i).choose_spec hi⟩
theorem range_zip {α : Type} (f : α → List Value) (g : Nat → List Value) (l : List α) (h : ∀ i (hi : i < l.length), g i = f l[i]) : (List.range l.length).flatMap g = l.flatMap f := by
 have e : l = (List.range l.length).pmap (fun i (hi : i < l.length) => l[i]) (fun i hi => by simpa using hi) := by
  apply List.ext_getElem
  · simp
  · intro i h1 h2; simp
 have : ∀ (r : List Nat) (hr : ∀ i ∈ r, i < l.length), r.flatMap g = (r.pmap (fun i (hi : i < l.length) => l[i]) hr).flatMap f := by
  intro r
  induction r with
  | nil => intro _; rfl
  | cons i r ih =>
    intro hr
    rw [List.flatMap_cons, List.pmap_cons, List.flatMap_cons, ih (fun j hj => hr j (by simp [hj])), h i (hr i (by simp))]
 rw [this _ (fun i hi => by simpa using hi), ← e]
theorem bikes_own {W w : World} {B : Nat} {l : List Rs} (hS : SL W B l w) {T t : TypeId} {A : Option Addr} {c : Nat} {ps : List (BikeV × Value)} (h : ∀ r ∈ (bikeN T t).own (.slice A ps.length c) ps, r ∈ l) : Bikes w w.heap.size A (ps.map (·.1)) := by
 obtain ⟨sa, hsa⟩ := own_slices hS h
 have h0 : OwnsQ w 0 T 2 (.slice A ps.length c) ps.length ((bikeN T t).heads ps) := own_outer hS h
 refine ⟨sa, ?_, fun i hi => ?_⟩
 · have e : (List.range (ps.map (·.1)).length).flatMap (fun i => bikeHd ((ps.map (·.1)).getD i noBike) (sa i)) = (bikeN T t).heads ps := by
    rw [List.length_map]
    refine range_zip (bikeN T t).head _ ps fun i hi => ?_
    have := (hsa i hi).1
    simp only [Nest.head, bikeHd, bikeN] at this ⊢
    rw [this]
    simp [hi]
   rw [e, List.length_map]
   exact h0.reads
 · have hi' : i < ps.length := by simpa using hi
   have := (hsa i hi').2.2
   simpa [IntsAt, bikeN, hi'] using this
/-- One element more, its slice made by itself. -/
theorem SL.nestSnoc {α : Type} {N : Nest α} {W w : World} {B : Nat} {P R : List Rs} {v : Value} {ps : List (α × Value)} {q : α × Value} (h : SL W B (N.inner q :: (P ++ (.row N.T N.S v (ps.length + 1) (N.heads ps ++ N.head q) :: (ps.map N.inner ++ R)))) w) : SL W B (P ++ (N.own v (ps ++ [q]) ++ R)) w := by
 rw [Nest.own_snoc, List.cons_append, List.append_assoc]
 refine h.perm ?_
 have e1 : (N.inner q :: (P ++ (.row N.T N.S v (ps.length + 1) (N.heads ps ++ N.head q) :: (ps.map N.inner ++ R)))).Perm (P ++ (N.inner q :: (.row N.T N.S v (ps.length + 1) (N.heads ps ++ N.head q) :: (ps.map N.inner ++ R)))) := List.perm_middle.symm
 refine e1.trans (List.Perm.append_left P ?_)
 refine (List.Perm.swap _ _ _).trans (List.Perm.cons _ ?_)
 rw [List.singleton_append]
 exact List.perm_middle.symm
end Go.Proofs.Ytpbhbmdghafkmaa
namespace Go.Proofs.Ytpbhbmdghafkmaa
open Go.ChangeShapes Go.WideShapes Go.ChangeAt Go.RowKit
set_option linter.unusedVariables false
section gn
variable {α : Type} {N : Nest α} {W w : World} {B : Nat} {P R : List Rs} {ps : List (α × Value)} {c g off n : Nat}
theorem gn_inner (N : Nest α) (P R : List Rs) (v : Value) (ps : List (α × Value)) {k : Nat} (hk : k < ps.length) : (P ++ (N.own v ps ++ R))[P.length + (k + 1)]? = some (N.inner ps[k]) := by
 rw [List.getElem?_append_right (by omega), Nat.add_sub_cancel_left]
 exact N.own_get v ps k hk R
theorem gn_heads (hN : N.Ok) (l : List (α × Value)) (k j : Nat) (hk : k < l.length) (hj : j < N.S) : (N.heads l)[k * N.S + j]? = (N.head l[k])[j]? := flat_get N.head N.S (Nest.head_len hN) l k j hk hj
/-- One element's slice is new, and holds what a' tells; its head tells so. -/
theorem gn_turn (hN : N.Ok) (hn : ps.length = n) {k : Nat} (hk : k < ps.length) (a' : α) (v' : Value) (hp : N.pre a' = N.pre ps[k].1) (hS : SL W B ((P ++ (N.own (.slice (some ⟨g, off, none⟩) n c) ps ++ R)).set (P.length + (k + 1)) (.row N.t N.s v' (N.len a') (N.cells a'))) w) :
 SL W B (P ++ (N.own (.slice (some ⟨g, off, none⟩) n c) (ps.set k (a', v')) ++ R)) (w.setCell ⟨g, off + (k * N.S + (N.S - 1)), none⟩ v') := by
 subst hn
 have hl := hN.pre a'
 have hkS : k * N.S + N.S ≤ ps.length * N.S := by rw [← Nat.succ_mul]; exact Nat.mul_le_mul_right _ hk
 have e1 : (P ++ (N.own (.slice (some ⟨g, off, none⟩) ps.length c) ps ++ R)).set (P.length + (k + 1)) (.row N.t N.s v' (N.len a') (N.cells a')) = P ++ ((N.own (.slice (some ⟨g, off, none⟩) ps.length c) ps ++ R).set (k + 1) (N.inner (a', v'))) := by
  rw [List.set_append_right _ _ (by omega), Nat.add_sub_cancel_left]; rfl
 rw [e1] at hS
 have h := hS.setRowCell P.length (by rw [List.getElem?_append_right (Nat.le_refl _), Nat.sub_self, List.getElem?_set_ne (by omega)]; rfl) (k * N.S + (N.S - 1)) (by omega) v'
 rw [List.set_append_right _ _ (Nat.le_refl _), Nat.sub_self] at h
 have e2 := N.own_set hN (.slice (some ⟨g, off, none⟩) ps.length c) ps k hk a' v' hp R
 rw [e2] at h
 exact h
/-- One element's slice holds what a' tells, in place. -/
theorem gn_same (hN : N.Ok) {k : Nat} (hk : k < ps.length) (v : Value) (a' : α) (hp : N.pre a' = N.pre ps[k].1) (P R : List Rs) :
 (P ++ (N.own v ps ++ R)).set (P.length + (k + 1)) (.row N.t N.s ps[k].2 (N.len a') (N.cells a')) = P ++ (N.own v (ps.set k (a', ps[k].2)) ++ R) := by
 have hl := hN.pre ps[k].1
 rw [List.set_append_right _ _ (by omega), Nat.add_sub_cancel_left]
 have e2 := N.own_set hN v ps k hk a' ps[k].2 hp R
 rw [← e2]
 have e3 : (N.heads ps).set (k * N.S + (N.S - 1)) ps[k].2 = N.heads ps := by
  refine set_self' ?_
  rw [gn_heads hN ps k _ hk (by omega)]
  unfold Nest.head
  rw [List.getElem?_append_right (by omega), show N.S - 1 - (N.pre ps[k].1).length = 0 by omega]; rfl
 rw [e3]
 congr 1
end gn
end Go.Proofs.Ytpbhbmdghafkmaa
