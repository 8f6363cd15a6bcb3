/- Plans in memory: trucks and bikes; what plan.Check and plan.Cost tell, as plain functions. No program in sight. -/
import Derived.Test.YtjpejclfppbboaaInst
namespace Go.Proofs.Ytjpejclfppbboaa
open Go.ChangeShapes Go.WideShapes Go.ChangeAt Go.RowKit
set_option linter.unusedVariables false
structure StopV where
  sat : Int
  load : Int
def StopV.cells (a : StopV) : List Value := [.int .i64 a.sat, .int .i64 a.load]
theorem StopV.cells_len (a : StopV) : a.cells.length = 2 := rfl
def Stops (w : World) (B : Nat) (A : Option Addr) (l : List StopV) : Prop := Reads w B 2 A l.length (l.flatMap StopV.cells)
def IntsAt (w : World) (B : Nat) (A : Option Addr) (l : List Int) : Prop := Reads w B 1 A l.length (l.map (.int .i64))
theorem stops_at {w : World} {B : Nat} {A : Option Addr} {l : List StopV} (h : Stops w B A l) {k : Nat} (hk : k < l.length) :
    ∃ b o, A = some ⟨b, o, none⟩ ∧ b < B ∧ w.cell? ⟨b, o + k * 2, none⟩ = some (.int .i64 l[k].sat) ∧ w.cell? ⟨b, o + k * 2 + 1, none⟩ = some (.int .i64 l[k].load) := by
  obtain ⟨b, o, e, hb, hc⟩ := flat_at StopV.cells 2 StopV.cells_len (by decide) h hk
  exact ⟨b, o, e, hb, hc 0 _ rfl, hc 1 _ rfl⟩
structure BikeV where
  sat : Int
  stops : List Int
/-- Where a slice lies. -/
structure SlA where
  A : Option Addr
  c : Nat
def truckHd (t : List StopV) (p : SlA) : Value := .slice p.A t.length p.c
def bikeHd (b : BikeV) (p : SlA) : List Value := [.int .i64 b.sat, .slice p.A b.stops.length p.c]
/-- Trucks: a row of slices. -/
def Trucks (w : World) (B : Nat) (A : Option Addr) (l : List (List StopV)) : Prop :=
  ∃ ps : Nat → SlA, Reads w B 1 A l.length ((List.range l.length).map fun i => truckHd (l.getD i []) (ps i)) ∧ ∀ i (h : i < l.length), Stops w B (ps i).A l[i]
def noBike : BikeV := ⟨0, []⟩
def Bikes (w : World) (B : Nat) (A : Option Addr) (l : List BikeV) : Prop :=
  ∃ ps : Nat → SlA, Reads w B 2 A l.length ((List.range l.length).flatMap fun i => bikeHd (l.getD i noBike) (ps i)) ∧ ∀ i (h : i < l.length), IntsAt w B (ps i).A l[i].stops
theorem Trucks.keep {w w' : World} {B : Nat} {A : Option Addr} {l : List (List StopV)} (h : Trucks w B A l) (hk : ∀ p : Addr, p.block < B → w'.cell? p = w.cell? p) : Trucks w' B A l := by
  obtain ⟨ps, h1, h2⟩ := h
  exact ⟨ps, h1.keep hk, fun i hi => Reads.keep (h2 i hi) hk⟩
theorem Bikes.keep {w w' : World} {B : Nat} {A : Option Addr} {l : List BikeV} (h : Bikes w B A l) (hk : ∀ p : Addr, p.block < B → w'.cell? p = w.cell? p) : Bikes w' B A l := by
  obtain ⟨ps, h1, h2⟩ := h
  exact ⟨ps, h1.keep hk, fun i hi => Reads.keep (h2 i hi) hk⟩
theorem Trucks.below {w w' : World} {B : Nat} {A : Option Addr} {l : List (List StopV)} (h : Trucks w B A l) (hb : Below B w w') : Trucks w' B A l := h.keep fun _ hp => hb.cell hp
theorem Bikes.below {w w' : World} {B : Nat} {A : Option Addr} {l : List BikeV} (h : Bikes w B A l) (hb : Below B w w') : Bikes w' B A l := h.keep fun _ hp => hb.cell hp
theorem trucks_more {w : World} {B B' : Nat} {A : Option Addr} {l : List (List StopV)} (h : Trucks w B A l) (hB : B ≤ B') : Trucks w B' A l := by
  obtain ⟨ps, h1, h2⟩ := h
  exact ⟨ps, reads_more h1 hB, fun i hi => reads_more (h2 i hi) hB⟩
theorem bikes_more {w : World} {B B' : Nat} {A : Option Addr} {l : List BikeV} (h : Bikes w B A l) (hB : B ≤ B') : Bikes w B' A l := by
  obtain ⟨ps, h1, h2⟩ := h
  exact ⟨ps, reads_more h1 hB, fun i hi => reads_more (h2 i hi) hB⟩
theorem trucks_at {w : World} {B : Nat} {A : Option Addr} {l : List (List StopV)} (h : Trucks w B A l) {i : Nat} (hi : i < l.length) :
    ∃ b o a c, A = some ⟨b, o, none⟩ ∧ b < B ∧ w.cell? ⟨b, o + i, none⟩ = some (.slice a l[i].length c) ∧ Stops w B a l[i] := by
  obtain ⟨ps, h1, h2⟩ := h
  obtain ⟨b, o, e, hb, hc⟩ := reads_plain h1 (by omega) Nat.one_pos
  refine ⟨b, o, (ps i).A, (ps i).c, e, hb, ?_, h2 i hi⟩
  have := hc i (truckHd (l.getD i []) (ps i)) (by simp [hi])
  rw [List.getD_eq_getElem?_getD, List.getElem?_eq_getElem hi] at this
  exact this
theorem bikes_at {w : World} {B : Nat} {A : Option Addr} {l : List BikeV} (h : Bikes w B A l) {i : Nat} (hi : i < l.length) :
    ∃ b o a c, A = some ⟨b, o, none⟩ ∧ b < B ∧ w.cell? ⟨b, o + i * 2, none⟩ = some (.int .i64 l[i].sat) ∧ w.cell? ⟨b, o + i * 2 + 1, none⟩ = some (.slice a l[i].stops.length c) ∧ IntsAt w B a l[i].stops := by
  obtain ⟨ps, h1, h2⟩ := h
  obtain ⟨b, o, e, hb, hc⟩ := reads_plain h1 (by omega) (by decide)
  have hg : ∀ j, ((List.range l.length).flatMap fun i => bikeHd (l.getD i noBike) (ps i))[i * 2 + j]? = if j < 2 then (bikeHd (l.getD i noBike) (ps i))[j]? else ((List.range l.length).flatMap fun i => bikeHd (l.getD i noBike) (ps i))[i * 2 + j]? := by
    intro j
    split
    · rename_i hj
      have := flat_get (fun i => bikeHd (l.getD i noBike) (ps i)) 2 (fun _ => rfl) (List.range l.length) i j (by simpa using hi) hj
      rw [this]; simp
    · rfl
  have e0 : l.getD i noBike = l[i] := by simp [hi]
  refine ⟨b, o, (ps i).A, (ps i).c, e, hb, ?_, ?_, h2 i hi⟩
  · have := hc (i * 2 + 0) (.int .i64 l[i].sat) (by rw [hg 0, e0]; rfl)
    exact this
  · have := hc (i * 2 + 1) (.slice (ps i).A l[i].stops.length (ps i).c) (by rw [hg 1, e0]; rfl)
    exact this
structure PlanV where
  trucks : List (List StopV)
  bikes : List BikeV
structure PlanIn (w : World) (B : Nat) (TA BA : Option Addr) (p : PlanV) : Prop where
  trucks : Trucks w B TA p.trucks
  bikes : Bikes w B BA p.bikes
theorem PlanIn.below {w w' : World} {B : Nat} {TA BA : Option Addr} {p : PlanV} (h : PlanIn w B TA BA p) (hb : Below B w w') : PlanIn w' B TA BA p := ⟨h.trucks.below hb, h.bikes.below hb⟩
theorem PlanIn.more {w : World} {B B' : Nat} {TA BA : Option Addr} {p : PlanV} (h : PlanIn w B TA BA p) (hB : B ≤ B') : PlanIn w B' TA BA p := ⟨trucks_more h.trucks hB, bikes_more h.bikes hB⟩
end Go.Proofs.Ytjpejclfppbboaa
