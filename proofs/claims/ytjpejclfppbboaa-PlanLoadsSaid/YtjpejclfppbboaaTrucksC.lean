/- Trucks whose rows of stops have the room that a slice of them needs. -/
import Derived.Test.YtjpejclfppbboaaPlanM
namespace Go.Proofs.Ytjpejclfppbboaa
open Go.ChangeShapes Go.WideShapes Go.ChangeAt Go.RowKit
set_option linter.unusedVariables false
def TrucksC (w : World) (B : Nat) (A : Option Addr) (l : List (List StopV)) : Prop :=
  ∃ ps : Nat → SlA, Reads w B 1 A l.length ((List.range l.length).map fun i => truckHd (l.getD i []) (ps i)) ∧ ∀ i (h : i < l.length), Stops w B (ps i).A l[i] ∧ l[i].length ≤ (ps i).c
theorem TrucksC.plain {w : World} {B : Nat} {A : Option Addr} {l : List (List StopV)} (h : TrucksC w B A l) : Trucks w B A l := by
  obtain ⟨ps, h1, h2⟩ := h
  exact ⟨ps, h1, fun i hi => (h2 i hi).1⟩
theorem TrucksC.keep {w w' : World} {B : Nat} {A : Option Addr} {l : List (List StopV)} (h : TrucksC w B A l) (hk : ∀ p : Addr, p.block < B → w'.cell? p = w.cell? p) : TrucksC w' B A l := by
  obtain ⟨ps, h1, h2⟩ := h
  exact ⟨ps, h1.keep hk, fun i hi => ⟨Reads.keep (h2 i hi).1 hk, (h2 i hi).2⟩⟩
theorem TrucksC.below {w w' : World} {B : Nat} {A : Option Addr} {l : List (List StopV)} (h : TrucksC w B A l) (hb : Below B w w') : TrucksC w' B A l := h.keep fun _ hp => hb.cell hp
theorem TrucksC.more {w : World} {B B' : Nat} {A : Option Addr} {l : List (List StopV)} (h : TrucksC w B A l) (hB : B ≤ B') : TrucksC w B' A l := by
  obtain ⟨ps, h1, h2⟩ := h
  exact ⟨ps, reads_more h1 hB, fun i hi => ⟨reads_more (h2 i hi).1 hB, (h2 i hi).2⟩⟩
theorem trucksC_at {w : World} {B : Nat} {A : Option Addr} {l : List (List StopV)} (h : TrucksC w B A l) {i : Nat} (hi : i < l.length) :
    ∃ b o a c, A = some ⟨b, o, none⟩ ∧ b < B ∧ w.cell? ⟨b, o + i, none⟩ = some (.slice a l[i].length c) ∧ Stops w B a l[i] ∧ l[i].length ≤ c := by
  obtain ⟨ps, h1, h2⟩ := h
  obtain ⟨b, o, e, hb, hc⟩ := reads_plain h1 (by omega) Nat.one_pos
  refine ⟨b, o, (ps i).A, (ps i).c, e, hb, ?_, (h2 i hi).1, (h2 i hi).2⟩
  have := hc i (truckHd (l.getD i []) (ps i)) (by simp [hi])
  rw [List.getD_eq_getElem?_getD, List.getElem?_eq_getElem hi] at this
  exact this
end Go.Proofs.Ytjpejclfppbboaa
