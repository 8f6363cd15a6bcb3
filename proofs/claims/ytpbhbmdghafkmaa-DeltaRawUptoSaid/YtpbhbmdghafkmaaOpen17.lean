/- Instances and plans that came in, opened. -/
import Derived.Test.YtpbhbmdghafkmaaNest
import Derived.Test.YtpbhbmdghafkmaaOpen
import Derived.Test.YtpbhbmdghafkmaaRows
import Derived.Deep.Matrix
namespace Go.Proofs.Ytpbhbmdghafkmaa
open Go.ChangeShapes Go.WideShapes Go.Deep Go.Joins Go.RowKit
set_option linter.unusedVariables false
section
variable {H : Type} {enc : TypeId × Value → H} {W : World}
theorem open_one {n : Nat} {t : TypeId} {k : IntKind} (ht : Try.prog.underlying t = some (.int k)) {v : Value} {y : DataW H × List MemPlace} (h : DataW.trod enc Try.prog W 0 (fun _ => true) true n t [v] = some y) : ∃ a : Int, v = .int k a ∧ (Lit.int k a).wf = true := by
 obtain ⟨a, e, _, hw⟩ := DataW.trod_int ht h
 simp only [List.cons.injEq, and_true] at e
 exact ⟨a, e, hw⟩
/-- A row of structs, element by element. -/
theorem structs_open {α : Type} (f : α → List Value) (s : Nat) (hs : ∀ a, (f a).length = s) (hs0 : 0 < s) (P : α → Prop) {t e : TypeId} {fs : Array Field} {n : Nat} {v : Value} {y : DataW H × List MemPlace} (ht : Try.prog.underlying t = some (.slice e)) (he : Try.prog.underlying e = some (.struct fs))
 (hone : oneCellFields Try.prog fs = true) (hC : Try.prog.cellsOf e = fs.size) (hfs : fs.size = s) (h : DataW.trod enc Try.prog W 0 (fun _ => true) true n t [v] = some y)
 (hx : ∀ (c : Nat → Value) (m : Nat) (ys : List (DataW H × List MemPlace)), (∀ (j : Nat) (g : Field), fs[j]? = some g → ∃ z, ys[j]? = some z ∧ DataW.trod enc Try.prog W 0 (fun _ => true) true m g.type [c j] = some z) → ∃ x : α, P x ∧ ∀ j u, (f x)[j]? = some u → c j = u) :
 ∃ (A : Option Addr) (c : Nat) (l : List α), v = .slice A l.length c ∧ Reads W W.heap.size s A l.length (l.flatMap f) ∧ l.length ≤ maxLen ∧ ∀ x ∈ l, P x := by
 rcases open_slice_fields ht he hone hC h with ⟨hcs, _⟩ | ⟨a, len, cap, m, D, Pl, hcs, hb, hl, hm, hmm, _, hg⟩
 · simp only [List.cons.injEq, and_true] at hcs
   exact ⟨none, 0, [], hcs, ⟨by simp, fun h => absurd h (by simp)⟩, Nat.zero_le _, by simp⟩
 · simp only [List.cons.injEq, and_true] at hcs
   have hml : len ≤ m := by rw [hmm]; split <;> omega
   obtain ⟨l, hll, hr, hp⟩ := reads_flat f s hs hs0 (w := W) (a := a) (len := len) P fun i hi => by
    obtain ⟨ys, n', _, _, _, hc⟩ := hg i (by omega)
    have hc2 : ∀ j, ∃ v : Value, ∀ g, fs[j]? = some g → W.cell? (a.add (i * fs.size + j)) = some v ∧ ∃ z, ys[j]? = some z ∧ DataW.trod enc Try.prog W 0 (fun _ => true) true n' g.type [v] = some z := fun j => by
     cases hj : fs[j]? with
     | none => exact ⟨.bool false, fun g hg => by cases hg⟩
     | some g =>
       obtain ⟨v, z, h1, h2, h3⟩ := hc j g hj
       exact ⟨v, fun g' hg' => by cases hg'; exact ⟨h1, z, h2, h3⟩⟩
    obtain ⟨x, hPx, hx2⟩ := hx (fun j => (hc2 j).choose) n' ys fun j g hg => ((hc2 j).choose_spec g hg).2
    refine ⟨x, hPx, fun j u hu => ?_⟩
    have hj : j < fs.size := by have := (List.getElem?_eq_some_iff.1 hu).1; rw [hs, ← hfs] at this; exact this
    have h1 := ((hc2 j).choose_spec fs[j] (Array.getElem?_eq_getElem hj)).1
    rw [hx2 j u hu, hfs] at h1
    exact h1
   subst hll
   exact ⟨some a, cap, l, hcs, hr, by omega, hp⟩
instance : Nonempty (List StopV × SlA) := ⟨([], ⟨none, 0⟩)⟩
instance : Nonempty (BikeV × SlA) := ⟨(⟨0, []⟩, ⟨none, 0⟩)⟩
end
end Go.Proofs.Ytpbhbmdghafkmaa
