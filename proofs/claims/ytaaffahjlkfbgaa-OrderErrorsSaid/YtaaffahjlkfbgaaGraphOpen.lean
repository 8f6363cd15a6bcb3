/- A graph that came in, opened. -/
import Derived.Test.YtaaffahjlkfbgaaGraphA
import Derived.Test.YtaaffahjlkfbgaaOpen
namespace Go.Proofs.Ytaaffahjlkfbgaa
open Go.ChangeShapes Go.WideShapes Go.Deep Go.Joins Go.RowKit
set_option linter.unusedVariables false
/-- Cells in rows of three. -/
theorem reads_arcs {w : World} {a : Addr} {len : Nat} (h : ∀ i, i < len → ∃ f t wt : Int, w.cell? (a.add (i * 3 + 0)) = some (.int .i64 f) ∧ w.cell? (a.add (i * 3 + 1)) = some (.int .i64 t) ∧ w.cell? (a.add (i * 3 + 2)) = some (.int .i64 wt)) :
    ∃ l : List ArcV, l.length = len ∧ Arcs w w.heap.size (some a) l := by
  have : ∃ F : Nat → ArcV, ∀ i, i < len → w.cell? (a.add (i * 3 + 0)) = some (.int .i64 (F i).fr) ∧ w.cell? (a.add (i * 3 + 1)) = some (.int .i64 (F i).to) ∧ w.cell? (a.add (i * 3 + 2)) = some (.int .i64 (F i).wt) := by
    refine ⟨fun i => if hi : i < len then ⟨(h i hi).choose, (h i hi).choose_spec.choose, (h i hi).choose_spec.choose_spec.choose⟩ else ⟨0, 0, 0⟩, fun i hi => ?_⟩
    simp only [dif_pos hi]
    exact (h i hi).choose_spec.choose_spec.choose_spec
  obtain ⟨F, hF⟩ := this
  refine ⟨(List.range len).map F, by simp, ?_⟩
  have hlen : ((List.range len).map F).length = len := by simp
  have hcl : ∀ l : List ArcV, (arcCells l).length = l.length * 3 := by
    intro l
    induction l with
    | nil => rfl
    | cons x r ih => unfold arcCells at ih ⊢; rw [List.flatMap_cons, List.length_append, ih]; simp [ArcV.cells]; omega
  refine ⟨hcl _, fun hn => ⟨a, rfl, ?_, fun j u hu => ?_⟩⟩
  · rw [hlen] at hn
    have := World.block_lt_of_cell? w _ (hF 0 hn).1
    rwa [block_of_add] at this
  · have hj : j < len * 3 := by
      have := (List.getElem?_eq_some_iff.1 hu).1
      rw [hcl, hlen] at this; exact this
    have hi : j / 3 < len := by omega
    obtain ⟨g0, g1, g2⟩ := arcCells_get ((List.range len).map F) (j / 3) (by simpa using hi)
    obtain ⟨c0, c1, c2⟩ := hF (j / 3) hi
    simp only [List.getElem_map, List.getElem_range] at g0 g1 g2
    have e : j = j / 3 * 3 + j % 3 := by omega
    rcases (show j % 3 = 0 ∨ j % 3 = 1 ∨ j % 3 = 2 by omega) with h | h | h
    · rw [h] at e; rw [e] at hu ⊢; rw [c0, ← hu]; exact g0.symm
    · rw [h] at e; rw [e] at hu ⊢; rw [c1, ← hu]; exact g1.symm
    · rw [h] at e; rw [e] at hu ⊢; rw [c2, ← hu]; exact g2.symm
set_option maxRecDepth 100000 in
theorem graph_open {H : Type} {enc : TypeId × Value → H} {W : World} {base : Nat} {v : Value} {d : DataW H} {p : List MemPlace} (o : Value.okWide Try.prog W .any base 45 v) (k : DataW.Trod enc Try.prog W 0 (fun _ => true) true 45 v d p) :
    ∃ (N : Int) (A : Option Addr) (cap : Nat) (l : List ArcV), v = .agg #[.int .i64 N, .slice A l.length cap] ∧ Arcs W W.heap.size A l ∧ l.length ≤ maxLen ∧ (Lit.int .i64 N).wf = true := by
  obtain ⟨v0, v1, y0, y1, n, rfl, _, _, h0, h1⟩ := open_agg2 Try.underlying45 (by kernel_rfl) (by kernel_rfl) o k
  obtain ⟨N, e0, _, hwf⟩ := DataW.trod_int Try.underlying3 h0
  simp only [List.cons.injEq, and_true] at e0
  subst e0
  rcases open_slice_fields Try.underlying43 Try.underlying55 (by kernel_rfl) (by kernel_rfl) h1 with ⟨hcs, _⟩ | ⟨a, len, cap, m, D, Pl, hcs, hb, hl, hm, hmm, _, hf⟩
  · simp only [List.cons.injEq, and_true] at hcs
    subst hcs
    exact ⟨N, none, 0, [], rfl, ⟨rfl, fun h => absurd h (by simp)⟩, by simp [maxLen], hwf⟩
  · simp only [List.cons.injEq, and_true] at hcs
    subst hcs
    have hml : len ≤ m := by rw [hmm]; split <;> omega
    obtain ⟨l, hll, hr⟩ := reads_arcs (w := W) (a := a) (len := len) fun i hi => by
      obtain ⟨ys, n', _, _, _, hc⟩ := hf i (by omega)
      obtain ⟨u0, z0, c0, _, t0⟩ := hc 0 _ rfl
      obtain ⟨u1, z1, c1, _, t1⟩ := hc 1 _ rfl
      obtain ⟨u2, z2, c2, _, t2⟩ := hc 2 _ rfl
      obtain ⟨f, e0, _, _⟩ := DataW.trod_int Try.underlying3 t0
      obtain ⟨t, e1, _, _⟩ := DataW.trod_int Try.underlying3 t1
      obtain ⟨wt, e2, _, _⟩ := DataW.trod_int Try.underlying2 t2
      simp only [List.cons.injEq, and_true] at e0 e1 e2
      subst e0 e1 e2
      exact ⟨f, t, wt, c0, c1, c2⟩
    subst hll
    exact ⟨N, some a, cap, l, rfl, hr, by omega, hwf⟩
end Go.Proofs.Ytaaffahjlkfbgaa
