/- A slice of links that came in, opened. -/
import Derived.Test.YtaaffahjlkfbgaaLinks
import Derived.Test.YtaaffahjlkfbgaaOpen
namespace Go.Proofs.Ytaaffahjlkfbgaa
open Go.ChangeShapes Go.WideShapes Go.ChangeAt Go.RowKit Go.Deep Go.Joins
set_option linter.unusedVariables false
theorem reads_links {w : World} {a : Addr} {len : Nat} (h : ∀ i, i < len → ∃ f t wt : Int, (LinkV.mk f t wt).ok ∧ w.cell? (a.add (i * 3 + 0)) = some (.int .u8 f) ∧ w.cell? (a.add (i * 3 + 1)) = some (.int .u8 t) ∧ w.cell? (a.add (i * 3 + 2)) = some (.int .i16 wt)) :
    ∃ l : List LinkV, l.length = len ∧ Links w w.heap.size (some a) l ∧ ∀ x ∈ l, x.ok := by
  have : ∃ F : Nat → LinkV, ∀ i, i < len → (F i).ok ∧ w.cell? (a.add (i * 3 + 0)) = some (.int .u8 (F i).fr) ∧ w.cell? (a.add (i * 3 + 1)) = some (.int .u8 (F i).to) ∧ w.cell? (a.add (i * 3 + 2)) = some (.int .i16 (F i).wt) := by
    refine ⟨fun i => if hi : i < len then ⟨(h i hi).choose, (h i hi).choose_spec.choose, (h i hi).choose_spec.choose_spec.choose⟩ else ⟨0, 0, 0⟩, fun i hi => ?_⟩
    simp only [dif_pos hi]
    exact (h i hi).choose_spec.choose_spec.choose_spec
  obtain ⟨F, hF⟩ := this
  refine ⟨(List.range len).map F, by simp, ?_, by
    intro x hx
    obtain ⟨i, hi, rfl⟩ := List.mem_map.1 hx
    exact (hF i (by simpa using hi)).1⟩
  have hlen : ((List.range len).map F).length = len := by simp
  have hcl : ∀ l : List LinkV, (linkCells l).length = l.length * 3 := by
    intro l
    induction l with
    | nil => rfl
    | cons x r ih => unfold linkCells at ih ⊢; rw [List.flatMap_cons, List.length_append, ih]; simp [LinkV.cells]; omega
  refine ⟨hcl _, fun hn => ⟨a, rfl, ?_, fun j u hu => ?_⟩⟩
  · rw [hlen] at hn
    have := World.block_lt_of_cell? w _ (hF 0 hn).2.1
    rwa [block_of_add] at this
  · have hj : j < len * 3 := by
      have := (List.getElem?_eq_some_iff.1 hu).1
      rw [hcl, hlen] at this; exact this
    have hi : j / 3 < len := by omega
    obtain ⟨g0, g1, g2⟩ := linkCells_get ((List.range len).map F) (j / 3) (by simpa using hi)
    obtain ⟨_, c0, c1, c2⟩ := hF (j / 3) hi
    simp only [List.getElem_map, List.getElem_range] at g0 g1 g2
    have e : j = j / 3 * 3 + j % 3 := by omega
    rcases (show j % 3 = 0 ∨ j % 3 = 1 ∨ j % 3 = 2 by omega) with h | h | h
    · rw [h] at e; rw [e] at hu ⊢; rw [c0, ← hu]; exact g0.symm
    · rw [h] at e; rw [e] at hu ⊢; rw [c1, ← hu]; exact g1.symm
    · rw [h] at e; rw [e] at hu ⊢; rw [c2, ← hu]; exact g2.symm
set_option maxRecDepth 100000 in
theorem links_open {H : Type} {enc : TypeId × Value → H} {W : World} {base : Nat} {v : Value} {d : DataW H} {p : List MemPlace} (o : Value.okWide Try.prog W .any base 39 v) (k : DataW.Trod enc Try.prog W 0 (fun _ => true) true 39 v d p) :
    ∃ (A : Option Addr) (cap : Nat) (l : List LinkV), v = .slice A l.length cap ∧ Links W W.heap.size A l ∧ l.length ≤ maxLen ∧ ∀ x ∈ l, x.ok := by
  obtain ⟨a0, len0, cap0, hv⟩ := okWide_slice Try.underlying39 o
  subst hv
  obtain ⟨fuel, hf⟩ := k
  rcases open_slice_fields Try.underlying39 Try.underlying42 (by kernel_rfl) (by kernel_rfl) hf with ⟨hcs, _⟩ | ⟨a, len, cap, m, D, Pl, hcs, hb, hl, hm, hmm, _, hg⟩
  · simp [Value.cells] at hcs
    obtain ⟨rfl, rfl, rfl⟩ := hcs
    exact ⟨none, 0, [], rfl, ⟨rfl, fun h => absurd h (by simp)⟩, by simp [maxLen], by simp⟩
  · simp [Value.cells] at hcs
    obtain ⟨rfl, rfl, rfl⟩ := hcs
    have hml : len0 ≤ m := by rw [hmm]; split <;> omega
    obtain ⟨l, hll, hr, hok⟩ := reads_links (w := W) (a := a) (len := len0) fun i hi => by
      obtain ⟨ys, n', _, _, _, hc⟩ := hg i (by omega)
      obtain ⟨u0, z0, c0, _, t0⟩ := hc 0 _ rfl
      obtain ⟨u1, z1, c1, _, t1⟩ := hc 1 _ rfl
      obtain ⟨u2, z2, c2, _, t2⟩ := hc 2 _ rfl
      obtain ⟨f, e0, _, w0⟩ := DataW.trod_int Try.underlying5 t0
      obtain ⟨t, e1, _, w1⟩ := DataW.trod_int Try.underlying5 t1
      obtain ⟨wt, e2, _, w2⟩ := DataW.trod_int Try.underlying40 t2
      simp only [List.cons.injEq, and_true] at e0 e1 e2
      subst e0 e1 e2
      refine ⟨f, t, wt, ?_, c0, c1, c2⟩
      simp only [LinkV.ok]
      simp [Lit.wf, IntKind.min, IntKind.max, IntKind.signed, IntKind.bits] at w0 w1 w2
      omega
    subst hll
    exact ⟨some a, cap0, l, rfl, hr, by omega, hok⟩
end Go.Proofs.Ytaaffahjlkfbgaa
