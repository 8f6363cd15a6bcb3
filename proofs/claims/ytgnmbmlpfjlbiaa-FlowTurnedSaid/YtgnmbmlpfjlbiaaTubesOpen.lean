/- A slice of pipes by small numbers that came in, opened. -/
import Derived.Test.YtgnmbmlpfjlbiaaFlowNet
import Derived.Test.YtgnmbmlpfjlbiaaOpen
namespace Go.Proofs.Ytgnmbmlpfjlbiaa
open Go.ChangeShapes Go.WideShapes Go.ChangeAt Go.RowKit Go.Deep Go.Joins
set_option linter.unusedVariables false
theorem reads_tubes {w : World} {a : Addr} {len : Nat} (h : ∀ i, i < len → ∃ f t rm wt : Int, (TubeV.mk f t rm wt).ok ∧ w.cell? (a.add (i * 4 + 0)) = some (.int .u8 f) ∧ w.cell? (a.add (i * 4 + 1)) = some (.int .u8 t) ∧ w.cell? (a.add (i * 4 + 2)) = some (.int .u8 rm) ∧ w.cell? (a.add (i * 4 + 3)) = some (.int .u8 wt)) :
    ∃ l : List TubeV, l.length = len ∧ Tubes w w.heap.size (some a) l ∧ ∀ x ∈ l, x.ok := by
  have : ∃ F : Nat → TubeV, ∀ i, i < len → (F i).ok ∧ w.cell? (a.add (i * 4 + 0)) = some (.int .u8 (F i).fr) ∧ w.cell? (a.add (i * 4 + 1)) = some (.int .u8 (F i).dst) ∧ w.cell? (a.add (i * 4 + 2)) = some (.int .u8 (F i).room) ∧ w.cell? (a.add (i * 4 + 3)) = some (.int .u8 (F i).cost) := by
    refine ⟨fun i => if hi : i < len then ⟨(h i hi).choose, (h i hi).choose_spec.choose, (h i hi).choose_spec.choose_spec.choose, (h i hi).choose_spec.choose_spec.choose_spec.choose⟩ else ⟨0, 0, 0, 0⟩, fun i hi => ?_⟩
    simp only [dif_pos hi]
    exact (h i hi).choose_spec.choose_spec.choose_spec.choose_spec
  obtain ⟨F, hF⟩ := this
  refine ⟨(List.range len).map F, by simp, ?_, by
    intro x hx
    obtain ⟨i, hi, rfl⟩ := List.mem_map.1 hx
    exact (hF i (by simpa using hi)).1⟩
  have hlen : ((List.range len).map F).length = len := by simp
  have hcl : ∀ l : List TubeV, (tubeCells l).length = l.length * 4 := by
    intro l
    induction l with
    | nil => rfl
    | cons x r ih => unfold tubeCells at ih ⊢; rw [List.flatMap_cons, List.length_append, ih]; simp [TubeV.cells]; omega
  refine ⟨hcl _, fun hn => ⟨a, rfl, ?_, fun j u hu => ?_⟩⟩
  · rw [hlen] at hn
    have := World.block_lt_of_cell? w _ (hF 0 hn).2.1
    rwa [block_of_add] at this
  · have hj : j < len * 4 := by
      have := (List.getElem?_eq_some_iff.1 hu).1
      rw [hcl, hlen] at this; exact this
    have hi : j / 4 < len := by omega
    obtain ⟨g0, g1, g2, g3⟩ := tubeCells_get ((List.range len).map F) (j / 4) (by simpa using hi)
    obtain ⟨_, c0, c1, c2, c3⟩ := hF (j / 4) hi
    simp only [List.getElem_map, List.getElem_range] at g0 g1 g2 g3
    have e : j = j / 4 * 4 + j % 4 := by omega
    rcases (show j % 4 = 0 ∨ j % 4 = 1 ∨ j % 4 = 2 ∨ j % 4 = 3 by omega) with h | h | h | h
    · rw [h] at e; rw [e] at hu ⊢; rw [c0, ← hu]; exact g0.symm
    · rw [h] at e; rw [e] at hu ⊢; rw [c1, ← hu]; exact g1.symm
    · rw [h] at e; rw [e] at hu ⊢; rw [c2, ← hu]; exact g2.symm
    · rw [h] at e; rw [e] at hu ⊢; rw [c3, ← hu]; exact g3.symm
set_option maxRecDepth 100000 in
theorem tubes_open {H : Type} {enc : TypeId × Value → H} {W : World} {base : Nat} {v : Value} {d : DataW H} {p : List MemPlace} (o : Value.okWide Try.prog W .any base 22 v) (k : DataW.Trod enc Try.prog W 0 (fun _ => true) true 22 v d p) :
    ∃ (A : Option Addr) (cap : Nat) (l : List TubeV), v = .slice A l.length cap ∧ Tubes W W.heap.size A l ∧ l.length ≤ maxLen ∧ ∀ x ∈ l, x.ok := by
  obtain ⟨a0, len0, cap0, hv⟩ := okWide_slice Try.underlying22 o
  subst hv
  obtain ⟨fuel, hf⟩ := k
  rcases open_slice_fields Try.underlying22 Try.underlying61 (by kernel_rfl) (by kernel_rfl) hf with ⟨hcs, _⟩ | ⟨a, len, cap, m, D, Pl, hcs, hb, hl, hm, hmm, _, hg⟩
  · simp [Value.cells] at hcs
    obtain ⟨rfl, rfl, rfl⟩ := hcs
    exact ⟨none, 0, [], rfl, ⟨rfl, fun h => absurd h (by simp)⟩, Nat.zero_le _, by simp⟩
  · simp [Value.cells] at hcs
    obtain ⟨rfl, rfl, rfl⟩ := hcs
    have hml : len0 ≤ m := by rw [hmm]; split <;> omega
    obtain ⟨l, hll, hr, hok⟩ := reads_tubes (w := W) (a := a) (len := len0) fun i hi => by
      obtain ⟨ys, n', _, _, _, hc⟩ := hg i (by omega)
      obtain ⟨u0, z0, c0, _, t0⟩ := hc 0 _ rfl
      obtain ⟨u1, z1, c1, _, t1⟩ := hc 1 _ rfl
      obtain ⟨u2, z2, c2, _, t2⟩ := hc 2 _ rfl
      obtain ⟨u3, z3, c3, _, t3⟩ := hc 3 _ rfl
      obtain ⟨f, e0, _, w0⟩ := DataW.trod_int Try.underlying5 t0
      obtain ⟨t, e1, _, w1⟩ := DataW.trod_int Try.underlying5 t1
      obtain ⟨rm, e2, _, w2⟩ := DataW.trod_int Try.underlying5 t2
      obtain ⟨wt, e3, _, w3⟩ := DataW.trod_int Try.underlying5 t3
      simp only [List.cons.injEq, and_true] at e0 e1 e2 e3
      subst e0 e1 e2 e3
      refine ⟨f, t, rm, wt, ?_, c0, c1, c2, c3⟩
      simp only [TubeV.ok]
      simp [Lit.wf, IntKind.min, IntKind.max, IntKind.signed, IntKind.bits] at w0 w1 w2 w3
      omega
    subst hll
    exact ⟨some a, cap0, l, rfl, hr, by omega, hok⟩
end Go.Proofs.Ytgnmbmlpfjlbiaa
