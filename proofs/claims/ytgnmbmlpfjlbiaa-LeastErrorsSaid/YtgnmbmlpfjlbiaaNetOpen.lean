/- A net that came in, opened. -/
import Derived.Test.YtgnmbmlpfjlbiaaPipes
import Derived.Test.YtgnmbmlpfjlbiaaOpen
import Derived.Test.YtgnmbmlpfjlbiaaRows
namespace Go.Proofs.Ytgnmbmlpfjlbiaa
open Go.ChangeShapes Go.WideShapes Go.Deep Go.Joins Go.RowKit
set_option linter.unusedVariables false
/-- Cells in rows of four. -/
theorem reads_pipes {w : World} {a : Addr} {len : Nat} (h : ∀ i, i < len → ∃ f t r c : Int, w.cell? (a.add (i * 4 + 0)) = some (.int .i64 f) ∧ w.cell? (a.add (i * 4 + 1)) = some (.int .i64 t) ∧ w.cell? (a.add (i * 4 + 2)) = some (.int .i64 r) ∧ w.cell? (a.add (i * 4 + 3)) = some (.int .i64 c)) :
    ∃ l : List PipeV, l.length = len ∧ Pipes w w.heap.size (some a) l := by
  have : ∃ F : Nat → PipeV, ∀ i, i < len → w.cell? (a.add (i * 4 + 0)) = some (.int .i64 (F i).fr) ∧ w.cell? (a.add (i * 4 + 1)) = some (.int .i64 (F i).to) ∧ w.cell? (a.add (i * 4 + 2)) = some (.int .i64 (F i).room) ∧ w.cell? (a.add (i * 4 + 3)) = some (.int .i64 (F i).cost) := by
    refine ⟨fun i => if hi : i < len then ⟨(h i hi).choose, (h i hi).choose_spec.choose, (h i hi).choose_spec.choose_spec.choose, (h i hi).choose_spec.choose_spec.choose_spec.choose⟩ else ⟨0, 0, 0, 0⟩, fun i hi => ?_⟩
    simp only [dif_pos hi]
    exact (h i hi).choose_spec.choose_spec.choose_spec.choose_spec
  obtain ⟨F, hF⟩ := this
  refine ⟨(List.range len).map F, by simp, ?_⟩
  have hlen : ((List.range len).map F).length = len := by simp
  refine ⟨pipeCells_len _, fun hn => ⟨a, rfl, ?_, fun j u hu => ?_⟩⟩
  · rw [hlen] at hn
    have := World.block_lt_of_cell? w _ (hF 0 hn).1
    rwa [block_of_add] at this
  · have hj : j < len * 4 := by
      have := (List.getElem?_eq_some_iff.1 hu).1
      rw [pipeCells_len, hlen] at this; exact this
    have hi : j / 4 < len := by omega
    obtain ⟨g0, g1, g2, g3⟩ := pipeCells_get ((List.range len).map F) (j / 4) (by simpa using hi)
    obtain ⟨c0, c1, c2, c3⟩ := hF (j / 4) hi
    simp only [List.getElem_map, List.getElem_range] at g0 g1 g2 g3
    have e : j = j / 4 * 4 + j % 4 := by omega
    rcases (show j % 4 = 0 ∨ j % 4 = 1 ∨ j % 4 = 2 ∨ j % 4 = 3 by omega) with h | h | h | h
    · rw [h] at e; rw [e] at hu ⊢; rw [c0, ← hu]; exact g0.symm
    · rw [h] at e; rw [e] at hu ⊢; rw [c1, ← hu]; exact g1.symm
    · rw [h] at e; rw [e] at hu ⊢; rw [c2, ← hu]; exact g2.symm
    · rw [h] at e; rw [e] at hu ⊢; rw [c3, ← hu]; exact g3.symm
set_option maxRecDepth 100000 in
theorem net_open {H : Type} {enc : TypeId × Value → H} {W : World} {base : Nat} {v : Value} {d : DataW H} {p : List MemPlace} (o : Value.okWide Try.prog W .any base 26 v) (k : DataW.Trod enc Try.prog W 0 (fun _ => true) true 26 v d p) :
    ∃ (N : Int) (A : Option Addr) (cap : Nat) (l : List PipeV), v = .agg #[.int .i64 N, .slice A l.length cap] ∧ Pipes W W.heap.size A l ∧ l.length ≤ maxLen ∧ (Lit.int .i64 N).wf = true := by
  obtain ⟨v0, v1, y0, y1, n, rfl, _, _, h0, h1⟩ := open_agg2 Try.underlying26 (by kernel_rfl) (by kernel_rfl) o k
  obtain ⟨N, e0, _, hwf⟩ := DataW.trod_int Try.underlying3 h0
  simp only [List.cons.injEq, and_true] at e0
  subst e0
  rcases open_slice_fields Try.underlying24 Try.underlying40 (by kernel_rfl) (by kernel_rfl) h1 with ⟨hcs, _⟩ | ⟨a, len, cap, m, D, Pl, hcs, hb, hl, hm, hmm, _, hf⟩
  · simp only [List.cons.injEq, and_true] at hcs
    subst hcs
    exact ⟨N, none, 0, [], rfl, ⟨rfl, fun h => absurd h (by simp)⟩, by simp [maxLen], hwf⟩
  · simp only [List.cons.injEq, and_true] at hcs
    subst hcs
    have hml : len ≤ m := by rw [hmm]; split <;> omega
    obtain ⟨l, hll, hr⟩ := reads_pipes (w := W) (a := a) (len := len) fun i hi => by
      obtain ⟨ys, n', _, _, _, hc⟩ := hf i (by omega)
      obtain ⟨u0, z0, c0, _, t0⟩ := hc 0 _ rfl
      obtain ⟨u1, z1, c1, _, t1⟩ := hc 1 _ rfl
      obtain ⟨u2, z2, c2, _, t2⟩ := hc 2 _ rfl
      obtain ⟨u3, z3, c3, _, t3⟩ := hc 3 _ rfl
      obtain ⟨f, e0, _, _⟩ := DataW.trod_int Try.underlying3 t0
      obtain ⟨t, e1, _, _⟩ := DataW.trod_int Try.underlying3 t1
      obtain ⟨r, e2, _, _⟩ := DataW.trod_int Try.underlying2 t2
      obtain ⟨c, e3, _, _⟩ := DataW.trod_int Try.underlying2 t3
      simp only [List.cons.injEq, and_true] at e0 e1 e2 e3
      subst e0 e1 e2 e3
      exact ⟨f, t, r, c, c0, c1, c2, c3⟩
    subst hll
    exact ⟨N, some a, cap, l, rfl, hr, by omega, hwf⟩
end Go.Proofs.Ytgnmbmlpfjlbiaa
