/- A slice of acts (law 04) that came in, opened. -/
import Derived.Test.YtaaffahjlkfbgaaOpen
import Derived.Test.YtaaffahjlkfbgaaHeapM
import Derived.Test.YtaaffahjlkfbgaaGraphA
namespace Go.Proofs.Ytaaffahjlkfbgaa
open Go.ChangeShapes Go.WideShapes Go.ChangeAt Go.RowKit Go.Deep Go.Joins
set_option linter.unusedVariables false
/-- An act: is one taken; else what is put. -/
structure ActV where
  take : Bool
  key : Int
  id : Int
def ActV.cells (a : ActV) : List Value := [.bool a.take, .int .i64 a.key, .int .i64 a.id]
def actCells (l : List ActV) : List Value := l.flatMap ActV.cells
def Acts (w : World) (B : Nat) (A : Option Addr) (l : List ActV) : Prop := Reads w B 3 A l.length (actCells l)
theorem actCells_get (l : List ActV) (k : Nat) (h : k < l.length) : (actCells l)[k * 3]? = some (.bool l[k].take) ∧ (actCells l)[k * 3 + 1]? = some (.int .i64 l[k].key) ∧ (actCells l)[k * 3 + 2]? = some (.int .i64 l[k].id) := by
  induction l generalizing k with
  | nil => simp at h
  | cons a r ih =>
    cases k with
    | zero => exact ⟨rfl, rfl, rfl⟩
    | succ k =>
      have := ih k (by simpa using h)
      unfold actCells at this ⊢
      rw [List.flatMap_cons]
      have e0 : (k + 1) * 3 = a.cells.length + k * 3 := by simp [ActV.cells]; omega
      rw [e0, List.getElem?_append_right (by omega), List.getElem?_append_right (by omega), List.getElem?_append_right (by omega)]
      simp only [Nat.add_sub_cancel_left, List.getElem_cons_succ]
      have e1 : a.cells.length + k * 3 + 1 - a.cells.length = k * 3 + 1 := by omega
      have e2 : a.cells.length + k * 3 + 2 - a.cells.length = k * 3 + 2 := by omega
      rw [e1, e2]
      exact this
theorem acts_at {w : World} {B : Nat} {A : Option Addr} {l : List ActV} (h : Acts w B A l) {k : Nat} (hk : k < l.length) :
    ∃ b o, A = some ⟨b, o, none⟩ ∧ b < B ∧ w.cell? ⟨b, o + k * 3, none⟩ = some (.bool l[k].take) ∧ w.cell? ⟨b, o + k * 3 + 1, none⟩ = some (.int .i64 l[k].key) ∧ w.cell? ⟨b, o + k * 3 + 2, none⟩ = some (.int .i64 l[k].id) := by
  obtain ⟨b, o, e, hb, hc⟩ := reads_plain h (by omega) (by omega)
  obtain ⟨g0, g1, g2⟩ := actCells_get l k hk
  exact ⟨b, o, e, hb, hc _ _ g0, hc _ _ g1, hc _ _ g2⟩
theorem reads_acts {w : World} {a : Addr} {len : Nat} (h : ∀ i, i < len → ∃ (f : Bool) (t wt : Int), w.cell? (a.add (i * 3 + 0)) = some (.bool f) ∧ w.cell? (a.add (i * 3 + 1)) = some (.int .i64 t) ∧ w.cell? (a.add (i * 3 + 2)) = some (.int .i64 wt)) :
    ∃ l : List ActV, l.length = len ∧ Acts w w.heap.size (some a) l := by
  have : ∃ F : Nat → ActV, ∀ i, i < len → w.cell? (a.add (i * 3 + 0)) = some (.bool (F i).take) ∧ w.cell? (a.add (i * 3 + 1)) = some (.int .i64 (F i).key) ∧ w.cell? (a.add (i * 3 + 2)) = some (.int .i64 (F i).id) := by
    refine ⟨fun i => if hi : i < len then ⟨(h i hi).choose, (h i hi).choose_spec.choose, (h i hi).choose_spec.choose_spec.choose⟩ else ⟨false, 0, 0⟩, fun i hi => ?_⟩
    simp only [dif_pos hi]
    exact (h i hi).choose_spec.choose_spec.choose_spec
  obtain ⟨F, hF⟩ := this
  refine ⟨(List.range len).map F, by simp, ?_⟩
  have hlen : ((List.range len).map F).length = len := by simp
  have hcl : ∀ l : List ActV, (actCells l).length = l.length * 3 := by
    intro l
    induction l with
    | nil => rfl
    | cons x r ih => unfold actCells at ih ⊢; rw [List.flatMap_cons, List.length_append, ih]; simp [ActV.cells]; omega
  refine ⟨hcl _, fun hn => ⟨a, rfl, ?_, fun j u hu => ?_⟩⟩
  · rw [hlen] at hn
    have := World.block_lt_of_cell? w _ (hF 0 hn).1
    rwa [block_of_add] at this
  · have hj : j < len * 3 := by
      have := (List.getElem?_eq_some_iff.1 hu).1
      rw [hcl, hlen] at this; exact this
    have hi : j / 3 < len := by omega
    obtain ⟨g0, g1, g2⟩ := actCells_get ((List.range len).map F) (j / 3) (by simpa using hi)
    obtain ⟨c0, c1, c2⟩ := hF (j / 3) hi
    simp only [List.getElem_map, List.getElem_range] at g0 g1 g2
    have e : j = j / 3 * 3 + j % 3 := by omega
    rcases (show j % 3 = 0 ∨ j % 3 = 1 ∨ j % 3 = 2 by omega) with h | h | h
    · rw [h] at e; rw [e] at hu ⊢; rw [c0, ← hu]; exact g0.symm
    · rw [h] at e; rw [e] at hu ⊢; rw [c1, ← hu]; exact g1.symm
    · rw [h] at e; rw [e] at hu ⊢; rw [c2, ← hu]; exact g2.symm
set_option maxRecDepth 100000 in
theorem acts_open {H : Type} {enc : TypeId × Value → H} {W : World} {base : Nat} {v : Value} {d : DataW H} {p : List MemPlace} (o : Value.okWide Try.prog W .any base 31 v) (k : DataW.Trod enc Try.prog W 0 (fun _ => true) true 31 v d p) :
    ∃ (A : Option Addr) (cap : Nat) (l : List ActV), v = .slice A l.length cap ∧ Acts W W.heap.size A l ∧ l.length ≤ maxLen := by
  obtain ⟨a0, len0, cap0, hv⟩ := okWide_slice Try.underlying31 o
  subst hv
  obtain ⟨fuel, hf⟩ := k
  rcases open_slice_fields Try.underlying31 Try.underlying35 (by kernel_rfl) (by kernel_rfl) hf with ⟨hcs, _⟩ | ⟨a, len, cap, m, D, Pl, hcs, hb, hl, hm, hmm, _, hg⟩
  · simp [Value.cells] at hcs
    obtain ⟨rfl, rfl, rfl⟩ := hcs
    exact ⟨none, 0, [], rfl, ⟨rfl, fun h => absurd h (by simp)⟩, by simp [maxLen]⟩
  · simp [Value.cells] at hcs
    obtain ⟨rfl, rfl, rfl⟩ := hcs
    have hml : len0 ≤ m := by rw [hmm]; split <;> omega
    obtain ⟨l, hll, hr⟩ := reads_acts (w := W) (a := a) (len := len0) fun i hi => by
      obtain ⟨ys, n', _, _, _, hc⟩ := hg i (by omega)
      obtain ⟨u0, z0, c0, _, t0⟩ := hc 0 _ rfl
      obtain ⟨u1, z1, c1, _, t1⟩ := hc 1 _ rfl
      obtain ⟨u2, z2, c2, _, t2⟩ := hc 2 _ rfl
      obtain ⟨f, e0, _⟩ := DataW.trod_bool Try.underlying4 t0
      obtain ⟨t, e1, _, w1⟩ := DataW.trod_int Try.underlying2 t1
      obtain ⟨wt, e2, _, w2⟩ := DataW.trod_int Try.underlying3 t2
      simp only [List.cons.injEq, and_true] at e0 e1 e2
      subst e0 e1 e2
      exact ⟨f, t, wt, c0, c1, c2⟩
    subst hll
    exact ⟨some a, cap0, l, rfl, hr, by omega⟩
end Go.Proofs.Ytaaffahjlkfbgaa
