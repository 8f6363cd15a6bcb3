/- Cells of a row that the call owns, wherever it lies in its block: read, and written. No program in sight. -/
import Derived.Test.YtjpejclfppbboaaIarr
namespace Go.Proofs.Ytjpejclfppbboaa
open Go.ChangeShapes Go.WideShapes Go.ChangeAt Go.RowKit
set_option linter.unusedVariables false
theorem SL.rowCell {W w : World} {B : Nat} {l : List Rs} (h : SL W B l w) (i : Nat) {e : TypeId} {size n c g off : Nat} {xs : List Value} (hi : l[i]? = some (.row e size (.slice (some ⟨g, off, none⟩) n c) n xs)) (k : Nat) {v : Value} (hv : xs[k]? = some v) : w.cell? ⟨g, off + k, none⟩ = some v := by
  have hr := h.row i hi
  rcases hr.2 with ⟨h0, h1⟩ | ⟨g', off', cap, cur, e1, hb, hg, hnc, hcm, hcs, ht⟩
  · have := hr.1
    rw [h0, Nat.zero_mul] at this
    have h2 := (List.getElem?_eq_some_iff.1 hv).1
    omega
  · simp only [Value.slice.injEq, Option.some.injEq, Addr.mk.injEq] at e1
    obtain ⟨⟨rfl, rfl, _⟩, _, rfl⟩ := e1
    rw [cell_of_row _ _ _ _ _ _ hg]
    have h2 := (List.getElem?_eq_some_iff.1 hv).1
    rw [← ht, List.getElem?_take_of_lt (by have := hr.1; omega), List.getElem?_drop] at hv
    rw [← hv]
    simp
theorem SL.rowFree {W w : World} {B : Nat} {l : List Rs} (h : SL W B l w) (i : Nat) {e : TypeId} {size n c g off : Nat} {xs : List Value} (hi : l[i]? = some (.row e size (.slice (some ⟨g, off, none⟩) n c) n xs)) (k : Nat) (hn : 0 < n) : w.frozen? ⟨g, k, none⟩ = false := by
  have hr := h.row i hi
  rcases hr.2 with ⟨h0, h1⟩ | ⟨g', off', cap, cur, e1, hb, hg, hnc, hcm, hcs, ht⟩
  · omega
  · simp only [Value.slice.injEq, Option.some.injEq, Addr.mk.injEq] at e1
    obtain ⟨⟨rfl, rfl, _⟩, _, rfl⟩ := e1
    simp [World.frozen?, hg]
/-- A store into a row. -/
theorem SL.setRowCell {W w : World} {B : Nat} {l : List Rs} (h : SL W B l w) (i : Nat) {e : TypeId} {size n c g off : Nat} {xs : List Value} (hi : l[i]? = some (.row e size (.slice (some ⟨g, off, none⟩) n c) n xs)) (k : Nat) (hk : k < n * size) (u : Value) :
    SL W B (l.set i (.row e size (.slice (some ⟨g, off, none⟩) n c) n (xs.set k u))) (w.setCell ⟨g, off + k, none⟩ u) := by
  have hr := h.row i hi
  have hb := h.block _ (List.mem_of_getElem? hi) g rfl
  refine h.turn i hi rfl rfl rfl (by simp [World.setCell]) (fun j _ hj => Below.heap_setCell _ _ _ _ (by intro e; exact hj (by simp [Rs.block, Value.ownBlock, e]))) ?_
    (by intro g' hg'; simp only [Rs.block, Value.ownBlock, Option.some.injEq] at hg'; subst hg'; exact ⟨.inl rfl, by simpa [World.setCell] using hb.2⟩)
  refine ⟨by simpa using hr.1, ?_⟩
  rcases hr.2 with ⟨h0, h1⟩ | ⟨g', off', cap, cur, e1, hb', hg, hnc, hcm, hcs, ht⟩
  · rw [h0] at hk; omega
  · simp only [Value.slice.injEq, Option.some.injEq, Addr.mk.injEq] at e1
    obtain ⟨⟨rfl, rfl, _⟩, _, rfl⟩ := e1
    refine .inr ⟨g, off, c, cur.setIfInBounds (off + k) u, rfl, hb', only_range hg (off + k) u, hnc, hcm, by simpa using hcs, ?_⟩
    rw [← ht]
    simp only [Array.toList_setIfInBounds]
    apply List.ext_getElem?
    intro j
    by_cases hj : j < n * size
    · rw [List.getElem?_take_of_lt hj, List.getElem?_drop, List.getElem?_set, List.getElem?_set, List.getElem?_take_of_lt hj, List.getElem?_drop]
      by_cases ejk : k = j
      · subst ejk
        have h1 : off + k < cur.toList.length := by
          have : n * size ≤ c * size := Nat.mul_le_mul_right _ hnc
          simp; omega
        have h2 : k < (List.take (n * size) (List.drop off cur.toList)).length := by
          have : n * size ≤ c * size := Nat.mul_le_mul_right _ hnc
          simp; omega
        rw [if_pos rfl, if_pos rfl, if_pos h1, if_pos h2]
      · rw [if_neg (by omega), if_neg ejk]
    · rw [List.getElem?_eq_none (by simp; omega), List.getElem?_eq_none (by simp; omega)]
/-- A row of numbers, told by a function. -/
def nums (f : Nat → Int) (n : Nat) : List Value := (List.range n).map fun j => .int .i64 (f j)
theorem nums_get (f : Nat → Int) (n k : Nat) (h : k < n) : (nums f n)[k]? = some (.int .i64 (f k)) := by simp [nums, h]
theorem nums_set (f : Nat → Int) (n k : Nat) (u : Int) : (nums f n).set k (.int .i64 u) = nums (fun j => if j = k then u else f j) n := by
  apply List.ext_getElem?
  intro j
  unfold nums
  rw [List.getElem?_set]
  by_cases hj : j < n
  · by_cases e : k = j
    · subst e; simp [hj]
    · rw [if_neg e]
      have e' : ¬ j = k := fun h => e h.symm
      simp [hj, e']
  · rw [List.getElem?_eq_none (l := (List.range n).map _) (i := j) (by simp; omega), List.getElem?_eq_none (by simp; omega)]
    split
    · rename_i e; subst e; simp [hj]
    · rfl
theorem nums_list (zs : List Int) : zs.map (Value.int .i64) = nums (fun j => zs.getD j 0) zs.length := by
  apply List.ext_getElem (by simp [nums])
  intro j h1 h2
  have : j < zs.length := by simpa using h1
  simp [nums, this]
theorem nums_ext {f g : Nat → Int} {n : Nat} (h : ∀ j, j < n → f j = g j) : nums f n = nums g n := by
  unfold nums
  exact List.map_congr_left fun j hj => by rw [h j (by simpa using hj)]
end Go.Proofs.Ytjpejclfppbboaa
