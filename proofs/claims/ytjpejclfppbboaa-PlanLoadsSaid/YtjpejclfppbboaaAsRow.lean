/- A block as a row. -/
import Derived.Test.YtjpejclfppbboaaRowSet
import Derived.Test.YtjpejclfppbboaaIarr
namespace Go.Proofs.Ytjpejclfppbboaa
open Go.ChangeShapes Go.WideShapes Go.ChangeAt Go.RowKit
set_option linter.unusedVariables false
/-- A block as a row. -/
theorem SL.asRow {W w : World} {B : Nat} {l : List Rs} (h : SL W B l w) (i : Nat) {g n : Nat} {f : Nat → Int} {t : TypeId} (hi : l[i]? = some (.blk g (iarr f n) t)) (hn : n ≤ maxLen) : SL W B (l.set i (.row t 1 (.slice (some ⟨g, 0, none⟩) n n) n (nums f n))) w := by
  have hg := h.blk i hi
  have hl := h.lt i hi
  refine h.turn i hi rfl rfl rfl (Nat.le_refl _) (fun _ _ _ => rfl) ?_ (fun g' hg' => ?_)
  · refine ⟨by simp [nums], .inr ⟨g, 0, n, iarr f n, rfl, Nat.zero_le _, hg, Nat.le_refl _, hn, by rw [iarr_size]; omega, ?_⟩⟩
    rw [iarr_list]
    unfold nums
    simp only [List.drop_zero, Nat.mul_one, List.map_map]
    rw [List.take_of_length_le (by simp)]
    rfl
  · simp only [Rs.block, Value.ownBlock, Option.some.injEq] at hg'
    subst hg'
    exact ⟨.inl rfl, hl.2⟩
theorem nums_one (f : Nat → Int) (n : Nat) : ∀ u ∈ nums f n, u.oneCell' = true := by
  intro u hu
  unfold nums at hu
  obtain ⟨j, _, rfl⟩ := List.mem_map.1 hu
  rfl
end Go.Proofs.Ytjpejclfppbboaa
