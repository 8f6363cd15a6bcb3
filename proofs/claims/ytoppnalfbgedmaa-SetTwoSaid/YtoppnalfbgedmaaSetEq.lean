import Derived.Test.YtoppnalfbgedmaaSetA
import Derived.DeepKeys
namespace Go.Proofs.Ytoppnalfbgedmaa
open Go.ChangeShapes Go.WideShapes Go.ChangeAt Go.RowKit
theorem plainBool : Try.prog.plainKey 4 = true := by kernel_rfl
theorem eqItems_arrf (d : Nat) (f g : Nat → Bool) (w : World) : ∀ is : List Nat, (∀ i ∈ is, i < 64) →
    (Op.eqItems (d + 1) 4 1 (arrf f) (arrf g) is).run Try.prog w = .ok (is.all fun i => f i == g i) w
  | [], _ => by simp [Op.eqItems]
  | i :: is, h => by
    have hi : i < 64 := h i (by simp)
    have ih := eqItems_arrf d f g w is (fun j hj => h j (by simp [hj]))
    have p1 := run_part_plain (P := Try.prog) w plainBool (xs := arrf f) (off := i * 1) (v := .bool (f i)) (by rw [Nat.mul_one]; exact arrf_get f i hi)
    have p2 := run_part_plain (P := Try.prog) w plainBool (xs := arrf g) (off := i * 1) (v := .bool (g i)) (by rw [Nat.mul_one]; exact arrf_get g i hi)
    have p3 := run_equalIn_bool (P := Try.prog) w d 4 (f i) (g i) Try.underlying4
    simp only [Op.eqItems, Sem.run_bind, p1, p2, p3, Result.andThen_ok, List.all_cons]
    cases hb : (f i == g i)
    · simp
    · simpa using ih
theorem run_eq_arrf (f g : Nat → Bool) (w : World) : (Op.equalIn 10000 24 (.agg (arrf f)) (.agg (arrf g))).run Try.prog w = .ok ((List.range 64).all fun i => f i == g i) w := by
  obtain ⟨i, hi⟩ : ∃ i, Try.prog.info? 4 = some i := Option.isSome_iff_exists.1 (by kernel_rfl)
  have hc : Try.prog.cellsOf 4 = 1 := by kernel_rfl
  rw [run_equalIn_array (P := Try.prog) w 9999 _ _ Try.underlying24 hi, hc]
  exact eqItems_arrf 9998 f g w _ (fun j hj => by simpa using hj)
/-- Two rows that agree at each place: '==' says yes. -/
theorem run_eq_yes (f g : Nat → Bool) (h : ∀ i, i < 64 → f i = g i) (w : World) : (Op.equalIn 10000 24 (.agg (arrf f)) (.agg (arrf g))).run Try.prog w = .ok true w := by
  rw [run_eq_arrf]
  congr 1
  rw [List.all_eq_true]
  intro i hi
  simp [h i (by simpa using hi)]
end Go.Proofs.Ytoppnalfbgedmaa
