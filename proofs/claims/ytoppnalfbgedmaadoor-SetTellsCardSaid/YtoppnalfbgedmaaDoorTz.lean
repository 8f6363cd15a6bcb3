/- Contracts: bits.TrailingZeros64, Set.First. -/
import Derived.Test.YtoppnalfbgedmaaDoorBitsW
namespace Go.Proofs.YtoppnalfbgedmaaDoor
open Go.ChangeShapes Go.WideShapes Go.ChangeAt Go.RowKit
set_option linter.unusedVariables false
theorem low_zero {x t : Nat} (h : ∀ j, j < t → x.testBit j = false) : x % 2 ^ t = 0 := by
  apply Nat.eq_of_testBit_eq
  intro i
  rw [Nat.testBit_mod_two_pow, Nat.zero_testBit]
  by_cases hi : i < t
  · simp [h i hi]
  · simp [hi]
theorem odd_part {x t : Nat} (h : ∀ j, j < t → x.testBit j = false) (ht : x.testBit t = true) : ∃ m, x = 2 ^ t * (2 * m + 1) := by
  have h0 := low_zero h
  have h1 : x / 2 ^ t % 2 = 1 := by
    rw [Nat.testBit_eq_decide_div_mod_eq] at ht
    exact of_decide_eq_true ht
  refine ⟨x / 2 ^ t / 2, ?_⟩
  have e : 2 * (x / 2 ^ t / 2) + 1 = x / 2 ^ t := by omega
  rw [e]
  have := Nat.div_add_mod x (2 ^ t)
  omega
theorem and_neg {x : Nat} (hx : x < 2 ^ 64) (h0 : x ≠ 0) : x &&& (18446744073709551616 - x) = 2 ^ ctz x := by
  obtain ⟨h64, ht, hl⟩ := ctz_spec hx h0
  generalize ctz x = t at *
  obtain ⟨m, hm⟩ := odd_part hl ht
  have hp : 0 < 2 ^ t := Nat.two_pow_pos t
  have hy : x - 1 = 2 ^ t * (2 * m) + (2 ^ t - 1) := by
    rw [hm, Nat.mul_add, Nat.mul_one]; omega
  have hy64 : x - 1 < 2 ^ 64 := by omega
  apply Nat.eq_of_testBit_eq
  intro i
  rw [Nat.testBit_and, show 18446744073709551616 - x = 2 ^ 64 - ((x - 1) + 1) by omega, Nat.testBit_two_pow_sub_succ hy64, Nat.testBit_two_pow]
  by_cases hi : i < t
  · rw [hl i hi]; simp; omega
  · by_cases he : i = t
    · subst he
      rw [ht, hy, Nat.testBit_two_pow_mul_add _ (by omega)]
      simp [h64]
    · obtain ⟨k, rfl⟩ : ∃ k, i = t + (k + 1) := ⟨i - t - 1, by omega⟩
      have e1 : x.testBit (t + (k + 1)) = m.testBit k := by
        have := Nat.testBit_two_pow_mul_add (i := t) (2 * m + 1) (b := 0) hp (t + (k + 1))
        rw [Nat.add_zero, ← hm] at this
        rw [this, if_neg (by omega), show t + (k + 1) - t = k + 1 by omega, Nat.testBit_succ]
        congr 1; omega
      have e2 : (x - 1).testBit (t + (k + 1)) = m.testBit k := by
        rw [hy, Nat.testBit_two_pow_mul_add _ (by omega), if_neg (by omega), show t + (k + 1) - t = k + 1 by omega, Nat.testBit_succ]
        congr 1; omega
      rw [e1, e2]
      have : ¬ t = t + (k + 1) := by omega
      cases m.testBit k <;> simp [this]
def dbIdx (t : Nat) : Nat := 2 ^ t * 285870213051353865 % 18446744073709551616 / 288230376151711744
theorem idx_spell {x : Nat} (hx : x < 2 ^ 64) (h0 : x ≠ 0) : IntKind.u64.wrap (bits BinOp.and IntKind.u64 (x : Int) (IntKind.u64.wrap (-(x : Int))) * 285870213051353865) / 288230376151711744 = ((dbIdx (ctz x) : Nat) : Int) := by
  have e1 : IntKind.u64.wrap (-(x : Int)) = ((18446744073709551616 - x : Nat) : Int) := by rw [IntKind.wrap_u64]; omega
  rw [e1, and_nat _ _ hx (by omega), and_neg hx h0, IntKind.wrap_u64]
  unfold dbIdx
  generalize 2 ^ ctz x = p
  omega
theorem dbIdx_lt (t : Nat) : dbIdx t < 64 := by
  unfold dbIdx
  omega
theorem trail_core (X : Int) (d t : Nat) (w : World) (h0 : (X == 0) = false) (hI : IntKind.u64.wrap (bits BinOp.and IntKind.u64 X (IntKind.u64.wrap (-X)) * 285870213051353865) / 288230376151711744 = (d : Int)) (hd0 : (0 : Int) ≤ (d : Int)) (hd1 : (d : Int) < 64)
    (ht : t < 64) (hc : w.cell? ⟨0, d, none⟩ = some (.int .u8 (t : Int))) : Calls Tryd.prog 17 #[.int .u64 X] w fun e w' => e = .returned (.int .i64 (t : Int)) ∧ w = w' := by
  go_enter Tryd.func17, Tryd.ntmps17
  go_wp2
  go_ret
  exact ⟨rfl, rfl⟩
theorem trail_any (x : Nat) (w : World) (hx : x < 2 ^ 64) (hn : x ≠ 0) (hT : ∀ t, t < 64 → w.cell? ⟨0, dbIdx t, none⟩ = some (.int .u8 (t : Int))) : Calls Tryd.prog 17 #[.int .u64 x] w fun e w' => e = .returned (.int .i64 (ctz x)) ∧ w = w' :=
  trail_core x (dbIdx (ctz x)) (ctz x) w (by simpa using hn) (idx_spell hx hn) (by omega) (by have := dbIdx_lt (ctz x); omega) (ctz_spec hx hn).1 (hT _ (ctz_spec hx hn).1)
/-- The table of the library, as it lies in memory. -/
def Tab (w : World) : Prop := ∀ t, t < 64 → w.cell? ⟨0, dbIdx t, none⟩ = some (.int .u8 (t : Int))
theorem tab_below {w w' : World} {B : Nat} (h : Tab w) (hb : Below B w w') (hB : 0 < B) : Tab w' := fun t ht => (hb.cell (p := ⟨0, dbIdx t, none⟩) hB).trans (h t ht)
theorem first_zero (w : World) : Calls Tryd.prog 13 #[.int .u64 0] w fun e w' => e = .returned (.int .i64 (-1)) ∧ w = w' := by
  go_enter Tryd.func13, Tryd.ntmps13
  go_wp2
  go_ret
  exact ⟨rfl, rfl⟩
theorem first_core (X : Int) (t : Nat) (w : World) (h0 : (X == 0) = false) (hc : Hid (∀ w', w = w' → Calls Tryd.prog 17 #[.int .u64 X] w' fun e w'' => e = .returned (.int .i64 (t : Int)) ∧ w' = w'')) :
    Calls Tryd.prog 13 #[.int .u64 X] w fun e w' => e = .returned (.int .i64 (t : Int)) ∧ w = w' := by
  go_enter Tryd.func13, Tryd.ntmps13
  go_wp2_with (go_at_call 17; (with_reducible refine (hc.out _ rfl).mono ?_); rintro e w' ⟨rfl, rfl⟩)
  go_ret
  exact ⟨rfl, rfl⟩
theorem first_pos (x : Nat) (w : World) (hx : x < 2 ^ 64) (hn : x ≠ 0) (hT : Tab w) : Calls Tryd.prog 13 #[.int .u64 x] w fun e w' => e = .returned (.int .i64 (ctz x)) ∧ w = w' :=
  first_core x (ctz x) w (by simpa using hn) (Lib.hid (fun w' e => by subst e; exact trail_any x _ hx hn hT))
end Go.Proofs.YtoppnalfbgedmaaDoor
