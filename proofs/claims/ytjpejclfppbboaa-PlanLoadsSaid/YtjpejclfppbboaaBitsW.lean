/- Contracts: bits.OnesCount64, Set.Len. -/
import Derived.Test.YtjpejclfppbboaaBitsM
namespace Go.Proofs.Ytjpejclfppbboaa
open Go.ChangeShapes Go.WideShapes Go.ChangeAt Go.RowKit
set_option linter.unusedVariables false
theorem and_nat (a m : Nat) (ha : a < 2 ^ 64) (hm : m < 2 ^ 64) : bits .and .u64 (a : Int) (m : Int) = ((a &&& m : Nat) : Int) := u64_and_nat _ _ (by simpa using ha) (by simpa using hm)
theorem wrapN (a : Nat) (ha : a < 2 ^ 64) : IntKind.u64.wrap (a : Int) = (a : Int) := by
  rw [IntKind.wrap_u64]; omega
theorem E1 (x : Nat) (hx : x < 2 ^ 64) : IntKind.u64.wrap (bits BinOp.and IntKind.u64 ((x : Int) / 2) 6148914691236517205 + bits BinOp.and IntKind.u64 (x : Int) 6148914691236517205) = ((st1 x : Nat) : Int) := by
  have e : ((x : Int) / 2) = ((x / 2 : Nat) : Int) := by simp
  have h1 : (x / 2 &&& 6148914691236517205) ≤ 6148914691236517205 := Nat.and_le_right
  have h2 : (x &&& 6148914691236517205) ≤ 6148914691236517205 := Nat.and_le_right
  rw [e, show (6148914691236517205 : Int) = ((6148914691236517205 : Nat) : Int) from rfl, and_nat _ _ (by omega) (by omega), and_nat _ _ hx (by omega), ← Int.natCast_add, wrapN _ (by omega)]
  rfl
theorem st1_lt (x : Nat) : st1 x < 2 ^ 64 := by
  have h1 : (x / 2 &&& 6148914691236517205) ≤ 6148914691236517205 := Nat.and_le_right
  have h2 : (x &&& 6148914691236517205) ≤ 6148914691236517205 := Nat.and_le_right
  unfold st1; omega
theorem st2_le (x : Nat) : st2 x ≤ 7378697629483820646 := by
  have h1 : (x / 4 &&& 3689348814741910323) ≤ 3689348814741910323 := Nat.and_le_right
  have h2 : (x &&& 3689348814741910323) ≤ 3689348814741910323 := Nat.and_le_right
  unfold st2; omega
theorem E2 (x : Nat) (hx : x < 2 ^ 64) : IntKind.u64.wrap (bits BinOp.and IntKind.u64 ((x : Int) / 4) 3689348814741910323 + bits BinOp.and IntKind.u64 (x : Int) 3689348814741910323) = ((st2 x : Nat) : Int) := by
  have e : ((x : Int) / 4) = ((x / 4 : Nat) : Int) := by simp
  have h := st2_le x
  unfold st2 at h
  rw [e, show (3689348814741910323 : Int) = ((3689348814741910323 : Nat) : Int) from rfl, and_nat _ _ (by omega) (by omega), and_nat _ _ hx (by omega), ← Int.natCast_add, wrapN _ (by omega)]
  rfl
theorem E3 (x : Nat) (hx : x ≤ 7378697629483820646) : bits BinOp.and IntKind.u64 (IntKind.u64.wrap ((x : Int) / 16 + (x : Int))) 1085102592571150095 = ((st3 x : Nat) : Int) := by
  have e : ((x : Int) / 16 + (x : Int)) = ((x / 16 + x : Nat) : Int) := by simp
  rw [e, wrapN _ (by omega), show (1085102592571150095 : Int) = ((1085102592571150095 : Nat) : Int) from rfl, and_nat _ _ (by omega) (by omega)]
  rfl
theorem E4 (x : Nat) (hx : st4 x < 2 ^ 63) : IntKind.u64.wrap ((x : Int) + (x : Int) / 256) = ((st4 x : Nat) : Int) := by
  have e : ((x : Int) + (x : Int) / 256) = ((st4 x : Nat) : Int) := by unfold st4; simp
  rw [e, wrapN _ (by omega)]
theorem E5 (x : Nat) (hx : st5 x < 2 ^ 63) : IntKind.u64.wrap ((x : Int) + (x : Int) / 65536) = ((st5 x : Nat) : Int) := by
  have e : ((x : Int) + (x : Int) / 65536) = ((st5 x : Nat) : Int) := by unfold st5; simp
  rw [e, wrapN _ (by omega)]
theorem E6 (x : Nat) (hx : st6 x < 2 ^ 63) : IntKind.u64.wrap ((x : Int) + (x : Int) / 4294967296) = ((st6 x : Nat) : Int) := by
  have e : ((x : Int) + (x : Int) / 4294967296) = ((st6 x : Nat) : Int) := by unfold st6; simp
  rw [e, wrapN _ (by omega)]
theorem E7 (x : Nat) (hx : x < 2 ^ 63) : bits BinOp.and IntKind.i64 (wrap64 (x : Int)) 127 = ((x % 128 : Nat) : Int) := by
  have e : wrap64 (x : Int) = (x : Int) := by unfold wrap64; omega
  rw [e]
  have h := bits_mask .i64 63 (by decide) (fun n h0 h1 => by rw [IntKind.wrap_i64]; omega) 7 (by decide) (x : Int) (by omega) (by exact_mod_cast hx)
  rw [show ((2 : Int) ^ 7 - 1) = 127 from rfl, show ((2 : Int) ^ 7) = 128 from rfl] at h
  rw [h]
  simp
theorem onesCount_any (x : Nat) (w : World) (hx : x < 2 ^ 64) : Calls Try.prog 92 #[.int .u64 x] w fun e w' => e = .returned (.int .i64 (ones x 64)) ∧ w = w' := by
  have Hx := Lib.hid hx
  clear hx
  go_enter Try.func92, Try.ntmps92
  go_wp2
  go_ret
  refine ⟨retInt ?_, rfl⟩
  obtain ⟨p1, p2, p3, p4, p5⟩ := popcount x
  rw [E1 x Hx.out, E2 _ (st1_lt x), E3 _ (st2_le _), E4 _ p3, E5 _ p4, E6 _ p5, E7 _ p5, p1]
theorem len_any (x : Nat) (w : World) (hx : x < 2 ^ 64) : Calls Try.prog 75 #[.int .u64 x] w fun e w' => e = .returned (.int .i64 (ones x 64)) ∧ w = w' := by
  have Hx := Lib.hid hx
  clear hx
  go_enter Try.func75, Try.ntmps75
  go_wp2_with (go_at_call 92; (with_reducible refine (onesCount_any x _ Hx.out).mono ?_); rintro e w' ⟨rfl, rfl⟩)
  go_ret
  exact ⟨rfl, rfl⟩
/-! the least one -/
def ctz (x : Nat) : Nat := ((List.range 64).find? fun i => x.testBit i).getD 64
theorem ctz_spec {x : Nat} (hx : x < 2 ^ 64) (h0 : x ≠ 0) : ctz x < 64 ∧ x.testBit (ctz x) = true ∧ ∀ j, j < ctz x → x.testBit j = false := by
  have hex : ∃ i, i < 64 ∧ x.testBit i = true := by
    obtain ⟨i, hi⟩ := Nat.exists_testBit_of_ne_zero h0
    refine ⟨i, ?_, hi⟩
    rcases Nat.lt_or_ge i 64 with h | h
    · exact h
    · rw [Nat.testBit_lt_two_pow (Nat.lt_of_lt_of_le hx (Nat.pow_le_pow_right (by omega) h))] at hi
      cases hi
  unfold ctz
  cases hf : (List.range 64).find? fun i => x.testBit i with
  | none =>
    rw [List.find?_eq_none] at hf
    obtain ⟨i, hi, hb⟩ := hex
    exact absurd hb (by simpa using hf i (by simpa using hi))
  | some i =>
    rw [List.find?_eq_some_iff_getElem] at hf
    obtain ⟨hb, n, hn, he, hall⟩ := hf
    simp at he hn
    subst he
    simp only [Option.getD_some]
    refine ⟨hn, hb, fun j hj => ?_⟩
    have := hall j hj
    simpa using this
end Go.Proofs.Ytjpejclfppbboaa
