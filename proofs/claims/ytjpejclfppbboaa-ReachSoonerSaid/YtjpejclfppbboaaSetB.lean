/- Contracts of package set: With; what a set holds, bit by bit. More contracts of package set: Without, Has, And, Or, Less. -/
import Derived.Test.YtjpejclfppbboaaRows
import Derived.Test.YtjpejclfppbboaaSL
import Derived.WalkKit
import Derived.ProofKit
import Derived.OpenShut
import Derived.Lib.Hide
import Derived.Laws.Rows
import Derived.Great.BuildSlice
import Derived.Laws.BitsAllLaws
import Derived.Deep.Draws
import Derived.Deep.AppendLies
import Derived.WalkSpells
import Derived.WalkLawsBesides
namespace Go.Proofs.Ytjpejclfppbboaa
open Go.ChangeShapes Go.WideShapes Go.ChangeAt Go.RowKit
set_option linter.unusedVariables false
def bitv (x i : Nat) : Bool := x.testBit i
theorem in_yes (n : Int) (w : World) (h0 : 0 ≤ n) (h1 : n < 64) : Calls Try.prog 64 #[.int .i64 n] w fun e w' => e = .returned (.bool true) ∧ w = w' := by
 go_enter Try.func64, Try.ntmps64
 go_wp2
 go_ret
 exact ⟨rfl, rfl⟩
theorem in_no (n : Int) (w : World) (h : n < 0 ∨ 64 ≤ n) : Calls Try.prog 64 #[.int .i64 n] w fun e w' => e = .returned (.bool false) ∧ w = w' := by
 rcases h with h | h
 all_goals
  first | have h' : (0 : Int) ≤ n := by omega | skip
  go_enter Try.func64, Try.ntmps64
  go_wp2
  go_ret
  exact ⟨retBool (by simp; try omega), rfl⟩
/-- x, with n. -/
def setWith (x : Nat) (n : Int) : Nat := if 0 ≤ n ∧ n < 64 then x ||| 2 ^ n.toNat else x
theorem pow_lt (n : Int) (h0 : 0 ≤ n) (h1 : n < 64) : 2 ^ n.toNat < 18446744073709551616 := by
 have : (2 : Nat) ^ n.toNat < 2 ^ 64 := Nat.pow_lt_pow_right (by omega) (by omega)
 simpa using this
theorem wrap_pow (n : Int) (h0 : 0 ≤ n) (h1 : n < 64) : IntKind.u64.wrap (2 ^ n.toNat) = ((2 ^ n.toNat : Nat) : Int) := by
 rw [IntKind.wrap_u64]
 have := pow_lt n h0 h1
 have e : ((2 : Int) ^ n.toNat) = ((2 ^ n.toNat : Nat) : Int) := by simp
 rw [e]
 generalize 2 ^ n.toNat = m at this
 omega
theorem setWith_lt (x : Nat) (n : Int) (hx : x < 2 ^ 64) : setWith x n < 2 ^ 64 := by
 unfold setWith
 split
 · rename_i h; exact Nat.or_lt_two_pow hx (by simpa using pow_lt n h.1 h.2)
 · exact hx
theorem with_any (x : Nat) (n : Int) (w : World) (hx : x < 2 ^ 64) : Calls Try.prog 63 #[.int .u64 x, .int .i64 n] w fun e w' => e = .returned (.int .u64 (setWith x n)) ∧ w = w' := by
 by_cases h : 0 ≤ n ∧ n < 64
 · have e : setWith x n = x ||| 2 ^ n.toNat := if_pos h
   have H := Lib.hid e
   clear e
   obtain ⟨h0, h1⟩ := h
   go_enter Try.func63, Try.ntmps63
   go_wp2_with (go_at_call 64; refine (in_yes _ _ h0 h1).mono ?_; rintro e w' ⟨rfl, rfl⟩)
   go_ret
   refine ⟨retInt ?_, rfl⟩
   rw [H.out, wrap_pow n h0 h1, u64_or_nat _ _ (by simpa using hx) (pow_lt n h0 h1)]
 · have e : setWith x n = x := if_neg h
   have H := Lib.hid e
   clear e
   go_enter Try.func63, Try.ntmps63
   go_wp2_with (go_at_call 64; refine (in_no _ _ (by omega)).mono ?_; rintro e w' ⟨rfl, rfl⟩)
   go_ret
   exact ⟨retInt (by rw [H.out]), rfl⟩
end Go.Proofs.Ytjpejclfppbboaa
namespace Go.Proofs.Ytjpejclfppbboaa
open Go.ChangeShapes Go.WideShapes Go.ChangeAt Go.RowKit
set_option linter.unusedVariables false
def setLess (x y : Nat) : Nat := x &&& (18446744073709551615 - y)
theorem setLess_bit (x y i : Nat) (hy : y < 2 ^ 64) (hi : i < 64) : bitv (setLess x y) i = (bitv x i && !bitv y i) := by
 unfold setLess bitv
 rw [Nat.testBit_and, show 18446744073709551615 - y = 2 ^ 64 - (y + 1) by omega, Nat.testBit_two_pow_sub_succ hy]
 simp [hi]
theorem setLess_lt (x y : Nat) (hx : x < 2 ^ 64) : setLess x y < 2 ^ 64 := Nat.lt_of_le_of_lt Nat.and_le_left hx
theorem less_any (x y : Nat) (w : World) (hx : x < 2 ^ 64) (hy : y < 2 ^ 64) : Calls Try.prog 34 #[.int .u64 x, .int .u64 y] w fun e w' => e = .returned (.int .u64 (setLess x y)) ∧ w = w' := by
 have Hx := Lib.hid hx
 have Hy := Lib.hid hy
 clear hx hy
 go_enter Try.func34, Try.ntmps34
 go_wp2
 go_ret
 exact ⟨retInt (u64_andNot_nat _ _ (by simpa using Hx.out) (by simpa using Hy.out)), rfl⟩
end Go.Proofs.Ytjpejclfppbboaa
