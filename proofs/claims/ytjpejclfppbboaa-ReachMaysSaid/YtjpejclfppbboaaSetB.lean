/- Contracts of package set: With; what a set holds, bit by bit. More contracts of package set: Without, Has, And, Or, Less. -/
import Derived.Test.YtjpejclfppbboaaRows
import Derived.Test.YtjpejclfppbboaaSL
import Derived.WalkKit
import Derived.ProofKit
import Derived.OpenShut
import Derived.Lib.Hide
import Derived.Laws.Rows
import Derived.Great.BuildSlice
import Derived.Laws.BitsAllLaws
import Derived.Deep.Draws
import Derived.Deep.AppendLies
import Derived.WalkSpells
import Derived.WalkLawsBesides
namespace Go.Proofs.Ytjpejclfppbboaa
open Go.ChangeShapes Go.WideShapes Go.ChangeAt Go.RowKit
set_option linter.unusedVariables false
def bitv (x i : Nat) : Bool := x.testBit i
theorem in_yes (n : Int) (w : World) (h0 : 0 ≤ n) (h1 : n < 64) : Calls Try.prog 64 #[.int .i64 n] w fun e w' => e = .returned (.bool true) ∧ w = w' := by
 go_enter Try.func64, Try.ntmps64
 go_wp2
 go_ret
 exact ⟨rfl, rfl⟩
theorem in_no (n : Int) (w : World) (h : n < 0 ∨ 64 ≤ n) : Calls Try.prog 64 #[.int .i64 n] w fun e w' => e = .returned (.bool false) ∧ w = w' := by
 rcases h with h | h
 all_goals
  first | have h' : (0 : Int) ≤ n := by omega | skip
  go_enter Try.func64, Try.ntmps64
  go_wp2
  go_ret
  exact ⟨retBool (by simp; try omega), rfl⟩
/-- x, with n. -/
def setWith (x : Nat) (n : Int) : Nat := if 0 ≤ n ∧ n < 64 then x ||| 2 ^ n.toNat else x
theorem pow_lt (n : Int) (h0 : 0 ≤ n) (h1 : n < 64) : 2 ^ n.toNat < 18446744073709551616 := by
 have : (2 : Nat) ^ n.toNat < 2 ^ 64 := Nat.pow_lt_pow_right (by omega) (by omega)
 simpa using this
theorem wrap_pow (n : Int) (h0 : 0 ≤ n) (h1 : n < 64) : IntKind.u64.wrap (2 ^ n.toNat) = ((2 ^ n.toNat : Nat) : Int) := by
 rw [IntKind.wrap_u64]
 have := pow_lt n h0 h1
 have e : ((2 : Int) ^ n.toNat) = ((2 ^ n.toNat : Nat) : Int) := by simp
 rw [e]
 generalize 2 ^ n.toNat = m at this
 omega
theorem setWith_lt (x : Nat) (n : Int) (hx : x < 2 ^ 64) : setWith x n < 2 ^ 64 := by
 unfold setWith
 split
 · rename_i h; exact Nat.or_lt_two_pow hx (by simpa using pow_lt n h.1 h.2)
 · exact hx
theorem with_any (x : Nat) (n : Int) (w : World) (hx : x < 2 ^ 64) : Calls Try.prog 63 #[.int .u64 x, .int .i64 n] w fun e w' => e = .returned (.int .u64 (setWith x n)) ∧ w = w' := by
 by_cases h : 0 ≤ n ∧ n < 64
 · have e : setWith x n = x ||| 2 ^ n.toNat := if_pos h
   have H := Lib.hid e
   clear e
   obtain ⟨h0, h1⟩ := h
   go_enter Try.func63, Try.ntmps63
   go_wp2_with (go_at_call 64; refine (in_yes _ _ h0 h1).mono ?_; rintro e w' ⟨rfl, rfl⟩)
   go_ret
   refine ⟨retInt ?_, rfl⟩
   rw [H.out, wrap_pow n h0 h1, u64_or_nat _ _ (by simpa using hx) (pow_lt n h0 h1)]
 · have e : setWith x n = x := if_neg h
   have H := Lib.hid e
   clear e
   go_enter Try.func63, Try.ntmps63
   go_wp2_with (go_at_call 64; refine (in_no _ _ (by omega)).mono ?_; rintro e w' ⟨rfl, rfl⟩)
   go_ret
   exact ⟨retInt (by rw [H.out]), rfl⟩
end Go.Proofs.Ytjpejclfppbboaa
namespace Go.Proofs.Ytjpejclfppbboaa
open Go.ChangeShapes Go.WideShapes Go.ChangeAt Go.RowKit
set_option linter.unusedVariables false
theorem has_spell (x k : Nat) (hx : x < 2 ^ 64) : (bits BinOp.and IntKind.u64 ((x : Int) / 2 ^ k) 1 == 1) = bitv x k := by
 have e : ((x : Int) / 2 ^ k) = ((x / 2 ^ k : Nat) : Int) := by simp
 have hlt : x / 2 ^ k < 18446744073709551616 := Nat.lt_of_le_of_lt (Nat.div_le_self _ _) (by simpa using hx)
 rw [e, show (1 : Int) = ((1 : Nat) : Int) from rfl, u64_and_nat _ _ hlt (by omega), nat_mask1]
 unfold bitv
 rw [Nat.testBit_eq_decide_div_mod_eq, Bool.eq_iff_iff]
 simp
 omega
theorem has_any (x : Nat) (n : Int) (w : World) (hx : x < 2 ^ 64) : Calls Try.prog 36 #[.int .u64 x, .int .i64 n] w fun e w' => e = .returned (.bool (decide (0 ≤ n ∧ n < 64) && bitv x n.toNat)) ∧ w = w' := by
 by_cases h : 0 ≤ n ∧ n < 64
 · have H := Lib.hid (decide_eq_true h)
   obtain ⟨h0, h1⟩ := h
   go_enter Try.func36, Try.ntmps36
   go_wp2_with (go_at_call 64; refine (in_yes _ _ h0 h1).mono ?_; rintro e w' ⟨rfl, rfl⟩)
   go_ret
   exact ⟨retBool (by rw [H.out, Bool.true_and]; exact has_spell x n.toNat hx), rfl⟩
 · have H := Lib.hid (decide_eq_false h)
   go_enter Try.func36, Try.ntmps36
   go_wp2_with (go_at_call 64; refine (in_no _ _ (by omega)).mono ?_; rintro e w' ⟨rfl, rfl⟩)
   go_ret
   exact ⟨retBool (by rw [H.out]; rfl), rfl⟩
end Go.Proofs.Ytjpejclfppbboaa
