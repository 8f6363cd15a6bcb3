/- slices.Clone of []int. -/
import Derived.Test.YtpbhbmdghafkmaaRowRun
import Derived.Test.YtpbhbmdghafkmaaRows
import Derived.WalkSpells
import Derived.Outline
namespace Go.Proofs.Ytpbhbmdghafkmaa
open Go.ChangeShapes Go.WideShapes Go.ChangeAt Go.RowKit
set_option linter.unusedVariables false
theorem clone_infoInt : (Try.prog.info? 3).map (fun i => (i.zero, i.size, i.bytes)) = some (some (.int .i64 0), 1, 8) := by kernel_rfl
set_option maxRecDepth 100000 in
set_option maxHeartbeats 1000000 in
theorem cloneInt (A : Option Addr) (n c : Nat) (xs : List Value) (w : World) (hr : Reads w w.heap.size 1 A n xs) (h1 : ∀ u ∈ xs, u.oneCell' = true) (hn : n ≤ 100000000) :
 Calls Try.prog 58 #[.slice A n c] w fun e w' => ∃ v, e = .returned v ∧ SL w w.heap.size [.row 3 1 v n xs] w' := by
 obtain ⟨i0, hi0, hz0, hz1, hz2⟩ := info_parts clone_infoInt
 cases A with
 | none =>
   have hn0 : n = 0 := by
    rcases Nat.eq_zero_or_pos n with h | h
    · exact h
    · obtain ⟨ad, e, _⟩ := hr.2 h; cases e
   subst hn0
   have hx : xs = [] := List.eq_nil_of_length_eq_zero (by simpa using hr.1)
   subst hx
   have HS := Lib.hid ((SL.start (Nat.le_refl w.heap.size)).nil 3 1)
   clear hr h1
   have hq := Lib.run_eql_slice_nil (P := Try.prog) w
   go_enter Try.func58, Try.ntmps58
   go_wp2
   go_ret
   exact ⟨_, rfl, HS.out⟩
 | some a =>
   have hS0 := (SL.start (Nat.le_refl w.heap.size)).empty 3 1
   obtain ⟨w1, hw1⟩ : ∃ w1, w1 = w.alloc (.cells #[] 3) := ⟨_, rfl⟩
   have HRUN : Hid (∃ v' w', (Builtin.append_ #[42, 42] 42 #[.slice (some ⟨w.heap.size, 0, none⟩) 0 0, .slice (some a) n c]).run Try.prog w1 = .ok v' w' ∧ SL w w.heap.size [.row 3 1 v' n xs] w') := by
    rcases Nat.eq_zero_or_pos n with h | h
    · subst h
      have hx : xs = [] := List.eq_nil_of_length_eq_zero (by simpa using hr.1)
      subst hx
      exact Lib.hid ⟨_, _, run_append_none Try.underlying42 hi0 _ _ _, by rw [hw1]; exact hS0⟩
    · obtain ⟨ad, e, hb, hc⟩ := hr.2 h
      injection e with e
      subst e
      obtain ⟨v', w', h2, h3⟩ := run_append_from (P := Try.prog) 42 42 hS0 0 i0 (.int .i64 0) 1 8 Try.underlying42 hi0 hz0 hz1 hz2 rfl (by decide) _ 0 n c [] xs rfl h a hr.1 (fun j u hu => (World.cell?_alloc_lt w _ (a.add j) (by rw [block_of_add]; exact hb)).trans (hc j u hu)) h1 (by omega) (by decide)
      rw [Nat.zero_add, List.nil_append] at h3
      exact Lib.hid ⟨v', w', by rw [hw1]; exact h2, h3⟩
   have HW1 := Lib.hid hw1
   have hq : (binOp .eql 42 (.slice (some a) n c) (.slice none 0 0)).run Try.prog w = .ok (.bool false) w := by simpa using Lib.run_eql_slice_nil (P := Try.prog) w 42 3 (some a) n c 0 0 Try.underlying42
   clear hr hS0 h1 hi0 hz0 hz1 hz2 hw1
   go_enter Try.func58, Try.ntmps58
   go_wp2_with (at_builtin; refine stopHere ?_)
   show wpList _ _ _ _ _ _
   obtain ⟨v', w', h2, h3⟩ := HRUN.out
   rw [HW1.out] at h2
   refine wpList_append_run rfl _ _ 42 rfl _ _ rfl rfl h2 ?_
   have H3 := Lib.hid h3
   clear h2 h3
   go_wp2_with fail
   go_ret
   exact ⟨_, rfl, H3.out⟩
end Go.Proofs.Ytpbhbmdghafkmaa
