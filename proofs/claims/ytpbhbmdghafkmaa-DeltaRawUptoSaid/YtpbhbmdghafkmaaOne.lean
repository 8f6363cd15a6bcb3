/- law11.One: a plain instance. -/
import Derived.Test.YtpbhbmdghafkmaaMakeW
namespace Go.Proofs.Ytpbhbmdghafkmaa
open Go.ChangeShapes Go.WideShapes Go.ChangeAt Go.RowKit
set_option linter.unusedVariables false
def oneInst : InstV := ⟨40, 1, 5, 1, 3, [⟨60, 2⟩], [⟨2, 5, 90, 1⟩], [[0, 0, 0], [0, 0, 0], [0, 0, 0]], [[0, 0, 0], [0, 0, 0], [0, 0, 0]]⟩
def noSmall : SmallV := ⟨0, 0, 0, 0, 0, [], [], [], [], false, false⟩
theorem one_is : noSmall.mk_ = oneInst := by
 unfold SmallV.mk_ noSmall oneInst SmallV.wide SmallV.n SmallV.mkSats SmallV.mkCusts
 rfl
theorem noSmall_ok : noSmall.ok := by
 unfold noSmall
 refine ⟨?_, ?_, ?_, ?_, ?_, by simp, by simp, by simp, by simp⟩ <;> simp [isU8]
set_option maxRecDepth 100000 in
set_option maxHeartbeats 1000000 in
theorem one_any (w : World) : Calls Try.prog 41 #[] w (MakePost w oneInst) := by
 have HMK : Hid (∀ wx, Calls Try.prog 20 #[.agg #[.int .u8 0, .int .u8 0, .int .u8 0, .int .u8 0, .int .u8 0, .slice none 0 0, .slice none 0 0, .slice none 0 0, .slice none 0 0, .bool false, .bool false]] wx (MakePost wx oneInst)) := Lib.hid (fun wx => by
  have h := make_any noSmall ⟨none, 0, none, 0, none, 0, none, 0⟩ wx ⟨⟨rfl, fun h => absurd h (by simp [noSmall])⟩, ⟨rfl, fun h => absurd h (by simp [noSmall])⟩, ⟨rfl, fun h => absurd h (by simp [noSmall])⟩, ⟨rfl, fun h => absurd h (by simp [noSmall])⟩⟩ ⟨by simp [noSmall, maxLen], by simp [noSmall, maxLen], by simp [noSmall, maxLen], by simp [noSmall, maxLen]⟩ noSmall_ok
  rw [one_is] at h
  exact h)
 have HS0 := Lib.hid ((SL.start (Nat.le_refl w.heap.size)).alloc #[.int .i64 0, .int .i64 0, .int .i64 0, .int .i64 0, .int .i64 0, .slice none 0 0, .slice none 0 0, .slice none 0 0, .slice none 0 0] 58)
 go_enter Try.func41, Try.ntmps41
 go_wp2_with fail
 (with_reducible refine (HMK.out _).mono ?_)
 rintro e w1 ⟨p, hk, ht, he, h1, h2, hS⟩
 obtain ⟨ic, hic⟩ : ∃ ic, oneInst.cells p = ic := ⟨_, rfl⟩
 rw [hic] at he
 subst he
 have HS1 := Lib.hid ((HS0.out.join hS).perm List.perm_append_comm)
 have HH := Lib.hid (And.intro h1 h2)
 have HIC := Lib.hid hic
 have H1C : Hid (ic.all (·.oneCell') = true) := Lib.hid (by rw [← hic]; simp [InstV.cells, Value.oneCell'])
 have HSZ : Hid (ic.size = 9) := Lib.hid (by rw [← hic]; rfl)
 clear hS h1 h2 hic HS0 HMK
 go_wp2_with (refine wpList_store_abs rfl 58 (.tmp 0) (.tmp 2) rfl rfl w.heap.size ic rfl rfl 58 _ (HS1.out.blk 0 rfl) (by rw [HSZ.out]; kernel_rfl) (by rw [HSZ.out]; rfl) H1C.out ?_; intro w10 ho10 hg10; have HS2 := Lib.hid (HS1.out.only 0 rfl ho10 hg10).tail; have HG := Lib.hid hg10; clear ho10 hg10)
 refine retArr rfl _ _ w.heap.size 58 ic _ rfl HG.out Try.underlying58 rfl (by rw [HSZ.out]; kernel_rfl) ?_
 exact ⟨p, hk, ht, by rw [HIC.out], HH.out.1, HH.out.2, HS2.out⟩
end Go.Proofs.Ytpbhbmdghafkmaa
