/- The walk of law PileNil. -/
import Derived.Test.YtaaffahjlkfbgaaAwake04
namespace Go.Proofs.Ytaaffahjlkfbgaa
open Go.ChangeShapes Go.WideShapes Go.ChangeAt Go.RowKit
set_option linter.unusedVariables false
theorem put_nil_kv (k i : Int) (w : World) : Calls Try.prog 16 #[.pointer none, .agg #[.int .i64 k, .int .i64 i]] w fun e w' => e = .returned (.tuple #[]) ∧ Below w.heap.size w w' := put_nil ⟨k, i⟩ w
set_option maxRecDepth 100000 in
set_option maxHeartbeats 2000000 in
theorem pileNil_walk (W : World) (k : Int) (_hk : (Lit.int .i64 k).wf = true) (i : Int) (_hi : (Lit.int .i64 i).wf = true) :
    Calls Try.prog 3 #[.int .i64 k, .int .i64 i] W fun e w' => e = .returned (.bool true) ∧ Below W.heap.size W w' := by
  have HS0 := Lib.hid (SL.start (Nat.le_refl W.heap.size))
  go_enter Try.func3, Try.ntmps3
  go_upto_region 6 with (first
    | (go_at_call 15; (with_reducible refine (awake04 _).mono ?_); rintro e w1 ⟨rfl, hb1⟩; have HS1 := Lib.hid (HS0.out.call hb1); clear hb1)
    | (go_at_call 16; (with_reducible refine (put_nil_kv k i _).mono ?_); rintro e w2 ⟨rfl, hb2⟩; have HS2 := Lib.hid (HS1.out.call hb2); clear hb2)
    | (go_at_call 17; (with_reducible refine (take_nil _).mono ?_); rintro e w3 ⟨rfl, hb3⟩; have hS3 := HS2.out.call hb3; clear hb3))
  have hS4 := hS3.alloc #[.int .i64 0, .int .i64 0] 26
  obtain ⟨xb, hxb⟩ : ∃ xb, xb = w3.heap.size := ⟨_, rfl⟩
  generalize (w3.alloc (.cells #[.int .i64 0, .int .i64 0] 26)) = w4 at *
  rw [← hxb] at hS4 ⊢
  have c0 : w4.cell? ⟨xb, 0, none⟩ = some (.int .i64 0) := hS4.cell 0 rfl 0 rfl
  have c1 : w4.cell? ⟨xb, 1, none⟩ = some (.int .i64 0) := hS4.cell 0 rfl 1 rfl
  have HB := Lib.hid hS4.below
  clear hS3 hS4 hxb
  have h13 : ((0 : Int) == 0 && (0 : Int) == 0) = true := rfl
  go_wp2_with (go_at_call 18; (with_reducible refine (plen_nil _).mono ?_); rintro e w7 ⟨rfl, rfl⟩; clear c0 c1)
  go_ret
  exact ⟨rfl, HB.out⟩
end Go.Proofs.Ytaaffahjlkfbgaa
