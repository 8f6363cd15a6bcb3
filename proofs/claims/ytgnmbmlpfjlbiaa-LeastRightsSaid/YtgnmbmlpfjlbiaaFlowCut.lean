/- The walk of flow.Cut. -/
import Derived.Test.YtgnmbmlpfjlbiaaFlowMost
namespace Go.Proofs.Ytgnmbmlpfjlbiaa
open Go.ChangeShapes Go.WideShapes Go.ChangeAt Go.RowKit
set_option linter.unusedVariables false
set_option maxHeartbeats 4000000 in
theorem cut_bad (N : Int) (A AL : Option Addr) (cap n lc : Nat) (ps : List PipeV) (s : Int) (w : World) (hr : Pipes w w.heap.size A ps) (hl : ps.length ≤ maxLen) (hn : n ≤ maxLen) (h : checkP N ps ≠ 0 ∨ n ≠ ps.length ∨ s < 0 ∨ N ≤ s) :
    Calls Try.prog 20 #[.agg #[.int .i64 N, .slice A ps.length cap], .slice AL n lc, .int .i64 s] w fun e w' => e = .returned (.slice none 0 0) ∧ Below w.heap.size w w' := by
  have hS0 := (SL.start (Nat.le_refl w.heap.size)).alloc #[.int .i64 N, .slice A ps.length cap] 26
  have HRD : Hid (Pipes (w.alloc (.cells #[.int .i64 N, .slice A ps.length cap] 26)) (w.alloc (.cells #[.int .i64 N, .slice A ps.length cap] 26)).heap.size A ps) := Lib.hid (reads_more (Reads.below hr hS0.below) (by simp))
  have HS0 := Lib.hid hS0
  have HL := Lib.hid hl
  obtain ⟨C, hC⟩ : ∃ C, C = checkP N ps := ⟨_, rfl⟩
  rw [← hC] at h
  have HC := Lib.hid hC
  unfold maxLen at hl hn
  clear hr hS0 hC
  by_cases q0 : C ≠ 0
  · clear h
    have hz : (C != 0) = true := by simpa using q0
    go_enter Try.func20, Try.ntmps20
    go_wp2_with (go_at_call 22; (with_reducible refine (checkP_any _ _ _ _ _ HRD.out HL.out).mono ?_); rintro e w2 ⟨rfl, hB⟩; rw [← HC.out]; have hS1 := HS0.out.call hB; have hy0 := hS1.cell 0 rfl 0 rfl; have hy1 := hS1.cell 0 rfl 1 rfl; have hsz := hS1.below.size; have HS1 := Lib.hid hS1; clear hB hS1)
    go_ret
    exact ⟨rfl, HS1.out.below⟩
  · obtain rfl : C = 0 := by omega
    by_cases q1 : n ≠ ps.length
    · clear h
      have hz : ((n : Int) != (ps.length : Int)) = true := by simp; omega
      go_enter Try.func20, Try.ntmps20
      go_wp2_with (go_at_call 22; (with_reducible refine (checkP_any _ _ _ _ _ HRD.out HL.out).mono ?_); rintro e w2 ⟨rfl, hB⟩; rw [← HC.out]; have hS1 := HS0.out.call hB; have hy0 := hS1.cell 0 rfl 0 rfl; have hy1 := hS1.cell 0 rfl 1 rfl; have hsz := hS1.below.size; have HS1 := Lib.hid hS1; clear hB hS1)
      go_ret
      exact ⟨rfl, HS1.out.below⟩
    · obtain rfl : n = ps.length := by omega
      by_cases q2 : s < 0
      · clear h
        skip
        go_enter Try.func20, Try.ntmps20
        go_wp2_with (go_at_call 22; (with_reducible refine (checkP_any _ _ _ _ _ HRD.out HL.out).mono ?_); rintro e w2 ⟨rfl, hB⟩; rw [← HC.out]; have hS1 := HS0.out.call hB; have hy0 := hS1.cell 0 rfl 0 rfl; have hy1 := hS1.cell 0 rfl 1 rfl; have hsz := hS1.below.size; have HS1 := Lib.hid hS1; clear hB hS1)
        go_ret
        exact ⟨rfl, HS1.out.below⟩
      · skip
        by_cases q3 : N ≤ s
        · clear h
          skip
          go_enter Try.func20, Try.ntmps20
          go_wp2_with (go_at_call 22; (with_reducible refine (checkP_any _ _ _ _ _ HRD.out HL.out).mono ?_); rintro e w2 ⟨rfl, hB⟩; rw [← HC.out]; have hS1 := HS0.out.call hB; have hy0 := hS1.cell 0 rfl 0 rfl; have hy1 := hS1.cell 0 rfl 1 rfl; have hsz := hS1.below.size; have HS1 := Lib.hid hS1; clear hB hS1)
          go_ret
          exact ⟨rfl, HS1.out.below⟩
        · skip
          omega
/-- What Cut answers. -/
def CutPost (W : World) (N : Nat) (ps : List PipeV) (x : Nat → Int) (s : Int) (e : Ending) (w' : World) : Prop :=
  ∃ (seen : Nat → Bool) (by_ : Nat → Int × Bool) (gs : Nat), e = .returned (.slice (some ⟨gs, 0, none⟩) N N) ∧ SL W W.heap.size [.blk gs (barr seen N) 4] w' ∧ Walked N ps x s seen by_
set_option maxHeartbeats 4000000 in
theorem cut_any (N : Nat) (A AL : Option Addr) (cap lc : Nat) (ps : List PipeV) (fl : List Int) (s : Int) (w : World) (hr : Pipes w w.heap.size A ps) (hf : Reads w w.heap.size 1 AL fl.length (fl.map (.int .i64))) (hfl : fl.length = ps.length) (hck : checkP N ps = 0) (h0 : 0 ≤ s) (h1 : s < N) (X : Nat → Int) (hX : ∀ k, ∀ h : k < fl.length, fl[k] = X k) :
    Calls Try.prog 20 #[.agg #[.int .i64 N, .slice A ps.length cap], .slice AL ps.length lc, .int .i64 s] w (CutPost w N ps X s) := by
  have hS0 := (SL.start (Nat.le_refl w.heap.size)).alloc #[.int .i64 N, .slice A ps.length cap] 26
  have HRD : Hid (Pipes (w.alloc (.cells #[.int .i64 N, .slice A ps.length cap] 26)) (w.alloc (.cells #[.int .i64 N, .slice A ps.length cap] 26)).heap.size A ps) := Lib.hid (reads_more (Reads.below hr hS0.below) (by simp))
  have HS0 := Lib.hid hS0
  have hkk := checkP_ok hck
  have HK := Lib.hid hkk
  have hl : ps.length ≤ 20000 := hkk.2.2.1
  have HL : Hid (ps.length ≤ maxLen) := Lib.hid (by unfold maxLen; omega)
  have HC : Hid (0 = checkP N ps) := Lib.hid hck.symm
  have HR := Lib.hid hr
  have HX := Lib.hid hX
  have HF := Lib.hid (And.intro hf hfl)
  have hz0 : ((ps.length : Int) != (ps.length : Int)) = false := by simp
  clear hr hS0 hck hkk hX hf hfl
  go_enter Try.func20, Try.ntmps20
  go_wp2_with (first
    | (go_at_call 22; (with_reducible refine (checkP_any _ _ _ _ _ HRD.out HL.out).mono ?_); rintro e w2 ⟨rfl, hB⟩; rw [← HC.out]; have hS1 := HS0.out.call hB; have hy0 := hS1.cell 0 rfl 0 rfl; have hy1 := hS1.cell 0 rfl 1 rfl; have hsz := hS1.below.size; have HS1 := Lib.hid hS1; clear hB hS1)
    | (go_at_call 30; have hw0 := (walk_any N A AL cap lc ps fl s w2 (reads_more (Reads.below HR.out HS1.out.below) HS1.out.size) (reads_more (Reads.below HF.out.1 HS1.out.below) HS1.out.size) HF.out.2 (by have := HK.out; omega) hl (by have := HK.out.2.2.2.1; simpa using this) h0 h1 X HX.out); (with_reducible refine hw0.mono ?_); clear hw0; rintro e w3 ⟨seen, by_, gb, gs, rfl, hS3, hW3⟩; have HS3 := Lib.hid (And.intro hS3 hW3); clear hS3 hW3))
  go_ret
  exact ⟨seen, by_, gs, rfl, (HS1.out.join HS3.out.1).sub (by simp), HS3.out.2⟩
end Go.Proofs.Ytgnmbmlpfjlbiaa
