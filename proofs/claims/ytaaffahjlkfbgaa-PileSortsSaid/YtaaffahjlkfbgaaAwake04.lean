/- The walk of law04.Awake: three things put, the least taken. -/
import Derived.Test.YtaaffahjlkfbgaaPile
namespace Go.Proofs.Ytaaffahjlkfbgaa
open Go.ChangeShapes Go.WideShapes Go.ChangeAt Go.RowKit
set_option linter.unusedVariables false
@[go_sem] theorem eqItem (w : World) (x y x' y' : Int) : (Op.equalIn 10000 26 (.agg #[.int .i64 x, .int .i64 y]) (.agg #[.int .i64 x', .int .i64 y'])).run Try.prog w = .ok (x == x' && y == y') w := by
  have hS : Try.prog.underlying 26 = some (.struct (Try.prog.fieldsOf 26)) := by kernel_rfl
  have hp : Try.prog.stoodInHeld 26 = false := by kernel_rfl
  rw [show (10000 : Nat) = 9999 + 1 from rfl, run_equalIn_agg w 9999 26 _ _ hS hp]
  simp only [Program.fieldsOf, Try.underlying26]
  go_simp
  by_cases h1 : x = x' <;> by_cases h2 : y = y' <;> simp [h1, h2]
theorem put_kv (W : World) (B : Nat) (rs : List Rs) (w : World) (pb n : Nat) (v : Value) (f : Nat → ItemV) (k i : Int) (hS : SL W B (PileRs pb v n f rs) w) (hn : n ≤ 900000) :
    Calls Try.prog 16 #[.pointer (some ⟨pb, 0, none⟩), .agg #[.int .i64 k, .int .i64 i]] w fun e w' => e = .returned (.tuple #[]) ∧ ∃ v', SL W B (PileRs pb v' (n + 1) (putM f n ⟨k, i⟩) rs) w' := put_any W B rs w pb n v f ⟨k, i⟩ hS hn
theorem take_kv (W : World) (B : Nat) (rs : List Rs) (w : World) (pb n : Nat) (v : Value) (f : Nat → ItemV) (k i : Int) (hf : f 0 = ⟨k, i⟩) (hS : SL W B (PileRs pb v (n + 1) f rs) w) (hn : n ≤ 900000) :
    Calls Try.prog 17 #[.pointer (some ⟨pb, 0, none⟩)] w fun e w' => e = .returned (.tuple #[.agg #[.int .i64 k, .int .i64 i], .bool true]) ∧ ∃ v', SL W B (PileRs pb v' n (takeM f n) rs) w' := by
  have h := take_any W B rs w pb n v f hS hn
  rw [hf] at h
  exact h
set_option maxRecDepth 100000 in
set_option maxHeartbeats 2000000 in
theorem awake04 (w : World) : Calls Try.prog 15 #[] w fun e w' => e = .returned (.bool true) ∧ Below w.heap.size w w' := by
  have HN := Lib.hid (new_any w w.heap.size [] w (SL.start (Nat.le_refl _)))
  have hP := ((PileIs.empty.put ⟨2, 5⟩).put ⟨1, 9⟩).put ⟨1, 3⟩
  obtain ⟨f1, hf1⟩ : ∃ f1, f1 = putM (fun _ => (⟨0, 0⟩ : ItemV)) 0 ⟨2, 5⟩ := ⟨_, rfl⟩
  rw [← hf1] at hP
  obtain ⟨f2, hf2⟩ : ∃ f2, f2 = putM f1 (0 + 1) ⟨1, 9⟩ := ⟨_, rfl⟩
  rw [← hf2] at hP
  obtain ⟨f3, hf3⟩ : ∃ f3, f3 = putM f2 (0 + 1 + 1) ⟨1, 3⟩ := ⟨_, rfl⟩
  rw [← hf3] at hP
  have hfirst : f3 0 = ⟨1, 3⟩ := by
    obtain ⟨h1, h2⟩ := hP.first
    have h3 := h2 ⟨1, 3⟩ (by simp)
    obtain ⟨x, hx⟩ : ∃ x, f3 0 = x := ⟨_, rfl⟩
    rw [hx] at h1 h3 ⊢
    by_cases e1 : (⟨1, 3⟩ : ItemV) = x
    · exact e1.symm
    · by_cases e2 : (⟨1, 9⟩ : ItemV) = x
      · subst e2; exact absurd h3 (by decide)
      · by_cases e3 : (⟨2, 5⟩ : ItemV) = x
        · subst e3; exact absurd h3 (by decide)
        · simp [e1, e2, e3] at h1
  have HF := Lib.hid (And.intro hf1 (And.intro hf2 (And.intro hf3 hfirst)))
  clear hP hf1 hf2 hf3 hfirst
  go_enter Try.func15, Try.ntmps15
  go_upto_region 4 with (go_at_call 19; (with_reducible refine HN.out.mono ?_); rintro e w1 ⟨pb, rfl, hS1⟩; have HS1 := Lib.hid hS1; clear hS1)
  have HP1 := Lib.hid (put_kv _ _ _ _ pb 0 _ _ 2 5 HS1.out (by omega))
  rw [← HF.out.1] at HP1
  go_upto_region 5 with (go_at_call 16; (with_reducible refine HP1.out.mono ?_); rintro e w2 ⟨rfl, v2, hS2⟩; have HS2 := Lib.hid hS2; clear hS2)
  have HP2 := Lib.hid (put_kv _ _ _ _ pb _ _ _ 1 9 HS2.out (by omega))
  rw [← HF.out.2.1] at HP2
  go_upto_region 6 with (go_at_call 16; (with_reducible refine HP2.out.mono ?_); rintro e w3 ⟨rfl, v3, hS3⟩; have HS3 := Lib.hid hS3; clear hS3)
  have HP3 := Lib.hid (put_kv _ _ _ _ pb _ _ _ 1 3 HS3.out (by omega))
  rw [← HF.out.2.2.1] at HP3
  go_upto_region 7 with (go_at_call 16; (with_reducible refine HP3.out.mono ?_); rintro e w4 ⟨rfl, v4, hS4⟩; have HS4 := Lib.hid hS4; clear hS4)
  have HT := Lib.hid (take_kv _ _ _ _ pb _ _ _ 1 3 HF.out.2.2.2 HS4.out (by omega))
  clear HP1 HP2 HP3 HN
  go_upto_region 8 with (go_at_call 17; (with_reducible refine HT.out.mono ?_); rintro e w5 ⟨rfl, v5, hS5⟩; have HS5 := Lib.hid hS5; clear hS5)
  have hS6 := HS5.out.alloc #[.int .i64 1, .int .i64 3] 26
  obtain ⟨xb, hxb⟩ : ∃ xb, xb = w5.heap.size := ⟨_, rfl⟩
  generalize (w5.alloc (.cells #[.int .i64 1, .int .i64 3] 26)) = w6 at *
  rw [← hxb] at hS6 ⊢
  have c0 : w6.cell? ⟨xb, 0, none⟩ = some (.int .i64 1) := hS6.cell 0 rfl 0 rfl
  have c1 : w6.cell? ⟨xb, 1, none⟩ = some (.int .i64 3) := hS6.cell 0 rfl 1 rfl
  obtain ⟨A, c, rfl, _, _⟩ := (hS6.row 2 rfl).slice_
  have HL := Lib.hid (plen_any pb 2 c A w6 (hS6.cell 1 rfl 0 rfl))
  have HB := Lib.hid hS6.below
  clear hS6 hxb HT
  have h13 : ((1 : Int) == 1 && (3 : Int) == 3) = true := rfl
  go_wp2_with (go_at_call 18; (with_reducible refine HL.out.mono ?_); rintro e w7 ⟨rfl, rfl⟩; clear c0 c1)
  go_ret
  exact ⟨rfl, HB.out⟩
end Go.Proofs.Ytaaffahjlkfbgaa
