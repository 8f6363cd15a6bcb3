/- law10.Awake: it answers true. -/
import Derived.Test.YtgnmbmlpfjlbiaaLeastV
import Derived.Test.YtgnmbmlpfjlbiaaDual
import Derived.Test.YtgnmbmlpfjlbiaaFlowAwake
namespace Go.Proofs.Ytgnmbmlpfjlbiaa
open Go.ChangeShapes Go.WideShapes Go.ChangeAt Go.RowKit
set_option linter.unusedVariables false
def ex10 : List PipeV := [⟨0, 1, 2, 1⟩, ⟨0, 1, 2, 5⟩]
theorem ex10_ends : endsP (2 : Nat) ex10 (0 : Nat) (1 : Nat) = 0 := by decide
theorem ex10_costs : Costs ex10 := by
  intro p hp
  simp only [ex10, List.mem_cons, List.mem_nil_iff, or_false] at hp
  rcases hp with rfl | rfl <;> decide
theorem ex10_inn (y : Nat → Int) : inn ex10 y 1 = y 0 + y 1 := by
  unfold inn
  show innK ex10 y 1 2 = _
  simp only [innK, cont, ex10, List.length_cons, List.length_nil]
  simp
theorem ex10_most {y : Nat → Int} {sum : Int} (h : MostOf 2 ex10 (0 : Nat) (1 : Nat) y sum) : sum = 4 := by
  obtain ⟨hf, seen, by_, hW, ht⟩ := h
  have f0 := hf.feas 0 (by decide)
  have f1 := hf.feas 1 (by decide)
  have k2 := hf.amount
  rw [show ((1 : Nat) : Int) = 1 from rfl, ex10_inn] at k2
  simp [ex10] at f0 f1
  have hns : ¬ Rch (resArcs ex10 y) 0 1 := by
    intro hr
    have := (hW.rch 1 (by decide)).2 hr
    rw [show (((1 : Nat) : Int).toNat) = 1 from rfl] at ht
    rw [ht] at this; cases this
  have e0 : y 0 = 2 := by
    rcases (show y 0 < 2 ∨ y 0 = 2 by omega) with h | h
    · exact absurd (Rch.step (a := ⟨0, 1, 0⟩) .refl (res_fwd (ps := ex10) (k := 0) (by decide) h)) hns
    · exact h
  have e1 : y 1 = 2 := by
    rcases (show y 1 < 2 ∨ y 1 = 2 by omega) with h | h
    · exact absurd (Rch.step (a := ⟨0, 1, 0⟩) .refl (res_fwd (ps := ex10) (k := 1) (by decide) h)) hns
    · exact h
  omega
theorem ex10_opt {y h : Nat → Int} (hO : Opt 2 ex10 0 1 y h 3) : y 0 = 2 ∧ y 1 = 1 ∧ h 0 = 0 ∧ h 1 = 5 ∧ costF ex10 y = 7 := by
  have f0 := hO.flow.feas 0 (by decide)
  have f1 := hO.flow.feas 1 (by decide)
  have k2 := hO.flow.amount
  rw [show ((1 : Nat) : Int) = 1 from rfl, ex10_inn] at k2
  have t0 := hO.tight 0 (by decide)
  have t1 := hO.tight 1 (by decide)
  have hs := hO.hs
  simp [ex10] at f0 f1 t0 t1
  have hc : costF ex10 y = y 0 * 1 + y 1 * 5 := by
    unfold costF
    show costK ex10 y 2 = _
    simp [costK, ex10]
  rw [hc]
  have key : y 0 = 2 ∧ y 1 = 1 ∧ h 1 = 5 := by
    rcases (show y 0 = 2 ∨ y 0 = 1 by omega) with h0 | h0
    · have a := t1.1 (by omega)
      have b := t1.2 (by omega)
      exact ⟨h0, by omega, by omega⟩
    · have a := t0.1 (by omega)
      have b := t1.2 (by omega)
      omega
  obtain ⟨a, b, c⟩ := key
  rw [a, b]
  exact ⟨rfl, rfl, hs, c, rfl⟩
set_option maxHeartbeats 2000000 in
theorem awake10 (w : World) : Calls Try.prog 24 #[] w fun e w' => e = .returned (.bool true) ∧ Below w.heap.size w w' := by
  go_enter Try.func24, Try.ntmps24
  go_upto_region 2 with fail
  have hS0 := ((SL.start (Nat.le_refl w.heap.size)).alloc #[.int .i64 0, .int .i64 1, .int .i64 2, .int .i64 1, .int .i64 0, .int .i64 1, .int .i64 2, .int .i64 5] 40).alloc #[.int .i64 2, .slice (some ⟨w.heap.size, 0, none⟩) 2 2] 26
  rw [show ∀ o : Obj, (w.alloc o).heap.size = w.heap.size + 1 from fun o => by simp] at hS0
  generalize ((w.alloc (Obj.cells #[.int .i64 0, .int .i64 1, .int .i64 2, .int .i64 1, .int .i64 0, .int .i64 1, .int .i64 2, .int .i64 5] 40)).alloc (Obj.cells #[.int .i64 2, .slice (some ⟨w.heap.size, 0, none⟩) 2 2] 26)) = w1 at *
  have HM : Hid (Calls Try.prog 25 #[.agg #[.int .i64 2, .slice (some ⟨w.heap.size, 0, none⟩) 2 2], .int .i64 0, .int .i64 1, .int .i64 3] w1 (LeastPost w1 2 ex10 0 1 3)) := Lib.hid (least_any 2 _ 2 ex10 0 1 3 w1 (reads_blk (size := 4) (n := 2) (hS0.blk 1 rfl) rfl) ex10_ends (by decide) (by decide) ex10_costs (by decide))
  have HS0 := Lib.hid hS0
  have c0 : w1.cell? ⟨w.heap.size + 1, 0, none⟩ = some (.int .i64 2) := hS0.cell 0 rfl 0 rfl
  have c1 : w1.cell? ⟨w.heap.size + 1, 1, none⟩ = some (.slice (some ⟨w.heap.size, 0, none⟩) 2 2) := hS0.cell 0 rfl 1 rfl
  clear hS0
  go_upto_region 3 with (go_at_call 25; (with_reducible refine HM.out.mono ?_); rintro e w2 (⟨y, sum, _, _, hM, hlt⟩ | ⟨y, h, fb, hb, rfl, hS2, hO⟩)
                         · have := ex10_most hM
                           omega
                         obtain ⟨y0, y1, z0, z1, hcc⟩ := ex10_opt hO
                         rw [hcc, show ex10.length = 2 from rfl] at *
                         have hS3 := (HS0.out.join hS2)
                         have hl : (List.range 2).map y = [2, 1] := by simp [List.range_succ, y0, y1]
                         have hl2 : (List.range 2).map h = [0, 5] := by simp [List.range_succ, z0, z1]
                         have HY := Lib.hid (And.intro hl hl2)
                         clear hS2 hO y0 y1 z0 z1 hl hl2 hcc)
  have hS4 := hS3.alloc #[.slice (some ⟨fb, 0, none⟩) 2 2, .int .i64 7, .slice (some ⟨hb, 0, none⟩) 2 2] 49
  clear c0 c1 hS3
  obtain ⟨rb, hrb⟩ : ∃ rb, rb = w2.heap.size := ⟨_, rfl⟩
  generalize (w2.alloc (.cells #[.slice (some ⟨fb, 0, none⟩) 2 2, .int .i64 7, .slice (some ⟨hb, 0, none⟩) 2 2] 49)) = w3 at *
  rw [← hrb] at hS4 ⊢
  clear hrb
  have r0 : w3.cell? ⟨rb, 0, none⟩ = some (.slice (some ⟨fb, 0, none⟩) 2 2) := hS4.cell 0 rfl 0 rfl
  have r1 : w3.cell? ⟨rb, 1, none⟩ = some (.int .i64 7) := hS4.cell 0 rfl 1 rfl
  have hS5 := hS4.alloc #[.int .i64 2, .int .i64 1] 2
  have hR := reads_iarr (hS5.blk 2 rfl)
  rw [HY.out.1] at hR
  have HE := Lib.hid (equal_int64s _ _ 2 2 [2, 1] _ hR (reads_blk (size := 1) (n := 2) (hS5.blk 0 rfl) rfl) (by unfold maxLen; decide))
  have HS5 := Lib.hid hS5
  clear hS4 hS5 hR
  go_wp2_with (first
    | (go_at_call 29; (refine HE.out.mono ?_); rintro e w4 ⟨rfl, hB⟩
       have hS6 := HS5.out.call hB
       have r2 : w4.cell? ⟨rb, 2, none⟩ = some (.slice (some ⟨hb, 0, none⟩) 2 2) := hS6.cell 1 rfl 2 rfl
       have hS7 := hS6.alloc #[.int .i64 0, .int .i64 5] 2
       have hR2 := reads_iarr (hS7.blk 4 rfl)
       rw [HY.out.2] at hR2
       have HE2 := Lib.hid (equal_int64s _ _ 2 2 [0, 5] _ hR2 (reads_blk (size := 1) (n := 2) (hS7.blk 0 rfl) rfl) (by unfold maxLen; decide))
       have HS7 := Lib.hid hS7
       clear hS6 hS7 hB hR2 HE r0 r1)
    | (go_at_call 29; (refine HE2.out.mono ?_); rintro e w5 ⟨rfl, hB⟩
       have HS8 := Lib.hid (HS7.out.call hB)
       clear hB))
  go_ret
  exact ⟨rfl, HS8.out.below⟩
end Go.Proofs.Ytgnmbmlpfjlbiaa
