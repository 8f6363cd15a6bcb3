/- law09.Awake: it answers true. -/
import Derived.Test.YtgnmbmlpfjlbiaaFlowCut
import Derived.Test.YtgnmbmlpfjlbiaaEqual
namespace Go.Proofs.Ytgnmbmlpfjlbiaa
open Go.ChangeShapes Go.WideShapes Go.ChangeAt Go.RowKit
set_option linter.unusedVariables false
theorem reads_blk {w : World} {b : Nat} {cs : Array Value} {t : TypeId} {size n : Nat} (hg : w.heap[b]? = some (.cells cs t (0, 0))) (hn : cs.size = n * size) : Reads w w.heap.size size (some ⟨b, 0, none⟩) n cs.toList :=
  ⟨by simpa using hn, fun _ => ⟨_, rfl, (Array.getElem?_eq_some_iff.1 hg).1, fun j u hu => by rw [Addr.add_mid, Nat.zero_add, cell_of_row _ _ _ _ _ _ hg]; simpa using hu⟩⟩
def exPipes : List PipeV := [⟨0, 1, 3, 0⟩, ⟨1, 2, 2, 0⟩, ⟨0, 2, 1, 0⟩]
theorem ex_in : InP 3 exPipes := by
  intro p hp
  simp only [exPipes, List.mem_cons, List.mem_nil_iff, or_false] at hp
  rcases hp with rfl | rfl | rfl <;> decide
theorem ex_ends : endsP 3 exPipes 0 2 = 0 := by decide
theorem ex_inn (y : Nat → Int) (v : Int) : inn exPipes y v = ((if (1 : Int) = v then y 0 else 0) - (if (0 : Int) = v then y 0 else 0)) + ((if (2 : Int) = v then y 1 else 0) - (if (1 : Int) = v then y 1 else 0)) + ((if (2 : Int) = v then y 2 else 0) - (if (0 : Int) = v then y 2 else 0)) := by
  unfold inn
  show innK exPipes y v 3 = _
  simp only [innK, cont, exPipes, List.length_cons, List.length_nil]
  simp
  first | done | rfl | (repeat' split) <;> omega
theorem ex_most {y : Nat → Int} {sum : Int} (h : MostOf 3 exPipes 0 2 y sum) : y 0 = 2 ∧ y 1 = 2 ∧ y 2 = 1 ∧ sum = 3 := by
  obtain ⟨hf, seen, by_, hW, ht⟩ := h
  have f0 := hf.feas 0 (by decide)
  have f1 := hf.feas 1 (by decide)
  have f2 := hf.feas 2 (by decide)
  have k1 := hf.kept 1 (by decide) (by decide)
  have k2 := hf.amount
  rw [ex_inn] at k1 k2
  simp [exPipes] at f0 f1 f2 k1 k2
  have hns : ¬ Rch (resArcs exPipes y) 0 2 := by
    intro hr
    have := (hW.rch 2 (by decide)).2 hr
    rw [show ((2 : Int).toNat) = 2 from rfl] at ht
    rw [ht] at this; cases this
  have e2 : y 2 = 1 := by
    rcases (show y 2 < 1 ∨ y 2 = 1 by omega) with h | h
    · exact absurd (Rch.step (a := ⟨0, 2, 0⟩) .refl (res_fwd (ps := exPipes) (k := 2) (by decide) h)) hns
    · exact h
  have e1 : y 1 = 2 := by
    rcases (show y 1 < 2 ∨ y 1 = 2 by omega) with h | h
    · have h1 : Rch (resArcs exPipes y) 0 1 := Rch.step (a := ⟨0, 1, 0⟩) .refl (res_fwd (ps := exPipes) (k := 0) (by decide) (show y 0 < 3 by omega))
      exact absurd (Rch.step (a := ⟨1, 2, 0⟩) h1 (res_fwd (ps := exPipes) (k := 1) (by decide) h)) hns
    · exact h
  omega
theorem ex_seen {y : Nat → Int} {seen : Nat → Bool} {by_ : Nat → Int × Bool} (h0 : y 0 = 2) (h1 : y 1 = 2) (h2 : y 2 = 1) (h : Walked 3 exPipes y 0 seen by_) : seen 0 = true ∧ seen 1 = true ∧ seen 2 = false := by
  have a1 : Rch (resArcs exPipes y) 0 1 := Rch.step (a := ⟨0, 1, 0⟩) .refl (res_fwd (ps := exPipes) (k := 0) (by decide) (show y 0 < 3 by omega))
  refine ⟨h.start, (h.rch 1 (by decide)).2 a1, ?_⟩
  cases hs : seen 2
  · rfl
  · exfalso
    have hr := (h.rch 2 (by decide)).1 hs
    have key : ∀ x : Int, Rch (resArcs exPipes y) 0 x → x = 0 ∨ x = 1 := by
      intro x hx
      induction hx with
      | refl => exact .inl rfl
      | @step a h ha ih =>
        obtain ⟨k, hk, hc⟩ := res_cases ha
        have hk3 : k < 3 := hk
        rcases (show k = 0 ∨ k = 1 ∨ k = 2 by omega) with rfl | rfl | rfl
        · rcases hc with ⟨c1, c2, c3⟩ | ⟨c1, c2, c3⟩
          · right; rw [c2]; rfl
          · left; rw [c2]; rfl
        · rcases hc with ⟨c1, c2, c3⟩ | ⟨c1, c2, c3⟩
          · have : y 1 < 2 := c3
            omega
          · right; rw [c2]; rfl
        · rcases hc with ⟨c1, c2, c3⟩ | ⟨c1, c2, c3⟩
          · have : y 2 < 1 := c3
            omega
          · left; rw [c2]; rfl
    have := key _ hr
    omega
theorem barr3 (f : Nat → Bool) : barr f 3 = #[.bool (f 0), .bool (f 1), .bool (f 2)] := by rfl
set_option maxHeartbeats 1000000 in
theorem awake09 (w : World) : Calls Try.prog 13 #[] w fun e w' => e = .returned (.bool true) ∧ Below w.heap.size w w' := by
  go_enter Try.func13, Try.ntmps13
  go_upto_region 2 with fail
  have hS0 := ((SL.start (Nat.le_refl w.heap.size)).alloc #[.int .i64 0, .int .i64 1, .int .i64 3, .int .i64 0, .int .i64 1, .int .i64 2, .int .i64 2, .int .i64 0, .int .i64 0, .int .i64 2, .int .i64 1, .int .i64 0] 40).alloc #[.int .i64 3, .slice (some ⟨w.heap.size, 0, none⟩) 3 3] 26
  rw [show ∀ o : Obj, (w.alloc o).heap.size = w.heap.size + 1 from fun o => by simp] at hS0
  generalize ((w.alloc (Obj.cells #[.int .i64 0, .int .i64 1, .int .i64 3, .int .i64 0, .int .i64 1, .int .i64 2, .int .i64 2, .int .i64 0, .int .i64 0, .int .i64 2, .int .i64 1, .int .i64 0] 40)).alloc (Obj.cells #[.int .i64 3, .slice (some ⟨w.heap.size, 0, none⟩) 3 3] 26)) = w1 at *
  have HM : Hid (Calls Try.prog 16 #[.agg #[.int .i64 3, .slice (some ⟨w.heap.size, 0, none⟩) 3 3], .int .i64 0, .int .i64 2] w1 (MostPost w1 3 exPipes 0 2)) := Lib.hid (most_any 3 _ 3 exPipes 0 2 w1 (reads_blk (size := 4) (n := 3) (hS0.blk 1 rfl) rfl) ex_ends)
  have HS0 := Lib.hid hS0
  have c0 : w1.cell? ⟨w.heap.size + 1, 0, none⟩ = some (.int .i64 3) := hS0.cell 0 rfl 0 rfl
  have c1 : w1.cell? ⟨w.heap.size + 1, 1, none⟩ = some (.slice (some ⟨w.heap.size, 0, none⟩) 3 3) := hS0.cell 0 rfl 1 rfl
  clear hS0
  go_upto_region 3 with (go_at_call 16; (with_reducible refine HM.out.mono ?_); rintro e w2 ⟨y, sum, lb, rfl, hS2, hM⟩; obtain ⟨y0, y1, y2, rfl⟩ := ex_most hM; rw [show exPipes.length = 3 from rfl] at hS2 ⊢; have HS2 := Lib.hid (HS0.out.join hS2); clear hS2 hM)
  have hS3 := HS2.out.alloc #[.int .i64 2, .int .i64 2, .int .i64 1] 2
  have hl : (List.range 3).map y = [2, 2, 1] := by simp [List.range_succ, y0, y1, y2]
  have hR := reads_iarr (hS3.blk 1 rfl)
  rw [hl] at hR
  have HE := Lib.hid (equal_int64s _ _ 3 3 [2, 2, 1] _ hR (reads_blk (size := 1) (n := 3) (hS3.blk 0 rfl) rfl) (by unfold maxLen; decide))
  have HY := Lib.hid (And.intro y0 (And.intro y1 y2))
  have HS3 := Lib.hid hS3
  have HL := Lib.hid hl
  clear hS3 hR hl y0 y1 y2
  go_wp2_with (first
    | (go_at_call 29; (refine HE.out.mono ?_); rintro e w3 ⟨rfl, hB⟩
       have hS4 := HS3.out.call hB
       have d0 := hS4.cell 2 rfl 0 rfl
       have d1 := hS4.cell 2 rfl 1 rfl
       have hR2 := reads_iarr (hS4.blk 1 rfl)
       rw [HL.out] at hR2
       have HC := Lib.hid (cut_any 3 (some ⟨w.heap.size, 0, none⟩) (some ⟨lb, 0, none⟩) 3 3 exPipes [2, 2, 1] 0 w3 (reads_blk (size := 4) (n := 3) (hS4.blk 3 rfl) rfl) hR2 rfl (by decide) (by decide) (by decide) y (by
         intro k hk
         have hk3 : k < 3 := hk
         obtain ⟨y0, y1, y2⟩ := HY.out
         rcases (show k = 0 ∨ k = 1 ∨ k = 2 by omega) with rfl | rfl | rfl
         · exact y0.symm
         · exact y1.symm
         · exact y2.symm))
       have HS4 := Lib.hid hS4
       clear hS4 hB hR2)
    | (go_at_call 20; (refine HC.out.mono ?_); rintro e w4 ⟨seen, by_, gs, rfl, hS5, hW⟩
       obtain ⟨s0, s1, s2⟩ := ex_seen HY.out.1 HY.out.2.1 HY.out.2.2 hW
       have hS6 := (HS4.out.join hS5).alloc #[.bool true, .bool true, .bool false] 4
       have e1 : barr seen 3 = #[.bool true, .bool true, .bool false] := by rw [barr3, s0, s1, s2]
       have hq1 := reads_blk (size := 1) (n := 3) (hS6.blk 1 rfl) (by rw [e1]; rfl)
       rw [e1] at hq1
       have HE2 := Lib.hid (equal_bools _ _ 3 3 [true, true, false] _ hq1 (reads_blk (size := 1) (n := 3) (hS6.blk 0 rfl) rfl) (by unfold maxLen; decide))
       have HS6 := Lib.hid hS6
       clear hS5 hS6 e1 hq1 hW s0 s1 s2)
    | (go_at_call 19; (refine HE2.out.mono ?_); rintro e w5 ⟨rfl, hB⟩
       have HS7 := Lib.hid (HS6.out.call hB)
       clear hB))
  go_ret
  exact ⟨rfl, HS7.out.below⟩
end Go.Proofs.Ytgnmbmlpfjlbiaa
