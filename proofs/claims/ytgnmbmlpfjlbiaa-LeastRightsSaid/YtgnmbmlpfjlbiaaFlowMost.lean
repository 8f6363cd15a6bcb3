/- The walk of flow.Most. -/
import Derived.Test.YtgnmbmlpfjlbiaaMostM
import Derived.Test.YtgnmbmlpfjlbiaaFlowAlong
import Derived.Test.YtgnmbmlpfjlbiaaFlowEnds
namespace Go.Proofs.Ytgnmbmlpfjlbiaa
open Go.ChangeShapes Go.WideShapes Go.ChangeAt Go.RowKit
set_option linter.unusedVariables false
theorem int64_info : (Try.prog.info? 2).map (fun i => (i.zero, i.size, i.bytes)) = some (some (.int .i64 0), 1, 8) := by kernel_rfl
theorem make_ints (N : Nat) (hN : N ≤ 20000) (w : World) : (Instr.makeSlice 30 (.int .i64 (N : Int)) (.int .i64 (N : Int))).run Try.prog w = .ok (.slice (some ⟨w.heap.size, 0, none⟩) N N) (w.alloc (.cells (iarr (fun _ => 0) N) 2)) := by
  obtain ⟨i, h1, h2, h3, h4⟩ := info_parts int64_info
  have := run_make (P := Try.prog) w 30 2 i _ Try.underlying30 h1 h2 .i64 .i64 N N (by omega) (by omega) (by rw [h4]; omega) (by omega)
  rw [this, h3]
  simp only [Int.toNat_natCast, Nat.mul_one]
  rw [← iarr_made]; rfl
/-- What Most answers. -/
def MostPost (W : World) (N : Nat) (ps : List PipeV) (s t : Int) (e : Ending) (w' : World) : Prop :=
  ∃ (y : Nat → Int) (sum : Int) (lb : Nat), e = .returned (.tuple #[.slice (some ⟨lb, 0, none⟩) ps.length ps.length, .int .i64 sum, .int .i64 0]) ∧ SL W W.heap.size [.blk lb (iarr y ps.length) 2] w' ∧ MostOf N ps s t y sum
theorem most_bad (N : Int) (A : Option Addr) (cap : Nat) (l : List PipeV) (s t : Int) (w : World) (hr : Pipes w w.heap.size A l) (hl : l.length ≤ maxLen) (he : endsP N l s t ≠ 0) :
    Calls Try.prog 16 #[.agg #[.int .i64 N, .slice A l.length cap], .int .i64 s, .int .i64 t] w fun e w' => e = .returned (.tuple #[.slice none 0 0, .int .i64 0, .int .i64 (endsP N l s t)]) ∧ Below w.heap.size w w' := by
  have hS0 := (SL.start (Nat.le_refl w.heap.size)).alloc #[.int .i64 N, .slice A l.length cap] 26
  have HRD : Hid (Pipes (w.alloc (.cells #[.int .i64 N, .slice A l.length cap] 26)) (w.alloc (.cells #[.int .i64 N, .slice A l.length cap] 26)).heap.size A l) := Lib.hid (reads_more (Reads.below hr hS0.below) (by simp))
  have HS0 := Lib.hid hS0
  have HL := Lib.hid hl
  obtain ⟨C, hC⟩ : ∃ C, C = endsP N l s t := ⟨_, rfl⟩
  rw [← hC] at he ⊢
  have HC := Lib.hid hC
  have hz : (C != 0) = true := by simpa using he
  clear hr hS0 hl hC he
  go_enter Try.func16, Try.ntmps16
  go_wp2_with (go_at_call 23; (with_reducible refine (endsP_any _ _ _ _ _ _ _ HRD.out HL.out).mono ?_); rintro e w2 ⟨rfl, hB⟩; rw [← HC.out]; have HS1 := Lib.hid (HS0.out.call hB); clear hB)
  go_ret3
  exact ⟨rfl, HS1.out.below⟩
set_option maxHeartbeats 4000000 in
theorem most_any (N : Nat) (A : Option Addr) (cap : Nat) (ps : List PipeV) (s t : Int) (w : World) (hr : Pipes w w.heap.size A ps) (he : endsP N ps s t = 0) :
    Calls Try.prog 16 #[.agg #[.int .i64 N, .slice A ps.length cap], .int .i64 s, .int .i64 t] w (MostPost w N ps s t) := by
  have hck : checkP N ps = 0 := by
    unfold endsP at he
    split at he
    · omega
    · omega
  have hst' : 0 ≤ s ∧ s < N ∧ 0 ≤ t ∧ t < N ∧ s ≠ t := by
    unfold endsP at he
    rw [if_neg (by omega)] at he
    split at he <;> omega
  obtain ⟨_, hN, hl, hin, _⟩ := checkP_ok hck
  rw [Int.toNat_natCast] at hin
  obtain ⟨h0, h1, ht0, ht1, hst⟩ := hst'
  have hS0 := (SL.start (Nat.le_refl w.heap.size)).alloc #[.int .i64 N, .slice A ps.length cap] 26
  have HR := Lib.hid hr
  have HRD : Hid (Pipes (w.alloc (.cells #[.int .i64 N, .slice A ps.length cap] 26)) (w.alloc (.cells #[.int .i64 N, .slice A ps.length cap] 26)).heap.size A ps) := Lib.hid (reads_more (Reads.below hr hS0.below) (by simp))
  have HS0 := Lib.hid hS0
  have HE := Lib.hid he
  have HIN := Lib.hid hin
  have HN := Lib.hid (And.intro hN (And.intro hl (And.intro h0 (And.intro h1 (And.intro ht0 (And.intro ht1 hst))))))
  have hm := make_ints ps.length hl
  clear hr hS0 he hck hin
  go_enter Try.func16, Try.ntmps16
  have hz0 : ((0 : Int) != 0) = false := rfl
  go_upto_region 5 with (go_at_call 23; (with_reducible refine (endsP_any _ _ _ _ _ _ _ HRD.out (by unfold maxLen; have := HN.out; omega)).mono ?_); rintro e w2 ⟨rfl, hB⟩; rw [HE.out]; have hS1 := HS0.out.call hB; have hy1 := hS1.cell 0 rfl 1 rfl; clear hB)
  have hS2 := hS1.alloc (iarr (fun _ => 0) ps.length) 2
  clear hy1 hm hS1
  generalize (w2.alloc (Obj.cells (iarr (fun _ => 0) ps.length) 2)) = w3 at *
  generalize w2.heap.size = lb at *
  clear HRD HS0
  obtain ⟨nb, hnb⟩ : ∃ nb, nb = w.heap.size := ⟨_, rfl⟩
  rw [← hnb] at hS2 ⊢
  have hS2' : SL w w.heap.size [.blk lb (iarr (fun _ => 0) ps.length) 2, .blk nb #[.int .i64 N, .slice A ps.length cap] 26] w3 := by rw [hnb] at hS2 ⊢; exact hS2
  clear hS2
  have HN2 : Hid (nb = w.heap.size) := Lib.hid hnb
  clear hnb
  have HWC : Hid (∀ (wx : World) (y : Nat → Int), SL w w.heap.size [.blk lb (iarr y ps.length) 2, .blk nb #[.int .i64 N, .slice A ps.length cap] 26] wx → Calls Try.prog 30 #[.agg #[.int .i64 N, .slice A ps.length cap], .slice (some ⟨lb, 0, none⟩) ps.length ps.length, .int .i64 s] wx (fun e w' => ∃ (seen : Nat → Bool) (by_ : Nat → Int × Bool) (gb gs : Nat), e = .returned (.tuple #[.slice (some ⟨gb, 0, none⟩) N N, .slice (some ⟨gs, 0, none⟩) N N]) ∧ SL w w.heap.size [.blk gs (barr seen N) 4, .blk gb (sarr by_ N) 78, .blk lb (iarr y ps.length) 2, .blk nb #[.int .i64 N, .slice A ps.length cap] 26] w' ∧ Walked N ps y s seen by_)) := Lib.hid (fun wx y hS => by
    refine (walk_any N A _ cap _ ps ((List.range ps.length).map y) s wx (reads_more (Reads.below HR.out hS.below) hS.size) (reads_iarr (hS.blk 0 rfl)) (by simp) (by have := HN.out; omega) (by have := HN.out; omega) HIN.out HN.out.2.2.1 HN.out.2.2.2.1 y (by intro k hk; simp)).mono ?_
    rintro e w5 ⟨seen, by_, gb, gs, rfl, h1, h2⟩
    exact ⟨seen, by_, gb, gs, rfl, hS.join h1, h2⟩)
  have HS2 := Lib.hid hS2'
  have cb : w3.cell? ⟨nb, 0, none⟩ = some (.int .i64 N) := hS2'.cell 1 rfl 0 rfl
  have cb1 : w3.cell? ⟨nb, 1, none⟩ = some (.slice A ps.length cap) := hS2'.cell 1 rfl 1 rfl
  clear hS2'
  go_wp2_with (go_at_call 30; (with_reducible refine (HWC.out _ _ HS2.out).mono ?_); rintro e w5 ⟨seen, by_, gb, gs, rfl, hS3, hW3⟩; have HS3 := Lib.hid (And.intro hS3 hW3); clear hS3 hW3 cb cb1)
  go_loopw [11, 12, 13] (fun vs vb vn wr => ∃ (y : Nat → Int) (sum : Int) (seen : Nat → Bool) (by_ : Nat → Int × Bool) (gb gs : Nat), vs = .int .i64 sum ∧ vb = .slice (some ⟨gb, 0, none⟩) N N ∧ vn = .slice (some ⟨gs, 0, none⟩) N N ∧ SL w w.heap.size [.blk gs (barr seen N) 4, .blk gb (sarr by_ N) 78, .blk lb (iarr y ps.length) 2, .blk nb #[.int .i64 N, .slice A ps.length cap] 26] wr ∧ Walked N ps y s seen by_ ∧ FlowOf ps s t y sum) (fun vs _ _ _ => (rooms ps - intOf vs).toNat)
  case atStart => exact ⟨_, 0, seen, by_, gb, gs, rfl, rfl, rfl, HS3.out.1, HS3.out.2, flow_zero HIN.out⟩
  case round =>
    clear HS3 HS2
    obtain ⟨y, sum, seen, by_, gb, gs, rfl, rfl, rfl, hS, hW, hF⟩ := hrel
    have HF := Lib.hid hF
    have HW := Lib.hid hW
    have HS := Lib.hid hS
    have hh := HN.out
    have hc := hS.cell 0 rfl t.toNat (barr_get _ _ _ (by omega))
    obtain ⟨p1, p2, _⟩ := inn_le HIN.out hF.feas t
    rw [hF.amount] at p1
    have p3 := hF.pos
    clear hh hF hW
    cases hst : seen t.toNat
    · rw [hst] at hc
      clear hS
      have HST := Lib.hid hst
      clear hst
      go_wp2
      go_ret3
      exact ⟨y, sum, lb, rfl, HS.out.sub (by simp), HF.out, seen, by_, HW.out, HST.out⟩
    · rw [hst] at hc
      have HST := Lib.hid hst
      have cb : wr.cell? ⟨nb, 0, none⟩ = some (.int .i64 N) := hS.cell 3 rfl 0 rfl
      have cb1 : wr.cell? ⟨nb, 1, none⟩ = some (.slice A ps.length cap) := hS.cell 3 rfl 1 rfl
      clear hst hS
      have hRo : rooms ps ≤ 1099511627776 * (20000 : Nat) := by have := HN.out; omega
      go_wp2_with (first
        | (go_at_call 31; (with_reducible refine (along_any N A cap ps.length ps s t w _ w.heap.size 2 1 lb gb _ y by_ seen HR.out (by have := HN.out; omega) (by have := HN.out; omega) HIN.out HN.out.2.2.1 HN.out.2.2.2.1 HN.out.2.2.2.2.1 HN.out.2.2.2.2.2.1 HN.out.2.2.2.2.2.2 HW.out HST.out HF.out.feas HS.out rfl rfl).mono ?_); rintro e w5 ⟨d, z, rfl, hS4, q1, q2, q3, q4⟩; have hF2 := flow_more HF.out HN.out.2.2.2.2.2.2 q1 q3 q4; have p4 := (inn_le HIN.out q3 t).1; rw [hF2.amount] at p4; have HF2 := Lib.hid hF2; have HS4 : Hid (SL w w.heap.size [.blk lb (iarr z ps.length) 2, .blk nb #[.int .i64 N, .slice A ps.length cap] 26] w5) := Lib.hid hS4.tail.tail; have cb2 := HS4.out.cell 1 rfl 0 rfl; have cb3 := HS4.out.cell 1 rfl 1 rfl; clear hS4 q3 q4 hF2)
        | (go_at_call 30; (with_reducible refine (HWC.out _ _ HS4.out).mono ?_); rintro e w6 ⟨seen', by', gb', gs', rfl, hS5, hW5⟩; have HS5 := Lib.hid (And.intro hS5 hW5); clear hS5 hW5 cb cb1 cb2 cb3))
      go_roundw
      case rel => exact ⟨_, _, seen', by', gb', gs', rfl, rfl, rfl, HS5.out.1, HS5.out.2, HF2.out⟩
      case measure => simp only [intOf]; omega
end Go.Proofs.Ytgnmbmlpfjlbiaa
