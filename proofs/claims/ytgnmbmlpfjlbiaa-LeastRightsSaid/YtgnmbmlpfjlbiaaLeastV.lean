/- The walk of least.Least where nothing stands against it. -/
import Derived.Test.YtgnmbmlpfjlbiaaLeastW
namespace Go.Proofs.Ytgnmbmlpfjlbiaa
open Go.ChangeShapes Go.WideShapes Go.ChangeAt Go.RowKit
set_option linter.unusedVariables false
/-- What Least answers: so much flows as cheap as can be; or not so much can flow. -/
def LeastPost (W : World) (N : Nat) (ps : List PipeV) (s t : Nat) (want : Int) (e : Ending) (w' : World) : Prop :=
  (∃ (y : Nat → Int) (sum : Int), e = .returned (.tuple #[NoRes, .int .i64 8]) ∧ Below W.heap.size W w' ∧ MostOf N ps s t y sum ∧ sum < want) ∨
  (∃ (y h : Nat → Int) (fb hb : Nat), e = .returned (.tuple #[.agg #[.slice (some ⟨fb, 0, none⟩) ps.length ps.length, .int .i64 (costF ps y), .slice (some ⟨hb, 0, none⟩) N N], .int .i64 0]) ∧ SL W W.heap.size [.blk fb (iarr y ps.length) 2, .blk hb (iarr h N) 2] w' ∧ Opt N ps s t y h want)
set_option maxRecDepth 100000 in
set_option maxHeartbeats 8000000 in
theorem least_any (N : Nat) (A : Option Addr) (cap : Nat) (ps : List PipeV) (s t : Nat) (want : Int) (w : World) (hr : Pipes w w.heap.size A ps) (he : endsP N ps s t = 0) (hw0 : 0 ≤ want) (hw1 : want ≤ 10000) (hC : Costs ps) (hNL : N * (2 * ps.length + 1) + 2 ≤ 800000) :
    Calls Try.prog 25 #[.agg #[.int .i64 N, .slice A ps.length cap], .int .i64 (s : Int), .int .i64 (t : Int), .int .i64 want] w (LeastPost w N ps s t want) := by
  have hck : checkP N ps = 0 := by
    unfold endsP at he
    split at he
    · omega
    · omega
  have hst' : (s : Int) < N ∧ (t : Int) < N ∧ (s : Int) ≠ t := by
    unfold endsP at he
    rw [if_neg (by omega)] at he
    split at he <;> omega
  obtain ⟨_, hN0, hlen, hin, _⟩ := checkP_ok hck
  rw [Int.toNat_natCast] at hin
  have hN : N ≤ 1000 := by omega
  have hsN : s < N := by omega
  have htN : t < N := by omega
  have hst : s ≠ t := by omega
  have hbad : ¬ ∃ p ∈ ps, badC p.cost = true := fun ⟨p, hp, hb⟩ => by
    have h1 := hC p hp
    unfold badC at hb
    have h2 := of_decide_eq_true hb
    unfold DearI at h1
    omega
  have HE := Lib.hid (And.intro he (And.intro hbad (And.intro hin (And.intro hC hNL))))
  have hS0 := ((SL.start (Nat.le_refl w.heap.size)).alloc #[.int .i64 N, .slice A ps.length cap] 26).alloc #[.slice none 0 0, .int .i64 0, .slice none 0 0] 49
  have e1 : (w.alloc (.cells #[.int .i64 N, .slice A ps.length cap] 26)).heap.size = w.heap.size + 1 := Array.size_push _
  rw [e1] at hS0
  have HR0 := Lib.hid hr
  have HR : Hid (∀ (rs : List Rs) w', SL w w.heap.size rs w' → Pipes w' w'.heap.size A ps) := Lib.hid (fun rs w' h => reads_more (Reads.below hr h.below) h.below.size)
  clear hr e1 he hck hst' hN0 hin hbad hC hNL
  have hz : ((0 : Int) != 0) = false := rfl
  go_enter Try.func25, Try.ntmps25
  go_upto_region 1 with fail
  generalize ((w.alloc (.cells #[.int .i64 N, .slice A ps.length cap] 26)).alloc (.cells #[.slice none 0 0, .int .i64 0, .slice none 0 0] 49)) = w0 at *
  obtain ⟨zb, hzb⟩ : ∃ zb, zb = w.heap.size + 1 := ⟨_, rfl⟩
  rw [← hzb] at hS0 ⊢
  clear hzb
  obtain ⟨nb, hnb⟩ : ∃ nb, nb = w.heap.size := ⟨_, rfl⟩
  have HNB := Lib.hid hnb
  have hS0' : SL w w.heap.size [.blk zb #[.slice none 0 0, .int .i64 0, .slice none 0 0] 49, .blk nb #[.int .i64 N, .slice A ps.length cap] 26] w0 := by rw [hnb]; exact hS0
  clear hS0
  have HS0 := Lib.hid hS0'
  clear hS0'
  rw [← hnb]
  clear hnb
  have c0 : w0.cell? ⟨nb, 0, none⟩ = some (.int .i64 N) := HS0.out.cell 1 rfl 0 rfl
  have c1 : w0.cell? ⟨nb, 1, none⟩ = some (.slice A ps.length cap) := HS0.out.cell 1 rfl 1 rfl
  go_upto_region 4 with (go_at_call 23; (with_reducible refine (endsP_any _ _ _ _ _ _ _ (HR.out _ _ HS0.out) (by unfold maxLen; omega)).mono ?_); rintro e w2 ⟨rfl, hB⟩; rw [HE.out.1]
                         have HS1 := Lib.hid (HS0.out.call hB)
                         have c2 : w2.cell? ⟨nb, 1, none⟩ = some (.slice A ps.length cap) := HS1.out.cell 1 rfl 1 rfl
                         clear hB c0 c1)
  have g1d : decide (want < 0) = false := decide_eq_false (by omega)
  have g2d : decide (10000 < want) = false := decide_eq_false (by omega)
  have HCD := Lib.hid (contains_dear A cap ps w2 (HR.out _ _ HS1.out) hlen)
  go_upto_region 6 with (go_at_call 34; (with_reducible refine HCD.out.mono ?_); rintro e w3 ⟨⟨b, rfl, hb⟩, hB⟩
                         obtain rfl : b = false := (by cases b; · rfl
                                                       · exact absurd (hb.1 rfl) HE.out.2.1)
                         have HS2 := Lib.hid (HS1.out.call hB)
                         clear hB hb c2)
  clear g1d g2d HCD HS1 HS0
  have hS := HS2.out
  clear HS2
  go_cut [11] (fun s11 wx => ∃ rb fb hb, s11 = .pointer (some ⟨rb, 0, none⟩) ∧ SL w w.heap.size (.blk rb (runCells N ps.length cap A fb hb 0 (.slice none 0 0) (.slice none 0 0)) 73 :: .blk fb (iarr (fun _ => 0) ps.length) 2 :: .blk hb (iarr (fun _ => 0) N) 2 :: [.blk zb #[.slice none 0 0, .int .i64 0, .slice none 0 0] 49, .blk nb #[.int .i64 N, .slice A ps.length cap] 26]) wx)
  case first =>
    have hm1 := make_ints ps.length hlen
    have hm2 := make_ints N (by omega)
    refine wp_region_kb [0,1,2,3,5,6] [4,7,8,9,10] [11] (fun w' => w'.cell? ⟨nb, 0, none⟩ = some (.int .i64 (N : Int)) ∧ w'.cell? ⟨nb, 1, none⟩ = some (.slice A ps.length cap)) ⟨hS.drew.cell 1 rfl 0 rfl, hS.drew.cell 1 rfl 1 rfl⟩ (by kernel_rfl) (by kernel_rfl) (.cons rfl .nil) (fun C cw _ hC => ?_)
    have q0 : ∀ c, (cw c).cell? ⟨nb, 0, none⟩ = some (.int .i64 (N : Int)) := fun c => (hC c).1
    have q1 : ∀ c, (cw c).cell? ⟨nb, 1, none⟩ = some (.slice A ps.length cap) := fun c => (hC c).2
    clear hC
    repeat (first | (refine pl_len _ _ _ _ _ (by kernel_rfl) rfl rfl rfl rfl (fun Kv hK => ?_); go_simp; refine hK _ ?_; clear hK Kv) | (refine pl_look rfl rfl rfl (fun Kv hK => ?_); go_big_quiet_op; refine hK _ ?_; clear hK Kv))
    clear q0 q1
    have hS1 := hS.drew
    clear hS
    generalize w3.drew = w4 at *
    refine pl_end ?_
    refine pb_two 4 7 (by kernel_rfl) (by kernel_rfl) (by kernel_rfl) ?_ ?_
    · skip
      refine kOp_eff rfl rfl fun Kv hK => ?_
      go_simp
      have hT1 := hS1.alloc (iarr (fun _ => 0) ps.length) 2
      (try simp only [show ∀ (w : World) (o : Obj), (w.alloc o).heap.size = w.heap.size + 1 from fun w o => by simp] at hT1)
      refine ⟨⟨hT1.cell 2 rfl 0 rfl, hT1.cell 2 rfl 1 rfl⟩, hK _ _ ?_⟩
      clear hK Kv
      refine pb_one 7 (by kernel_rfl) (by kernel_rfl) ?_
      refine kOp_eff rfl rfl fun Kv hK => ?_
      go_simp
      have hT2 := hT1.alloc (iarr (fun _ => 0) N) 2
      (try simp only [show ∀ (w : World) (o : Obj), (w.alloc o).heap.size = w.heap.size + 1 from fun w o => by simp] at hT2)
      refine ⟨⟨hT2.cell 3 rfl 0 rfl, hT2.cell 3 rfl 1 rfl⟩, hK _ _ ?_⟩
      clear hK Kv
      refine pb_one 8 (by kernel_rfl) (by kernel_rfl) ?_
      refine kOp_eff rfl rfl fun Kv hK => ?_
      go_simp
      refine ⟨⟨hT2.cell 3 rfl 0 rfl, hT2.cell 3 rfl 1 rfl⟩, hK _ _ ?_⟩
      clear hK Kv
      refine pb_one 9 (by kernel_rfl) (by kernel_rfl) ?_
      refine kOp_eff rfl rfl fun Kv hK => ?_
      go_simp
      refine ⟨⟨hT2.cell 3 rfl 0 rfl, hT2.cell 3 rfl 1 rfl⟩, hK _ _ ?_⟩
      clear hK Kv
      refine pb_one 10 (by kernel_rfl) (by kernel_rfl) ?_
      refine kOp_eff rfl rfl fun Kv hK => ?_
      go_simp
      have hT3 := hT2.alloc (runCells N ps.length cap A w4.heap.size (w4.heap.size + 1) 0 (.slice none 0 0) (.slice none 0 0)) 73
      (try simp only [show ∀ (w : World) (o : Obj), (w.alloc o).heap.size = w.heap.size + 1 from fun w o => by simp] at hT3)
      refine ⟨⟨hT3.cell 4 rfl 0 rfl, hT3.cell 4 rfl 1 rfl⟩, hK _ _ ?_⟩
      clear hK Kv
      refine pb_end (by kernel_rfl) ?_
      have HT := Lib.hid hT3
      clear hT1 hT2 hT3 hS1 hm1 hm2
      go_wp2_with fail
      go_meet
      exact ⟨_, w4.heap.size, (w4.heap.size + 1), rfl, HT.out.perm (.cons _ (.swap _ _ _))⟩
    · skip
      refine kOp_eff rfl rfl fun Kv hK => ?_
      go_simp
      have hT1 := hS1.alloc (iarr (fun _ => 0) N) 2
      (try simp only [show ∀ (w : World) (o : Obj), (w.alloc o).heap.size = w.heap.size + 1 from fun w o => by simp] at hT1)
      refine ⟨⟨hT1.cell 2 rfl 0 rfl, hT1.cell 2 rfl 1 rfl⟩, hK _ _ ?_⟩
      clear hK Kv
      refine pb_one 4 (by kernel_rfl) (by kernel_rfl) ?_
      refine kOp_eff rfl rfl fun Kv hK => ?_
      go_simp
      have hT2 := hT1.alloc (iarr (fun _ => 0) ps.length) 2
      (try simp only [show ∀ (w : World) (o : Obj), (w.alloc o).heap.size = w.heap.size + 1 from fun w o => by simp] at hT2)
      refine ⟨⟨hT2.cell 3 rfl 0 rfl, hT2.cell 3 rfl 1 rfl⟩, hK _ _ ?_⟩
      clear hK Kv
      refine pb_one 8 (by kernel_rfl) (by kernel_rfl) ?_
      refine kOp_eff rfl rfl fun Kv hK => ?_
      go_simp
      refine ⟨⟨hT2.cell 3 rfl 0 rfl, hT2.cell 3 rfl 1 rfl⟩, hK _ _ ?_⟩
      clear hK Kv
      refine pb_one 9 (by kernel_rfl) (by kernel_rfl) ?_
      refine kOp_eff rfl rfl fun Kv hK => ?_
      go_simp
      refine ⟨⟨hT2.cell 3 rfl 0 rfl, hT2.cell 3 rfl 1 rfl⟩, hK _ _ ?_⟩
      clear hK Kv
      refine pb_one 10 (by kernel_rfl) (by kernel_rfl) ?_
      refine kOp_eff rfl rfl fun Kv hK => ?_
      go_simp
      have hT3 := hT2.alloc (runCells N ps.length cap A (w4.heap.size + 1) w4.heap.size 0 (.slice none 0 0) (.slice none 0 0)) 73
      (try simp only [show ∀ (w : World) (o : Obj), (w.alloc o).heap.size = w.heap.size + 1 from fun w o => by simp] at hT3)
      refine ⟨⟨hT3.cell 4 rfl 0 rfl, hT3.cell 4 rfl 1 rfl⟩, hK _ _ ?_⟩
      clear hK Kv
      refine pb_end (by kernel_rfl) ?_
      have HT := Lib.hid hT3
      clear hT1 hT2 hT3 hS1 hm1 hm2
      go_wp2_with fail
      go_meet
      exact ⟨_, (w4.heap.size + 1), w4.heap.size, rfl, HT.out⟩
  case rest =>
  clear hS
  obtain ⟨rb, fb, hb, rfl, hS⟩ := hcut
  have HS := Lib.hid hS
  clear hS
  go_wp2_with fail
  go_loopw [3] (fun u3 wr => ∃ (x h : Nat → Int) (sum : Int) (fv bv : Value), u3 = .int .i64 (want - sum) ∧ 0 ≤ sum ∧ sum ≤ want ∧ Hid (Opt N ps s t x h sum) ∧ SL w w.heap.size (.blk rb (runCells N ps.length cap A fb hb (costF ps x) fv bv) 73 :: .blk fb (iarr x ps.length) 2 :: .blk hb (iarr h N) 2 :: [.blk zb #[.slice none 0 0, .int .i64 0, .slice none 0 0] 49, .blk nb #[.int .i64 N, .slice A ps.length cap] 26]) wr) (fun u3 _ => (intOf u3).toNat)
  case atStart => exact ⟨fun _ => 0, fun _ => 0, 0, _, _, by rw [Int.sub_zero], by omega, hw0, Lib.hid (opt_start HE.out.2.2.1 HE.out.2.2.2.1), by
    have e : costF ps (fun _ => 0) = 0 := costK_zero ps _
    rw [e]; exact HS.out⟩
  case round =>
    clear HS
    obtain ⟨x, h, sum, fv, bv, rfl, hs0, hs1, HO, hS⟩ := hrel
    by_cases hgo : 0 < want - sum
    · have hI := HO.out.dijIn HE.out.2.2.1 HE.out.2.2.2.1 hsN hN
      have hup : ∀ j, j < N → h j ≤ 4398046511104 := fun j hj => by
        have h1 := (HO.out.hb j hj).2
        have h2 := HO.out.ht
        have h3 : (N : Int) * DearI ≤ 1000 * DearI := Int.mul_le_mul_of_nonneg_right (by omega) (by decide)
        unfold DearI at *
        omega
      have HI := Lib.hid (And.intro hI hup)
      have HLK := Lib.hid (look_any w wr w.heap.size rb fb hb N cap A (costF ps x) fv bv x h ps s [.blk zb #[.slice none 0 0, .int .i64 0, .slice none 0 0] 49, .blk nb #[.int .i64 N, .slice A ps.length cap] 26] HR0.out hI hup hlen HE.out.2.2.2.2 hS)
      clear hS hI hup
      go_upto_region 9 with (go_at_call 36; (with_reducible refine HLK.out.mono ?_); rintro e w5 ⟨rfl, gf, gb, far, by_, hS5, hLk⟩; have HLk := Lib.hid hLk; clear hLk)
      clear HLK
      have y5 : w5.cell? ⟨rb, 5, none⟩ = some (.slice (some ⟨gf, 0, none⟩) N N) := hS5.cell 0 rfl 5 rfl
      have yt : w5.cell? ⟨gf, t, none⟩ = some (.int .i64 (far t)) := hS5.cell 3 rfl t (iarr_get _ _ _ htN)
      by_cases hft : far t < 1152921504606846976
      · have hftd : decide (1152921504606846976 ≤ far t) = false := decide_eq_false (by omega)
        have hft2 : far t < FarI := hft
        have y4 : w5.cell? ⟨rb, 4, none⟩ = some (.slice (some ⟨hb, 0, none⟩) N N) := hS5.cell 0 rfl 4 rfl
        have HS5 := Lib.hid hS5
        clear hS5
        go_wp2_with fail
        clear y5 yt y4 hftd
        obtain ⟨wo, rfl⟩ : ∃ wo : World, wo = wr := ⟨_, rfl⟩
        go_loopw [64] (fun u64 wi => ∃ i : Nat, i ≤ N ∧ u64 = .int .i64 i ∧ SL w w.heap.size (RunRs rb fb hb gf gb N ps.length cap A (costF ps x) x (fun v => if v < i then riseH h far t v else h v) far by_ [.blk zb #[.slice none 0 0, .int .i64 0, .slice none 0 0] 49, .blk nb #[.int .i64 N, .slice A ps.length cap] 26]) wi) (fun u64 _ => N - (intOf u64).toNat)
        case atStart => exact ⟨0, by omega, rfl, by
          have e : iarr (fun v => if v < 0 then riseH h far t v else h v) N = iarr h N := iarr_ext fun v _ => by rw [if_neg (by omega)]
          unfold RunRs
          rw [e]
          exact HS5.out⟩
        case round =>
          clear HS5
          obtain ⟨i, hi, rfl, hS⟩ := hrel
          by_cases hlt : i < N
          · obtain ⟨z, hz9⟩ : ∃ z, (if far t < far i then far t else far i) = z := ⟨_, rfl⟩
            have hfi := HLk.out.pos i hlt
            have hft9 := HLk.out.pos t htN
            have hhi := HI.out.2 i hlt
            have hhi0 := HI.out.1.low i hlt
            have hht0 := HI.out.1.low t htN
            have hhg := HLk.out.high t htN hft2
            have hND : (N : Int) * DearI ≤ 4294967296000 := by
              have h3 : (N : Int) * DearI ≤ 1000 * DearI := Int.mul_le_mul_of_nonneg_right (by omega) (by decide)
              unfold DearI at *
              omega
            have hzb : 0 ≤ z ∧ z ≤ 4294967296000 := by rw [← hz9]; split <;> omega
            have hwr : IntKind.i64.wrap (h i + z) = h i + z := by rw [IntKind.wrap_i64]; omega
            have HZ9 : Hid (riseH h far t i = h i + z) := Lib.hid (by unfold riseH; rw [hz9])
            clear hfi hft9 hhi hhi0 hht0 hhg hND hzb
            go_upto_region 14 with fail
            refine wp_region_sl [0,1,2,3,4,5,6,7,8,9,10,11,12,13,14,15,16,17,18,19,20,21,22,23] [] [24,25] _ hS (List.Sublist.refl _) (by kernel_rfl) (by kernel_rfl) (.cons rfl (.cons rfl .nil)) (fun C cw _ hC => ?_)
            have q4 : ∀ c, (cw c).cell? ⟨rb, 4, none⟩ = some (.slice (some ⟨hb, 0, none⟩) N N) := fun c => (hC c).cell 0 rfl 4 rfl
            have q5 : ∀ c, (cw c).cell? ⟨rb, 5, none⟩ = some (.slice (some ⟨gf, 0, none⟩) N N) := fun c => (hC c).cell 0 rfl 5 rfl
            have qh : ∀ c, (cw c).cell? ⟨hb, i, none⟩ = some (.int .i64 (h i)) := fun c => (by have h9 := (hC c).cell 2 rfl i (iarr_get _ _ _ hlt); rw [if_neg (Nat.lt_irrefl i)] at h9; exact h9)
            have qf : ∀ c, (cw c).cell? ⟨gf, i, none⟩ = some (.int .i64 (far i)) := fun c => (hC c).cell 3 rfl i (iarr_get _ _ _ hlt)
            have qt : ∀ c, (cw c).cell? ⟨gf, t, none⟩ = some (.int .i64 (far t)) := fun c => (hC c).cell 3 rfl t (iarr_get _ _ _ htN)
            repeat (first | (refine pl_nil _ _ rfl rfl rfl rfl (fun Kv hK => ?_); go_simp; refine hK _ ?_; clear hK Kv) | (refine pl_look rfl rfl rfl (fun Kv hK => ?_); go_big_quiet_op; refine hK _ ?_; clear hK Kv) | (refine pl_min _ _ _ _ _ _ _ z rfl rfl rfl rfl rfl hz9 (fun Kv hK => ?_); go_simp; refine hK _ ?_; clear hK Kv))
            clear q4 q5 qh qf qt hC hwr
            refine pl_end ?_
            intro w1 hS4
            refine pm_end ?_
            clear hS
            have y0 : w1.cell? ⟨hb, i, none⟩ = some (.int .i64 (h i)) := (by have h9 := hS4.cell 2 rfl i (iarr_get _ _ _ hlt); rw [if_neg (Nat.lt_irrefl i)] at h9; exact h9)
            have y1 := hS4.free 2 rfl i
            have hS5 : SL w w.heap.size (RunRs rb fb hb gf gb N ps.length cap A (costF ps x) x (fun v => if v = i then h i + z else if v < i then riseH h far t v else h v) far by_ [.blk zb #[.slice none 0 0, .int .i64 0, .slice none 0 0] 49, .blk nb #[.int .i64 N, .slice A ps.length cap] 26]) (w1.setCell ⟨hb, i, none⟩ (.int .i64 (h i + z))) := hS4.setInt 2 rfl i (h i + z)
            have ex : iarr (fun v => if v = i then h i + z else if v < i then riseH h far t v else h v) N = iarr (fun v => if v < i + 1 then riseH h far t v else h v) N := iarr_ext fun v _ => by
              by_cases e : v = i
              · subst e; rw [if_pos rfl, if_pos (by omega), HZ9.out]
              · rw [if_neg e]
                by_cases e2 : v < i
                · rw [if_pos e2, if_pos (by omega)]
                · rw [if_neg e2, if_neg (by omega)]
            unfold RunRs at hS5
            rw [ex] at hS5
            have HS5 := Lib.hid hS5
            clear hS4 hS5 ex
            go_wp2_with fail
            go_roundw
            case rel => exact ⟨i + 1, by omega, by go_num, HS5.out⟩
            case measure => simp [intOf]; omega
          · obtain rfl : i = N := by omega
            have ex : iarr (fun v => if v < i then riseH h far t v else h v) i = iarr (riseH h far t) i := iarr_ext fun v hv => by rw [if_pos hv]
            unfold RunRs at hS
            rw [ex] at hS
            have HPU := Lib.hid (push_any w wr w.heap.size rb fb hb gf gb i cap A x h (riseH h far t) far by_ ps s t (want - sum) [.blk zb #[.slice none 0 0, .int .i64 0, .slice none 0 0] 49, .blk nb #[.int .i64 i, .slice A ps.length cap] 26] HR0.out HI.out.1 HLk.out hlen htN hft2 hst HO.out.flow.feas (fun k hk => by have := HO.out.few k hk; omega) (by omega) (by omega) hS)
            clear hS ex
            go_wp2_with (go_at_call 37; (with_reducible refine HPU.out.mono ?_); rintro e w6 ⟨d, m, rank, rfl, hd1, hd2, hS6, hT, hW, hend, hres⟩; have HP := Lib.hid (And.intro hT (And.intro hW (And.intro hend hres))); clear hT hW hend hres; have HS6 := Lib.hid hS6; clear hS6)
            go_roundw
            case rel => exact ⟨_, _, sum + d, _, _, by rw [show want - sum - d = want - (sum + d) by omega], by omega, by omega, Lib.hid (opt_push HO.out HI.out.1 HLk.out htN hst hft2 HP.out.1 HP.out.2.1 HP.out.2.2.1 hd1 HP.out.2.2.2), HS6.out.sub (.cons_cons _ (.cons_cons _ (.cons_cons _ (.cons _ (.cons _ (List.Sublist.refl _))))))⟩
            case measure => simp [intOf]; omega
      · have hftd : decide (1152921504606846976 ≤ far t) = true := decide_eq_true (by omega)
        have HS5 := Lib.hid hS5
        clear hS5
        go_wp2_with (refine wpList_store_abs rfl 49 (.tmp 8) (.tmp 57) rfl rfl zb #[.slice none 0 0, .int .i64 0, .slice none 0 0] rfl rfl _ _ (HS5.out.blk 5 rfl) (by kernel_rfl) rfl (by simp [Value.oneCell']) ?_; intro w6 ho6 hh6; have HU := Lib.hid (HS5.out.only 5 rfl ho6 hh6); clear ho6 hh6)
        refine retArr2 rfl _ _ zb 49 _ _ _ rfl rfl (HU.out.blk 5 rfl) Try.underlying49 rfl (by kernel_rfl) (.inl ⟨x, sum, rfl, HU.out.below, ⟨HO.out.flow, _, _, looked_walked HI.out.1 HLk.out, ?_⟩, by omega⟩)
        have h9 : ¬ far t < FarI := by unfold FarI; omega
        simpa using h9
    · obtain rfl : sum = want := by omega
      have HS := Lib.hid hS
      have y0 : wr.cell? ⟨rb, 2, none⟩ = some (.slice (some ⟨fb, 0, none⟩) ps.length ps.length) := hS.cell 0 rfl 2 rfl
      have y1 : wr.cell? ⟨rb, 3, none⟩ = some (.int .i64 (costF ps x)) := hS.cell 0 rfl 3 rfl
      have y2 : wr.cell? ⟨rb, 4, none⟩ = some (.slice (some ⟨hb, 0, none⟩) N N) := hS.cell 0 rfl 4 rfl
      clear hS
      go_wp2_with (refine wpList_store_abs rfl 49 (.tmp 8) (.tmp 103) rfl rfl zb #[.slice (some ⟨fb, 0, none⟩) ps.length ps.length, .int .i64 (costF ps x), .slice (some ⟨hb, 0, none⟩) N N] rfl rfl _ _ (HS.out.blk 3 rfl) (by kernel_rfl) rfl (by simp [Value.oneCell']) ?_; intro w6 ho6 hh6; have HU := Lib.hid (HS.out.only 3 rfl ho6 hh6); clear ho6 hh6)
      exact retArr2 rfl _ _ zb 49 _ _ _ rfl rfl (HU.out.blk 3 rfl) Try.underlying49 rfl (by kernel_rfl) (.inr ⟨x, h, fb, hb, rfl, HU.out.sub (.cons _ (.cons_cons _ (.cons_cons _ (List.nil_sublist _)))), HO.out⟩)
end Go.Proofs.Ytgnmbmlpfjlbiaa
