/- The walk of flow.walk. -/
import Derived.Test.YtgnmbmlpfjlbiaaWalkM
import Derived.Test.YtgnmbmlpfjlbiaaRows
import Derived.Deep.LoopGhost
import Derived.Deep.CutRange
import Derived.Deep.DeepCutAuto
import Derived.WalkSpells
import Derived.Outline
namespace Go.Proofs.Ytgnmbmlpfjlbiaa
open Go.ChangeShapes Go.WideShapes Go.ChangeAt Go.RowKit
set_option linter.unusedVariables false
theorem int_info : (Try.prog.info? 3).map (fun i => (i.zero, i.size, i.bytes)) = some (some (.int .i64 0), 1, 8) := by kernel_rfl
theorem bool_info : (Try.prog.info? 4).map (fun i => (i.zero, i.size, i.bytes)) = some (some (.bool false), 1, 1) := by kernel_rfl
theorem step_info : (Try.prog.info? 78).map (fun i => (i.zero, i.size, i.bytes)) = some (some (.agg #[.int .i64 0, .bool false]), 2, 16) := by kernel_rfl
theorem slice_elem : Try.prog.underlying 76 = some (.slice (Try.prog.elem 76)) := by kernel_rfl
theorem run_tail (w : World) (g off n c : Nat) (h : n + 1 ≤ c) : (Instr.slice 76 (.slice (some ⟨g, off, none⟩) (n + 1) c) (some (.int .i64 1)) none none).run Try.prog w = .ok (.slice (some (if c = 1 then ⟨g, off, none⟩ else ⟨g, off + 1, none⟩)) n (c - 1)) w := by
  have hs : (sizeOf (Try.prog.elem 76)).run Try.prog w = .ok 1 w := by kernel_rfl
  rw [run_slice_l (P := Try.prog) w 76 _ (n + 1) c slice_elem .i64 1 (by omega) (by omega), hs]
  simp only [Result.andThen_ok, sliced]
  by_cases h1 : c = 1
  · simp [h1]
  · simp [h1, Addr.add]
theorem make_steps (N : Nat) (hN : N ≤ 1000) (w : World) : (Instr.makeSlice 62 (.int .i64 (N : Int)) (.int .i64 (N : Int))).run Try.prog w = .ok (.slice (some ⟨w.heap.size, 0, none⟩) N N) (w.alloc (.cells (sarr (fun _ => (0, false)) N) 78)) := by
  obtain ⟨i, h1, h2, h3, h4⟩ := info_parts step_info
  have := run_make (P := Try.prog) w 62 78 i _ Try.underlying62 h1 h2 .i64 .i64 N N (by omega) (by omega) (by rw [h4]; omega) (by omega)
  rw [this, h3]
  simp only [Int.toNat_natCast, Value.cells]
  rw [sarr_made]
theorem make_bools (N : Nat) (hN : N ≤ 1000) (w : World) : (Instr.makeSlice 38 (.int .i64 (N : Int)) (.int .i64 (N : Int))).run Try.prog w = .ok (.slice (some ⟨w.heap.size, 0, none⟩) N N) (w.alloc (.cells (barr (fun _ => false) N) 4)) := by
  obtain ⟨i, h1, h2, h3, h4⟩ := info_parts bool_info
  have := run_make (P := Try.prog) w 38 4 i _ Try.underlying38 h1 h2 .i64 .i64 N N (by omega) (by omega) (by rw [h4]; omega) (by omega)
  rw [this, h3]
  simp only [Int.toNat_natCast, Nat.mul_one]
  rw [← barr_made]; rfl
def WalkPost (W : World) (N : Nat) (ps : List PipeV) (x : Nat → Int) (s : Int) (e : Ending) (w' : World) : Prop :=
  ∃ (seen : Nat → Bool) (by_ : Nat → Int × Bool) (gb gs : Nat), e = .returned (.tuple #[.slice (some ⟨gb, 0, none⟩) N N, .slice (some ⟨gs, 0, none⟩) N N]) ∧ SL W W.heap.size [.blk gs (barr seen N) 4, .blk gb (sarr by_ N) 78] w' ∧ Walked N ps x s seen by_
set_option maxRecDepth 100000 in
set_option maxHeartbeats 4000000 in
theorem walk_any (N : Nat) (A AL : Option Addr) (cap lc : Nat) (ps : List PipeV) (fl : List Int) (s : Int) (w : World) (hr : Pipes w w.heap.size A ps) (hf : Reads w w.heap.size 1 AL fl.length (fl.map (.int .i64))) (hfl : fl.length = ps.length) (hN : N ≤ 1000) (hl : ps.length ≤ 20000) (hin : InP N ps) (h0 : 0 ≤ s) (h1 : s < N) (X : Nat → Int) (hX : ∀ k, ∀ h : k < fl.length, fl[k] = X k) :
    Calls Try.prog 30 #[.agg #[.int .i64 N, .slice A ps.length cap], .slice AL ps.length lc, .int .i64 s] w (WalkPost w N ps X s) := by
  obtain ⟨i0, hi0, hz0, hz1, hz2⟩ := info_parts int_info
  have HI := Lib.hid (And.intro hi0 (And.intro hz0 (And.intro hz1 hz2)))
  have HIN := Lib.hid hin
  have HFL := Lib.hid hfl
  have HSN : Hid (((s.toNat : Nat) : Int) = s) := Lib.hid (by omega)
  have HX := Lib.hid hX
  clear hi0 hz0 hz1 hz2 hin hfl hX
  have hS0 := (SL.start (Nat.le_refl w.heap.size)).alloc #[.int .i64 N, .slice A ps.length cap] 26
  go_enter Try.func30, Try.ntmps30
  go_upto_region 1 with fail
  go_cut [8, 9] (fun s8 s9 wx => ∃ gb gs : Nat, s8 = .slice (some ⟨gb, 0, none⟩) N N ∧ s9 = .slice (some ⟨gs, 0, none⟩) N N ∧ SL w w.heap.size [.blk gs (barr (fun _ => false) N) 4, .blk gb (sarr (fun _ => (0, false)) N) 78, .blk w.heap.size #[.int .i64 N, .slice A ps.length cap] 26] wx)
  case first =>
    refine wp_region_slb [0,1,3,4] [2,5,6] [7] [.blk w.heap.size #[.int .i64 N, .slice A ps.length cap] 26] hS0 (by simp) (by kernel_rfl) (by kernel_rfl) (.cons rfl .nil) (fun C cw _ hC => ?_)
    have q0 : ∀ c, (cw c).cell? ⟨w.heap.size, 0, none⟩ = some (.int .i64 N) := fun c => (hC c).cell 0 rfl 0 rfl
    repeat (refine pl_look rfl rfl rfl (fun Kv hK => ?_); go_big_quiet_op; refine hK _ ?_; clear hK Kv)
    clear q0 hC
    have hm1 := make_steps N hN
    have hm2 := make_bools N hN
    refine pl_end ?_
    intro w1 hS1
    refine pb_two 2 5 (by kernel_rfl) (by kernel_rfl) (by kernel_rfl) ?_ ?_
    · refine kOp_eff rfl rfl fun Kv hK => ?_
      go_simp
      have hS2 := hS1.alloc (sarr (fun _ => (0, false)) N) 78
      refine ⟨hS2.tail, hK _ _ ?_⟩
      clear hK Kv
      refine pb_two 5 6 (by kernel_rfl) (by kernel_rfl) (by kernel_rfl) ?_ ?_
      · refine kOp_eff rfl rfl fun Kv hK => ?_
        go_simp
        have hS3 := hS2.alloc (barr (fun _ => false) N) 4
        refine ⟨hS3.tail.tail, hK _ _ ?_⟩
        clear hK Kv
        refine pb_one 6 (by kernel_rfl) (by kernel_rfl) ?_
        refine kOp_eff rfl rfl fun Kv hK => ?_
        go_simp
        refine ⟨hS3.tail.tail, hK _ _ ?_⟩
        clear hK Kv
        refine pb_end (by kernel_rfl) ?_
        clear hm1 hm2
        go_wp2_with fail
        go_meet
        exact ⟨_, _, rfl, rfl, by simpa using hS3⟩
      · refine kOp_eff rfl rfl fun Kv hK => ?_
        go_simp
        refine ⟨hS2.tail, hK _ _ ?_⟩
        clear hK Kv
        refine pb_one 5 (by kernel_rfl) (by kernel_rfl) ?_
        refine kOp_eff rfl rfl fun Kv hK => ?_
        go_simp
        have hS3 := hS2.alloc (barr (fun _ => false) N) 4
        refine ⟨hS3.tail.tail, hK _ _ ?_⟩
        clear hK Kv
        refine pb_end (by kernel_rfl) ?_
        clear hm1 hm2
        go_wp2_with fail
        go_meet
        exact ⟨_, _, rfl, rfl, by simpa using hS3⟩
    · refine kOp_eff rfl rfl fun Kv hK => ?_
      go_simp
      have hS2 := hS1.alloc (barr (fun _ => false) N) 4
      refine ⟨hS2.tail, hK _ _ ?_⟩
      clear hK Kv
      refine pb_one 2 (by kernel_rfl) (by kernel_rfl) ?_
      refine kOp_eff rfl rfl fun Kv hK => ?_
      go_simp
      have hS3 := hS2.alloc (sarr (fun _ => (0, false)) N) 78
      refine ⟨hS3.tail.tail, hK _ _ ?_⟩
      clear hK Kv
      refine pb_one 6 (by kernel_rfl) (by kernel_rfl) ?_
      refine kOp_eff rfl rfl fun Kv hK => ?_
      go_simp
      refine ⟨hS3.tail.tail, hK _ _ ?_⟩
      clear hK Kv
      refine pb_end (by kernel_rfl) ?_
      clear hm1 hm2
      go_wp2_with fail
      go_meet
      exact ⟨_, _, rfl, rfl, by have h := hS3.perm (List.Perm.swap _ _ _); simpa using h⟩
  case rest =>
    clear hS0
    obtain ⟨gb, gs, rfl, rfl, hS1⟩ := hcut
    have hcs : wc.cell? ⟨gs, s.toNat, none⟩ = some (.bool false) := hS1.cell 0 rfl s.toNat (barr_get _ _ _ (by omega))
    have hfs := hS1.free 0 rfl s.toNat
    have hS2 : SL w w.heap.size [.row 3 1 (.slice (some ⟨wc.heap.size, 0, none⟩) 1 1) 1 [.int .i64 s], .blk gs (barr (setB (fun _ => false) s.toNat) N) 4, .blk gb (sarr (fun _ => (0, false)) N) 78, .blk w.heap.size #[.int .i64 N, .slice A ps.length cap] 26] ((wc.setCell ⟨gs, s.toNat, none⟩ (.bool true)).alloc (.cells #[.int .i64 s] 3)) := by
      have h := (hS1.setBool 0 rfl s.toNat true)
      refine h.more ((Below.refl _ _).alloc (Nat.le_refl _) _) (.row 3 1 (.slice (some ⟨wc.heap.size, 0, none⟩) 1 1) 1 [.int .i64 s]) (OwnsQ.of_own ?_) (by intro g hg; simp [Rs.block, Value.ownBlock, World.setCell] at hg ⊢; omega)
      have hs4 : (wc.setCell ⟨gs, s.toNat, none⟩ (.bool true)).heap.size = wc.heap.size := by simp [World.setCell]
      have h := World.ownsRow_lit (base := 0) (e := 3) (size := 1) (wc.setCell ⟨gs, s.toNat, none⟩ (.bool true)) #[.int .i64 s] 1 (by omega) (by unfold maxLen; omega) rfl
      rw [hs4] at h
      exact h
    clear hS1
    go_wp2
    clear hcs hfs
    have HSt : Hid (Bfs N (resArcs ps X) s (setB (fun _ => false) s.toNat) [s] (fun _ => False) ∧ Tree N ps X s (setB (fun _ => false) s.toNat) (fun _ => (0, false)) (fun _ => 0) 1) := Lib.hid ⟨bfs_start h0 h1, tree_start h0⟩
    have HS2 := Lib.hid hS2
    have HN := Lib.hid (And.intro h0 h1)
    clear hS2 h0 h1
    generalize (wc.setCell ⟨gs, s.toNat, none⟩ (.bool true)).alloc (.cells #[.int .i64 s] 3) = w6 at *
    generalize wc.heap.size = g6 at *
    go_loopg [10] (2 * N + 2) (fun gk v wr => ∃ (seen : Nat → Bool) (by_ : Nat → Int × Bool) (q : List Int) (rank : Nat → Nat) (cnt : Nat), SL w w.heap.size [.row 3 1 v q.length (q.map (.int .i64)), .blk gs (barr seen N) 4, .blk gb (sarr by_ N) 78, .blk w.heap.size #[.int .i64 N, .slice A ps.length cap] 26] wr ∧ Bfs N (resArcs ps X) s seen q (fun _ => False) ∧ Tree N ps X s seen by_ rank cnt ∧ 2 * unseen seen N + q.length ≤ gk ∧ gk ≤ 2 * N + 2)
    case atStart => exact ⟨_, _, [s], _, _, HS2.out, HSt.out.1, HSt.out.2, by have := unseen_le (setB (fun _ => false) s.toNat) N; simp; omega, Nat.le_refl _⟩
    case round =>
      clear HS2 HSt
      obtain ⟨seen, by_, q, rank, cnt, hS, hbfs, htree, hms, hg2⟩ := hrel
      cases q with
      | nil =>
        obtain ⟨A', c, rfl, hnc, _⟩ := (hS.row 0 rfl).slice_
        have HM := Lib.hid (And.intro hS (And.intro hbfs htree))
        clear hS hbfs htree hms
        go_wp2
        go_ret2
        exact ⟨seen, by_, gb, gs, rfl, HM.out.1.sub (by simp), walked_end HIN.out HN.out.1 HN.out.2 HM.out.2.1 HM.out.2.2⟩
      | cons x q =>
        obtain ⟨g, off, c, hv, hcell, hnc, hgl⟩ := row_cons (hS.row 0 rfl)
        subst hv
        have hS3 : SL w w.heap.size _ _ := hS.pop 0 rfl
        have HW := Lib.hid (wst_pop hbfs htree)
        have HMS : Hid (2 * unseen seen N + q.length + 1 ≤ gk) := Lib.hid (by simpa [Nat.add_assoc] using hms)
        obtain ⟨A', hA'⟩ : ∃ A', A' = (if c = 1 then (⟨g, off, none⟩ : Addr) else ⟨g, off + 1, none⟩) := ⟨_, rfl⟩
        have hsl : ∀ w' : World, (Instr.slice 76 (.slice (some ⟨g, off, none⟩) (q.length + 1) c) (some (.int .i64 1)) none none).run Try.prog w' = .ok (.slice (some A') q.length (c - 1)) w' := fun w' => by
          rw [hA']; exact run_tail w' _ _ _ _ hnc
        have HS3 : Hid (SL w w.heap.size [.row 3 1 (.slice (some A') q.length (c - 1)) q.length (q.map (.int .i64)), .blk gs (barr seen N) 4, .blk gb (sarr by_ N) 78, .blk w.heap.size #[.int .i64 N, .slice A ps.length cap] 26] wr) := Lib.hid (by rw [hA']; exact hS3)
        have c1 : wr.cell? ⟨w.heap.size, 1, none⟩ = some (.slice A ps.length cap) := hS.cell 3 rfl 1 rfl
        have hl0 : (0 : Int) < ((q.length + 1 : Nat) : Int) := by omega
        clear hS hS3 hbfs htree hms hA' hgl
        obtain ⟨wo, rfl⟩ : ∃ wo : World, wo = wr := ⟨_, rfl⟩
        obtain ⟨gO, rfl⟩ : ∃ gO : Nat, gO = gk := ⟨_, rfl⟩
        go_wp2
        clear hsl hcell c1 hl0 hnc
        go_loopg [10, 36] (ps.length + 1) (fun gk' v i wi => ∃ (k : Nat) (seen' : Nat → Bool) (by' : Nat → Int × Bool) (q' : List Int) (rank' : Nat → Nat) (cnt' : Nat), k ≤ ps.length ∧ i = .int .i64 k ∧ ps.length - k < gk' ∧ SL w w.heap.size [.row 3 1 v q'.length (q'.map (.int .i64)), .blk gs (barr seen' N) 4, .blk gb (sarr by' N) 78, .blk w.heap.size #[.int .i64 N, .slice A ps.length cap] 26] wi ∧ WSt N ps X s x (resK ps X k) seen' by' q' rank' cnt' ∧ 2 * unseen seen' N + q'.length < gO)
        case atStart => exact ⟨0, seen, by_, q, rank, cnt, by omega, rfl, by omega, HS3.out, by simpa [resK] using HW.out, by have := HMS.out; omega⟩
        case round =>
          clear HS3 HW HMS
          obtain ⟨k, seen', by', q', rank', cnt', hk, rfl, hgk, hS, hW, hms⟩ := hrel
          by_cases hlt : k < ps.length
          · obtain ⟨b, o, rfl, hb, d0, d1, d2, d3⟩ := pipes_at (Reads.below hr hS.below) hlt
            obtain ⟨b2, o2, rfl, hb2, e0⟩ := ints_at hf (k := k) (by have := HFL.out; omega)
            rw [HX.out] at e0
            obtain ⟨⟨f0, f1⟩, ⟨t0, t1⟩, r0, r1⟩ := HIN.out _ (List.getElem_mem hlt)
            have hS2 := hS.alloc #[.int .i64 ps[k].fr, .int .i64 ps[k].to, .int .i64 ps[k].room, .int .i64 ps[k].cost] 40
            have hz1 : b < wr.heap.size := Nat.lt_of_lt_of_le hb hS.size
            have hz2 : b2 < wr.heap.size := Nat.lt_of_lt_of_le hb2 hS.size
            have HW := Lib.hid (And.intro hW hms)
            clear hW hms
            have e2 : wr.cell? ⟨b2, o2 + k, none⟩ = some (.int .i64 (X k)) := (hS.below.cell hb2).trans e0
            clear e2
            go_upto_region 10 with fail
            obtain ⟨ar, har⟩ : ∃ ar, ar = wr.heap.size := ⟨_, rfl⟩
            generalize (wr.alloc (.cells #[.int .i64 ps[k].fr, .int .i64 ps[k].to, .int .i64 ps[k].room, .int .i64 ps[k].cost] 40)) = w9 at *
            rw [← har] at hS2 ⊢
            clear har hS d0 d1 d2 d3 hz1 hz2
            go_cut [61] (fun s61 wx => s61 = .bool (decide (ps[k].fr = x ∧ X k < ps[k].room ∧ seen' ps[k].to.toNat = false)) ∧ SL w w.heap.size [.blk ar #[.int .i64 ps[k].fr, .int .i64 ps[k].to, .int .i64 ps[k].room, .int .i64 ps[k].cost] 40, .row 3 1 u10 q'.length (q'.map (.int .i64)), .blk gs (barr seen' N) 4, .blk gb (sarr by' N) 78, .blk w.heap.size #[.int .i64 N, .slice (some ⟨b, o, none⟩) ps.length cap] 26] wx)
            case first =>
              by_cases p1 : ps[k].fr = x
              · have z1 : (ps[k].fr == x) = true := by simpa using p1
                by_cases p2 : X k < ps[k].room
                · have z2 : decide (X k < ps[k].room) = true := by simpa using p2
                  cases p3 : seen' ps[k].to.toNat
                  · skip
                    refine wp_region_sl [0,1,2,3,4,5,6,7,8,9,10,11,12,13,14,15,16,17,18,19,20] [] [] [.blk ar #[.int .i64 ps[k].fr, .int .i64 ps[k].to, .int .i64 ps[k].room, .int .i64 ps[k].cost] 40, .blk gs (barr seen' N) 4] hS2 (by simp) (by kernel_rfl) (by kernel_rfl) .nil (fun C cw _ hC => ?_)
                    have q0 : ∀ c, (cw c).cell? ⟨ar, 0, none⟩ = some (.int .i64 ps[k].fr) := fun c => (hC c).cell 0 rfl 0 rfl
                    have q1 : ∀ c, (cw c).cell? ⟨ar, 1, none⟩ = some (.int .i64 ps[k].to) := fun c => (hC c).cell 0 rfl 1 rfl
                    have q2 : ∀ c, (cw c).cell? ⟨ar, 2, none⟩ = some (.int .i64 ps[k].room) := fun c => (hC c).cell 0 rfl 2 rfl
                    have q3 : ∀ c, (cw c).cell? ⟨gs, ps[k].to.toNat, none⟩ = some (.bool (seen' ps[k].to.toNat)) := fun c => (hC c).cell 1 rfl _ (barr_get _ _ _ (by omega))
                    have q4 : ∀ c, (cw c).cell? ⟨b2, o2 + k, none⟩ = some (.int .i64 (X k)) := fun c => ((hC c).below.cell hb2).trans e0
                    rw [p3] at q3
                    repeat (first | (refine pl_look rfl rfl rfl (fun Kv hK => ?_); go_big_quiet_op; refine hK _ ?_; clear hK Kv) | (refine pl_skip rfl rfl (fun Kv hK => ?_); go_simp; refine hK _ ?_; clear hK Kv))
                    clear q0 q1 q2 q3 q4 hC
                    refine pl_end ?_
                    intro w1 hS4
                    refine pm_end ?_
                    clear hS2
                    go_wp2_with fail
                    go_meet
                    exact ⟨congrArg Value.bool (decide_eq_true ⟨p1, p2, p3⟩).symm, hS4⟩
                  · skip
                    refine wp_region_sl [0,1,2,3,4,5,6,7,8,9,10,11,12,13,14,15,16,17,18,19,20] [] [] [.blk ar #[.int .i64 ps[k].fr, .int .i64 ps[k].to, .int .i64 ps[k].room, .int .i64 ps[k].cost] 40, .blk gs (barr seen' N) 4] hS2 (by simp) (by kernel_rfl) (by kernel_rfl) .nil (fun C cw _ hC => ?_)
                    have q0 : ∀ c, (cw c).cell? ⟨ar, 0, none⟩ = some (.int .i64 ps[k].fr) := fun c => (hC c).cell 0 rfl 0 rfl
                    have q1 : ∀ c, (cw c).cell? ⟨ar, 1, none⟩ = some (.int .i64 ps[k].to) := fun c => (hC c).cell 0 rfl 1 rfl
                    have q2 : ∀ c, (cw c).cell? ⟨ar, 2, none⟩ = some (.int .i64 ps[k].room) := fun c => (hC c).cell 0 rfl 2 rfl
                    have q3 : ∀ c, (cw c).cell? ⟨gs, ps[k].to.toNat, none⟩ = some (.bool (seen' ps[k].to.toNat)) := fun c => (hC c).cell 1 rfl _ (barr_get _ _ _ (by omega))
                    have q4 : ∀ c, (cw c).cell? ⟨b2, o2 + k, none⟩ = some (.int .i64 (X k)) := fun c => ((hC c).below.cell hb2).trans e0
                    rw [p3] at q3
                    repeat (first | (refine pl_look rfl rfl rfl (fun Kv hK => ?_); go_big_quiet_op; refine hK _ ?_; clear hK Kv) | (refine pl_skip rfl rfl (fun Kv hK => ?_); go_simp; refine hK _ ?_; clear hK Kv))
                    clear q0 q1 q2 q3 q4 hC
                    refine pl_end ?_
                    intro w1 hS4
                    refine pm_end ?_
                    clear hS2
                    go_wp2_with fail
                    go_meet
                    exact ⟨congrArg Value.bool (decide_eq_false (fun h => by have := h.2.2; rw [p3] at this; cases this)).symm, hS4⟩
                · have z2 : decide (X k < ps[k].room) = false := by simpa using p2
                  refine wp_region_sl [0,1,2,3,4,5,6,7,8,9,10,11,12,13,14,15,16,17,18,19,20] [] [] [.blk ar #[.int .i64 ps[k].fr, .int .i64 ps[k].to, .int .i64 ps[k].room, .int .i64 ps[k].cost] 40, .blk gs (barr seen' N) 4] hS2 (by simp) (by kernel_rfl) (by kernel_rfl) .nil (fun C cw _ hC => ?_)
                  have q0 : ∀ c, (cw c).cell? ⟨ar, 0, none⟩ = some (.int .i64 ps[k].fr) := fun c => (hC c).cell 0 rfl 0 rfl
                  have q1 : ∀ c, (cw c).cell? ⟨ar, 1, none⟩ = some (.int .i64 ps[k].to) := fun c => (hC c).cell 0 rfl 1 rfl
                  have q2 : ∀ c, (cw c).cell? ⟨ar, 2, none⟩ = some (.int .i64 ps[k].room) := fun c => (hC c).cell 0 rfl 2 rfl
                  have q3 : ∀ c, (cw c).cell? ⟨gs, ps[k].to.toNat, none⟩ = some (.bool (seen' ps[k].to.toNat)) := fun c => (hC c).cell 1 rfl _ (barr_get _ _ _ (by omega))
                  have q4 : ∀ c, (cw c).cell? ⟨b2, o2 + k, none⟩ = some (.int .i64 (X k)) := fun c => ((hC c).below.cell hb2).trans e0
                  repeat (first | (refine pl_look rfl rfl rfl (fun Kv hK => ?_); go_big_quiet_op; refine hK _ ?_; clear hK Kv) | (refine pl_skip rfl rfl (fun Kv hK => ?_); go_simp; refine hK _ ?_; clear hK Kv))
                  clear q0 q1 q2 q3 q4 hC
                  refine pl_end ?_
                  intro w1 hS4
                  refine pm_end ?_
                  clear hS2
                  go_wp2_with fail
                  go_meet
                  exact ⟨congrArg Value.bool (decide_eq_false (fun h => by omega)).symm, hS4⟩
              · have z1 : (ps[k].fr == x) = false := by simpa using p1
                refine wp_region_sl [0,1,2,3,4,5,6,7,8,9,10,11,12,13,14,15,16,17,18,19,20] [] [] [.blk ar #[.int .i64 ps[k].fr, .int .i64 ps[k].to, .int .i64 ps[k].room, .int .i64 ps[k].cost] 40, .blk gs (barr seen' N) 4] hS2 (by simp) (by kernel_rfl) (by kernel_rfl) .nil (fun C cw _ hC => ?_)
                have q0 : ∀ c, (cw c).cell? ⟨ar, 0, none⟩ = some (.int .i64 ps[k].fr) := fun c => (hC c).cell 0 rfl 0 rfl
                have q1 : ∀ c, (cw c).cell? ⟨ar, 1, none⟩ = some (.int .i64 ps[k].to) := fun c => (hC c).cell 0 rfl 1 rfl
                have q2 : ∀ c, (cw c).cell? ⟨ar, 2, none⟩ = some (.int .i64 ps[k].room) := fun c => (hC c).cell 0 rfl 2 rfl
                have q3 : ∀ c, (cw c).cell? ⟨gs, ps[k].to.toNat, none⟩ = some (.bool (seen' ps[k].to.toNat)) := fun c => (hC c).cell 1 rfl _ (barr_get _ _ _ (by omega))
                have q4 : ∀ c, (cw c).cell? ⟨b2, o2 + k, none⟩ = some (.int .i64 (X k)) := fun c => ((hC c).below.cell hb2).trans e0
                repeat (first | (refine pl_look rfl rfl rfl (fun Kv hK => ?_); go_big_quiet_op; refine hK _ ?_; clear hK Kv) | (refine pl_skip rfl rfl (fun Kv hK => ?_); go_simp; refine hK _ ?_; clear hK Kv))
                clear q0 q1 q2 q3 q4 hC
                refine pl_end ?_
                intro w1 hS4
                refine pm_end ?_
                clear hS2
                go_wp2_with fail
                go_meet
                exact ⟨congrArg Value.bool (decide_eq_false (fun h => p1 h.1)).symm, hS4⟩
            case rest =>
              clear hS2
              obtain ⟨rfl, hS4⟩ := hcut
              go_upto_if 61 with fail
              go_cut [10] (fun s10 wx => ∃ (seen' : Nat → Bool) (by' : Nat → Int × Bool) (q' : List Int) (rank' : Nat → Nat) (cnt' : Nat), SL w w.heap.size [.blk ar #[.int .i64 ps[k].fr, .int .i64 ps[k].to, .int .i64 ps[k].room, .int .i64 ps[k].cost] 40, .row 3 1 s10 q'.length (q'.map (.int .i64)), .blk gs (barr seen' N) 4, .blk gb (sarr by' N) 78, .blk w.heap.size #[.int .i64 N, .slice (some ⟨b, o, none⟩) ps.length cap] 26] wx ∧ WSt N ps X s x (resK ps X k ++ fwdPart ps[k] (X k)) seen' by' q' rank' cnt' ∧ 2 * unseen seen' N + q'.length < gO)
              case first =>
                obtain ⟨A2, c2, rfl, _, _⟩ := (hS4.row 1 rfl).slice_
                by_cases p : ps[k].fr = x ∧ X k < ps[k].room ∧ seen' ps[k].to.toNat = false
                · have hdc := decide_eq_true p
                  have HC := Lib.hid p
                  have HQ := Lib.hid (wst_fwd_new HIN.out HW.out.1 hlt p.1 p.2.1 p.2.2)
                  have hu := unseen_set (f := seen') (n := N) (k := ps[k].to.toNat) (by omega) p.2.2
                  have hms : 2 * unseen (setB seen' ps[k].to.toNat) N + (q' ++ [ps[k].to]).length < gO := by have := HW.out.2; simp; omega
                  have HMS := Lib.hid hms
                  clear p hu hms
                  go_upto_region 11 with fail
                  refine wp_region_sl [0,1,2,3,4,5,6,7,8] [9] [10,11] [.blk ar #[.int .i64 ps[k].fr, .int .i64 ps[k].to, .int .i64 ps[k].room, .int .i64 ps[k].cost] 40] hS4 (by simp) (by kernel_rfl) (by kernel_rfl) (.cons rfl (.cons rfl .nil)) (fun C cw _ hC => ?_)
                  have q1 : ∀ c, (cw c).cell? ⟨ar, 1, none⟩ = some (.int .i64 ps[k].to) := fun c => (hC c).cell 0 rfl 1 rfl
                  repeat (first | (refine pl_look rfl rfl rfl (fun Kv hK => ?_); go_big_quiet_op; refine hK _ ?_; clear hK Kv) | (refine pl_skip rfl rfl (fun Kv hK => ?_); go_simp; refine hK _ ?_; clear hK Kv))
                  clear q1 hC
                  refine pl_end ?_
                  intro w1 hS5
                  have y0 : w1.cell? ⟨gs, ps[k].to.toNat, none⟩ = some (.bool false) := hS5.cell 2 rfl _ (by rw [← HC.out.2.2]; exact barr_get _ _ _ (by omega))
                  have y1 := hS5.free 2 rfl ps[k].to.toNat
                  refine pm_eff rfl rfl fun Kv hK => ?_
                  go_simp
                  have hS6 : SL w w.heap.size _ _ := hS5.setBool 2 rfl ps[k].to.toNat true
                  refine ⟨hS6.sub (by simp [HC.out.1]), hK _ _ ?_⟩
                  clear hK Kv y0 y1 hS5 hS4
                  refine pm_end ?_
                  generalize (w1.setCell ⟨gs, ps[k].to.toNat, none⟩ (.bool true)) = w2 at *
                  have y0 : w2.cell? ⟨gb, ps[k].to.toNat * 2, none⟩ = some (.int .i64 (by' ps[k].to.toNat).1) := hS6.cell 3 rfl _ (sarr_get0 _ _ _ (by omega))
                  have y1 : w2.cell? ⟨gb, ps[k].to.toNat * 2 + 1, none⟩ = some (.bool (by' ps[k].to.toNat).2) := hS6.cell 3 rfl _ (sarr_get1 _ _ _ (by omega))
                  have y2 := hS6.free 3 rfl (ps[k].to.toNat * 2)
                  have y3 := hS6.free 3 rfl (ps[k].to.toNat * 2 + 1)
                  have y4 : w2.cell? ⟨ar, 1, none⟩ = some (.int .i64 ps[k].to) := hS6.cell 0 rfl 1 rfl
                  have y5 := hS6.ne 0 3 rfl rfl (by omega)
                  have y6 := y5.symm
                  have hS7 : SL w w.heap.size _ _ := hS6.setStep 3 rfl ps[k].to.toNat k false
                  have hq60 : q'.length ≤ 3000 := by have := HMS.out; simp at this; omega
                  go_wp2_with (at_builtin; refine stopHere ?_)
                  show wpList _ _ _ _ _ _
                  refine wpList_append_sl rfl _ _ 76 rfl hS7 1 i0 (.int .i64 0) 1 8 Try.underlying76 HI.out.1 HI.out.2.1 HI.out.2.2.1 HI.out.2.2.2 rfl (by decide) _ _ 1 _ rfl rfl _ rfl (by simp [World.setCell]) (by decide) rfl (by simp [Value.oneCell']) (by omega) (by decide) ?_
                  intro v' w' hS8 hz8
                  have HS8 : Hid (SL w w.heap.size [.blk ar #[.int .i64 ps[k].fr, .int .i64 ps[k].to, .int .i64 ps[k].room, .int .i64 ps[k].cost] 40, .row 3 1 v' (q' ++ [ps[k].to]).length ((q' ++ [ps[k].to]).map (.int .i64)), .blk gs (barr (setB seen' ps[k].to.toNat) N) 4, .blk gb (sarr (setS by' ps[k].to.toNat (k, false)) N) 78, .blk w.heap.size #[.int .i64 N, .slice (some ⟨b, o, none⟩) ps.length cap] 26] w') := Lib.hid (by rw [List.length_append, List.map_append]; exact hS8)
                  clear hS8 hS7 hS6 y0 y1 y2 y3 y4 y5 y6
                  go_wp2_with fail
                  go_meet
                  exact ⟨_, _, _, _, _, HS8.out, HQ.out, HMS.out⟩
                · have hdc := decide_eq_false p
                  have HQ := Lib.hid (wst_fwd_old HW.out.1 hlt p)
                  have HS4 := Lib.hid hS4
                  clear hS4
                  go_wp2_with fail
                  go_meet
                  exact ⟨_, _, _, _, _, HS4.out, HQ.out, HW.out.2⟩
              case rest =>
                clear hS4 HW
                obtain ⟨seen', by', q', rank', cnt', hS4, hW, hms⟩ := hcut
                go_upto_region 13 with fail
                have HW := Lib.hid (And.intro hW hms)
                have HS4 := Lib.hid hS4
                clear hW hms
                go_cut [95] (fun s95 wx => s95 = .bool (decide (ps[k].to = x ∧ 0 < X k ∧ seen' ps[k].fr.toNat = false)) ∧ SL w w.heap.size [.blk ar #[.int .i64 ps[k].fr, .int .i64 ps[k].to, .int .i64 ps[k].room, .int .i64 ps[k].cost] 40, .row 3 1 u10 q'.length (q'.map (.int .i64)), .blk gs (barr seen' N) 4, .blk gb (sarr by' N) 78, .blk w.heap.size #[.int .i64 N, .slice (some ⟨b, o, none⟩) ps.length cap] 26] wx)
                case first =>
                  have y0 : wc.cell? ⟨ar, 0, none⟩ = some (.int .i64 ps[k].fr) := hS4.cell 0 rfl 0 rfl
                  have y1 : wc.cell? ⟨ar, 1, none⟩ = some (.int .i64 ps[k].to) := hS4.cell 0 rfl 1 rfl
                  have y2 : wc.cell? ⟨gs, ps[k].fr.toNat, none⟩ = some (.bool (seen' ps[k].fr.toNat)) := hS4.cell 2 rfl _ (barr_get _ _ _ (by omega))
                  have y3 : wc.cell? ⟨b2, o2 + k, none⟩ = some (.int .i64 (X k)) := (hS4.below.cell hb2).trans e0
                  clear hS4
                  by_cases p1 : ps[k].to = x
                  · have z1 : (ps[k].to == x) = true := by simpa using p1
                    by_cases p2 : 0 < X k
                    · have z2 : decide (0 < X k) = true := by simpa using p2
                      cases p3 : seen' ps[k].fr.toNat
                      · rw [p3] at y2
                        have HP := Lib.hid (And.intro p1 (And.intro p2 p3))
                        clear p1 p2 p3
                        go_wp2_with fail
                        go_meet
                        exact ⟨congrArg Value.bool (decide_eq_true HP.out).symm, HS4.out⟩
                      · rw [p3] at y2
                        have HP := Lib.hid p3
                        clear p1 p2 p3
                        go_wp2_with fail
                        go_meet
                        exact ⟨congrArg Value.bool (decide_eq_false (fun h => by have := h.2.2; rw [HP.out] at this; cases this)).symm, HS4.out⟩
                    · have z2 : decide (0 < X k) = false := by simpa using p2
                      have HP := Lib.hid p2
                      clear p1 p2
                      go_wp2_with fail
                      go_meet
                      exact ⟨congrArg Value.bool (decide_eq_false (fun h => by have := HP.out; omega)).symm, HS4.out⟩
                  · have z1 : (ps[k].to == x) = false := by simpa using p1
                    have HP := Lib.hid p1
                    clear p1
                    go_wp2_with fail
                    go_meet
                    exact ⟨congrArg Value.bool (decide_eq_false (fun h => HP.out h.1)).symm, HS4.out⟩
                case rest =>
                  clear hS4 HS4
                  obtain ⟨rfl, hS4⟩ := hcut
                  obtain ⟨A2, c2, rfl, _, _⟩ := (hS4.row 1 rfl).slice_
                  by_cases p : ps[k].to = x ∧ 0 < X k ∧ seen' ps[k].fr.toNat = false
                  · have hdc := decide_eq_true p
                    have HC := Lib.hid p
                    have HQ := Lib.hid (wst_next hlt (wst_back_new HIN.out HW.out.1 hlt p.1 p.2.1 p.2.2))
                    have hu := unseen_set (f := seen') (n := N) (k := ps[k].fr.toNat) (by omega) p.2.2
                    have hms : 2 * unseen (setB seen' ps[k].fr.toNat) N + (q' ++ [ps[k].fr]).length < gO := by have := HW.out.2; simp; omega
                    have HMS := Lib.hid hms
                    clear p hu hms
                    go_upto_region 14 with fail
                    refine wp_region_sl [0,1,2,3,4,5,6,7,8] [9] [10,11] [.blk ar #[.int .i64 ps[k].fr, .int .i64 ps[k].to, .int .i64 ps[k].room, .int .i64 ps[k].cost] 40] hS4 (by simp) (by kernel_rfl) (by kernel_rfl) (.cons rfl (.cons rfl .nil)) (fun C cw _ hC => ?_)
                    have q1 : ∀ c, (cw c).cell? ⟨ar, 0, none⟩ = some (.int .i64 ps[k].fr) := fun c => (hC c).cell 0 rfl 0 rfl
                    repeat (first | (refine pl_look rfl rfl rfl (fun Kv hK => ?_); go_big_quiet_op; refine hK _ ?_; clear hK Kv) | (refine pl_skip rfl rfl (fun Kv hK => ?_); go_simp; refine hK _ ?_; clear hK Kv))
                    clear q1 hC
                    refine pl_end ?_
                    intro w1 hS5
                    have y0 : w1.cell? ⟨gs, ps[k].fr.toNat, none⟩ = some (.bool false) := hS5.cell 2 rfl _ (by rw [← HC.out.2.2]; exact barr_get _ _ _ (by omega))
                    have y1 := hS5.free 2 rfl ps[k].fr.toNat
                    refine pm_eff rfl rfl fun Kv hK => ?_
                    go_simp
                    have hS6 : SL w w.heap.size _ _ := hS5.setBool 2 rfl ps[k].fr.toNat true
                    refine ⟨hS6.sub (by simp [HC.out.1]), hK _ _ ?_⟩
                    clear hK Kv y0 y1 hS5 hS4
                    refine pm_end ?_
                    generalize (w1.setCell ⟨gs, ps[k].fr.toNat, none⟩ (.bool true)) = w2 at *
                    have y0 : w2.cell? ⟨gb, ps[k].fr.toNat * 2, none⟩ = some (.int .i64 (by' ps[k].fr.toNat).1) := hS6.cell 3 rfl _ (sarr_get0 _ _ _ (by omega))
                    have y1 : w2.cell? ⟨gb, ps[k].fr.toNat * 2 + 1, none⟩ = some (.bool (by' ps[k].fr.toNat).2) := hS6.cell 3 rfl _ (sarr_get1 _ _ _ (by omega))
                    have y2 := hS6.free 3 rfl (ps[k].fr.toNat * 2)
                    have y3 := hS6.free 3 rfl (ps[k].fr.toNat * 2 + 1)
                    have y4 : w2.cell? ⟨ar, 0, none⟩ = some (.int .i64 ps[k].fr) := hS6.cell 0 rfl 0 rfl
                    have y5 := hS6.ne 0 3 rfl rfl (by omega)
                    have y6 := y5.symm
                    have hS7 : SL w w.heap.size _ _ := hS6.setStep 3 rfl ps[k].fr.toNat k true
                    have hq60 : q'.length ≤ 3000 := by have := HMS.out; simp at this; omega
                    go_wp2_with (at_builtin; refine stopHere ?_)
                    show wpList _ _ _ _ _ _
                    refine wpList_append_sl rfl _ _ 76 rfl hS7 1 i0 (.int .i64 0) 1 8 Try.underlying76 HI.out.1 HI.out.2.1 HI.out.2.2.1 HI.out.2.2.2 rfl (by decide) _ _ 1 _ rfl rfl _ rfl (by simp [World.setCell]) (by decide) rfl (by simp [Value.oneCell']) (by omega) (by decide) ?_
                    intro v' w' hS8 hz8
                    have HS8 : Hid (SL w w.heap.size [.blk ar #[.int .i64 ps[k].fr, .int .i64 ps[k].to, .int .i64 ps[k].room, .int .i64 ps[k].cost] 40, .row 3 1 v' (q' ++ [ps[k].fr]).length ((q' ++ [ps[k].fr]).map (.int .i64)), .blk gs (barr (setB seen' ps[k].fr.toNat) N) 4, .blk gb (sarr (setS by' ps[k].fr.toNat (k, true)) N) 78, .blk w.heap.size #[.int .i64 N, .slice (some ⟨b, o, none⟩) ps.length cap] 26] w') := Lib.hid (by rw [List.length_append, List.map_append]; exact hS8)
                    clear hS8 hS7 hS6 y0 y1 y2 y3 y4 y5 y6
                    go_wp2
                    go_roundg (ps.length - k)
                    case measure => omega
                    case rel => exact ⟨k + 1, _, _, _, _, _, by omega, by go_num, by omega, HS8.out.tail, HQ.out, HMS.out⟩
                  · have hdc := decide_eq_false p
                    have HQ := Lib.hid (wst_next hlt (wst_back_old HW.out.1 hlt p))
                    have HS4 := Lib.hid hS4
                    clear hS4
                    go_wp2
                    go_roundg (ps.length - k)
                    case measure => omega
                    case rel => exact ⟨k + 1, _, _, _, _, _, by omega, by go_num, by omega, HS4.out.tail, HQ.out, HW.out.2⟩
          · obtain rfl : k = ps.length := by omega
            have HM := Lib.hid (And.intro hS (And.intro hW hms))
            obtain ⟨A2, c2, rfl, _, _⟩ := (hS.row 0 rfl).slice_
            clear hS hW hms
            go_wp2
            go_roundg (2 * unseen seen' N + q'.length)
            case measure => exact HM.out.2.2
            case rel => exact ⟨_, _, _, _, _, HM.out.1, wst_end HM.out.2.1, HM.out.2.1.tree, Nat.le_refl _, by have := HM.out.2.2; omega⟩
end Go.Proofs.Ytgnmbmlpfjlbiaa
