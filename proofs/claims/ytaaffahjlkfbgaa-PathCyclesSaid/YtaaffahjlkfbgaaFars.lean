/- The walk of law 07's Fars. -/
import Derived.Test.YtaaffahjlkfbgaaFarsM
import Derived.Test.YtaaffahjlkfbgaaEqualAny
import Derived.Test.YtaaffahjlkfbgaaCloneInt64
import Derived.Test.YtaaffahjlkfbgaaRowSet
import Derived.Test.YtaaffahjlkfbgaaTree
namespace Go.Proofs.Ytaaffahjlkfbgaa
open Go.ChangeShapes Go.WideShapes Go.ChangeAt Go.RowKit
set_option linter.unusedVariables false
/-- slices.Equal at two rows of as many numbers. -/
theorem equal_nums64 (F G : Nat → Int) (N : Nat) (A A' : Option Addr) (c c' : Nat) (w : World) (hN : N ≤ 20000) (h1 : Reads w w.heap.size 1 A N (nums F N)) (h2 : Reads w w.heap.size 1 A' N (nums G N)) :
    Calls Try.prog 38 #[.slice A N c, .slice A' N c'] w fun e w' => ∃ b : Bool, e = .returned (.bool b) ∧ (b = true ↔ ∀ v, v < N → F v = G v) ∧ Below w.heap.size w w' := by
  have e1 : nums F N = ((List.range N).map F).map (.int .i64) := by unfold nums; simp
  have e2 : nums G N = ((List.range N).map G).map (.int .i64) := by unfold nums; simp
  have h := equalA_int64s A A' c c' ((List.range N).map F) ((List.range N).map G) w (by simpa [e1] using h1) (by simpa [e2] using h2) (by simp [maxLen]; omega) (by simp [maxLen]; omega)
  simp only [List.length_map, List.length_range] at h
  refine h.mono fun e w' ⟨he, hb⟩ => ⟨_, he, ?_, hb⟩
  rw [decide_eq_true_iff]
  constructor
  · intro h v hv
    have := congrArg (fun l => l[v]?) h
    simpa [hv] using this
  · intro h
    exact List.map_congr_left fun v hv => h v (by simpa using hv)
/-- A block as a row. -/
theorem SL.asRow {W w : World} {B : Nat} {l : List Rs} (h : SL W B l w) (i : Nat) {g n : Nat} {f : Nat → Int} {t : TypeId} (hi : l[i]? = some (.blk g (iarr f n) t)) (hn : n ≤ maxLen) : SL W B (l.set i (.row t 1 (.slice (some ⟨g, 0, none⟩) n n) n (nums f n))) w := by
  have hg := h.blk i hi
  have hl := h.lt i hi
  refine h.turn i hi rfl rfl rfl (Nat.le_refl _) (fun _ _ _ => rfl) ?_ (fun g' hg' => ?_)
  · refine ⟨by simp [nums], .inr ⟨g, 0, n, iarr f n, rfl, Nat.zero_le _, hg, Nat.le_refl _, hn, by rw [iarr_size]; omega, ?_⟩⟩
    rw [iarr_list]
    unfold nums
    simp only [List.drop_zero, Nat.mul_one, List.map_map]
    rw [List.take_of_length_le (by simp)]
    rfl
  · simp only [Rs.block, Value.ownBlock, Option.some.injEq] at hg'
    subst hg'
    exact ⟨.inl rfl, hl.2⟩
theorem nums_one (f : Nat → Int) (n : Nat) : ∀ u ∈ nums f n, u.oneCell' = true := by
  intro u hu
  unfold nums at hu
  obtain ⟨j, _, rfl⟩ := List.mem_map.1 hu
  rfl
def FarsPost (W : World) (N : Nat) (l : List ArcV) (f : Nat) (e : Ending) (w' : World) : Prop :=
  (∃ (r : Nat) (A : Option Addr) (c : Nat), r ≤ N ∧ StillF N l f r ∧ e = .returned (.tuple #[.slice A N c, .bool true]) ∧ SL W W.heap.size [.row 2 1 (.slice A N c) N (nums (farsR l f r) N)] w') ∨
  ((∀ r, r ≤ N → ¬ StillF N l f r) ∧ e = .returned (.tuple #[.slice none 0 0, .bool false]) ∧ Below W.heap.size W w')
set_option maxRecDepth 100000 in
set_option maxHeartbeats 8000000 in
theorem fars_any (N f : Nat) (A : Option Addr) (cap : Nat) (l : List ArcV) (w : World) (hr : Arcs w w.heap.size A l) (hN : N ≤ 1000) (hf : f < N) (hl : l.length ≤ 20000) (hin : InN N l) (W : Int) (hw : ∀ a ∈ l, -W ≤ a.wt ∧ a.wt ≤ W) (hW0 : 0 ≤ W) (hB : W * ((N + 2 : Nat) : Int) < FAR) :
    Calls Try.prog 26 #[.agg #[.int .i64 N, .slice A l.length cap], .int .i64 f] w (FarsPost w N l f) := by
  have hS0 := (SL.start (Nat.le_refl w.heap.size)).alloc #[.int .i64 N, .slice A l.length cap] 45
  have HR : Hid (∀ (rs : List Rs) w', SL w w.heap.size rs w' → Arcs w' w'.heap.size A l) := Lib.hid (fun rs w' h => reads_more (Reads.below hr h.below) h.below.size)
  obtain ⟨i0, hi0, hz0, hz1, hz2⟩ := info_parts int64_info
  have HI := Lib.hid (And.intro hi0 (And.intro hz0 (And.intro hz1 hz2)))
  have HIN := Lib.hid hin
  have HBND : Hid (∀ r k v, r ≤ N → k ≤ l.length → v < N → -1152921504606846976 ≤ roundF l (farsR l f r) k v ∧ roundF l (farsR l f r) k v ≤ 1152921504606846976) := Lib.hid (by
    intro r k v hrN hk hv
    have e1 : W * ((N + 1 : Nat) : Int) = W * N + W := by rw [Int.natCast_add, Int.natCast_one, Int.mul_add, Int.mul_one]
    have e2 : W * ((N + 2 : Nat) : Int) = W * N + W + W := by rw [show N + 2 = (N + 1) + 1 from rfl, Int.natCast_add, Int.natCast_one, Int.mul_add, Int.mul_one, e1]
    have hb : ∀ u, u < N → farsR l f r u = FAR ∨ (-(W * N) ≤ farsR l f r u ∧ farsR l f r u ≤ W * N) := fun u hu => farsR_bnd hin hw hW0 hrN hu
    have hle := roundF_le l (farsR l f r) v k hk
    have hWN : 0 ≤ W * (N : Int) := Int.mul_nonneg hW0 (by omega)
    have hv0 := hb v hv
    rw [e2] at hB
    unfold FAR at hB hb hv0
    rcases roundF_from (l := l) (now := farsR l f r) (v := v) k hk with h | ⟨j, hj, h1, h2, h3⟩
    · omega
    · have hjn := hin _ (List.getElem_mem hj)
      have hjw := hw _ (List.getElem_mem hj)
      have := hb l[j].fr.toNat (by omega)
      unfold FAR at h2
      omega)
  have HWT : Hid (∀ a ∈ l, -1152921504606846976 ≤ a.wt ∧ a.wt ≤ 1152921504606846976) := Lib.hid (by
    intro a ha
    have := hw a ha
    have e1 : W * ((N + 2 : Nat) : Int) = W * ((N + 1 : Nat) : Int) + W := by rw [show N + 2 = (N + 1) + 1 from rfl, Int.natCast_add (N+1), Int.natCast_one, Int.mul_add, Int.mul_one]
    have hWN : 0 ≤ W * ((N + 1 : Nat) : Int) := Int.mul_nonneg hW0 (by omega)
    unfold FAR at hB
    omega)
  clear hr hi0 hz0 hz1 hz2 hin hw hB
  have HMK := Lib.hid (make_int64s N (by omega))
  go_enter Try.func26, Try.ntmps26
  go_wp2_with (at_make; refine wpList_make_rep _ rfl _ _ 47 rfl 2 i0 (.int .i64 0) Try.underlying47 HI.out.1 HI.out.2.1 HI.out.2.2.1 rfl .i64 .i64 N N N rfl rfl rfl rfl ?b2 ?b3 ?_
               case b2 => rw [HI.out.2.2.2]; omega
               case b3 => unfold maxLen; omega
               intro w4 hg4 hb4 hz4
               have hS := hS0.made hb4 hg4
               have hS2 : SL w w.heap.size [.blk (w.heap.size + 1) (iarr (fun v => if v < 0 then FAR else 0) N) 2, .blk w.heap.size #[.int .i64 N, .slice A l.length cap] 45] w4 := by
                 have e : iarr (fun v => if v < 0 then FAR else 0) N = Array.replicate N (.int .i64 0) := by
                   rw [← madeCells_one (.int .i64 0) N rfl]
                   show _ = madeCells #[Value.int .i64 0] N
                   rw [iarr_made]
                   exact iarr_ext fun i _ => if_neg (by omega)
                 rw [e]
                 simpa using hS
               clear hg4 hb4 hz4 hS)
  have HS2 := Lib.hid hS2
  clear hS0 hS2
  go_loopw [16] (fun i wr => ∃ k : Nat, k ≤ N ∧ i = .int .i64 k ∧ SL w w.heap.size [.blk (w.heap.size + 1) (iarr (fun v => if v < k then FAR else 0) N) 2, .blk w.heap.size #[.int .i64 N, .slice A l.length cap] 45] wr) (fun i _ => N - (intOf i).toNat)
  case atStart => exact ⟨0, by omega, rfl, HS2.out⟩
  case round =>
    clear HS2
    obtain ⟨k, hk, rfl, hS⟩ := hrel
    by_cases hlt : k < N
    · have d0 : wr.cell? ⟨w.heap.size + 1, k, none⟩ = some (.int .i64 (if k < k then FAR else 0)) := hS.cell 0 rfl k (iarr_get _ _ _ hlt)
      have d1 := hS.free 0 rfl k
      have hS4 := hS.setInt 0 rfl k FAR
      rw [below_step] at hS4
      have HS4 := Lib.hid hS4
      clear hS hS4
      go_wp2_with fail
      go_roundw
      case rel => exact ⟨k + 1, by omega, by go_num, HS4.out⟩
      case measure => simp [intOf]; omega
    · obtain rfl : k = N := by omega
      have d0 : wr.cell? ⟨w.heap.size + 1, f, none⟩ = some (.int .i64 (if f < k then FAR else 0)) := hS.cell 0 rfl f (iarr_get _ _ _ hf)
      have d1 := hS.free 0 rfl f
      have c0 : wr.cell? ⟨w.heap.size, 0, none⟩ = some (.int .i64 k) := hS.cell 1 rfl 0 rfl
      have hS4 := hS.setInt 0 rfl f 0
      have e4 : iarr (fun j => if j = f then (0 : Int) else if j < k then FAR else 0) k = iarr (farsR l f 0) k := iarr_ext fun i hi => by
        show _ = if i = f then (0 : Int) else FAR
        rw [if_pos hi]
      have hS5 : SL w w.heap.size [.row 2 1 (.slice (some ⟨w.heap.size + 1, 0, none⟩) k k) k (nums (farsR l f 0) k), .blk w.heap.size #[.int .i64 k, .slice A l.length cap] 45] _ := (show SL w w.heap.size [.blk (w.heap.size + 1) (iarr (farsR l f 0) k) 2, .blk w.heap.size #[.int .i64 k, .slice A l.length cap] 45] _ from by rw [← e4]; exact hS4).asRow 0 rfl (by unfold maxLen; omega)
      have HS5 := Lib.hid hS5
      clear hS hS4 hS5 e4
      go_upto_region 8 with fail
      generalize (wr.setCell ⟨w.heap.size + 1, f, none⟩ (.int .i64 0)) = w5 at *
      have c0 : w5.cell? ⟨w.heap.size, 0, none⟩ = some (.int .i64 k) := HS5.out.cell 1 rfl 0 rfl
      clear d0 d1
      go_wp2_with fail
      clear c0
      go_loopw [29, 6] (fun i v6 wr => ∃ (r g o c : Nat), r ≤ k + 1 ∧ i = .int .i64 r ∧ v6 = .slice (some ⟨g, o, none⟩) k c ∧ (∀ q, q < r → ¬ StillF k l f q) ∧ SL w w.heap.size [.row 2 1 (.slice (some ⟨g, o, none⟩) k c) k (nums (farsR l f r) k), .blk w.heap.size #[.int .i64 k, .slice A l.length cap] 45] wr) (fun i _ _ => k + 1 - (intOf i).toNat)
      case atStart => exact ⟨0, w.heap.size + 1, 0, k, by omega, rfl, rfl, fun q hq => absurd hq (by omega), HS5.out⟩
      case round =>
        clear HS5
        obtain ⟨r, g, o, c, hr, rfl, rfl, hno, hS⟩ := hrel
        have HNO := Lib.hid hno
        clear hno
        by_cases hlt : r < k + 1
        · obtain ⟨wo, rfl⟩ : ∃ wo : World, wo = wr := ⟨_, rfl⟩
          have HRD := Lib.hid (hS.reads 0 rfl)
          go_wp2_with (go_at_call 37; (with_reducible refine (cloneInt64 _ k c _ _ HRD.out (nums_one _ _) (by omega)).mono ?_); rintro e w2 ⟨v8, rfl, hc⟩
                       rcases (hc.row 0 rfl).in_ with h0 | ⟨g8, o8, c8, rfl, hg8⟩
                       · omega
                       have hS2 := hS.join hc
                       have c1 : w2.cell? ⟨w.heap.size, 1, none⟩ = some (.slice A l.length cap) := hS2.cell 2 rfl 1 rfl
                       clear hc hg8 hS)
          clear c1
          obtain ⟨F, hF⟩ : ∃ F, F = farsR l f r := ⟨_, rfl⟩
          have hS3 : SL w w.heap.size [.row 2 1 (.slice (some ⟨g8, o8, none⟩) k c8) k (nums (roundF l F 0) k), .row 2 1 (.slice (some ⟨g, o, none⟩) k c) k (nums F k), .blk w.heap.size #[.int .i64 k, .slice A l.length cap] 45] w2 := by rw [roundF_zero, hF]; exact hS2
          have HB : Hid (∀ j v, j ≤ l.length → v < k → -1152921504606846976 ≤ roundF l F j v ∧ roundF l F j v ≤ 1152921504606846976) := Lib.hid (by rw [hF]; exact fun j v h1 h2 => HBND.out r j v (by omega) h1 h2)
          have HFE := Lib.hid hF
          clear hS2 hF HRD
          go_loopw [36] (fun i wi => ∃ j : Nat, j ≤ l.length ∧ i = .int .i64 j ∧ SL w w.heap.size [.row 2 1 (.slice (some ⟨g8, o8, none⟩) k c8) k (nums (roundF l F j) k), .row 2 1 (.slice (some ⟨g, o, none⟩) k c) k (nums F k), .blk w.heap.size #[.int .i64 k, .slice A l.length cap] 45] wi) (fun i _ => l.length - (intOf i).toNat)
          case atStart => exact ⟨0, by omega, rfl, hS3⟩
          case round =>
            clear hS3
            obtain ⟨j, hj, rfl, hS⟩ := hrel
            by_cases hltj : j < l.length
            · obtain ⟨b, p, rfl, hb, d0, d1, d2⟩ := arcs_at (HR.out _ _ hS) hltj
              obtain ⟨⟨f0, f1⟩, t0, t1⟩ := HIN.out _ (List.getElem_mem hltj)
              have hwt := HWT.out _ (List.getElem_mem hltj)
              have HQ := Lib.hid (roundF_succ (now := F) hltj)
              have hbG := HB.out j l[j].to.toNat (by omega) (by omega)
              have hbF := HB.out 0 l[j].fr.toNat (by omega) (by omega)
              rw [roundF_zero] at hbF
              obtain ⟨G, hG⟩ : ∃ G, G = roundF l F j := ⟨_, rfl⟩
              rw [← hG] at hS HQ hbG
              obtain ⟨a, ha⟩ : ∃ a, l[j] = a := ⟨_, rfl⟩
              rw [ha] at d0 d1 d2 f0 f1 t0 t1 hwt HQ hbG hbF
              clear ha hG
              have hS2 := hS.alloc #[.int .i64 a.fr, .int .i64 a.to, .int .i64 a.wt] 55
              have hz1 : b < wr.heap.size := hb
              go_upto_region 14 with fail
              obtain ⟨ar, har⟩ : ∃ ar, ar = wr.heap.size := ⟨_, rfl⟩
              generalize (wr.alloc (.cells #[.int .i64 a.fr, .int .i64 a.to, .int .i64 a.wt] 55)) = w9 at *
              rw [← har] at hS2 ⊢
              clear har hS d0 d1 d2 hz1 hb
              have y0 : w9.cell? ⟨ar, 0, none⟩ = some (.int .i64 a.fr) := hS2.cell 0 rfl 0 rfl
              have y1 : w9.cell? ⟨g, o + a.fr.toNat, none⟩ = some (.int .i64 (F a.fr.toNat)) := hS2.rowCell 2 rfl _ (nums_get _ _ _ (by omega))
              obtain ⟨Fv, hFv⟩ : ∃ Fv, F a.fr.toNat = Fv := ⟨_, rfl⟩
              obtain ⟨Gv, hGv⟩ : ∃ Gv, G a.to.toNat = Gv := ⟨_, rfl⟩
              rw [hFv] at y1 hbF
              rw [hGv] at hbG
              have HFG := Lib.hid (And.intro hFv hGv)
              clear hFv hGv
              by_cases hfar : Fv = 1152921504606846976
              · have hne : (Fv != (1152921504606846976 : Int)) = false := by simp [hfar]
                have HS2 := Lib.hid hS2
                have HFA := Lib.hid hfar
                clear hS2 hfar
                go_wp2_with fail
                go_roundw
                case rel =>
                  refine ⟨j + 1, by omega, by go_num, ?_⟩
                  rw [HQ.out]
                  have e : stepF F G a = G := by
                    funext v
                    unfold stepF
                    rw [if_neg (by rw [HFG.out.1, HFA.out]; unfold FAR; simp)]
                  rw [e]
                  exact HS2.out.tail
                case measure => simp [intOf]; omega
              · have hne : (Fv != (1152921504606846976 : Int)) = true := by simp [hfar]
                have HFA := Lib.hid hfar
                clear hfar
                go_upto_region 15 with fail
                clear y0 y1 hne
                refine wp_region_sl [0,1,2,3,4,5,6,7,8,9,10,11,12,13,14,15,16] [] [17,18] _ hS2 (List.Sublist.refl _) (by kernel_rfl) (by kernel_rfl) (.cons rfl (.cons rfl .nil)) (fun C cw _ hC => ?_)
                have q0 : ∀ c, (cw c).cell? ⟨ar, 0, none⟩ = some (.int .i64 a.fr) := fun c => (hC c).cell 0 rfl 0 rfl
                have q1 : ∀ c, (cw c).cell? ⟨ar, 1, none⟩ = some (.int .i64 a.to) := fun c => (hC c).cell 0 rfl 1 rfl
                have q2 : ∀ c, (cw c).cell? ⟨ar, 2, none⟩ = some (.int .i64 a.wt) := fun c => (hC c).cell 0 rfl 2 rfl
                have q3 : ∀ c, (cw c).cell? ⟨g, o + a.fr.toNat, none⟩ = some (.int .i64 Fv) := fun c => by rw [← HFG.out.1]; exact (hC c).rowCell 2 rfl _ (nums_get _ _ _ (by omega))
                have q4 : ∀ c, (cw c).cell? ⟨g8, o8 + a.to.toNat, none⟩ = some (.int .i64 Gv) := fun c => by rw [← HFG.out.2]; exact (hC c).rowCell 1 rfl _ (nums_get _ _ _ (by omega))
                repeat (first | (refine pl_look rfl rfl rfl (fun Kv hK => ?_); go_big_quiet_op; refine hK _ ?_; clear hK Kv) | (refine pl_min _ _ _ _ _ _ _ _ rfl rfl rfl rfl rfl rfl (fun Kv hK => ?_); go_simp; refine hK _ ?_; clear hK Kv))
                clear q0 q1 q2 q3 q4 hC
                refine pl_end ?_
                intro w1 hS4
                refine pm_end ?_
                have y4 : w1.cell? ⟨g8, o8 + a.to.toNat, none⟩ = some (.int .i64 Gv) := by rw [← HFG.out.2]; exact hS4.rowCell 1 rfl _ (nums_get _ _ _ (by omega))
                have y5 := hS4.rowFree 1 rfl (o8 + a.to.toNat) (by omega)
                have hS5 := hS4.setRowCell 1 rfl a.to.toNat (by omega) (.int .i64 (if Fv + a.wt < Gv then Fv + a.wt else Gv))
                rw [nums_set] at hS5
                have HS5 := Lib.hid hS5
                clear hS2 hS4 hS5
                go_wp2_with fail
                go_roundw
                case rel =>
                  refine ⟨j + 1, by omega, by go_num, ?_⟩
                  rw [HQ.out]
                  have e : nums (stepF F G a) k = nums (fun j => if j = a.to.toNat then (if Fv + a.wt < Gv then Fv + a.wt else Gv) else G j) k := nums_ext fun v hv => by
                    unfold stepF
                    by_cases ev : v = a.to.toNat
                    · rw [if_pos ⟨by rw [HFG.out.1]; exact HFA.out, ev⟩, if_pos ev, HFG.out.1, ev, HFG.out.2]
                      split <;> omega
                    · rw [if_neg (fun h => ev h.2), if_neg ev]
                  rw [e]
                  exact HS5.out.tail
                case measure => simp [intOf]; omega
            · obtain rfl : j = l.length := by omega
              have HR1 := Lib.hid (hS.reads 1 rfl)
              have HR2 := Lib.hid (hS.reads 0 rfl)
              have HS := Lib.hid hS
              clear hS
              by_cases hst : StillF k l f r
              · have hgoal : ∀ v, v < k → F v = roundF l F l.length v := by rw [HFE.out]; exact fun v hv => (hst v hv).symm
                have HGO := Lib.hid hgoal
                have HST := Lib.hid hst
                clear hgoal hst
                go_wp2_with (go_at_call 38; (with_reducible refine (equal_nums64 F (roundF l F l.length) k _ _ c c8 _ (by omega) HR1.out HR2.out).mono ?_); rintro e w6 ⟨bb, rfl, hbb, hB6⟩
                             obtain rfl : bb = true := hbb.2 HGO.out
                             have HS6 := Lib.hid (HS.out.call hB6)
                             clear hbb hB6)
                go_ret2
                exact .inl ⟨r, some ⟨g, o, none⟩, c, by omega, HST.out, rfl, by rw [← HFE.out]; exact HS6.out.sub (by simp)⟩
              · have HST := Lib.hid hst
                clear hst
                go_wp2_with (go_at_call 38; (with_reducible refine (equal_nums64 F (roundF l F l.length) k _ _ c c8 _ (by omega) HR1.out HR2.out).mono ?_); rintro e w6 ⟨bb, rfl, hbb, hB6⟩
                             obtain rfl : bb = false := by
                               cases bb
                               · rfl
                               · exact absurd (fun v hv => by have := hbb.1 rfl v hv; rw [HFE.out] at this; exact this.symm) HST.out
                             have HS6 := Lib.hid (HS.out.call hB6)
                             clear hbb hB6)
                go_roundw
                case rel =>
                  refine ⟨r + 1, g8, o8, c8, by omega, by go_num, rfl, ?_, ?_⟩
                  · intro q hq
                    by_cases e : q = r
                    · subst e; exact HST.out
                    · exact HNO.out q (by omega)
                  · have h := HS6.out
                    rw [HFE.out] at h
                    exact h.sub (.cons_cons _ (.cons _ (List.Sublist.refl _)))
                case measure => simp [intOf]; omega
        · go_wp2_with fail
          go_ret2
          exact .inr ⟨fun q hq => HNO.out q (by omega), rfl, hS.below⟩
end Go.Proofs.Ytaaffahjlkfbgaa
