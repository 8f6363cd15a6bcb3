/- The walk of law FlowCuts. -/
import Derived.Test.YtgnmbmlpfjlbiaaLawNet
import Derived.Test.YtgnmbmlpfjlbiaaCutsM
import Derived.Test.YtgnmbmlpfjlbiaaCopyInts
namespace Go.Proofs.Ytgnmbmlpfjlbiaa
open Go.ChangeShapes Go.WideShapes Go.ChangeAt Go.RowKit
set_option linter.unusedVariables false
theorem eq_bools (N : Nat) (hN : N ≤ 1000) (g1 g2 : Nat) (f h : Nat → Bool) (t1 t2 : TypeId) (w : World) (h1 : w.heap[g1]? = some (.cells (barr f N) t1 (0, 0))) (h2 : w.heap[g2]? = some (.cells (barr h N) t2 (0, 0))) (he : ∀ i, i < N → f i = h i) :
    Calls Try.prog 19 #[.slice (some ⟨g1, 0, none⟩) N N, .slice (some ⟨g2, 0, none⟩) N N] w fun e w' => e = .returned (.bool true) ∧ Below w.heap.size w w' := by
  have hh : (List.range N).map h = (List.range N).map f := List.map_congr_left fun i hi => (he i (by simpa using hi)).symm
  have r1 := reads_barr h1
  have r2 := reads_barr h2
  rw [hh] at r2
  have := equal_bools _ _ N N ((List.range N).map f) w r1 r2 (by simp [maxLen]; omega)
  rw [List.length_map, List.length_range] at this
  exact this
set_option maxRecDepth 100000 in
set_option maxHeartbeats 8000000 in
theorem flowCuts0 (W : World) (n : Int) (A : Option Addr) (cap : Nat) (l : List TubeV) (a b : Int) (AR : Option Addr) (rc : Nat) (raw : List Int) (hraw : Reads W W.heap.size 1 AR raw.length (raw.map (.int .i64))) (hrl : raw.length ≤ maxLen) (hr : Tubes W W.heap.size A l) (hl : l.length ≤ maxLen) (hok : ∀ x ∈ l, x.ok) (n0 : 0 ≤ n) (n1 : n ≤ 255) (a0 : 0 ≤ a) (a1 : a ≤ 255) (b0 : 0 ≤ b) (b1 : b ≤ 255) :
    Calls Try.prog 4 #[.int .u8 n, .slice A l.length cap, .int .u8 a, .int .u8 b, .slice AR raw.length rc] W fun e w' => e = .returned (.bool true) ∧ Below W.heap.size W w' := by
  obtain ⟨N, L, s, t, hLN, hnet, hend⟩ := lawNet_pack W n A cap l a b hr hl hok n0 n1 a0 a1 b0 b1
  have HLN := Lib.hid hLN
  have HNET := Lib.hid hnet
  have HEND := Lib.hid hend
  have HRAW := Lib.hid hraw
  have hl14 := hLN.len
  have hn6 := hLN.n6
  have hs0 := hLN.s0
  have hs1 := hLN.s1
  have hm1 := make_ints L.length (by omega)
  have hm2 := make_bools N (by omega)
  clear hr hl hok hLN hnet hend hraw hrl
  go_enter Try.func4, Try.ntmps4
  go_upto_region 4 with (first
    | (go_at_call 13; (with_reducible refine (awake09 _).mono ?_); rintro e w1 ⟨rfl, hb1⟩; have HB1 := Lib.hid hb1; clear hb1)
    | (go_at_call 14; (with_reducible refine (HNET.out _ HB1.out).mono ?_); rintro e w2 ⟨v, rfl, hS⟩
       obtain ⟨A2, c2, rfl, _, _⟩ := (hS.row 0 rfl).slice_
       have HS := Lib.hid (hS.rebase HB1.out HB1.out.size)
       clear hS))
  have hS := HS.out.alloc #[.int .i64 N, .slice A2 L.length c2] 26
  obtain ⟨xb, hxb⟩ : ∃ xb, xb = w2.heap.size := ⟨_, rfl⟩
  generalize (w2.alloc (Obj.cells #[.int .i64 N, .slice A2 L.length c2] 26)) = w3 at *
  rw [← hxb] at hS ⊢
  clear hxb
  have HS3 := Lib.hid hS
  have c0 : w3.cell? ⟨xb, 0, none⟩ = some (.int .i64 N) := hS.cell 0 rfl 0 rfl
  have c1 : w3.cell? ⟨xb, 1, none⟩ = some (.slice A2 L.length c2) := hS.cell 0 rfl 1 rfl
  clear hS
  go_upto_region 6 with (go_at_call 15; (with_reducible refine (HEND.out _ _).mono ?_); rintro e w4 ⟨rfl, hb4⟩
                         have hS4 := HS3.out.call hb4
                         have c2' : w4.cell? ⟨xb, 1, none⟩ = some (.slice A2 L.length c2) := hS4.cell 0 rfl 1 rfl
                         have hz4 := (hS4.lt 0 rfl).2
                         have HS4 := Lib.hid hS4
                         clear hb4 c0 c1 hS4)
  have hS5 := HS4.out.alloc (iarr (fun _ => 0) L.length) 2
  obtain ⟨fb, hfb⟩ : ∃ fb, fb = w4.heap.size := ⟨_, rfl⟩
  generalize (w4.alloc (Obj.cells (iarr (fun _ => 0) L.length) 2)) = w5 at *
  rw [← hfb] at hS5 ⊢
  have HS5 := Lib.hid hS5
  clear hfb c2' hz4 hS5 hm1
  obtain ⟨X, hX⟩ : ∃ X, X = laidOver raw (fun _ => 0) := ⟨_, rfl⟩
  have HX := Lib.hid hX
  clear hX
  go_upto_region 8 with (refine wpList_copy_ints rfl (.tmp 41) (.tmp 42) 30 30 rfl 2 rfl (by kernel_rfl) fb L.length _ rfl AR raw rc rfl W.heap.size (Reads.below HRAW.out HS5.out.below) (fun _ => 0) 2 (HS5.out.blk 0 rfl) ?_
                         intro w6 v6 ho6 hh6
                         rw [← HX.out] at hh6
                         have hS6 : SL W W.heap.size [.blk fb (iarr X L.length) 2, .blk xb #[.int .i64 N, .slice A2 L.length c2] 26, .row 40 4 (.slice A2 L.length c2) L.length (pipeCells L)] w6 := HS5.out.only 0 rfl ho6 hh6
                         have d0 : w6.cell? ⟨xb, 0, none⟩ = some (.int .i64 N) := hS6.cell 1 rfl 0 rfl
                         have HS6 := Lib.hid hS6
                         clear ho6 hh6 hS6)
  have hS7 := HS6.out.alloc (barr (fun _ => false) N) 4
  obtain ⟨sb, hsb⟩ : ∃ sb, sb = w6.heap.size := ⟨_, rfl⟩
  generalize (w6.alloc (Obj.cells (barr (fun _ => false) N) 4)) = w7 at *
  rw [← hsb] at hS7 ⊢
  have e0 : w7.cell? ⟨sb, s.toNat, none⟩ = some (.bool false) := hS7.cell 0 rfl s.toNat (barr_get _ _ _ (by omega))
  have e1 := hS7.free 0 rfl s.toNat
  have e2 : w7.cell? ⟨xb, 0, none⟩ = some (.int .i64 N) := hS7.cell 2 rfl 0 rfl
  have e3 := hS7.ne 0 2 rfl rfl (by omega)
  have e4 := e3.symm
  have hS8 : SL W W.heap.size [.blk sb (barr (setB (fun _ => false) s.toNat) N) 4, .blk fb (iarr X L.length) 2, .blk xb #[.int .i64 N, .slice A2 L.length c2] 26, .row 40 4 (.slice A2 L.length c2) L.length (pipeCells L)] _ := hS7.setBool 0 rfl s.toNat true
  have HS8 := Lib.hid hS8
  clear hsb hS7 hS8 d0 hm2
  go_wp2_with fail
  clear e0 e1 e2 e3 e4
  generalize (w7.setCell ⟨sb, s.toNat, none⟩ (.bool true)) = w8 at *
  obtain ⟨F0, hF0⟩ : ∃ F0, F0 = setB (fun _ => false) s.toNat := ⟨_, rfl⟩
  rw [← hF0] at HS8
  have HF0 := Lib.hid hF0
  clear hF0
  go_loopw [52] (fun i wr => ∃ r : Nat, r ≤ N ∧ i = .int .i64 r ∧ SL W W.heap.size [.blk sb (barr (roundsB (resArcs L X) F0 r) N) 4, .blk fb (iarr X L.length) 2, .blk xb #[.int .i64 N, .slice A2 L.length c2] 26, .row 40 4 (.slice A2 L.length c2) L.length (pipeCells L)] wr) (fun i _ => N - (intOf i).toNat)
  case atStart => exact ⟨0, by omega, rfl, HS8.out⟩
  case round =>
    clear HS8
    obtain ⟨r, hrN, rfl, hS⟩ := hrel
    by_cases hlt : r < N
    · have f1 : wr.cell? ⟨xb, 1, none⟩ = some (.slice A2 L.length c2) := hS.cell 2 rfl 1 rfl
      have HS := Lib.hid hS
      clear hS
      obtain ⟨wo, rfl⟩ : ∃ wo : World, wo = wr := ⟨_, rfl⟩
      go_wp2_with fail
      clear f1
      obtain ⟨F, hF⟩ : ∃ F, F = roundsB (resArcs L X) F0 r := ⟨_, rfl⟩
      rw [← hF] at HS
      have HF := Lib.hid hF
      clear hF
      go_loopw [57] (fun i wi => ∃ k : Nat, k ≤ L.length ∧ i = .int .i64 k ∧ SL W W.heap.size [.blk sb (barr (roundB (resK L X k) F) N) 4, .blk fb (iarr X L.length) 2, .blk xb #[.int .i64 N, .slice A2 L.length c2] 26, .row 40 4 (.slice A2 L.length c2) L.length (pipeCells L)] wi) (fun i _ => L.length - (intOf i).toNat)
      case atStart => exact ⟨0, by omega, rfl, by simpa [resK, roundB] using HS.out⟩
      case round =>
        clear HS
        obtain ⟨k, hk, rfl, hS⟩ := hrel
        by_cases hkl : k < L.length
        · obtain ⟨G, hG⟩ : ∃ G, G = roundB (resK L X k) F := ⟨_, rfl⟩
          rw [← hG] at hS
          have hR : Pipes wr wr.heap.size A2 L := hS.reads 3 rfl
          obtain ⟨b, o, rfl, hb, d0, d1, d2, d3⟩ := pipes_at hR hkl
          obtain ⟨⟨f0, f1⟩, ⟨t0, t1⟩, r0, r1⟩ := HLN.out.inn _ (List.getElem_mem hkl)
          obtain ⟨p, hp⟩ : ∃ p, L[k] = p := ⟨_, rfl⟩
          rw [hp] at d0 d1 d2 d3 f0 f1 t0 t1 r0 r1
          have HR1 : Hid (roundB (resK L X (k + 1)) F = back p (X k) (forth p (X k) G)) := Lib.hid (by rw [round_succ hkl, hp, hG])
          have hS2 := hS.alloc #[.int .i64 p.fr, .int .i64 p.to, .int .i64 p.room, .int .i64 p.cost] 40
          clear hR hp hG hS
          go_upto_region 14 with fail
          obtain ⟨pr, hpr⟩ : ∃ pr, pr = wr.heap.size := ⟨_, rfl⟩
          generalize (wr.alloc (.cells #[.int .i64 p.fr, .int .i64 p.to, .int .i64 p.room, .int .i64 p.cost] 40)) = w9 at *
          rw [← hpr] at hS2 ⊢
          clear hpr d0 d1 d2 d3
          refine wp_region_sl [0,1,2,3,4,5,6] [] [] [.blk pr #[.int .i64 p.fr, .int .i64 p.to, .int .i64 p.room, .int .i64 p.cost] 40, .blk fb (iarr X L.length) 2] hS2 (by simp) (by kernel_rfl) (by kernel_rfl) .nil (fun C cw _ hC => ?_)
          have q0 : ∀ c, (cw c).cell? ⟨pr, 2, none⟩ = some (.int .i64 p.room) := fun c => (hC c).cell 0 rfl 2 rfl
          have q1 : ∀ c, (cw c).cell? ⟨fb, k, none⟩ = some (.int .i64 (X k)) := fun c => (hC c).cell 1 rfl k (iarr_get _ _ _ hkl)
          repeat (refine pl_look rfl rfl rfl (fun Kv hK => ?_); go_big_quiet_op; refine hK _ ?_; clear hK Kv)
          clear q0 q1 hC
          refine pl_end ?_
          intro w1 hS4
          refine pm_end ?_
          clear hS2
          go_upto_if 68 with fail
          go_cut [] (fun wx => SL W W.heap.size [.blk pr #[.int .i64 p.fr, .int .i64 p.to, .int .i64 p.room, .int .i64 p.cost] 40, .blk sb (barr (forth p (X k) G) N) 4, .blk fb (iarr X L.length) 2, .blk xb #[.int .i64 N, .slice (some ⟨b, o, none⟩) L.length c2] 26, .row 40 4 (.slice (some ⟨b, o, none⟩) L.length c2) L.length (pipeCells L)] wx)
          case first =>
            by_cases p1 : X k < p.room
            · have hd := decide_eq_true p1
              go_upto_region 15 with fail
              have hfo : forth p (X k) G = fun j => if j = p.to.toNat then (G p.to.toNat || G p.fr.toNat) else G j := by unfold forth; rw [if_pos p1]; rfl
              have HFO := Lib.hid hfo
              clear hfo
              cases g1 : G p.to.toNat
              · cases g2 : G p.fr.toNat
                · refine wp_region_sl [0,1,2,3,4,5,6,7,8,9,10,11,12,13,14] [] [15,16] [.blk pr #[.int .i64 p.fr, .int .i64 p.to, .int .i64 p.room, .int .i64 p.cost] 40, .blk sb (barr G N) 4] hS4 (by simp) (by kernel_rfl) (by kernel_rfl) (.cons rfl (.cons rfl .nil)) (fun C cw _ hC => ?_)
                  have q0 : ∀ c, (cw c).cell? ⟨pr, 1, none⟩ = some (.int .i64 p.to) := fun c => (hC c).cell 0 rfl 1 rfl
                  have q1 : ∀ c, (cw c).cell? ⟨pr, 0, none⟩ = some (.int .i64 p.fr) := fun c => (hC c).cell 0 rfl 0 rfl
                  have q2 : ∀ c, (cw c).cell? ⟨sb, p.to.toNat, none⟩ = some (.bool (G p.to.toNat)) := fun c => (hC c).cell 1 rfl _ (barr_get _ _ _ (by omega))
                  have q3 : ∀ c, (cw c).cell? ⟨sb, p.fr.toNat, none⟩ = some (.bool (G p.fr.toNat)) := fun c => (hC c).cell 1 rfl _ (barr_get _ _ _ (by omega))
                  rw [g1] at q2; rw [g2] at q3
                  repeat (first | (refine pl_look rfl rfl rfl (fun Kv hK => ?_); go_big_quiet_op; refine hK _ ?_; clear hK Kv) | (refine pl_skip rfl rfl (fun Kv hK => ?_); go_simp; refine hK _ ?_; clear hK Kv))
                  clear q0 q1 q2 q3 hC
                  refine pl_end ?_
                  intro w1 hS9
                  refine pm_end ?_
                  have k0 : w1.cell? ⟨sb, p.to.toNat, none⟩ = some (.bool (G p.to.toNat)) := hS9.cell 1 rfl _ (barr_get _ _ _ (by omega))
                  have k1 := hS9.free 1 rfl p.to.toNat
                  have HS9 : Hid (SL W W.heap.size _ _) := Lib.hid (hS9.setBool 1 rfl p.to.toNat (G p.to.toNat || G p.fr.toNat))
                  clear hS9 hS4
                  rw [g1] at k0; rw [g1, g2] at HS9
                  go_wp2_with fail
                  go_meet
                  rw [HFO.out, g1, g2]; exact HS9.out
                · refine wp_region_sl [0,1,2,3,4,5,6,7,8,9,10,11,12,13,14] [] [15,16] [.blk pr #[.int .i64 p.fr, .int .i64 p.to, .int .i64 p.room, .int .i64 p.cost] 40, .blk sb (barr G N) 4] hS4 (by simp) (by kernel_rfl) (by kernel_rfl) (.cons rfl (.cons rfl .nil)) (fun C cw _ hC => ?_)
                  have q0 : ∀ c, (cw c).cell? ⟨pr, 1, none⟩ = some (.int .i64 p.to) := fun c => (hC c).cell 0 rfl 1 rfl
                  have q1 : ∀ c, (cw c).cell? ⟨pr, 0, none⟩ = some (.int .i64 p.fr) := fun c => (hC c).cell 0 rfl 0 rfl
                  have q2 : ∀ c, (cw c).cell? ⟨sb, p.to.toNat, none⟩ = some (.bool (G p.to.toNat)) := fun c => (hC c).cell 1 rfl _ (barr_get _ _ _ (by omega))
                  have q3 : ∀ c, (cw c).cell? ⟨sb, p.fr.toNat, none⟩ = some (.bool (G p.fr.toNat)) := fun c => (hC c).cell 1 rfl _ (barr_get _ _ _ (by omega))
                  rw [g1] at q2; rw [g2] at q3
                  repeat (first | (refine pl_look rfl rfl rfl (fun Kv hK => ?_); go_big_quiet_op; refine hK _ ?_; clear hK Kv) | (refine pl_skip rfl rfl (fun Kv hK => ?_); go_simp; refine hK _ ?_; clear hK Kv))
                  clear q0 q1 q2 q3 hC
                  refine pl_end ?_
                  intro w1 hS9
                  refine pm_end ?_
                  have k0 : w1.cell? ⟨sb, p.to.toNat, none⟩ = some (.bool (G p.to.toNat)) := hS9.cell 1 rfl _ (barr_get _ _ _ (by omega))
                  have k1 := hS9.free 1 rfl p.to.toNat
                  have HS9 : Hid (SL W W.heap.size _ _) := Lib.hid (hS9.setBool 1 rfl p.to.toNat (G p.to.toNat || G p.fr.toNat))
                  clear hS9 hS4
                  rw [g1] at k0; rw [g1, g2] at HS9
                  go_wp2_with fail
                  go_meet
                  rw [HFO.out, g1, g2]; exact HS9.out
              · refine wp_region_sl [0,1,2,3,4,5,6,7,8,9,10,11,12,13,14] [] [15,16] [.blk pr #[.int .i64 p.fr, .int .i64 p.to, .int .i64 p.room, .int .i64 p.cost] 40, .blk sb (barr G N) 4] hS4 (by simp) (by kernel_rfl) (by kernel_rfl) (.cons rfl (.cons rfl .nil)) (fun C cw _ hC => ?_)
                have q0 : ∀ c, (cw c).cell? ⟨pr, 1, none⟩ = some (.int .i64 p.to) := fun c => (hC c).cell 0 rfl 1 rfl
                have q1 : ∀ c, (cw c).cell? ⟨pr, 0, none⟩ = some (.int .i64 p.fr) := fun c => (hC c).cell 0 rfl 0 rfl
                have q2 : ∀ c, (cw c).cell? ⟨sb, p.to.toNat, none⟩ = some (.bool (G p.to.toNat)) := fun c => (hC c).cell 1 rfl _ (barr_get _ _ _ (by omega))
                have q3 : ∀ c, (cw c).cell? ⟨sb, p.fr.toNat, none⟩ = some (.bool (G p.fr.toNat)) := fun c => (hC c).cell 1 rfl _ (barr_get _ _ _ (by omega))
                rw [g1] at q2
                repeat (first | (refine pl_look rfl rfl rfl (fun Kv hK => ?_); go_big_quiet_op; refine hK _ ?_; clear hK Kv) | (refine pl_skip rfl rfl (fun Kv hK => ?_); go_simp; refine hK _ ?_; clear hK Kv))
                clear q0 q1 q2 q3 hC
                refine pl_end ?_
                intro w1 hS9
                refine pm_end ?_
                have k0 : w1.cell? ⟨sb, p.to.toNat, none⟩ = some (.bool (G p.to.toNat)) := hS9.cell 1 rfl _ (barr_get _ _ _ (by omega))
                have k1 := hS9.free 1 rfl p.to.toNat
                have HS9 : Hid (SL W W.heap.size _ _) := Lib.hid (hS9.setBool 1 rfl p.to.toNat (G p.to.toNat || G p.fr.toNat))
                clear hS9 hS4
                rw [g1, Bool.true_or] at HS9; rw [g1] at k0
                go_wp2_with fail
                go_meet
                rw [HFO.out, g1, Bool.true_or]; exact HS9.out
            · have hd := decide_eq_false p1
              have hfo : forth p (X k) G = G := by unfold forth; rw [if_neg p1]
              have HFO := Lib.hid hfo
              clear hfo
              have HS4 := Lib.hid hS4
              clear hS4
              go_wp2_with fail
              go_meet
              rw [HFO.out]; exact HS4.out
          case rest =>
            clear hS4
            obtain ⟨G2, hG2⟩ : ∃ G2, G2 = forth p (X k) G := ⟨_, rfl⟩
            rw [← hG2] at hcut HR1
            have HQ : Hid (∀ (f : Nat → Bool) (w' : World), back p (X k) G2 = f → SL W W.heap.size [.blk sb (barr f N) 4, .blk fb (iarr X L.length) 2, .blk xb #[.int .i64 N, .slice (some ⟨b, o, none⟩) L.length c2] 26, .row 40 4 (.slice (some ⟨b, o, none⟩) L.length c2) L.length (pipeCells L)] w' → SL W W.heap.size [.blk sb (barr (roundB (resK L X (k + 1)) F) N) 4, .blk fb (iarr X L.length) 2, .blk xb #[.int .i64 N, .slice (some ⟨b, o, none⟩) L.length c2] 26, .row 40 4 (.slice (some ⟨b, o, none⟩) L.length c2) L.length (pipeCells L)] w') := Lib.hid (by
              intro f w' e h
              rw [HR1.out, e]; exact h)
            clear hG2 HR1
            have x0 : wc.cell? ⟨fb, k, none⟩ = some (.int .i64 (X k)) := hcut.cell 2 rfl k (iarr_get _ _ _ hkl)
            by_cases r2 : 0 < X k
            · have hd := decide_eq_true r2
              go_upto_region 17 with fail
              clear x0
              cases g1 : G2 p.fr.toNat
              · cases g2 : G2 p.to.toNat
                · refine wp_region_sl [0,1,2,3,4,5,6,7,8,9,10,11,12,13,14] [] [15,16] [.blk pr #[.int .i64 p.fr, .int .i64 p.to, .int .i64 p.room, .int .i64 p.cost] 40, .blk sb (barr G2 N) 4] hcut (by simp) (by kernel_rfl) (by kernel_rfl) (.cons rfl (.cons rfl .nil)) (fun C cw _ hC => ?_)
                  have q0 : ∀ c, (cw c).cell? ⟨pr, 0, none⟩ = some (.int .i64 p.fr) := fun c => (hC c).cell 0 rfl 0 rfl
                  have q1 : ∀ c, (cw c).cell? ⟨pr, 1, none⟩ = some (.int .i64 p.to) := fun c => (hC c).cell 0 rfl 1 rfl
                  have q2 : ∀ c, (cw c).cell? ⟨sb, p.fr.toNat, none⟩ = some (.bool (G2 p.fr.toNat)) := fun c => (hC c).cell 1 rfl _ (barr_get _ _ _ (by omega))
                  have q3 : ∀ c, (cw c).cell? ⟨sb, p.to.toNat, none⟩ = some (.bool (G2 p.to.toNat)) := fun c => (hC c).cell 1 rfl _ (barr_get _ _ _ (by omega))
                  rw [g1] at q2; rw [g2] at q3
                  repeat (first | (refine pl_look rfl rfl rfl (fun Kv hK => ?_); go_big_quiet_op; refine hK _ ?_; clear hK Kv) | (refine pl_skip rfl rfl (fun Kv hK => ?_); go_simp; refine hK _ ?_; clear hK Kv))
                  clear q0 q1 q2 q3 hC
                  refine pl_end ?_
                  intro w1 hS9
                  refine pm_end ?_
                  have k0 : w1.cell? ⟨sb, p.fr.toNat, none⟩ = some (.bool (G2 p.fr.toNat)) := hS9.cell 1 rfl _ (barr_get _ _ _ (by omega))
                  have k1 := hS9.free 1 rfl p.fr.toNat
                  have HS9 : Hid (SL W W.heap.size _ _) := Lib.hid (hS9.setBool 1 rfl p.fr.toNat (G2 p.fr.toNat || G2 p.to.toNat))
                  clear hS9 hcut
                  rw [g1] at k0; rw [g1, g2] at HS9
                  go_wp2_with fail
                  go_roundw
                  case rel => exact ⟨k + 1, by omega, by go_num, HQ.out _ _ (by unfold back; rw [if_pos r2, g1, g2]) HS9.out.tail⟩
                  case measure => simp [intOf]; omega
                · refine wp_region_sl [0,1,2,3,4,5,6,7,8,9,10,11,12,13,14] [] [15,16] [.blk pr #[.int .i64 p.fr, .int .i64 p.to, .int .i64 p.room, .int .i64 p.cost] 40, .blk sb (barr G2 N) 4] hcut (by simp) (by kernel_rfl) (by kernel_rfl) (.cons rfl (.cons rfl .nil)) (fun C cw _ hC => ?_)
                  have q0 : ∀ c, (cw c).cell? ⟨pr, 0, none⟩ = some (.int .i64 p.fr) := fun c => (hC c).cell 0 rfl 0 rfl
                  have q1 : ∀ c, (cw c).cell? ⟨pr, 1, none⟩ = some (.int .i64 p.to) := fun c => (hC c).cell 0 rfl 1 rfl
                  have q2 : ∀ c, (cw c).cell? ⟨sb, p.fr.toNat, none⟩ = some (.bool (G2 p.fr.toNat)) := fun c => (hC c).cell 1 rfl _ (barr_get _ _ _ (by omega))
                  have q3 : ∀ c, (cw c).cell? ⟨sb, p.to.toNat, none⟩ = some (.bool (G2 p.to.toNat)) := fun c => (hC c).cell 1 rfl _ (barr_get _ _ _ (by omega))
                  rw [g1] at q2; rw [g2] at q3
                  repeat (first | (refine pl_look rfl rfl rfl (fun Kv hK => ?_); go_big_quiet_op; refine hK _ ?_; clear hK Kv) | (refine pl_skip rfl rfl (fun Kv hK => ?_); go_simp; refine hK _ ?_; clear hK Kv))
                  clear q0 q1 q2 q3 hC
                  refine pl_end ?_
                  intro w1 hS9
                  refine pm_end ?_
                  have k0 : w1.cell? ⟨sb, p.fr.toNat, none⟩ = some (.bool (G2 p.fr.toNat)) := hS9.cell 1 rfl _ (barr_get _ _ _ (by omega))
                  have k1 := hS9.free 1 rfl p.fr.toNat
                  have HS9 : Hid (SL W W.heap.size _ _) := Lib.hid (hS9.setBool 1 rfl p.fr.toNat (G2 p.fr.toNat || G2 p.to.toNat))
                  clear hS9 hcut
                  rw [g1] at k0; rw [g1, g2] at HS9
                  go_wp2_with fail
                  go_roundw
                  case rel => exact ⟨k + 1, by omega, by go_num, HQ.out _ _ (by unfold back; rw [if_pos r2, g1, g2]) HS9.out.tail⟩
                  case measure => simp [intOf]; omega
              · refine wp_region_sl [0,1,2,3,4,5,6,7,8,9,10,11,12,13,14] [] [15,16] [.blk pr #[.int .i64 p.fr, .int .i64 p.to, .int .i64 p.room, .int .i64 p.cost] 40, .blk sb (barr G2 N) 4] hcut (by simp) (by kernel_rfl) (by kernel_rfl) (.cons rfl (.cons rfl .nil)) (fun C cw _ hC => ?_)
                have q0 : ∀ c, (cw c).cell? ⟨pr, 0, none⟩ = some (.int .i64 p.fr) := fun c => (hC c).cell 0 rfl 0 rfl
                have q1 : ∀ c, (cw c).cell? ⟨pr, 1, none⟩ = some (.int .i64 p.to) := fun c => (hC c).cell 0 rfl 1 rfl
                have q2 : ∀ c, (cw c).cell? ⟨sb, p.fr.toNat, none⟩ = some (.bool (G2 p.fr.toNat)) := fun c => (hC c).cell 1 rfl _ (barr_get _ _ _ (by omega))
                have q3 : ∀ c, (cw c).cell? ⟨sb, p.to.toNat, none⟩ = some (.bool (G2 p.to.toNat)) := fun c => (hC c).cell 1 rfl _ (barr_get _ _ _ (by omega))
                rw [g1] at q2
                repeat (first | (refine pl_look rfl rfl rfl (fun Kv hK => ?_); go_big_quiet_op; refine hK _ ?_; clear hK Kv) | (refine pl_skip rfl rfl (fun Kv hK => ?_); go_simp; refine hK _ ?_; clear hK Kv))
                clear q0 q1 q2 q3 hC
                refine pl_end ?_
                intro w1 hS9
                refine pm_end ?_
                have k0 : w1.cell? ⟨sb, p.fr.toNat, none⟩ = some (.bool (G2 p.fr.toNat)) := hS9.cell 1 rfl _ (barr_get _ _ _ (by omega))
                have k1 := hS9.free 1 rfl p.fr.toNat
                have HS9 : Hid (SL W W.heap.size _ _) := Lib.hid (hS9.setBool 1 rfl p.fr.toNat (G2 p.fr.toNat || G2 p.to.toNat))
                clear hS9 hcut
                rw [g1, Bool.true_or] at HS9; rw [g1] at k0
                go_wp2_with fail
                go_roundw
                case rel => exact ⟨k + 1, by omega, by go_num, HQ.out _ _ (by unfold back; rw [if_pos r2, g1, Bool.true_or]) HS9.out.tail⟩
                case measure => simp [intOf]; omega
            · have hd := decide_eq_false r2
              have HC := Lib.hid hcut
              clear hcut
              go_wp2_with fail
              go_roundw
              case rel => exact ⟨k + 1, by omega, by go_num, HQ.out _ _ (by unfold back; rw [if_neg r2]) HC.out.tail⟩
              case measure => simp [intOf]; omega
        · obtain rfl : k = L.length := by omega
          have HS2 := Lib.hid hS
          clear hS
          go_wp2_with fail
          go_roundw
          case rel => exact ⟨r + 1, by omega, by go_num, by
            have h := HS2.out
            rw [HF.out] at h
            exact h⟩
          case measure => simp [intOf]; omega
    · obtain rfl : r = N := by omega
      obtain ⟨S0, hS0⟩ : ∃ S0, S0 = roundsB (resArcs L X) F0 r := ⟨_, rfl⟩
      rw [← hS0] at hS
      rw [HF0.out] at hS0
      have HS0 := Lib.hid hS0
      have z0 : wr.cell? ⟨xb, 0, none⟩ = some (.int .i64 r) := hS.cell 2 rfl 0 rfl
      have z1 : wr.cell? ⟨xb, 1, none⟩ = some (.slice A2 L.length c2) := hS.cell 2 rfl 1 rfl
      have HC1 : Hid (Calls Try.prog 20 #[.agg #[.int .i64 r, .slice A2 L.length c2], .slice (some ⟨fb, 0, none⟩) L.length L.length, .int .i64 s] wr (CutPost wr r L X s)) := Lib.hid (cut_any r A2 _ c2 L.length L ((List.range L.length).map X) s wr (hS.reads 3 rfl) (reads_iarr (hS.blk 1 rfl)) (by simp) HLN.out.check hs0 hs1 X (by intro k hk; simp))
      have HS := Lib.hid hS
      clear hS0 hS hlt hrN
      go_wp2_with (first
        | (go_at_call 20; (with_reducible refine HC1.out.mono ?_); rintro e w10 ⟨seen, by_, gs, rfl, hS10, hW10⟩
           have hS11 := HS.out.join hS10
           have HE := Lib.hid (eq_bools r (by omega) gs sb seen S0 _ _ w10 (hS11.blk 0 rfl) (hS11.blk 1 rfl) (fun i hi => by rw [HS0.out]; exact rounds_walked HLN.out.inn hs0 hs1 hW10 i hi))
           have HS11 := Lib.hid hS11
           clear hS11 hS10 hW10 z0 z1)
        | (go_at_call 19; (with_reducible refine HE.out.mono ?_); rintro e w11 ⟨rfl, hb⟩
           have hS12 := HS11.out.call hb
           have z2 : w11.cell? ⟨xb, 0, none⟩ = some (.int .i64 r) := hS12.cell 3 rfl 0 rfl
           have z3 : w11.cell? ⟨xb, 1, none⟩ = some (.slice A2 L.length c2) := hS12.cell 3 rfl 1 rfl
           have HM : Hid (Calls Try.prog 16 #[.agg #[.int .i64 r, .slice A2 L.length c2], .int .i64 s, .int .i64 t] w11 (MostPost w11 r L s t)) := Lib.hid (most_any r A2 c2 L s t w11 (hS12.reads 4 rfl) HLN.out.ends)
           have HS12 := Lib.hid hS12
           clear hb hS12)
        | (go_at_call 16; (with_reducible refine HM.out.mono ?_); rintro e w12 ⟨y, sum, lb, rfl, hS13, hM⟩
           have hS14 := HS12.out.join hS13
           have z4 : w12.cell? ⟨xb, 0, none⟩ = some (.int .i64 r) := hS14.cell 4 rfl 0 rfl
           have z5 : w12.cell? ⟨xb, 1, none⟩ = some (.slice A2 L.length c2) := hS14.cell 4 rfl 1 rfl
           have HC2 : Hid (Calls Try.prog 20 #[.agg #[.int .i64 r, .slice A2 L.length c2], .slice (some ⟨lb, 0, none⟩) L.length L.length, .int .i64 s] w12 (CutPost w12 r L y s)) := Lib.hid (cut_any r A2 _ c2 L.length L ((List.range L.length).map y) s w12 (hS14.reads 5 rfl) (reads_iarr (hS14.blk 0 rfl)) (by simp) HLN.out.check hs0 hs1 y (by intro k hk; simp))
           have HS14 := Lib.hid (And.intro hS14 hM)
           clear hS14 hS13 hM z2 z3)
        | (go_at_call 20; (with_reducible refine HC2.out.mono ?_); rintro e w13 ⟨cut, by2, gc, rfl, hS15, hW15⟩
           obtain ⟨hfl, seen3, by3, hW3, ht3⟩ := HS14.out.2
           have hct : cut t.toNat = false := by rw [walked_same hW15 hW3 t.toNat (by have := HLN.out.t1; have := HLN.out.t0; omega)]; exact ht3
           have hcs : cut s.toNat = true := hW15.start
           have HCUT : Hid (sum = Go.Proofs.Ytgnmbmlpfjlbiaa.cap cut L) := Lib.hid (most_cap HLN.out.inn hfl HLN.out.t0 HLN.out.t1 hs0 hW15 hct)
           have hS16 := HS14.out.1.join hS15
           have y0 : w13.cell? ⟨gc, s.toNat, none⟩ = some (.bool true) := by rw [← hcs]; exact hS16.cell 0 rfl _ (barr_get _ _ _ (by omega))
           have y1 : w13.cell? ⟨gc, t.toNat, none⟩ = some (.bool false) := by rw [← hct]; exact hS16.cell 0 rfl _ (barr_get _ _ _ (by have := HLN.out.t1; have := HLN.out.t0; omega))
           have y2 : w13.cell? ⟨xb, 0, none⟩ = some (.int .i64 r) := hS16.cell 5 rfl 0 rfl
           have y3 : w13.cell? ⟨xb, 1, none⟩ = some (.slice A2 L.length c2) := hS16.cell 5 rfl 1 rfl
           have y4 := HLN.out.t0
           have y5 := HLN.out.t1
           have HS16 := Lib.hid hS16
           clear hfl hW3 ht3 hct hcs hS16 hS15 hW15 z4 z5))
      clear y0 y1 y2 y3
      go_loopw [22, 152] (fun vs vi wr => ∃ k : Nat, k ≤ L.length ∧ vi = .int .i64 k ∧ vs = .int .i64 (capK cut L k) ∧ SL W W.heap.size [.blk gc (barr cut r) 4, .blk xb #[.int .i64 r, .slice A2 L.length c2] 26, .row 40 4 (.slice A2 L.length c2) L.length (pipeCells L)] wr) (fun _ vi _ => L.length - (intOf vi).toNat)
      case atStart => exact ⟨0, by omega, rfl, rfl, HS16.out.sub (.cons_cons _ (.cons _ (.cons _ (.cons _ (.cons _ (List.Sublist.refl _))))))⟩
      case round =>
        obtain ⟨k, hk, rfl, rfl, hS⟩ := hrel
        by_cases hkl : k < L.length
        · have hR : Pipes wr wr.heap.size A2 L := hS.reads 2 rfl
          obtain ⟨b, o, rfl, hb, d0, d1, d2, d3⟩ := pipes_at hR hkl
          obtain ⟨⟨f0, f1⟩, ⟨t0, t1⟩, r0, r1⟩ := HLN.out.inn _ (List.getElem_mem hkl)
          obtain ⟨k1, k2⟩ := capK_rooms (S := cut) HLN.out.inn k hk
          have k3 := (innK_le HLN.out.inn (feas_zero HLN.out.inn) 0 k hk).2.1
          have HK := Lib.hid (capK_succ (S := cut) hkl)
          obtain ⟨p, hp⟩ : ∃ p, L[k] = p := ⟨_, rfl⟩
          rw [hp] at d0 d1 d2 d3 f0 f1 t0 t1 r0 r1 HK
          have g0 : wr.cell? ⟨gc, p.fr.toNat, none⟩ = some (.bool (cut p.fr.toNat)) := hS.cell 0 rfl _ (barr_get _ _ _ (by omega))
          have g1 : wr.cell? ⟨gc, p.to.toNat, none⟩ = some (.bool (cut p.to.toNat)) := hS.cell 0 rfl _ (barr_get _ _ _ (by omega))
          have hz := (hS.lt 0 rfl).2
          have HS := Lib.hid (hS.alloc #[.int .i64 p.fr, .int .i64 p.to, .int .i64 p.room, .int .i64 p.cost] 40).tail
          clear hR hp hS
          unfold capOne at HK
          generalize capK cut L k = c at *
          cases e1 : cut p.fr.toNat <;> cases e2 : cut p.to.toNat
          all_goals
            rw [e1] at g0
            rw [e2] at g1
            rw [e1, e2] at HK
            clear e1 e2
            go_wp2
            go_roundw
            case rel => exact ⟨k + 1, by omega, by go_num, by rw [HK.out]; simp, HS.out⟩
            case measure => simp [intOf]; omega
        · obtain rfl : k = L.length := by omega
          have hce : capK cut L L.length = sum := HCUT.out.symm
          rw [hce]
          have HS := Lib.hid hS
          clear hS
          go_wp2
          go_ret
          exact ⟨rfl, HS.out.below⟩
set_option maxRecDepth 100000 in
theorem flowCuts_walk {H : Type} {enc : TypeId × Value → H} {base : Nat} (W : World) (n : Int) (_hn : (Lit.int .u8 n).wf = true) (v : Value) (d : DataW H) (p : List MemPlace) (o : Value.okWide Try.prog W .any base 22 v) (k : DataW.Trod enc Try.prog W 0 (fun _ => true) true 22 v d p)
    (a : Int) (_ha : (Lit.int .u8 a).wf = true) (b : Int) (_hb : (Lit.int .u8 b).wf = true) (AR : Option Addr) (rc : Nat) (raw : List Int) (hraw : Reads W W.heap.size 1 AR raw.length (raw.map (.int .i64))) (hrl : raw.length ≤ maxLen) (hrw : ∀ x ∈ raw, (Lit.int .i64 x).wf = true) :
    Calls Try.prog 4 #[.int .u8 n, v, .int .u8 a, .int .u8 b, .slice AR raw.length rc] W fun e w' => e = .returned (.bool true) ∧ Below W.heap.size W w' := by
  obtain ⟨A, cap, l, rfl, hr, hl, hok⟩ := tubes_open o k
  simp [Lit.wf, IntKind.min, IntKind.max, IntKind.signed, IntKind.bits] at _hn _ha _hb
  exact flowCuts0 W n A cap l a b AR rc raw hraw hrl hr hl hok _hn.1 _hn.2 _ha.1 _ha.2 _hb.1 _hb.2
end Go.Proofs.Ytgnmbmlpfjlbiaa
