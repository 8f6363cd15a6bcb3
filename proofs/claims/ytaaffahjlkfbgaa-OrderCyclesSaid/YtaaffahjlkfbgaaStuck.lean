/- The walks of order.stuck and of slices.Index at a row of truths. -/
import Derived.Test.YtaaffahjlkfbgaaStuckM
import Derived.Test.YtaaffahjlkfbgaaSorted
namespace Go.Proofs.Ytaaffahjlkfbgaa
open Go.ChangeShapes Go.WideShapes Go.ChangeAt Go.RowKit
set_option linter.unusedVariables false
set_option maxHeartbeats 1000000 in
theorem index_true (g N : Nat) (f : Nat → Bool) (w : World) (hc : ∀ j, j < N → w.cell? ⟨g, j, none⟩ = some (.bool (f j))) (hN : N ≤ 1000) (hex : ∃ j, j < N ∧ f j = true) :
    Calls Try.prog 61 #[.slice (some ⟨g, 0, none⟩) N N, .bool true] w fun e w' => (∃ i : Nat, i < N ∧ f i = true ∧ e = .returned (.int .i64 i)) ∧ Below w.heap.size w w' := by
  have HC := Lib.hid hc
  have HEX := Lib.hid hex
  have hgl : ∀ j, j < N → g < w.heap.size := fun j hj => World.block_lt_of_cell? w _ (hc j hj)
  have HGL := Lib.hid hgl
  clear hc hex hgl
  go_enter Try.func61, Try.ntmps61
  go_wp2
  go_loopw [8] (fun i wr => ∃ k : Nat, k ≤ N ∧ i = .int .i64 k ∧ (∀ j, j < k → f j = false) ∧ Below w.heap.size w wr) (fun i _ => N - (intOf i).toNat)
  case atStart => exact ⟨0, by omega, rfl, fun j hj => absurd hj (by omega), Below.refl _ _⟩
  case round =>
    obtain ⟨k, hk, rfl, hz, hB⟩ := hrel
    have HZ := Lib.hid hz
    clear hz
    by_cases hlt : k < N
    · have e1 : wr.cell? ⟨g, k, none⟩ = some (.bool (f k)) := (hB.cell (p := ⟨g, k, none⟩) (HGL.out k hlt)).trans (HC.out k hlt)
      cases hn : f k
      · have HN : Hid (f k = false) := Lib.hid hn
        rw [hn] at e1
        clear hn
        go_wp2_with fail
        go_roundw
        case rel => exact ⟨k + 1, by omega, by go_num, fun j hj => by
          by_cases e : j = k
          · subst e; exact HN.out
          · exact HZ.out j (by omega), hB⟩
        case measure => simp [intOf]; omega
      · have HN : Hid (f k = true) := Lib.hid hn
        rw [hn] at e1
        clear hn
        go_wp2_with fail
        go_ret
        exact ⟨⟨k, hlt, HN.out, rfl⟩, hB⟩
    · exfalso
      obtain ⟨j, hj, hf⟩ := HEX.out
      rw [HZ.out j (by omega)] at hf; cases hf
theorem stuck_led_step (S f : Nat → Bool) (a : ArcV) (N : Nat) (b : Bool) (h : (f a.to.toNat || S a.fr.toNat) = b) : barr (fun j => if j = a.to.toNat then b else f j) N = barr (ledA S f a) N := by
  unfold ledA; rw [h]
theorem stuck_step (l : List ArcV) (r N k : Nat) (b : Bool) (h : stuckR l (r + 1) k = b) : barr (fun j => if j = k then b else if j < k then stuckR l (r + 1) j else stuckR l r j) N = barr (fun j => if j < k + 1 then stuckR l (r + 1) j else stuckR l r j) N := barr_ext fun j hj => by
  by_cases e : j = k
  · rw [if_pos e, if_pos (by omega), e, h]
  · rw [if_neg e]
    by_cases e2 : j < k
    · rw [if_pos e2, if_pos (by omega)]
    · rw [if_neg e2, if_neg (by omega)]
set_option maxRecDepth 100000 in
set_option maxHeartbeats 8000000 in
theorem stuck_any (N : Nat) (A : Option Addr) (cap : Nat) (l : List ArcV) (w : World) (hr : Arcs w w.heap.size A l) (hin : InN N l) (hNn : N ≤ 1000) (hl : l.length ≤ 20000) :
    Calls Try.prog 60 #[.agg #[.int .i64 N, .slice A l.length cap]] w fun e w' => ∃ g, e = .returned (.slice (some ⟨g, 0, none⟩) N N) ∧ SL w w.heap.size [.blk g (barr (stuckR l N) N) 4] w' := by
  have hS0 := (SL.start (Nat.le_refl w.heap.size)).alloc #[.int .i64 N, .slice A l.length cap] 45
  have HR : Hid (∀ (rs : List Rs) w', SL w w.heap.size rs w' → Arcs w' w'.heap.size A l) := Lib.hid (fun rs w' h => reads_more (Reads.below hr h.below) h.below.size)
  obtain ⟨ib, hib, hbz0, hbz1, hbz2⟩ := info_parts bool_info
  have HB := Lib.hid (And.intro hib (And.intro hbz0 (And.intro hbz1 hbz2)))
  have HIN := Lib.hid hin
  clear hr hin hib hbz0 hbz1 hbz2
  go_enter Try.func60, Try.ntmps60
  go_upto_region 1 with fail
  obtain ⟨gb, hgb⟩ : ∃ gb, gb = w.heap.size := ⟨_, rfl⟩
  obtain ⟨w0, hw0⟩ : ∃ w0, w0 = w.alloc (.cells #[.int .i64 N, .slice A l.length cap] 45) := ⟨_, rfl⟩
  have HS0 : Hid (SL w w.heap.size [.blk gb #[.int .i64 N, .slice A l.length cap] 45] w0) := Lib.hid (by rw [hgb, hw0]; exact hS0)
  rw [← hw0, ← hgb]
  clear hS0 hw0 hgb
  have c0 : w0.cell? ⟨gb, 0, none⟩ = some (.int .i64 N) := HS0.out.cell 0 rfl 0 rfl
  go_wp2_with (at_make; refine wpList_make_rep _ rfl _ _ 65 rfl 4 ib (.bool false) Try.underlying65 HB.out.1 HB.out.2.1 HB.out.2.2.1 rfl .i64 .i64 N N N rfl rfl rfl rfl ?b2 ?b3 ?_
               case b2 => rw [HB.out.2.2.2]; omega
               case b3 => unfold maxLen; omega
               intro w4 hg4 hb4 hz4
               obtain ⟨lb, hlb⟩ : ∃ lb, lb = w0.heap.size := ⟨_, rfl⟩
               have hS := HS0.out.made hb4 hg4
               have HS2 : Hid (SL w w.heap.size [.blk lb (barr (fun j => decide (j < 0)) N) 4, .blk gb #[.int .i64 N, .slice A l.length cap] 45] w4) := Lib.hid (by
                 have e : barr (fun j => decide (j < 0)) N = Array.replicate N (.bool false) := by
                   rw [← barr_rep]
                   exact barr_ext fun i _ => by simp
                 rw [e, hlb]
                 simpa using hS)
               rw [← hlb]
               clear hg4 hb4 hz4 hS hlb c0)
  clear HS0
  go_loopw [14] (fun i wr => ∃ k : Nat, k ≤ N ∧ i = .int .i64 k ∧ SL w w.heap.size [.blk lb (barr (fun j => decide (j < k)) N) 4, .blk gb #[.int .i64 N, .slice A l.length cap] 45] wr) (fun i _ => N - (intOf i).toNat)
  case atStart => exact ⟨0, by omega, rfl, HS2.out⟩
  case round =>
    clear HS2
    obtain ⟨k, hk, rfl, hS⟩ := hrel
    by_cases hlt : k < N
    · have d0 : wr.cell? ⟨lb, k, none⟩ = some (.bool (decide (k < k))) := hS.cell 0 rfl k (barr_get _ _ _ hlt)
      have d1 := hS.free 0 rfl k
      have hS4 := hS.setBool 0 rfl k true
      have e : barr (fun j => if j = k then true else decide (j < k)) N = barr (fun j => decide (j < k + 1)) N := barr_ext fun j _ => by
        by_cases e : j = k
        · rw [if_pos e]; simp; omega
        · rw [if_neg e]; simp; omega
      rw [e] at hS4
      have HS4 := Lib.hid hS4
      clear hS hS4 e
      go_wp2_with fail
      go_roundw
      case rel => exact ⟨k + 1, by omega, by go_num, HS4.out⟩
      case measure => simp [intOf]; omega
    · obtain rfl : k = N := by omega
      have e : barr (fun j => decide (j < k)) k = barr (stuckR l 0) k := barr_ext fun j hj => by simp [stuckR, hj]
      rw [e] at hS
      have c0 : wr.cell? ⟨gb, 0, none⟩ = some (.int .i64 k) := hS.cell 1 rfl 0 rfl
      have HS2 := Lib.hid hS
      clear hS e
      obtain ⟨N, rfl⟩ : ∃ N, N = k := ⟨_, rfl⟩
      go_wp2_with fail
      clear c0
      go_loopw [23] (fun i wr => ∃ r : Nat, r ≤ N ∧ i = .int .i64 r ∧ SL w w.heap.size [.blk lb (barr (stuckR l r) N) 4, .blk gb #[.int .i64 N, .slice A l.length cap] 45] wr) (fun i _ => N - (intOf i).toNat)
      case atStart => exact ⟨0, by omega, rfl, HS2.out⟩
      case round =>
        clear HS2
        obtain ⟨r, hrN, rfl, hS⟩ := hrel
        by_cases hlt : r < N
        · obtain ⟨S, hSS⟩ : ∃ S, S = stuckR l r := ⟨_, rfl⟩
          have HSS := Lib.hid hSS
          rw [← hSS] at hS
          clear hSS
          have c0 : wr.cell? ⟨gb, 0, none⟩ = some (.int .i64 N) := hS.cell 1 rfl 0 rfl
          have hzg : gb < wr.heap.size := (hS.lt 1 rfl).2
          have HS3 := Lib.hid hS
          clear hS
          obtain ⟨wo, rfl⟩ : ∃ wo : World, wo = wr := ⟨_, rfl⟩
          go_upto_region 10 with (at_make; refine wpList_make_rep _ rfl _ _ 65 rfl 4 ib (.bool false) Try.underlying65 HB.out.1 HB.out.2.1 HB.out.2.2.1 rfl .i64 .i64 N N N rfl rfl rfl rfl ?b2 ?b3 ?_
                                  case b2 => rw [HB.out.2.2.2]; omega
                                  case b3 => unfold maxLen; omega
                                  intro w4 hg4 hb4 hz4
                                  obtain ⟨db, hdb⟩ : ∃ db, db = wo.heap.size := ⟨_, rfl⟩
                                  have hS := HS3.out.made hb4 hg4
                                  have HS4 : Hid (SL w w.heap.size [.blk db (barr ((l.take 0).foldl (ledA S) fun _ => false) N) 4, .blk lb (barr S N) 4, .blk gb #[.int .i64 N, .slice A l.length cap] 45] w4) := Lib.hid (by
                                    rw [hdb]
                                    show SL w w.heap.size [.blk _ (barr (fun _ => false) N) 4, _, _] w4
                                    rw [barr_rep]
                                    exact hS)
                                  rw [← hdb]
                                  clear hg4 hb4 hz4 hS hdb c0 hzg)
          have c1 : w4.cell? ⟨gb, 1, none⟩ = some (.slice A l.length cap) := HS4.out.cell 2 rfl 1 rfl
          clear HS3
          go_wp2_with fail
          clear c1
          go_loopw [31] (fun i wi => ∃ k : Nat, k ≤ l.length ∧ i = .int .i64 k ∧ SL w w.heap.size [.blk db (barr ((l.take k).foldl (ledA S) fun _ => false) N) 4, .blk lb (barr S N) 4, .blk gb #[.int .i64 N, .slice A l.length cap] 45] wi) (fun i _ => l.length - (intOf i).toNat)
          case atStart => exact ⟨0, by omega, rfl, HS4.out⟩
          case round =>
            clear HS4
            obtain ⟨k, hk, rfl, hS⟩ := hrel
            by_cases hltk : k < l.length
            · obtain ⟨b, p, rfl, hb, a0, a1, a2⟩ := arcs_at (HR.out _ _ hS) hltk
              obtain ⟨⟨f0, f1⟩, t0, t1⟩ := HIN.out _ (List.getElem_mem hltk)
              have HQ : Hid ((l.take (k + 1)).foldl (ledA S) (fun _ => false) = ledA S ((l.take k).foldl (ledA S) fun _ => false) l[k]) := Lib.hid (by rw [List.take_succ_eq_append_getElem hltk, List.foldl_append]; rfl)
              obtain ⟨G, hG⟩ : ∃ G, G = (l.take k).foldl (ledA S) (fun _ => false) := ⟨_, rfl⟩
              rw [← hG] at hS HQ
              obtain ⟨a, ha⟩ : ∃ a, l[k] = a := ⟨_, rfl⟩
              rw [ha] at a0 a1 a2 f0 f1 t0 t1 HQ
              clear ha hG
              have hS2 := hS.alloc #[.int .i64 a.fr, .int .i64 a.to, .int .i64 a.wt] 55
              have hz1 : b < wr.heap.size := hb
              clear hS
              go_upto_region 13 with fail
              obtain ⟨ar, har⟩ : ∃ ar, ar = wr.heap.size := ⟨_, rfl⟩
              generalize (wr.alloc (.cells #[.int .i64 a.fr, .int .i64 a.to, .int .i64 a.wt] 55)) = w9 at *
              rw [← har] at hS2 ⊢
              clear har a0 a1 a2 hz1 hb
              obtain ⟨s2, hs2⟩ : ∃ s2, S a.fr.toNat = s2 := ⟨_, rfl⟩
              have HS2 := Lib.hid hs2
              clear hs2
              cases g1 : G a.to.toNat
              · refine wp_region_sl [0,1,2,3,4,5,6,7,8,9,10,11,12,13,14] [] [15,16] _ hS2 (List.Sublist.refl _) (by kernel_rfl) (by kernel_rfl) (.cons rfl (.cons rfl .nil)) (fun C cw _ hC => ?_)
                have q0 : ∀ c, (cw c).cell? ⟨ar, 0, none⟩ = some (.int .i64 a.fr) := fun c => (hC c).cell 0 rfl 0 rfl
                have q1 : ∀ c, (cw c).cell? ⟨ar, 1, none⟩ = some (.int .i64 a.to) := fun c => (hC c).cell 0 rfl 1 rfl
                have q2 : ∀ c, (cw c).cell? ⟨db, a.to.toNat, none⟩ = some (.bool (G a.to.toNat)) := fun c => (hC c).cell 1 rfl _ (barr_get _ _ _ (by omega))
                have q3 : ∀ c, (cw c).cell? ⟨lb, a.fr.toNat, none⟩ = some (.bool (S a.fr.toNat)) := fun c => (hC c).cell 2 rfl _ (barr_get _ _ _ (by omega))
                rw [g1] at q2
                rw [HS2.out] at q3
                repeat (first | (refine pl_look rfl rfl rfl (fun Kv hK => ?_); go_big_quiet_op; refine hK _ ?_; clear hK Kv) | (refine pl_skip rfl rfl (fun Kv hK => ?_); go_simp; refine hK _ ?_; clear hK Kv))
                clear q0 q1 q2 q3 hC
                refine pl_end ?_
                intro w1 hS9
                refine pm_end ?_
                have k0 : w1.cell? ⟨db, a.to.toNat, none⟩ = some (.bool (G a.to.toNat)) := hS9.cell 1 rfl _ (barr_get _ _ _ (by omega))
                have k1 := hS9.free 1 rfl a.to.toNat
                have hS8 := hS9.setBool 1 rfl a.to.toNat s2
                rw [stuck_led_step S G a N s2 (by rw [g1, HS2.out]; rfl)] at hS8
                have HS9 : Hid (SL w w.heap.size _ _) := Lib.hid hS8
                clear hS9 hS8 hS2 g1
                go_wp2_with fail
                go_roundw
                case rel => exact ⟨k + 1, by omega, by go_num, by rw [HQ.out]; exact HS9.out.tail⟩
                case measure => simp [intOf]; omega
              · refine wp_region_sl [0,1,2,3,4,5,6,7,8,9,10,11,12,13,14] [] [15,16] _ hS2 (List.Sublist.refl _) (by kernel_rfl) (by kernel_rfl) (.cons rfl (.cons rfl .nil)) (fun C cw _ hC => ?_)
                have q0 : ∀ c, (cw c).cell? ⟨ar, 0, none⟩ = some (.int .i64 a.fr) := fun c => (hC c).cell 0 rfl 0 rfl
                have q1 : ∀ c, (cw c).cell? ⟨ar, 1, none⟩ = some (.int .i64 a.to) := fun c => (hC c).cell 0 rfl 1 rfl
                have q2 : ∀ c, (cw c).cell? ⟨db, a.to.toNat, none⟩ = some (.bool (G a.to.toNat)) := fun c => (hC c).cell 1 rfl _ (barr_get _ _ _ (by omega))
                rw [g1] at q2
                repeat (first | (refine pl_look rfl rfl rfl (fun Kv hK => ?_); go_big_quiet_op; refine hK _ ?_; clear hK Kv) | (refine pl_skip rfl rfl (fun Kv hK => ?_); go_simp; refine hK _ ?_; clear hK Kv))
                clear q0 q1 q2 hC
                refine pl_end ?_
                intro w1 hS9
                refine pm_end ?_
                have k0 : w1.cell? ⟨db, a.to.toNat, none⟩ = some (.bool (G a.to.toNat)) := hS9.cell 1 rfl _ (barr_get _ _ _ (by omega))
                have k1 := hS9.free 1 rfl a.to.toNat
                have hS8 := hS9.setBool 1 rfl a.to.toNat true
                rw [stuck_led_step S G a N true (by rw [g1]; rfl)] at hS8
                have HS9 : Hid (SL w w.heap.size _ _) := Lib.hid hS8
                clear hS9 hS8 hS2 g1
                go_wp2_with fail
                go_roundw
                case rel => exact ⟨k + 1, by omega, by go_num, by rw [HQ.out]; exact HS9.out.tail⟩
                case measure => simp [intOf]; omega
            · obtain rfl : k = l.length := by omega
              rw [List.take_length] at hS
              obtain ⟨D, hD⟩ : ∃ D, D = ledB l S := ⟨_, rfl⟩
              have HD : Hid (∀ j, stuckR l (r + 1) j = (S j && D j)) := Lib.hid (fun j => by rw [hD, HSS.out]; rfl)
              have hS4 : SL w w.heap.size [.blk db (barr D N) 4, .blk lb (barr (fun j => if j < 0 then stuckR l (r + 1) j else stuckR l r j) N) 4, .blk gb #[.int .i64 N, .slice A l.length cap] 45] wr := by
                have e : barr (fun j => if j < 0 then stuckR l (r + 1) j else stuckR l r j) N = barr S N := barr_ext fun j _ => by rw [if_neg (by omega), HSS.out]
                rw [e, hD]; exact hS
              have HS4 := Lib.hid hS4
              clear hS hS4 hD
              go_wp2_with fail
              go_loopw [54] (fun i wi => ∃ k : Nat, k ≤ N ∧ i = .int .i64 k ∧ SL w w.heap.size [.blk db (barr D N) 4, .blk lb (barr (fun j => if j < k then stuckR l (r + 1) j else stuckR l r j) N) 4, .blk gb #[.int .i64 N, .slice A l.length cap] 45] wi) (fun i _ => N - (intOf i).toNat)
              case atStart => exact ⟨0, by omega, rfl, HS4.out⟩
              case round =>
                clear HS4
                obtain ⟨k, hk, rfl, hS⟩ := hrel
                by_cases hltk : k < N
                · have d0 : wr.cell? ⟨lb, k, none⟩ = some (.bool (S k)) := by
                    have h := hS.cell 1 rfl k (barr_get _ _ _ hltk)
                    rw [if_neg (by omega), ← HSS.out] at h
                    exact h
                  have d1 := hS.free 1 rfl k
                  have d2 : wr.cell? ⟨db, k, none⟩ = some (.bool (D k)) := hS.cell 0 rfl k (barr_get _ _ _ hltk)
                  have hS4 := hS.setBool 1 rfl k (S k && D k)
                  rw [stuck_step l r N k (S k && D k) (HD.out k)] at hS4
                  have HS4 : Hid _ := Lib.hid hS4
                  clear hS hS4
                  cases b1 : S k
                  · rw [b1] at d0 HS4
                    clear b1
                    go_wp2_with fail
                    go_roundw
                    case rel => exact ⟨k + 1, by omega, by go_num, HS4.out⟩
                    case measure => simp [intOf]; omega
                  · rw [b1, Bool.true_and] at HS4
                    rw [b1] at d0
                    clear b1
                    obtain ⟨b2, hb2⟩ : ∃ b2, D k = b2 := ⟨_, rfl⟩
                    rw [hb2] at d2 HS4
                    clear hb2
                    go_wp2_with fail
                    go_roundw
                    case rel => exact ⟨k + 1, by omega, by go_num, HS4.out⟩
                    case measure => simp [intOf]; omega
                · obtain rfl : k = N := by omega
                  have e : barr (fun j => if j < k then stuckR l (r + 1) j else stuckR l r j) k = barr (stuckR l (r + 1)) k := barr_ext fun j hj => if_pos hj
                  rw [e] at hS
                  have HS5 := Lib.hid hS.tail
                  clear hS e
                  go_wp2_with fail
                  go_roundw
                  case rel => exact ⟨r + 1, by omega, by go_num, HS5.out⟩
                  case measure => simp [intOf]; omega
        · obtain rfl : r = N := by omega
          have HS3 := Lib.hid hS
          clear hS
          go_wp2_with fail
          go_ret
          exact ⟨lb, rfl, HS3.out.sub (by simp)⟩
end Go.Proofs.Ytaaffahjlkfbgaa
