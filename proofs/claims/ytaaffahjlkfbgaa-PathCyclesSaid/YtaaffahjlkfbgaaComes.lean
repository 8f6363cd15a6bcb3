/- The walk of law06.Comes. -/
import Derived.Test.YtaaffahjlkfbgaaComesM
import Derived.Test.YtaaffahjlkfbgaaReachP
import Derived.Test.YtaaffahjlkfbgaaSL
namespace Go.Proofs.Ytaaffahjlkfbgaa
open Go.ChangeShapes Go.WideShapes Go.ChangeAt Go.RowKit
set_option linter.unusedVariables false
set_option maxHeartbeats 1000000 in
theorem comes_any (N : Nat) (A : Option Addr) (cap : Nat) (l : List ArcV) (s : Int) (w : World) (hr : Arcs w w.heap.size A l) (hl : l.length ≤ 20000) (hN : N ≤ 1000) (hin : InN N l) (h0 : 0 ≤ s) (h1 : s < N) :
    Calls Try.prog 30 #[.agg #[.int .i64 N, .slice A l.length cap], .int .i64 s] w (ReachPost w N l s) := by
  obtain ⟨ib, hib, hbz0, hbz1, hbz2⟩ := info_parts bool_info
  have HB := Lib.hid (And.intro hib (And.intro hbz0 (And.intro hbz1 hbz2)))
  have HIN := Lib.hid hin
  clear hin hib hbz0 hbz1 hbz2
  have HSN : Hid (((s.toNat : Nat) : Int) = s) := Lib.hid (by omega)
  go_enter Try.func30, Try.ntmps30
  go_wp2_with (at_make; refine wpList_make_rep _ rfl _ _ 65 rfl 4 ib (.bool false) Try.underlying65 HB.out.1 HB.out.2.1 HB.out.2.2.1 rfl .i64 .i64 N N N rfl rfl rfl rfl ?b2 ?b3 ?_
               case b2 => rw [HB.out.2.2.2]; omega
               case b3 => unfold maxLen; omega
               intro w4 hg4 hb4 hz4
               have hS := ((SL.start (Nat.le_refl w.heap.size)).alloc #[.int .i64 N, .slice A l.length cap] 45).made hb4 hg4
               have hS2 : SL w w.heap.size [.blk (w.heap.size + 1) (barr (fun _ => false) N) 4, .blk w.heap.size #[.int .i64 N, .slice A l.length cap] 45] w4 := by rw [barr_rep]; simpa using hS
               have hcs : w4.cell? ⟨w.heap.size + 1, s.toNat, none⟩ = some (.bool false) := hS2.cell 0 rfl s.toNat (barr_get _ _ _ (by omega))
               have hfs := hS2.free 0 rfl s.toNat
               have c0 : w4.cell? ⟨w.heap.size, 0, none⟩ = some (.int .i64 N) := hS2.cell 1 rfl 0 rfl
               have c1 : w4.cell? ⟨w.heap.size, 1, none⟩ = some (.slice A l.length cap) := hS2.cell 1 rfl 1 rfl
               clear hg4 hb4 hz4 hS)
  have hS3 : SL w w.heap.size [.blk (w.heap.size + 1) (barr (setB (fun _ => false) s.toNat) N) 4, .blk w.heap.size #[.int .i64 N, .slice A l.length cap] 45] (w4.setCell ⟨w.heap.size + 1, s.toNat, none⟩ (.bool true)) := hS2.setBool 0 rfl s.toNat true
  clear hS2 hcs hfs c0 c1
  generalize (w4.setCell ⟨w.heap.size + 1, s.toNat, none⟩ (.bool true)) = w5 at *
  obtain ⟨f0, hf0⟩ : ∃ f0, f0 = setB (fun _ => false) s.toNat := ⟨_, rfl⟩
  rw [← hf0] at hS3
  have HF0 := Lib.hid hf0
  have HS01 := Lib.hid (And.intro h0 h1)
  clear hf0 h0 h1 w4
  go_loopw [16] (fun i wr => ∃ r : Nat, r ≤ N ∧ i = .int .i64 r ∧ SL w w.heap.size [.blk (w.heap.size + 1) (barr (roundsB l f0 r) N) 4, .blk w.heap.size #[.int .i64 N, .slice A l.length cap] 45] wr) (fun i _ => N - (intOf i).toNat)
  case atStart => exact ⟨0, by omega, rfl, hS3⟩
  case round =>
    clear hS3
    obtain ⟨r, hr1, rfl, hS⟩ := hrel
    by_cases hlt : r < N
    · have c1 : wr.cell? ⟨w.heap.size, 1, none⟩ = some (.slice A l.length cap) := hS.cell 1 rfl 1 rfl
      obtain ⟨wo, rfl⟩ : ∃ wo : World, wo = wr := ⟨_, rfl⟩
      go_wp2
      go_loopw [21] (fun i wi => ∃ k : Nat, k ≤ l.length ∧ i = .int .i64 k ∧ SL w w.heap.size [.blk (w.heap.size + 1) (barr (roundB (l.take k) (roundsB l f0 r)) N) 4, .blk w.heap.size #[.int .i64 N, .slice A l.length cap] 45] wi) (fun i _ => l.length - (intOf i).toNat)
      case atStart => exact ⟨0, by omega, rfl, hS⟩
      case round =>
        clear hS c1
        obtain ⟨k, hk, rfl, hS⟩ := hrel
        by_cases hltk : k < l.length
        · obtain ⟨b, o, rfl, hb, d0, d1, d2⟩ := arcs_at (Reads.below hr hS.below) hltk
          obtain ⟨⟨f1, f2⟩, t1, t2⟩ := HIN.out _ (List.getElem_mem hltk)
          have HQ := Lib.hid (roundB_snoc l (roundsB l f0 r) k hltk)
          have hS2 := hS.alloc #[.int .i64 l[k].fr, .int .i64 l[k].to, .int .i64 l[k].wt] 55
          have hz := (hS.lt 1 rfl).2
          have hz' := (hS.lt 0 rfl).2
          go_wp2_with fail
          obtain ⟨f, hf⟩ : ∃ f, f = roundB (l.take k) (roundsB l f0 r) := ⟨_, rfl⟩
          rw [← hf] at hS2 HQ
          clear hS hf
          generalize (wr.alloc (.cells #[.int .i64 l[k].fr, .int .i64 l[k].to, .int .i64 l[k].wt] 55)) = w9 at *
          obtain ⟨ar, har⟩ : ∃ ar, ar = wr.heap.size := ⟨_, rfl⟩
          rw [← har] at hS2 ⊢
          clear har
          cases ht : f l[k].to.toNat
          · obtain ⟨bv, hfr⟩ : ∃ bv, f l[k].fr.toNat = bv := ⟨_, rfl⟩
            refine wp_region_sl [0,1,2,3,4,5,6,7,8,9,10,11,12,13,14] [] [15,16] [.blk ar #[.int .i64 l[k].fr, .int .i64 l[k].to, .int .i64 l[k].wt] 55, .blk (w.heap.size + 1) (barr f N) 4] hS2 (by simp) (by kernel_rfl) (by kernel_rfl) (.cons rfl (.cons rfl .nil)) (fun C cw _ hC => ?_)
            have q0 : ∀ c, (cw c).cell? ⟨ar, 0, none⟩ = some (.int .i64 l[k].fr) := fun c => (hC c).cell 0 rfl 0 rfl
            have q1 : ∀ c, (cw c).cell? ⟨ar, 1, none⟩ = some (.int .i64 l[k].to) := fun c => (hC c).cell 0 rfl 1 rfl
            have q2 : ∀ c, (cw c).cell? ⟨w.heap.size + 1, l[k].to.toNat, none⟩ = some (.bool false) := fun c => (hC c).cell 1 rfl l[k].to.toNat (by rw [← ht]; exact barr_get _ _ _ (by omega))
            have q3 : ∀ c, (cw c).cell? ⟨w.heap.size + 1, l[k].fr.toNat, none⟩ = some (.bool bv) := fun c => (hC c).cell 1 rfl l[k].fr.toNat (by rw [← hfr]; exact barr_get _ _ _ (by omega))
            repeat (first | (refine pl_look rfl rfl rfl (fun Kv hK => ?_); go_big_quiet_op; refine hK _ ?_; clear hK Kv) | (refine pl_skip rfl rfl (fun Kv hK => ?_); go_simp; refine hK _ ?_; clear hK Kv))
            clear q0 q1 q2 q3 hC
            refine pl_end ?_
            intro w1 hS4
            refine pm_end ?_
            have e1 : w1.cell? ⟨w.heap.size + 1, l[k].to.toNat, none⟩ = some (.bool false) := hS4.cell 1 rfl l[k].to.toNat (by rw [← ht]; exact barr_get _ _ _ (by omega))
            have e2 := hS4.free 1 rfl l[k].to.toNat
            have hS5 : SL w w.heap.size _ _ := (hS4.setBool 1 rfl l[k].to.toNat bv).tail
            have HQ2 := Lib.hid (stepB_same ht hfr)
            clear hS2 hS4 d0 d1 d2
            go_wp2
            go_roundw
            case rel => exact ⟨k + 1, by omega, by go_num, by rw [HQ.out, HQ2.out]; exact hS5⟩
            case measure => simp [intOf]; omega
          · skip
            refine wp_region_sl [0,1,2,3,4,5,6,7,8,9,10,11,12,13,14] [] [15,16] [.blk ar #[.int .i64 l[k].fr, .int .i64 l[k].to, .int .i64 l[k].wt] 55, .blk (w.heap.size + 1) (barr f N) 4] hS2 (by simp) (by kernel_rfl) (by kernel_rfl) (.cons rfl (.cons rfl .nil)) (fun C cw _ hC => ?_)
            have q0 : ∀ c, (cw c).cell? ⟨ar, 0, none⟩ = some (.int .i64 l[k].fr) := fun c => (hC c).cell 0 rfl 0 rfl
            have q1 : ∀ c, (cw c).cell? ⟨ar, 1, none⟩ = some (.int .i64 l[k].to) := fun c => (hC c).cell 0 rfl 1 rfl
            have q2 : ∀ c, (cw c).cell? ⟨w.heap.size + 1, l[k].to.toNat, none⟩ = some (.bool true) := fun c => (hC c).cell 1 rfl l[k].to.toNat (by rw [← ht]; exact barr_get _ _ _ (by omega))
            repeat (first | (refine pl_look rfl rfl rfl (fun Kv hK => ?_); go_big_quiet_op; refine hK _ ?_; clear hK Kv) | (refine pl_skip rfl rfl (fun Kv hK => ?_); go_simp; refine hK _ ?_; clear hK Kv))
            clear q0 q1 q2 hC
            refine pl_end ?_
            intro w1 hS4
            refine pm_end ?_
            have e1 : w1.cell? ⟨w.heap.size + 1, l[k].to.toNat, none⟩ = some (.bool true) := hS4.cell 1 rfl l[k].to.toNat (by rw [← ht]; exact barr_get _ _ _ (by omega))
            have e2 := hS4.free 1 rfl l[k].to.toNat
            have hS5 : SL w w.heap.size _ _ := (hS4.setBool 1 rfl l[k].to.toNat true).tail
            have HQ2 := Lib.hid (stepB_set ht)
            clear hS2 hS4 d0 d1 d2
            go_wp2
            go_roundw
            case rel => exact ⟨k + 1, by omega, by go_num, by rw [HQ.out, HQ2.out]; exact hS5⟩
            case measure => simp [intOf]; omega
        · obtain rfl : k = l.length := by omega
          rw [List.take_length] at hS
          go_wp2
          go_roundw
          case rel => exact ⟨r + 1, by omega, by go_num, hS⟩
          case measure => simp [intOf]; omega
    · obtain rfl : r = N := by omega
      go_wp2
      go_ret
      refine ⟨roundsB l f0 r, w.heap.size + 1, rfl, hS.blk 0 rfl, hS.below, fun j hj => ?_⟩
      rw [HF0.out]
      exact comes_all HIN.out HS01.out.1 HS01.out.2 j hj
end Go.Proofs.Ytaaffahjlkfbgaa
