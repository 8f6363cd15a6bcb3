/- The walks of path.check, Tree.round, path.bend. -/
import Derived.Test.YtaaffahjlkfbgaaTree
import Derived.IntWalk
namespace Go.Proofs.Ytaaffahjlkfbgaa
open Go.ChangeShapes Go.WideShapes Go.ChangeAt Go.RowKit
set_option linter.unusedVariables false
/-- What check answers. -/
def checkF (N : Int) (l : List ArcV) (s : Int) : Int := if checkG N l ≠ 0 then checkG N l else if 0 ≤ s ∧ s < N then 0 else 2
set_option maxHeartbeats 4000000 in
theorem checkF_any (N : Int) (A : Option Addr) (cap : Nat) (l : List ArcV) (s : Int) (w : World) (hr : Arcs w w.heap.size A l) (hl : l.length ≤ maxLen) :
    Calls Try.prog 50 #[.agg #[.int .i64 N, .slice A l.length cap], .int .i64 s] w fun e w' => e = .returned (.int .i64 (checkF N l s)) ∧ Below w.heap.size w w' := by
  have hS0 := (SL.start (Nat.le_refl w.heap.size)).alloc #[.int .i64 N, .slice A l.length cap] 45
  have HRD : Hid (Arcs (w.alloc (.cells #[.int .i64 N, .slice A l.length cap] 45)) (w.alloc (.cells #[.int .i64 N, .slice A l.length cap] 45)).heap.size A l) := Lib.hid (reads_more (Reads.below hr hS0.below) (by simp))
  have HS0 := Lib.hid hS0
  have HL := Lib.hid hl
  obtain ⟨C, hC⟩ : ∃ C, C = checkG N l := ⟨_, rfl⟩
  have HC := Lib.hid hC
  clear hr hS0 hl
  by_cases h0 : C = 0
  · have hz : (C != 0) = false := by simpa using h0
    have HC0 := Lib.hid h0
    clear hC h0
    by_cases h1 : 0 ≤ s ∧ s < N
    · have HF : Hid (checkF N l s = 0) := Lib.hid (by unfold checkF; rw [← HC.out, HC0.out]; simp [h1])
      obtain ⟨h2, h3⟩ := h1
      go_enter Try.func50, Try.ntmps50
      go_wp2_with (first
        | (go_at_call 39; (with_reducible refine (checkG_any N A cap l _ HRD.out HL.out).mono ?_); rintro e w2 ⟨rfl, hB⟩; rw [← HC.out]
           have hS1 := HS0.out.call hB; have hy0 := hS1.cell 0 rfl 0 rfl; have hy1 := hS1.cell 0 rfl 1 rfl; have HS1 := Lib.hid hS1; clear hB hS1)
        | (go_at_call 56; (with_reducible refine (has_yes N s A l.length cap _ h2 h3).mono ?_); rintro e w3 ⟨rfl, rfl⟩))
      go_ret
      exact ⟨retInt HF.out.symm, HS1.out.below.trans ((Below.refl _ _).alloc HS1.out.size _)⟩
    · have HF : Hid (checkF N l s = 2) := Lib.hid (by unfold checkF; rw [← HC.out, HC0.out]; simp [h1])
      have h2 : s < 0 ∨ N ≤ s := by omega
      clear h1
      go_enter Try.func50, Try.ntmps50
      go_wp2_with (first
        | (go_at_call 39; (with_reducible refine (checkG_any N A cap l _ HRD.out HL.out).mono ?_); rintro e w2 ⟨rfl, hB⟩; rw [← HC.out]
           have hS1 := HS0.out.call hB; have hy0 := hS1.cell 0 rfl 0 rfl; have hy1 := hS1.cell 0 rfl 1 rfl; have HS1 := Lib.hid hS1; clear hB hS1)
        | (go_at_call 56; (with_reducible refine (has_no N s A l.length cap _ h2).mono ?_); rintro e w3 ⟨rfl, rfl⟩))
      go_ret
      exact ⟨retInt HF.out.symm, HS1.out.below.trans ((Below.refl _ _).alloc HS1.out.size _)⟩
  · have hz : (C != 0) = true := by simpa using h0
    have HF : Hid (checkF N l s = C) := Lib.hid (by unfold checkF; rw [← HC.out, if_pos h0])
    clear hC h0
    go_enter Try.func50, Try.ntmps50
    go_wp2_with (go_at_call 39; (with_reducible refine (checkG_any N A cap l _ HRD.out HL.out).mono ?_); rintro e w2 ⟨rfl, hB⟩; rw [← HC.out]; have HS1 := Lib.hid (HS0.out.call hB); clear hB)
    go_ret
    exact ⟨retInt HF.out.symm, HS1.out.below⟩
def RoundPost (W : World) (B : Nat) (rs : List Rs) (N : Nat) (fb bb : Nat) (x : BS × Int) (e : Ending) (w' : World) : Prop :=
  e = .returned (.int .i64 x.2) ∧ SL W B (.blk fb (iarr x.1.far N) 2 :: .blk bb (iarr x.1.by_ N) 3 :: rs) w'
set_option maxRecDepth 100000 in
set_option maxHeartbeats 4000000 in
theorem round_any (W : World) (B : Nat) (rs : List Rs) (N : Nat) (A : Option Addr) (cap : Nat) (l : List ArcV) (fb bb : Nat) (s : BS) (r : Nat) (w : World) (hS : SL W B (.blk fb (iarr s.far N) 2 :: .blk bb (iarr s.by_ N) 3 :: rs) w) (hA : ∀ w', SL W B rs w' → Arcs w' w'.heap.size A l) (hl : l.length ≤ 20000) (hin : InN N l) (hw : ∀ a ∈ l, -1099511627776 ≤ a.wt ∧ a.wt ≤ 1099511627776)
    (hb : ∀ k, k ≤ l.length → ∀ v, v < N → -2305843009213693952 ≤ (roundK l r s k).1.far v ∧ (roundK l r s k).1.far v ≤ 1152921504606846976) :
    Calls Try.prog 69 #[.agg #[.slice (some ⟨fb, 0, none⟩) N N, .slice (some ⟨bb, 0, none⟩) N N], .agg #[.int .i64 N, .slice A l.length cap]] w (RoundPost W B rs N fb bb (roundK l r s l.length)) := by
  have hS1 := (hS.alloc #[.slice (some ⟨fb, 0, none⟩) N N, .slice (some ⟨bb, 0, none⟩) N N] 50).alloc #[.int .i64 N, .slice A l.length cap] 45
  simp only [alloc_size] at hS1
  have HA := Lib.hid hA
  have HIN := Lib.hid hin
  have HW := Lib.hid hw
  have HB := Lib.hid hb
  have HS := Lib.hid hS
  clear hS hA hin hw hb
  go_enter Try.func69, Try.ntmps69
  go_upto_region 1 with fail
  obtain ⟨tb, htb⟩ : ∃ tb, tb = w.heap.size := ⟨_, rfl⟩
  obtain ⟨gb, hgb⟩ : ∃ gb, gb = w.heap.size + 1 := ⟨_, rfl⟩
  generalize ((w.alloc (Obj.cells #[.slice (some ⟨fb, 0, none⟩) N N, .slice (some ⟨bb, 0, none⟩) N N] 50)).alloc (Obj.cells #[.int .i64 N, .slice A l.length cap] 45)) = w0 at *
  rw [← hgb, ← htb] at hS1 ⊢
  clear htb hgb HS
  have y0 : w0.cell? ⟨gb, 1, none⟩ = some (.slice A l.length cap) := hS1.cell 0 rfl 1 rfl
  have HS1 := Lib.hid hS1
  clear hS1
  go_wp2_with fail
  clear y0
  go_loopw [5, 11] (fun v i wr => ∃ k : Nat, k ≤ l.length ∧ i = .int .i64 k ∧ v = .int .i64 (roundK l r s k).2 ∧ SL W B (.blk gb #[.int .i64 N, .slice A l.length cap] 45 :: .blk tb #[.slice (some ⟨fb, 0, none⟩) N N, .slice (some ⟨bb, 0, none⟩) N N] 50 :: .blk fb (iarr (roundK l r s k).1.far N) 2 :: .blk bb (iarr (roundK l r s k).1.by_ N) 3 :: rs) wr) (fun _ i _ => l.length - (intOf i).toNat)
  case atStart => exact ⟨0, by omega, rfl, rfl, HS1.out⟩
  case round =>
    clear HS1
    obtain ⟨k, hk, rfl, rfl, hS⟩ := hrel
    by_cases hlt : k < l.length
    · obtain ⟨b, o, rfl, hb, d0, d1, d2⟩ := arcs_at (HA.out wr hS.tail.tail.tail.tail) hlt
      obtain ⟨⟨f0, f1⟩, t0, t1⟩ := HIN.out _ (List.getElem_mem hlt)
      have hwt := HW.out _ (List.getElem_mem hlt)
      have hyes := Lib.hid (roundK_yes (r := r) (s := s) hlt)
      have hno := Lib.hid (roundK_no (r := r) (s := s) hlt)
      have hbd := HB.out k (by omega)
      obtain ⟨X, hX⟩ : ∃ X, X = roundK l r s k := ⟨_, rfl⟩
      rw [← hX] at hS hbd hyes hno ⊢
      clear hX
      obtain ⟨S1, last⟩ := X
      obtain ⟨a, ha⟩ : ∃ a, l[k] = a := ⟨_, rfl⟩
      rw [ha] at d0 d1 d2 f0 f1 t0 t1 hwt hyes hno
      clear ha
      have hbf := hbd a.fr.toNat (by omega)
      have hbt := hbd a.to.toNat (by omega)
      dsimp only at hS hbf hbt hyes hno
      have hS2 := hS.alloc #[.int .i64 a.fr, .int .i64 a.to, .int .i64 a.wt] 55
      have hz1 : b < wr.heap.size := hb
      clear hbd
      go_upto_region 5 with fail
      obtain ⟨ar, har⟩ : ∃ ar, ar = wr.heap.size := ⟨_, rfl⟩
      generalize (wr.alloc (.cells #[.int .i64 a.fr, .int .i64 a.to, .int .i64 a.wt] 55)) = w9 at *
      rw [← har] at hS2 ⊢
      clear har hS d0 d1 d2 hz1 hb
      obtain ⟨F, hF⟩ : ∃ F, F = S1.far a.fr.toNat := ⟨_, rfl⟩
      obtain ⟨T, hT⟩ : ∃ T, T = S1.far a.to.toNat := ⟨_, rfl⟩
      have eF : S1.far a.fr.toNat = F := hF.symm
      have eT : S1.far a.to.toNat = T := hT.symm
      rw [eF] at hbf
      rw [eT] at hbt
      have HFT := Lib.hid (And.intro eF eT)
      clear hF hT
      by_cases c1 : F < 1152921504606846976
      · by_cases c2 : F + a.wt < T
        · have HG : Hid (roundK l r s (k + 1) = (relax a k r S1, a.to)) := Lib.hid (hyes.out (by unfold goes FAR; rw [HFT.out.1, HFT.out.2]; exact ⟨c1, c2⟩))
          clear hyes hno
          refine wp_region_sl [0,1,2,3,4,5,6,7,8,9,10,11,12,13,14,15,16,17,18,19,20,21,22,23,24] [] [] _ hS2 (List.Sublist.refl _) (by kernel_rfl) (by kernel_rfl) .nil (fun C cw _ hC => ?_)
          have q0 : ∀ c, (cw c).cell? ⟨tb, 0, none⟩ = some (.slice (some ⟨fb, 0, none⟩) N N) := fun c => (hC c).cell 2 rfl 0 rfl
          have q1 : ∀ c, (cw c).cell? ⟨ar, 0, none⟩ = some (.int .i64 a.fr) := fun c => (hC c).cell 0 rfl 0 rfl
          have q2 : ∀ c, (cw c).cell? ⟨ar, 1, none⟩ = some (.int .i64 a.to) := fun c => (hC c).cell 0 rfl 1 rfl
          have q3 : ∀ c, (cw c).cell? ⟨ar, 2, none⟩ = some (.int .i64 a.wt) := fun c => (hC c).cell 0 rfl 2 rfl
          have q4 : ∀ c, (cw c).cell? ⟨fb, a.fr.toNat, none⟩ = some (.int .i64 (S1.far a.fr.toNat)) := fun c => (hC c).cell 3 rfl _ (iarr_get _ _ _ (by omega))
          have q5 : ∀ c, (cw c).cell? ⟨fb, a.to.toNat, none⟩ = some (.int .i64 (S1.far a.to.toNat)) := fun c => (hC c).cell 3 rfl _ (iarr_get _ _ _ (by omega))
          rw [eF] at q4; rw [eT] at q5
          repeat (first | (refine pl_look rfl rfl rfl (fun Kv hK => ?_); go_big_quiet_op; refine hK _ ?_; clear hK Kv) | (refine pl_skip rfl rfl (fun Kv hK => ?_); go_simp; refine hK _ ?_; clear hK Kv))
          clear q0 q1 q2 q3 q4 q5 hC
          refine pl_end ?_
          intro w1 hS4
          refine pm_end ?_
          clear hS2 eF eT
          go_upto_region 6 with fail
          refine wp_region_sl [0,1,2,3,4,5,6,7,8,9,10,11,12,14,15,17] [13,16,18,19] [20,21] [.blk ar #[.int .i64 a.fr, .int .i64 a.to, .int .i64 a.wt] 55, .blk gb #[.int .i64 N, .slice (some ⟨b, o, none⟩) l.length cap] 45, .blk tb #[.slice (some ⟨fb, 0, none⟩) N N, .slice (some ⟨bb, 0, none⟩) N N] 50] hS4 (by simp) (by kernel_rfl) (by kernel_rfl) (.cons rfl (.cons rfl .nil)) (fun C cw _ hC => ?_)
          have q0 : ∀ c, (cw c).cell? ⟨tb, 0, none⟩ = some (.slice (some ⟨fb, 0, none⟩) N N) := fun c => (hC c).cell 2 rfl 0 rfl
          have q4 : ∀ c, (cw c).cell? ⟨tb, 1, none⟩ = some (.slice (some ⟨bb, 0, none⟩) N N) := fun c => (hC c).cell 2 rfl 1 rfl
          have q1 : ∀ c, (cw c).cell? ⟨ar, 0, none⟩ = some (.int .i64 a.fr) := fun c => (hC c).cell 0 rfl 0 rfl
          have q2 : ∀ c, (cw c).cell? ⟨ar, 1, none⟩ = some (.int .i64 a.to) := fun c => (hC c).cell 0 rfl 1 rfl
          have q3 : ∀ c, (cw c).cell? ⟨ar, 2, none⟩ = some (.int .i64 a.wt) := fun c => (hC c).cell 0 rfl 2 rfl
          repeat (refine pl_look rfl rfl rfl (fun Kv hK => ?_); go_big_quiet_op; refine hK _ ?_; clear hK Kv)
          clear q0 q1 q2 q3 q4 hC
          refine pl_end ?_
          intro w5 hS5
          have d0 : w5.cell? ⟨fb, a.fr.toNat, none⟩ = some (.int .i64 F) := by rw [← HFT.out.1]; exact hS5.cell 3 rfl _ (iarr_get _ _ _ (by omega))
          have d1 : w5.cell? ⟨fb, a.to.toNat, none⟩ = some (.int .i64 T) := by rw [← HFT.out.2]; exact hS5.cell 3 rfl _ (iarr_get _ _ _ (by omega))
          have d2 := hS5.free 3 rfl a.to.toNat
          have hS6 := hS5.setInt 3 rfl a.to.toNat (F + a.wt)
          have HK5 := Lib.hid (hS5.sub (l' := [.blk ar #[.int .i64 a.fr, .int .i64 a.to, .int .i64 a.wt] 55, .blk gb #[.int .i64 N, .slice (some ⟨b, o, none⟩) l.length cap] 45, .blk tb #[.slice (some ⟨fb, 0, none⟩) N N, .slice (some ⟨bb, 0, none⟩) N N] 50]) (by simp))
          have HK6 := Lib.hid hS6
          clear hS4 hS5 hS6
          refine pm_eff rfl rfl fun Kv hK => ?_
          go_simp
          refine ⟨HK5.out, hK _ _ ?_⟩
          clear hK Kv
          have ew : IntKind.i64.wrap (F + a.wt) = F + a.wt := IntWalk.i64_in _ (by omega)
          refine pm_eff rfl rfl fun Kv hK => ?_
          go_simp
          refine ⟨HK5.out, hK _ _ ?_⟩
          clear hK Kv ew
          refine pm_eff rfl rfl fun Kv hK => ?_
          go_simp
          refine ⟨HK5.out, hK _ _ ?_⟩
          clear hK Kv
          refine pm_eff rfl rfl fun Kv hK => ?_
          go_simp
          refine ⟨HK6.out.sub (l' := [.blk ar #[.int .i64 a.fr, .int .i64 a.to, .int .i64 a.wt] 55, .blk gb #[.int .i64 N, .slice (some ⟨b, o, none⟩) l.length cap] 45, .blk tb #[.slice (some ⟨fb, 0, none⟩) N N, .slice (some ⟨bb, 0, none⟩) N N] 50]) (by simp), hK _ _ ?_⟩
          clear hK Kv
          refine pm_end ?_
          generalize (w5.setCell ⟨fb, a.to.toNat, none⟩ (.int .i64 (F + a.wt))) = w6 at *
          have e0 : w6.cell? ⟨ar, 1, none⟩ = some (.int .i64 a.to) := HK6.out.cell 0 rfl 1 rfl
          have e1 : w6.cell? ⟨bb, a.to.toNat, none⟩ = some (.int .i64 (S1.by_ a.to.toNat)) := HK6.out.cell 4 rfl _ (iarr_get _ _ _ (by omega))
          have e2 := HK6.out.free 4 rfl a.to.toNat
          have e3 := HK6.out.ne 0 4 rfl rfl (by omega)
          have e4 := e3.symm
          have HS7 := Lib.hid (HK6.out.setInt 4 rfl a.to.toNat k)
          clear HK5 HK6 d0 d1 d2
          go_wp2_with fail
          go_roundw
          case rel =>
            refine ⟨k + 1, by omega, by go_num, by rw [HG.out], ?_⟩
            rw [HG.out]
            have h := HS7.out.tail
            rw [← HFT.out.1] at h
            exact h
          case measure => simp [intOf]; omega
        · have HG : Hid (roundK l r s (k + 1) = (S1, last)) := Lib.hid (hno.out (by unfold goes; rw [HFT.out.1, HFT.out.2]; omega))
          clear hyes hno
          refine wp_region_sl [0,1,2,3,4,5,6,7,8,9,10,11,12,13,14,15,16,17,18,19,20,21,22,23,24] [] [] _ hS2 (List.Sublist.refl _) (by kernel_rfl) (by kernel_rfl) .nil (fun C cw _ hC => ?_)
          have q0 : ∀ c, (cw c).cell? ⟨tb, 0, none⟩ = some (.slice (some ⟨fb, 0, none⟩) N N) := fun c => (hC c).cell 2 rfl 0 rfl
          have q1 : ∀ c, (cw c).cell? ⟨ar, 0, none⟩ = some (.int .i64 a.fr) := fun c => (hC c).cell 0 rfl 0 rfl
          have q2 : ∀ c, (cw c).cell? ⟨ar, 1, none⟩ = some (.int .i64 a.to) := fun c => (hC c).cell 0 rfl 1 rfl
          have q3 : ∀ c, (cw c).cell? ⟨ar, 2, none⟩ = some (.int .i64 a.wt) := fun c => (hC c).cell 0 rfl 2 rfl
          have q4 : ∀ c, (cw c).cell? ⟨fb, a.fr.toNat, none⟩ = some (.int .i64 (S1.far a.fr.toNat)) := fun c => (hC c).cell 3 rfl _ (iarr_get _ _ _ (by omega))
          have q5 : ∀ c, (cw c).cell? ⟨fb, a.to.toNat, none⟩ = some (.int .i64 (S1.far a.to.toNat)) := fun c => (hC c).cell 3 rfl _ (iarr_get _ _ _ (by omega))
          rw [eF] at q4; rw [eT] at q5
          repeat (first | (refine pl_look rfl rfl rfl (fun Kv hK => ?_); go_big_quiet_op; refine hK _ ?_; clear hK Kv) | (refine pl_skip rfl rfl (fun Kv hK => ?_); go_simp; refine hK _ ?_; clear hK Kv))
          clear q0 q1 q2 q3 q4 q5 hC
          refine pl_end ?_
          intro w1 hS4
          refine pm_end ?_
          have HS4 := Lib.hid hS4
          clear hS2 hS4 eF eT
          go_wp2_with fail
          go_roundw
          case rel => exact ⟨k + 1, by omega, by go_num, by rw [HG.out], by rw [HG.out]; exact HS4.out.tail⟩
          case measure => simp [intOf]; omega
      · have HG : Hid (roundK l r s (k + 1) = (S1, last)) := Lib.hid (hno.out (by unfold goes FAR; rw [HFT.out.1]; omega))
        clear hyes hno
        refine wp_region_sl [0,1,2,3,4,5,6,7,8,9,10,11,12,13,14,15,16,17,18,19,20,21,22,23,24] [] [] _ hS2 (List.Sublist.refl _) (by kernel_rfl) (by kernel_rfl) .nil (fun C cw _ hC => ?_)
        have q0 : ∀ c, (cw c).cell? ⟨tb, 0, none⟩ = some (.slice (some ⟨fb, 0, none⟩) N N) := fun c => (hC c).cell 2 rfl 0 rfl
        have q1 : ∀ c, (cw c).cell? ⟨ar, 0, none⟩ = some (.int .i64 a.fr) := fun c => (hC c).cell 0 rfl 0 rfl
        have q2 : ∀ c, (cw c).cell? ⟨ar, 1, none⟩ = some (.int .i64 a.to) := fun c => (hC c).cell 0 rfl 1 rfl
        have q3 : ∀ c, (cw c).cell? ⟨ar, 2, none⟩ = some (.int .i64 a.wt) := fun c => (hC c).cell 0 rfl 2 rfl
        have q4 : ∀ c, (cw c).cell? ⟨fb, a.fr.toNat, none⟩ = some (.int .i64 (S1.far a.fr.toNat)) := fun c => (hC c).cell 3 rfl _ (iarr_get _ _ _ (by omega))
        have q5 : ∀ c, (cw c).cell? ⟨fb, a.to.toNat, none⟩ = some (.int .i64 (S1.far a.to.toNat)) := fun c => (hC c).cell 3 rfl _ (iarr_get _ _ _ (by omega))
        rw [eF] at q4; rw [eT] at q5
        repeat (first | (refine pl_look rfl rfl rfl (fun Kv hK => ?_); go_big_quiet_op; refine hK _ ?_; clear hK Kv) | (refine pl_skip rfl rfl (fun Kv hK => ?_); go_simp; refine hK _ ?_; clear hK Kv))
        clear q0 q1 q2 q3 q4 q5 hC
        refine pl_end ?_
        intro w1 hS4
        refine pm_end ?_
        have HS4 := Lib.hid hS4
        clear hS2 hS4 eF eT
        go_wp2_with fail
        go_roundw
        case rel => exact ⟨k + 1, by omega, by go_num, by rw [HG.out], by rw [HG.out]; exact HS4.out.tail⟩
        case measure => simp [intOf]; omega
    · obtain rfl : k = l.length := by omega
      have HS := Lib.hid hS
      clear hS
      go_wp2_with fail
      go_ret
      exact ⟨rfl, HS.out.tail.tail⟩
end Go.Proofs.Ytaaffahjlkfbgaa
