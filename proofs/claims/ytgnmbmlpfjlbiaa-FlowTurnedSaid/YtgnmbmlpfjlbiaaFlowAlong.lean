/- The walk of flow.along. -/
import Derived.Test.YtgnmbmlpfjlbiaaAlongM
import Derived.Test.YtgnmbmlpfjlbiaaFlowWalk
namespace Go.Proofs.Ytgnmbmlpfjlbiaa
open Go.ChangeShapes Go.WideShapes Go.ChangeAt Go.RowKit
set_option linter.unusedVariables false
/-- More flows: by so much; nothing else of what is owned has changed. -/
def AlongPost (W : World) (B : Nat) (rs : List Rs) (i lb n : Nat) (ps : List PipeV) (x : Nat → Int) (s t : Int) (e : Ending) (w' : World) : Prop :=
  ∃ (d : Int) (y : Nat → Int), e = .returned (.int .i64 d) ∧ SL W B (rs.set i (.blk lb (iarr y n) 2)) w' ∧ 1 ≤ d ∧ d ≤ 1152921504606846976 ∧ Feas ps y ∧ ∀ v, inn ps y v = inn ps x v + (if t = v then d else 0) - (if s = v then d else 0)
theorem set_same {rs : List Rs} {i : Nat} {r : Rs} (h : rs[i]? = some r) : rs.set i r = rs := by
  apply List.ext_getElem?
  intro k
  rw [List.getElem?_set]
  split
  · rename_i e; subst e
    have := (List.getElem?_eq_some_iff.1 h).1
    rw [if_pos this, h]
  · rfl
theorem set_other {rs : List Rs} {i j : Nat} {r s : Rs} (h : rs[j]? = some s) (hij : i ≠ j) : (rs.set i r)[j]? = some s := by
  rw [List.getElem?_set, if_neg hij, h]
theorem set_new {rs : List Rs} {i : Nat} {r s : Rs} (h : rs[i]? = some s) : (rs.set i r)[i]? = some r := by
  simp [(List.getElem?_eq_some_iff.1 h).1]
theorem blk_ne {rs : List Rs} {i j lb gb n m : Nat} {x : Nat → Int} {by_ : Nat → Int × Bool} {t u : TypeId} (hi : rs[i]? = some (.blk lb (iarr x n) t)) (hj : rs[j]? = some (.blk gb (sarr by_ m) u)) (htu : t ≠ u) : i ≠ j := by
  intro e; subst e
  rw [hi] at hj
  injection hj with hj
  injection hj with _ _ h3
  exact htu h3
set_option maxRecDepth 100000 in
set_option maxHeartbeats 4000000 in
theorem along_any (N : Nat) (A : Option Addr) (cap lc : Nat) (ps : List PipeV) (s t : Int) (W w : World) (B i j lb gb : Nat) (rs : List Rs) (x : Nat → Int) (by_ : Nat → Int × Bool) (seen : Nat → Bool) (hr : Pipes W B A ps) (hN : N ≤ 1000) (hl : ps.length ≤ 20000) (hin : InP N ps) (h0 : 0 ≤ s) (h1 : s < N) (ht0 : 0 ≤ t) (ht1 : t < N) (hst : s ≠ t)
    (hW : Walked N ps x s seen by_) (hts : seen t.toNat = true) (hF : Feas ps x) (hS : SL W B rs w) (hi : rs[i]? = some (.blk lb (iarr x ps.length) 2)) (hj : rs[j]? = some (.blk gb (sarr by_ N) 78)) :
    Calls Try.prog 31 #[.agg #[.int .i64 N, .slice A ps.length cap], .slice (some ⟨lb, 0, none⟩) ps.length lc, .slice (some ⟨gb, 0, none⟩) N N, .int .i64 s, .int .i64 t] w (AlongPost W B rs i lb ps.length ps x s t) := by
  obtain ⟨rank, hT⟩ := hW.tree
  obtain ⟨tn, htn⟩ : ∃ tn : Nat, (tn : Int) = t := ⟨t.toNat, by omega⟩
  subst htn
  have hts' : seen tn = true := by simpa using hts
  have HIN := Lib.hid hin
  have HT : Hid (TreeR N ps x s seen by_ rank) := Lib.hid hT
  have HF := Lib.hid hF
  have HIJ := Lib.hid (And.intro hi hj)
  have HR := Lib.hid hr
  have HN := Lib.hid (And.intro h0 (And.intro h1 hst))
  have hS0 := hS.alloc #[.int .i64 N, .slice A ps.length cap] 26
  clear hi hj hT hF hW hts hin hr h0 h1 ht0 hst
  go_enter Try.func31, Try.ntmps31
  go_wp2
  obtain ⟨nb, hnb⟩ : ∃ nb, nb = w.heap.size := ⟨_, rfl⟩
  generalize (w.alloc (.cells #[.int .i64 N, .slice A ps.length cap] 26)) = w0 at *
  rw [← hnb] at hS0 ⊢
  clear hnb hS
  go_loopw [11, 12] (fun vm vi wr => ∃ (m : Nat) (d : Int), vi = .int .i64 (nd ps by_ tn m : Int) ∧ vm = .int .i64 d ∧ 1 ≤ d ∧ d ≤ 1152921504606846976 ∧ WayTo N ps x s seen by_ rank tn m ∧ (∀ i, i < m → d ≤ resd ps x by_ (nd ps by_ tn i)) ∧ SL W B (.blk nb #[.int .i64 N, .slice A ps.length cap] 26 :: rs) wr) (fun _ vi _ => rank (intOf vi).toNat)
  case atStart => exact ⟨0, _, rfl, rfl, by omega, by omega, way_start hts' (by omega), fun i hi => absurd hi (by omega), hS0⟩
  case round =>
    clear hS0
    obtain ⟨m, d, rfl, rfl, hd1, hd2, hway, hmin, hS⟩ := hrel
    by_cases hne : (nd ps by_ tn m : Int) = s
    · have hz : ((nd ps by_ tn m : Int) != s) = false := by simpa using hne
      have HWay := Lib.hid (And.intro hway (And.intro hmin hne))
      clear hway hmin hne
      go_wp2
      have HS := Lib.hid hS
      clear hS
      go_loopw [15] (fun vi w2 => ∃ (m2 : Nat), vi = .int .i64 (nd ps by_ tn m2 : Int) ∧ m2 ≤ m ∧ SL W B (.blk nb #[.int .i64 N, .slice A ps.length cap] 26 :: rs.set i (.blk lb (iarr (flowM ps x by_ tn d m2) ps.length) 2)) w2) (fun vi _ => rank (intOf vi).toNat)
      case atStart => exact ⟨0, rfl, by omega, by
        have h := HS.out
        rw [← set_same HIJ.out.1] at h
        exact h⟩
      case round =>
        clear HS
        obtain ⟨m2, rfl, hm2, hS⟩ := hrel
        by_cases hne : (nd ps by_ tn m2 : Int) = s
        · have hmm : m2 = m := by
            rcases Nat.lt_or_ge m2 m with h | h
            · exact absurd hne (HWay.out.1.ne m2 h)
            · omega
          subst hmm
          have hz : ((nd ps by_ tn m2 : Int) != s) = false := by simpa using hne
          have HS := Lib.hid (And.intro hS hm2)
          clear hS hm2 hne
          go_wp2
          go_ret
          have hway := HWay.out.1
          refine ⟨d, _, rfl, HS.out.1.tail, hd1, hd2, flowM_feas HIN.out HT.out hway HF.out (by omega) HWay.out.2.1 _ (Nat.le_refl _), fun v => ?_⟩
          rw [flowM_inn HIN.out HT.out hway v _ (Nat.le_refl _), HWay.out.2.2]
        · have hlt : m2 < m := by
            rcases Nat.lt_or_ge m2 m with h | h
            · exact h
            · have e : m2 = m := by omega
              exact absurd (e ▸ HWay.out.2.2) hne
          have hz : ((nd ps by_ tn m2 : Int) != s) = true := by simpa using hne
          have hsm := HWay.out.1.seen m2 (by omega)
          obtain ⟨k, p, bb, P, r, ek, hb1, eP, er, ⟨hk, hp⟩, hrk, x0, x1, x2, hPN, hr1, hcase⟩ := step_pack HIN.out HF.out (HT.out _ hsm.2 hsm.1 hne)
          have hsame : flowM ps x by_ tn d m2 k = x k := flowM_same m2 fun i hi => by rw [← ek]; exact way_once HIN.out HT.out HWay.out.1 hi hlt
          have hjN := hsm.2
          have hdr : d ≤ r := by rw [← er]; exact HWay.out.2.1 m2 hlt
          clear hne hsm
          obtain ⟨b, o, rfl, hb, d0, d1, d2, d3⟩ := pipes_at HR.out hk
          rw [hp] at d0 d1 d2 d3
          have HP : Hid (nd ps by_ tn (m2 + 1) = P) := Lib.hid eP
          have HER := Lib.hid (And.intro ek (And.intro hlt hsame))
          have HJ2 : Hid ((rs.set i (.blk lb (iarr (flowM ps x by_ tn d m2) ps.length) 2))[j]? = some (.blk gb (sarr by_ N) 78)) := Lib.hid (set_other HIJ.out.2 (blk_ne HIJ.out.1 HIJ.out.2 (by decide)))
          clear hp ek er eP hlt hsame
          obtain ⟨J, hJ⟩ : ∃ J, nd ps by_ tn m2 = J := ⟨_, rfl⟩
          rw [hJ] at hz hb1 hrk hjN HER ⊢
          go_upto_region 10 with fail
          go_cut [16, 17] (fun s16 s17 wx => ∃ pr sr : Nat, s16 = .pointer (some ⟨pr, 0, none⟩) ∧ s17 = .pointer (some ⟨sr, 0, none⟩) ∧ SL W B (.blk sr #[.int .i64 k, .bool bb] 78 :: .blk pr #[.int .i64 p.fr, .int .i64 p.to, .int .i64 p.room, .int .i64 p.cost] 40 :: .blk nb #[.int .i64 N, .slice (some ⟨b, o, none⟩) ps.length cap] 26 :: rs.set i (.blk lb (iarr (flowM ps x by_ tn d m2) ps.length) 2)) wx)
          case first =>
            refine wp_region_slb [0,1,2,3,4,5,6,7,8,9,10,11,12] [13,14,15] [16] (.blk nb #[.int .i64 N, .slice (some ⟨b, o, none⟩) ps.length cap] 26 :: rs.set i (.blk lb (iarr (flowM ps x by_ tn d m2) ps.length) 2)) hS (by simp) (by kernel_rfl) (by kernel_rfl) (.cons rfl .nil) (fun C cw _ hC => ?_)
            have q0 : ∀ c, (cw c).cell? ⟨nb, 1, none⟩ = some (.slice (some ⟨b, o, none⟩) ps.length cap) := fun c => (hC c).cell 0 rfl 1 rfl
            have q1 : ∀ c, (cw c).cell? ⟨gb, J * 2, none⟩ = some (.int .i64 (k : Int)) := fun c => (by have h := (hC c).cell (j + 1) HJ2.out _ (sarr_get0 _ _ _ hjN); rw [hb1] at h; exact h)
            have q2 : ∀ c, (cw c).cell? ⟨gb, J * 2 + 1, none⟩ = some (.bool bb) := fun c => (by have h := (hC c).cell (j + 1) HJ2.out _ (sarr_get1 _ _ _ hjN); rw [hb1] at h; exact h)
            have q3 : ∀ c, (cw c).cell? ⟨b, o + k * 4, none⟩ = some (.int .i64 p.fr) := fun c => ((hC c).below.cell hb).trans d0
            have q4 : ∀ c, (cw c).cell? ⟨b, o + k * 4 + 1, none⟩ = some (.int .i64 p.to) := fun c => ((hC c).below.cell hb).trans d1
            have q5 : ∀ c, (cw c).cell? ⟨b, o + k * 4 + 2, none⟩ = some (.int .i64 p.room) := fun c => ((hC c).below.cell hb).trans d2
            have q6 : ∀ c, (cw c).cell? ⟨b, o + k * 4 + 3, none⟩ = some (.int .i64 p.cost) := fun c => ((hC c).below.cell hb).trans d3
            repeat (refine pl_look rfl rfl rfl (fun Kv hK => ?_); go_big_quiet_op; refine hK _ ?_; clear hK Kv)
            clear q0 q1 q2 q3 q4 q5 q6 hC
            refine pl_end ?_
            intro w1 hS1
            refine pb_two 13 14 (by kernel_rfl) (by kernel_rfl) (by kernel_rfl) ?_ ?_
            · refine kOp_eff rfl rfl fun Kv hK => ?_
              go_simp
              have hS2 := hS1.alloc #[.int .i64 0, .int .i64 0, .int .i64 0, .int .i64 0] 40
              refine ⟨hS2.tail, hK _ _ ?_⟩
              clear hK Kv
              refine pb_one 14 (by kernel_rfl) (by kernel_rfl) ?_
              refine kOp_eff rfl rfl fun Kv hK => ?_
              go_simp
              have hS3 := hS2.alloc #[.int .i64 0, .bool false] 78
              rw [show ∀ o : Obj, (w1.alloc o).heap.size = w1.heap.size + 1 from fun o => by simp] at hS3
              refine ⟨hS3.tail.tail, hK _ _ ?_⟩
              clear hK Kv
              refine pb_one 15 (by kernel_rfl) (by kernel_rfl) ?_
              refine kOp_eff rfl rfl fun Kv hK => ?_
              refine eff_store_row 40 _ _ rfl w1.heap.size #[.int .i64 p.fr, .int .i64 p.to, .int .i64 p.room, .int .i64 p.cost] rfl rfl _ _ (hS3.blk 1 rfl) (by kernel_rfl) rfl (by simp [Value.oneCell']) (fun w4 ho4 hh4 => ?_)
              have hS4 := hS3.only 1 rfl ho4 hh4
              refine ⟨hS4.tail.tail, hK _ _ ?_⟩
              clear hK Kv
              refine pb_end (by kernel_rfl) ?_
              refine wpList_store_abs rfl 78 _ _ rfl rfl (w1.heap.size + 1) #[.int .i64 k, .bool bb] rfl rfl _ _ (hS4.blk 0 rfl) (by kernel_rfl) rfl (by simp [Value.oneCell']) (fun w5 ho5 hh5 => ?_)
              have hS5 := hS4.only 0 rfl ho5 hh5
              go_wp2_with fail
              go_meet
              exact ⟨_, _, rfl, rfl, by have h := hS5; simpa using h⟩
            · refine kOp_eff rfl rfl fun Kv hK => ?_
              go_simp
              have hS2 := hS1.alloc #[.int .i64 0, .bool false] 78
              refine ⟨hS2.tail, hK _ _ ?_⟩
              clear hK Kv
              refine pb_one 13 (by kernel_rfl) (by kernel_rfl) ?_
              refine kOp_eff rfl rfl fun Kv hK => ?_
              go_simp
              have hS3 := hS2.alloc #[.int .i64 0, .int .i64 0, .int .i64 0, .int .i64 0] 40
              rw [show ∀ o : Obj, (w1.alloc o).heap.size = w1.heap.size + 1 from fun o => by simp] at hS3
              refine ⟨hS3.tail.tail, hK _ _ ?_⟩
              clear hK Kv
              refine pb_one 15 (by kernel_rfl) (by kernel_rfl) ?_
              refine kOp_eff rfl rfl fun Kv hK => ?_
              refine eff_store_row 40 _ _ rfl (w1.heap.size + 1) #[.int .i64 p.fr, .int .i64 p.to, .int .i64 p.room, .int .i64 p.cost] rfl rfl _ _ (hS3.blk 0 rfl) (by kernel_rfl) rfl (by simp [Value.oneCell']) (fun w4 ho4 hh4 => ?_)
              have hS4 := hS3.only 0 rfl ho4 hh4
              refine ⟨hS4.tail.tail, hK _ _ ?_⟩
              clear hK Kv
              refine pb_end (by kernel_rfl) ?_
              refine wpList_store_abs rfl 78 _ _ rfl rfl w1.heap.size #[.int .i64 k, .bool bb] rfl rfl _ _ (hS4.blk 1 rfl) (by kernel_rfl) rfl (by simp [Value.oneCell']) (fun w5 ho5 hh5 => ?_)
              have hS5 := hS4.only 1 rfl ho5 hh5
              go_wp2_with fail
              go_meet
              exact ⟨_, _, rfl, rfl, by have h := hS5.perm (List.Perm.swap _ _ _); simpa using h⟩
          case rest =>
            obtain ⟨pr, sr, rfl, rfl, hS1⟩ := hcut
            clear hS
            have cs : wc.cell? ⟨sr, 1, none⟩ = some (.bool bb) := hS1.cell 0 rfl 1 rfl
            have ck : wc.cell? ⟨sr, 0, none⟩ = some (.int .i64 (k : Int)) := hS1.cell 0 rfl 0 rfl
            have cx : wc.cell? ⟨lb, k, none⟩ = some (.int .i64 (x k)) := by
              have h := hS1.cell (i + 3) (set_new HIJ.out.1) k (iarr_get _ _ _ hk)
              rw [HER.out.2.2] at h
              exact h
            have cf := hS1.free (i + 3) (set_new HIJ.out.1) k
            have z1 := hS1.ne 0 (i + 3) rfl (set_new HIJ.out.1) (by omega)
            have z2 := hS1.ne 1 (i + 3) rfl (set_new HIJ.out.1) (by omega)
            have z3 := z1.symm
            have z4 := z2.symm
            rcases hcase with ⟨rfl, eP, er⟩ | ⟨rfl, eP, er⟩
            · have cv : wc.cell? ⟨pr, 0, none⟩ = some (.int .i64 p.fr) := hS1.cell 1 rfl 0 rfl
              have hS2 : SL W B (_ :: _ :: _ :: _) _ := hS1.setInt (i + 3) (set_new HIJ.out.1) k (x k + d)
              have HS2 : Hid (SL W B (.blk nb #[.int .i64 N, .slice (some ⟨b, o, none⟩) ps.length cap] 26 :: rs.set i (.blk lb (iarr (flowM ps x by_ tn d (m2 + 1)) ps.length) 2)) (wc.setCell ⟨lb, k, none⟩ (.int .i64 (x k + d)))) := Lib.hid (by
                have h := hS2.tail.tail
                simp only [List.set_set] at h
                rw [iarr_ext (g := flowM ps x by_ tn d (m2 + 1)) (fun z hz => by
                  show _ = if z = kOf by_ (nd ps by_ tn m2) then flowM ps x by_ tn d m2 z + (if (by_ (nd ps by_ tn m2)).2 then -d else d) else flowM ps x by_ tn d m2 z
                  rw [hJ, HER.out.1, hb1]
                  by_cases e : z = k
                  · subst e; rw [if_pos rfl, if_pos rfl, HER.out.2.2]; simp; try omega
                  · rw [if_neg e, if_neg e])] at h
                exact h)
              clear hS1 hS2
              go_wp2
              go_roundw
              case rel => exact ⟨m2 + 1, by rw [HP.out, ← eP], by have := HER.out.2.1; omega, HS2.out⟩
              case measure => simpa [eP, intOf] using hrk
            · have cv : wc.cell? ⟨pr, 1, none⟩ = some (.int .i64 p.to) := hS1.cell 1 rfl 1 rfl
              have hS2 : SL W B (_ :: _ :: _ :: _) _ := hS1.setInt (i + 3) (set_new HIJ.out.1) k (x k - d)
              have HS2 : Hid (SL W B (.blk nb #[.int .i64 N, .slice (some ⟨b, o, none⟩) ps.length cap] 26 :: rs.set i (.blk lb (iarr (flowM ps x by_ tn d (m2 + 1)) ps.length) 2)) (wc.setCell ⟨lb, k, none⟩ (.int .i64 (x k - d)))) := Lib.hid (by
                have h := hS2.tail.tail
                simp only [List.set_set] at h
                rw [iarr_ext (g := flowM ps x by_ tn d (m2 + 1)) (fun z hz => by
                  show _ = if z = kOf by_ (nd ps by_ tn m2) then flowM ps x by_ tn d m2 z + (if (by_ (nd ps by_ tn m2)).2 then -d else d) else flowM ps x by_ tn d m2 z
                  rw [hJ, HER.out.1, hb1]
                  by_cases e : z = k
                  · subst e; rw [if_pos rfl, if_pos rfl, HER.out.2.2]; simp; try omega
                  · rw [if_neg e, if_neg e])] at h
                exact h)
              clear hS1 hS2
              go_wp2
              go_roundw
              case rel => exact ⟨m2 + 1, by rw [HP.out, ← eP], by have := HER.out.2.1; omega, HS2.out⟩
              case measure => simpa [eP, intOf] using hrk
    · have hz : ((nd ps by_ tn m : Int) != s) = true := by simpa using hne
      have hsm := hway.seen m (Nat.le_refl _)
      obtain ⟨k, p, bb, P, r, ek, hb1, eP, er, ⟨hk, hp⟩, hrk, x0, x1, x2, hPN, hr1, hcase⟩ := step_pack HIN.out HF.out (HT.out _ hsm.2 hsm.1 hne)
      have HWay := Lib.hid (And.intro (way_step HIN.out HT.out hway hne) hmin)
      have hjN := hsm.2
      clear hway hmin hne hsm
      obtain ⟨b, o, rfl, hb, d0, d1, d2, d3⟩ := pipes_at HR.out hk
      rw [hp] at d0 d1 d2 d3
      have HP : Hid (nd ps by_ tn (m + 1) = P) := Lib.hid eP
      have HER := Lib.hid (And.intro ek er)
      clear hp ek er eP
      obtain ⟨J, hJ⟩ : ∃ J, nd ps by_ tn m = J := ⟨_, rfl⟩
      rw [hJ] at hz hb1 hrk hjN HER ⊢
      go_upto_region 4 with fail
      go_cut [13, 14] (fun s13 s14 wx => ∃ pr sr : Nat, s13 = .pointer (some ⟨pr, 0, none⟩) ∧ s14 = .pointer (some ⟨sr, 0, none⟩) ∧ SL W B (.blk sr #[.int .i64 k, .bool bb] 78 :: .blk pr #[.int .i64 p.fr, .int .i64 p.to, .int .i64 p.room, .int .i64 p.cost] 40 :: .blk nb #[.int .i64 N, .slice (some ⟨b, o, none⟩) ps.length cap] 26 :: rs) wx)
      case first =>
        refine wp_region_slb [0,1,2,3,4,5,6,7,8,9,10,11,12] [13,14,15] [16] (.blk nb #[.int .i64 N, .slice (some ⟨b, o, none⟩) ps.length cap] 26 :: rs) hS (by simp) (by kernel_rfl) (by kernel_rfl) (.cons rfl .nil) (fun C cw _ hC => ?_)
        have q0 : ∀ c, (cw c).cell? ⟨nb, 1, none⟩ = some (.slice (some ⟨b, o, none⟩) ps.length cap) := fun c => (hC c).cell 0 rfl 1 rfl
        have q1 : ∀ c, (cw c).cell? ⟨gb, J * 2, none⟩ = some (.int .i64 (k : Int)) := fun c => (by have h := (hC c).cell (j + 1) HIJ.out.2 _ (sarr_get0 _ _ _ hjN); rw [hb1] at h; exact h)
        have q2 : ∀ c, (cw c).cell? ⟨gb, J * 2 + 1, none⟩ = some (.bool bb) := fun c => (by have h := (hC c).cell (j + 1) HIJ.out.2 _ (sarr_get1 _ _ _ hjN); rw [hb1] at h; exact h)
        have q3 : ∀ c, (cw c).cell? ⟨b, o + k * 4, none⟩ = some (.int .i64 p.fr) := fun c => ((hC c).below.cell hb).trans d0
        have q4 : ∀ c, (cw c).cell? ⟨b, o + k * 4 + 1, none⟩ = some (.int .i64 p.to) := fun c => ((hC c).below.cell hb).trans d1
        have q5 : ∀ c, (cw c).cell? ⟨b, o + k * 4 + 2, none⟩ = some (.int .i64 p.room) := fun c => ((hC c).below.cell hb).trans d2
        have q6 : ∀ c, (cw c).cell? ⟨b, o + k * 4 + 3, none⟩ = some (.int .i64 p.cost) := fun c => ((hC c).below.cell hb).trans d3
        repeat (refine pl_look rfl rfl rfl (fun Kv hK => ?_); go_big_quiet_op; refine hK _ ?_; clear hK Kv)
        clear q0 q1 q2 q3 q4 q5 q6 hC
        refine pl_end ?_
        intro w1 hS1
        refine pb_two 13 14 (by kernel_rfl) (by kernel_rfl) (by kernel_rfl) ?_ ?_
        · refine kOp_eff rfl rfl fun Kv hK => ?_
          go_simp
          have hS2 := hS1.alloc #[.int .i64 0, .int .i64 0, .int .i64 0, .int .i64 0] 40
          refine ⟨hS2.tail, hK _ _ ?_⟩
          clear hK Kv
          refine pb_one 14 (by kernel_rfl) (by kernel_rfl) ?_
          refine kOp_eff rfl rfl fun Kv hK => ?_
          go_simp
          have hS3 := hS2.alloc #[.int .i64 0, .bool false] 78
          rw [show ∀ o : Obj, (w1.alloc o).heap.size = w1.heap.size + 1 from fun o => by simp] at hS3
          refine ⟨hS3.tail.tail, hK _ _ ?_⟩
          clear hK Kv
          refine pb_one 15 (by kernel_rfl) (by kernel_rfl) ?_
          refine kOp_eff rfl rfl fun Kv hK => ?_
          refine eff_store_row 40 _ _ rfl w1.heap.size #[.int .i64 p.fr, .int .i64 p.to, .int .i64 p.room, .int .i64 p.cost] rfl rfl _ _ (hS3.blk 1 rfl) (by kernel_rfl) rfl (by simp [Value.oneCell']) (fun w4 ho4 hh4 => ?_)
          have hS4 := hS3.only 1 rfl ho4 hh4
          refine ⟨hS4.tail.tail, hK _ _ ?_⟩
          clear hK Kv
          refine pb_end (by kernel_rfl) ?_
          refine wpList_store_abs rfl 78 _ _ rfl rfl (w1.heap.size + 1) #[.int .i64 k, .bool bb] rfl rfl _ _ (hS4.blk 0 rfl) (by kernel_rfl) rfl (by simp [Value.oneCell']) (fun w5 ho5 hh5 => ?_)
          have hS5 := hS4.only 0 rfl ho5 hh5
          go_wp2_with fail
          go_meet
          exact ⟨_, _, rfl, rfl, by have h := hS5; simpa using h⟩
        · refine kOp_eff rfl rfl fun Kv hK => ?_
          go_simp
          have hS2 := hS1.alloc #[.int .i64 0, .bool false] 78
          refine ⟨hS2.tail, hK _ _ ?_⟩
          clear hK Kv
          refine pb_one 13 (by kernel_rfl) (by kernel_rfl) ?_
          refine kOp_eff rfl rfl fun Kv hK => ?_
          go_simp
          have hS3 := hS2.alloc #[.int .i64 0, .int .i64 0, .int .i64 0, .int .i64 0] 40
          rw [show ∀ o : Obj, (w1.alloc o).heap.size = w1.heap.size + 1 from fun o => by simp] at hS3
          refine ⟨hS3.tail.tail, hK _ _ ?_⟩
          clear hK Kv
          refine pb_one 15 (by kernel_rfl) (by kernel_rfl) ?_
          refine kOp_eff rfl rfl fun Kv hK => ?_
          refine eff_store_row 40 _ _ rfl (w1.heap.size + 1) #[.int .i64 p.fr, .int .i64 p.to, .int .i64 p.room, .int .i64 p.cost] rfl rfl _ _ (hS3.blk 0 rfl) (by kernel_rfl) rfl (by simp [Value.oneCell']) (fun w4 ho4 hh4 => ?_)
          have hS4 := hS3.only 0 rfl ho4 hh4
          refine ⟨hS4.tail.tail, hK _ _ ?_⟩
          clear hK Kv
          refine pb_end (by kernel_rfl) ?_
          refine wpList_store_abs rfl 78 _ _ rfl rfl w1.heap.size #[.int .i64 k, .bool bb] rfl rfl _ _ (hS4.blk 1 rfl) (by kernel_rfl) rfl (by simp [Value.oneCell']) (fun w5 ho5 hh5 => ?_)
          have hS5 := hS4.only 1 rfl ho5 hh5
          go_wp2_with fail
          go_meet
          exact ⟨_, _, rfl, rfl, by have h := hS5.perm (List.Perm.swap _ _ _); simpa using h⟩
      case rest =>
        obtain ⟨pr, sr, rfl, rfl, hS1⟩ := hcut
        clear hS
        have cs : wc.cell? ⟨sr, 1, none⟩ = some (.bool bb) := hS1.cell 0 rfl 1 rfl
        rcases hcase with ⟨rfl, eP, er⟩ | ⟨rfl, eP, er⟩
        · go_upto_region 7 with fail
          clear cs
          refine wp_region_sl [0,1,2,3,4,5,6,7,8,9,10,11,12] [] [13] _ hS1 (List.Sublist.refl _) (by kernel_rfl) (by kernel_rfl) (.cons rfl .nil) (fun C cw _ hC => ?_)
          have q0 : ∀ c, (cw c).cell? ⟨sr, 0, none⟩ = some (.int .i64 (k : Int)) := fun c => (hC c).cell 0 rfl 0 rfl
          have q1 : ∀ c, (cw c).cell? ⟨pr, 0, none⟩ = some (.int .i64 p.fr) := fun c => (hC c).cell 1 rfl 0 rfl
          have q2 : ∀ c, (cw c).cell? ⟨pr, 2, none⟩ = some (.int .i64 p.room) := fun c => (hC c).cell 1 rfl 2 rfl
          have q3 : ∀ c, (cw c).cell? ⟨lb, k, none⟩ = some (.int .i64 (x k)) := fun c => (hC c).cell (i + 3) HIJ.out.1 k (iarr_get _ _ _ hk)
          repeat (first | (refine pl_look rfl rfl rfl (fun Kv hK => ?_); go_big_quiet_op; refine hK _ ?_; clear hK Kv) | (refine pl_min _ _ _ _ _ _ _ _ rfl rfl rfl rfl rfl rfl (fun Kv hK => ?_); go_simp; refine hK _ ?_; clear hK Kv))
          clear q0 q1 q2 q3 hC
          refine pl_end ?_
          intro w1 hS4
          refine pm_end ?_
          clear hS1
          go_wp2_with fail
          go_roundw
          case rel =>
            refine ⟨m + 1, _, by rw [HP.out, ← eP], rfl, by split <;> omega, by split <;> omega, HWay.out.1, fun i hi => ?_, hS4.sub (by simp)⟩
            by_cases e : i = m
            · subst e; rw [hJ, HER.out.2]; split <;> omega
            · have := HWay.out.2 i (by omega); split <;> omega
          case measure => simpa [eP, intOf] using hrk
        · go_upto_region 6 with fail
          clear cs
          refine wp_region_sl [0,1,2,3,4,5,6,7,8,9] [] [10] _ hS1 (List.Sublist.refl _) (by kernel_rfl) (by kernel_rfl) (.cons rfl .nil) (fun C cw _ hC => ?_)
          have q0 : ∀ c, (cw c).cell? ⟨sr, 0, none⟩ = some (.int .i64 (k : Int)) := fun c => (hC c).cell 0 rfl 0 rfl
          have q1 : ∀ c, (cw c).cell? ⟨pr, 1, none⟩ = some (.int .i64 p.to) := fun c => (hC c).cell 1 rfl 1 rfl
          have q3 : ∀ c, (cw c).cell? ⟨lb, k, none⟩ = some (.int .i64 (x k)) := fun c => (hC c).cell (i + 3) HIJ.out.1 k (iarr_get _ _ _ hk)
          repeat (first | (refine pl_look rfl rfl rfl (fun Kv hK => ?_); go_big_quiet_op; refine hK _ ?_; clear hK Kv) | (refine pl_min _ _ _ _ _ _ _ _ rfl rfl rfl rfl rfl rfl (fun Kv hK => ?_); go_simp; refine hK _ ?_; clear hK Kv))
          clear q0 q1 q3 hC
          refine pl_end ?_
          intro w1 hS4
          refine pm_end ?_
          clear hS1
          go_wp2_with fail
          go_roundw
          case rel =>
            refine ⟨m + 1, _, by rw [HP.out, ← eP], rfl, by split <;> omega, by split <;> omega, HWay.out.1, fun i hi => ?_, hS4.sub (by simp)⟩
            by_cases e : i = m
            · subst e; rw [hJ, HER.out.2]; split <;> omega
            · have := HWay.out.2 i (by omega); split <;> omega
          case measure => simpa [eP, intOf] using hrk
end Go.Proofs.Ytgnmbmlpfjlbiaa
