/- The walk of least.run.push. -/
import Derived.Test.YtgnmbmlpfjlbiaaLook
import Derived.Test.YtgnmbmlpfjlbiaaFlowAlong
namespace Go.Proofs.Ytgnmbmlpfjlbiaa
open Go.ChangeShapes Go.WideShapes Go.ChangeAt Go.RowKit
set_option linter.unusedVariables false
theorem costK_le {ps : List PipeV} {y : Nat → Int} {C : Int} (hC : Costs ps) (h0 : 0 ≤ C) (h : ∀ k, k < ps.length → 0 ≤ y k ∧ y k ≤ C) : ∀ k, k ≤ ps.length → 0 ≤ costK ps y k ∧ costK ps y k ≤ C * DearI * k
  | 0, _ => by simp [costK]
  | k + 1, hk => by
    have hkl : k < ps.length := by omega
    obtain ⟨i1, i2⟩ := costK_le hC h0 h k (by omega)
    rw [costK_succ hkl]
    obtain ⟨c0, c1⟩ := hC ps[k] (List.getElem_mem hkl)
    obtain ⟨y0, y1⟩ := h k hkl
    have m0 : 0 ≤ y k * ps[k].cost := Int.mul_nonneg y0 c0
    have m1 : y k * ps[k].cost ≤ C * DearI := Int.mul_le_mul y1 c1 c0 h0
    have e : C * DearI * ((k + 1 : Nat) : Int) = C * DearI * k + C * DearI := by rw [Int.natCast_add, Int.mul_add]; simp
    rw [e]
    omega
theorem few_flow {N : Nat} {ps : List PipeV} {x : Nat → Int} {s : Int} {seen : Nat → Bool} {by_ : Nat → Int × Bool} {rank : Nat → Nat} {t M : Nat} {d C : Int} (hP : InP N ps) (hT : TreeR N ps x s seen by_ rank) (hW : WayTo N ps x s seen by_ rank t M) (hd : 0 ≤ d) (hf : ∀ k, k < ps.length → x k ≤ C) : ∀ m, m ≤ M → ∀ k, k < ps.length → flowM ps x by_ t d m k ≤ C + d
  | 0, _, k, hk => by have := hf k hk; show x k ≤ _; omega
  | m + 1, hm, k, hk => by
    unfold flowM
    by_cases e : k = kOf by_ (nd ps by_ t m)
    · have hsame : flowM ps x by_ t d m k = x k := flowM_same m fun i hi => by rw [e]; exact way_once hP hT hW hi (by omega)
      have h1 := hf k hk
      rw [if_pos e, hsame]
      split <;> omega
    · rw [if_neg e]
      exact few_flow hP hT hW hd hf m (by omega) k hk
theorem flowM_cost {ps : List PipeV} {x : Nat → Int} {by_ : Nat → Int × Bool} {t m k : Nat} {d : Int} (hk : k < ps.length) (e : kOf by_ (nd ps by_ t m) = k) : costF ps (flowM ps x by_ t d (m + 1)) = costF ps (flowM ps x by_ t d m) + (if (by_ (nd ps by_ t m)).2 then -d else d) * ps[k].cost := by
  have h := costF_set (x := flowM ps x by_ t d m) (d := if (by_ (nd ps by_ t m)).2 then -d else d) hk
  rw [← h]
  congr 1
  funext i
  show (if i = kOf by_ (nd ps by_ t m) then _ else _) = _
  rw [e]
/-- What push does. -/
def PushPost (W : World) (B rb fb hb gf gb N cap : Nat) (A : Option Addr) (x hh far : Nat → Int) (by_ : Nat → Int × Bool) (ps : List PipeV) (s t : Nat) (most : Int) (rs : List Rs) (e : Ending) (w' : World) : Prop :=
  ∃ (d : Int) (m : Nat) (rank : Nat → Nat), e = .returned (.int .i64 d) ∧ 1 ≤ d ∧ d ≤ most ∧ SL W B (RunRs rb fb hb gf gb N ps.length cap A (costF ps (flowM ps x by_ t d m)) (flowM ps x by_ t d m) hh far by_ rs) w' ∧
    TreeR N ps x (s : Int) (fun j => decide (far j < FarI)) by_ rank ∧ WayTo N ps x (s : Int) (fun j => decide (far j < FarI)) by_ rank t m ∧ nd ps by_ t m = s ∧ ∀ i, i < m → d ≤ resd ps x by_ (nd ps by_ t i)
set_option maxRecDepth 100000 in
set_option maxHeartbeats 8000000 in
theorem push_any (W w : World) (B rb fb hb gf gb N cap : Nat) (A : Option Addr) (x h hh far : Nat → Int) (by_ : Nat → Int × Bool) (ps : List PipeV) (s t : Nat) (most : Int) (rs : List Rs) (hr : Pipes W B A ps) (hI : DijIn N ps x h s) (hLk : Looked N ps x h s far by_) (hL : ps.length ≤ 20000) (ht : t < N) (hft : far t < FarI) (hst : s ≠ t) (hF : Feas ps x) (hfew : ∀ k, k < ps.length → x k ≤ 10000) (hm1 : 1 ≤ most) (hm2 : most ≤ 10000)
    (hS : SL W B (RunRs rb fb hb gf gb N ps.length cap A (costF ps x) x hh far by_ rs) w) :
    Calls Try.prog 37 #[.pointer (some ⟨rb, 0, none⟩), .int .i64 (s : Int), .int .i64 (t : Int), .int .i64 most] w (PushPost W B rb fb hb gf gb N cap A x hh far by_ ps s t most rs) := by
  obtain ⟨rank, hT0⟩ := (looked_walked hI hLk).tree
  have hT : TreeR N ps x (s : Int) (fun j => decide (far j < FarI)) by_ rank := hT0
  have hN := hI.nN
  have HT := Lib.hid (And.intro hT (And.intro hI.inn (And.intro hF (And.intro hI.costs hfew))))
  have HR := Lib.hid hr
  have hts : decide (far t < FarI) = true := by simpa using hft
  have HTS := Lib.hid hts
  clear hT0 hT hI hLk hF hfew hr hts hft
  go_enter Try.func37, Try.ntmps37
  go_wp2_with fail
  go_loopw [3, 9] (fun u3 u9 wr => ∃ (m : Nat) (d : Int), u9 = .int .i64 (nd ps by_ t m : Int) ∧ u3 = .int .i64 d ∧ 1 ≤ d ∧ d ≤ most ∧ Hid (WayTo N ps x (s : Int) (fun j => decide (far j < FarI)) by_ rank t m ∧ ∀ i, i < m → d ≤ resd ps x by_ (nd ps by_ t i)) ∧ SL W B (RunRs rb fb hb gf gb N ps.length cap A (costF ps x) x hh far by_ rs) wr) (fun _ u9 _ => rank (intOf u9).toNat)
  case atStart => exact ⟨0, _, rfl, rfl, hm1, Int.le_refl _, Lib.hid ⟨way_start HTS.out ht, fun i hi => absurd hi (by omega)⟩, hS⟩
  case round =>
    clear hS
    obtain ⟨m, d, rfl, rfl, hd1, hd2, HW, hS⟩ := hrel
    by_cases hne : (nd ps by_ t m : Int) = (s : Int)
    · have hz : ((nd ps by_ t m : Int) != (s : Int)) = false := by simpa using hne
      have HEND : Hid (nd ps by_ t m = s) := Lib.hid (by omega)
      clear hne
      go_wp2_with fail
      have HS := Lib.hid hS
      clear hS
      go_loopw [11] (fun u11 w2 => ∃ (m2 : Nat), u11 = .int .i64 (nd ps by_ t m2 : Int) ∧ m2 ≤ m ∧ SL W B (RunRs rb fb hb gf gb N ps.length cap A (costF ps (flowM ps x by_ t d m2)) (flowM ps x by_ t d m2) hh far by_ rs) w2) (fun u11 _ => rank (intOf u11).toNat)
      case atStart => exact ⟨0, rfl, by omega, HS.out⟩
      case round =>
        clear HS
        obtain ⟨m2, rfl, hm2', hS⟩ := hrel
        by_cases hne : (nd ps by_ t m2 : Int) = (s : Int)
        · have hmm : m2 = m := by
            rcases Nat.lt_or_ge m2 m with h | h
            · exact absurd hne (HW.out.1.ne m2 h)
            · omega
          subst hmm
          have hz : ((nd ps by_ t m2 : Int) != (s : Int)) = false := by simpa using hne
          have HS := Lib.hid hS
          clear hS hne
          go_wp2_with fail
          go_ret
          exact ⟨d, m2, rank, rfl, hd1, hd2, HS.out, HT.out.1, HW.out.1, HEND.out, HW.out.2⟩
        · have hlt : m2 < m := by
            rcases Nat.lt_or_ge m2 m with h | h
            · exact h
            · have e : m2 = m := by omega
              rw [e, HEND.out] at hne
              exact absurd rfl hne
          have hz : ((nd ps by_ t m2 : Int) != (s : Int)) = true := by simpa using hne
          have hsm := HW.out.1.seen m2 (by omega)
          obtain ⟨k, p, bb, q, r, ek, hb1, eq, er, ⟨hk, hp⟩, hrk, x0, x1, x2, hPN, hr1, hcase⟩ := step_pack HT.out.2.1 HT.out.2.2.1 (HT.out.1 _ hsm.2 hsm.1 hne)
          have hsame : flowM ps x by_ t d m2 k = x k := flowM_same m2 fun i hi => by rw [← ek]; exact way_once HT.out.2.1 HT.out.1 HW.out.1 hi hlt
          have hjN := hsm.2
          have hdr : d ≤ r := by rw [← er]; exact HW.out.2 m2 hlt
          have hxk := HT.out.2.2.2.2 k hk
          obtain ⟨b, o, rfl, hbB, d0, d1, d2, d3⟩ := pipes_at HR.out hk
          have hcst := HT.out.2.2.2.1 ps[k] (List.getElem_mem hk)
          have hce := flowM_cost (x := x) (d := d) hk ek
          rw [hp] at d0 d1 d2 d3 hcst hce
          rw [hb1] at hce
          have HP : Hid (nd ps by_ t (m2 + 1) = q) := Lib.hid eq
          have hco := costK_le (C := 20000) HT.out.2.2.2.1 (by decide) (fun k' hk' => ⟨(flowM_feas HT.out.2.1 HT.out.1 HW.out.1 HT.out.2.2.1 (by omega) HW.out.2 m2 (by omega) k' hk').1, by have := few_flow (d := d) HT.out.2.1 HT.out.1 HW.out.1 (by omega) HT.out.2.2.2.2 m2 (by omega) k' hk'; omega⟩) ps.length (Nat.le_refl _)
          have hdc : 0 ≤ d * p.cost ∧ d * p.cost ≤ 10000 * DearI := ⟨Int.mul_nonneg (by omega) hcst.1, Int.mul_le_mul (by omega) hcst.2 hcst.1 (by decide)⟩
          obtain ⟨c0, hc0⟩ : ∃ c0, costF ps (flowM ps x by_ t d m2) = c0 := ⟨_, rfl⟩
          have hco2 : 0 ≤ c0 ∧ c0 ≤ 1717986918400000000 := by
            have h1 : (20000 : Int) * DearI * (ps.length : Int) ≤ 20000 * DearI * 20000 := Int.mul_le_mul_of_nonneg_left (by omega) (by decide)
            rw [← hc0]
            unfold costF
            refine ⟨hco.1, ?_⟩
            have := hco.2
            unfold DearI at *
            omega
          rw [hc0] at hS hce
          have HCE := Lib.hid hce
          unfold DearI at hdc hcst
          clear hco hce hc0 eq er
          obtain ⟨J, hJ⟩ : ∃ J, nd ps by_ t m2 = J := ⟨_, rfl⟩
          have HKJ := Lib.hid (And.intro hJ (And.intro ek hsame))
          rw [hJ] at hz hb1 hrk hjN ⊢
          clear hne hsm ek hp hJ
          have c6 : wr.cell? ⟨rb, 6, none⟩ = some (.slice (some ⟨gb, 0, none⟩) N N) := hS.cell 0 rfl 6 rfl
          have c1 : wr.cell? ⟨rb, 1, none⟩ = some (.slice (some ⟨b, o, none⟩) ps.length cap) := hS.cell 0 rfl 1 rfl
          have c2 : wr.cell? ⟨rb, 2, none⟩ = some (.slice (some ⟨fb, 0, none⟩) ps.length ps.length) := hS.cell 0 rfl 2 rfl
          have ck : wr.cell? ⟨gb, J * 2, none⟩ = some (.int .i64 (k : Int)) := (by have h := hS.cell 4 rfl _ (sarr_get0 _ _ _ hjN); rw [hb1] at h; exact h)
          have cb : wr.cell? ⟨gb, J * 2 + 1, none⟩ = some (.bool bb) := (by have h := hS.cell 4 rfl _ (sarr_get1 _ _ _ hjN); rw [hb1] at h; exact h)
          have cx : wr.cell? ⟨fb, k, none⟩ = some (.int .i64 (x k)) := (by have h := hS.cell 1 rfl k (iarr_get _ _ _ hk); rw [hsame] at h; exact h)
          have cf := hS.free 1 rfl k
          clear hsame
          rcases hcase with ⟨rfl, eP, er⟩ | ⟨rfl, eP, er⟩
          · skip
            have hwx : IntKind.i64.wrap (x k + d) = x k + d := by rw [IntKind.wrap_i64]; omega
            have hcy : 0 ≤ x k + d ∧ True := ⟨by omega, trivial⟩
            go_upto_region 16 with fail
            have hS1 : SL W B (RunRs rb fb hb gf gb N ps.length cap (some ⟨b, o, none⟩) c0 (fun z => if z = k then x k + d else flowM ps x by_ t d m2 z) hh far by_ rs) (wr.setCell ⟨fb, k, none⟩ (.int .i64 (x k + d))) := hS.setInt 1 rfl k (x k + d)
            generalize (wr.setCell ⟨fb, k, none⟩ (.int .i64 (x k + d))) = w3 at *
            clear c6 c1 c2 ck cb cx cf hS hwx hcy
            refine wp_region_sl [0,1,2,3,4,5,6,7,8,9,10,11,12,13,14,15,16] [] [17,18,19,20] _ hS1 (List.Sublist.refl _) (by kernel_rfl) (by kernel_rfl) (.cons rfl (.cons rfl (.cons rfl (.cons rfl .nil)))) (fun C cw _ hC => ?_)
            have q1 : ∀ c, (cw c).cell? ⟨rb, 1, none⟩ = some (.slice (some ⟨b, o, none⟩) ps.length cap) := fun c => (hC c).cell 0 rfl 1 rfl
            have q3 : ∀ c, (cw c).cell? ⟨rb, 3, none⟩ = some (.int .i64 c0) := fun c => (hC c).cell 0 rfl 3 rfl
            have q4 : ∀ c, (cw c).cell? ⟨b, o + k * 4 + 3, none⟩ = some (.int .i64 p.cost) := fun c => ((hC c).below.cell hbB).trans d3
            have hw1 : IntKind.i64.wrap (d * p.cost) = d * p.cost := by rw [IntKind.wrap_i64]; omega
            have hw2 : IntKind.i64.wrap (c0 + d * p.cost) = c0 + d * p.cost := by rw [IntKind.wrap_i64]; omega
            repeat (first | (refine pl_nil _ _ rfl rfl rfl rfl (fun Kv hK => ?_); go_simp; refine hK _ ?_; clear hK Kv) | (refine pl_look rfl rfl rfl (fun Kv hK => ?_); go_big_quiet_op; refine hK _ ?_; clear hK Kv))
            clear q1 q3 q4 hC hw1 hw2
            refine pl_end ?_
            intro w4 hS4
            refine pm_end ?_
            have y3 : w4.cell? ⟨rb, 3, none⟩ = some (.int .i64 c0) := hS4.cell 0 rfl 3 rfl
            have y4 := hS4.free 0 rfl 3
            clear hS1
            go_upto_region 10 with fail
            have hS5 : SL W B (RunRs rb fb hb gf gb N ps.length cap (some ⟨b, o, none⟩) (c0 + d * p.cost) (fun z => if z = k then x k + d else flowM ps x by_ t d m2 z) hh far by_ rs) (w4.setCell ⟨rb, 3, none⟩ (.int .i64 (c0 + d * p.cost))) := hS4.setCell 0 rfl 3 _
            generalize (w4.setCell ⟨rb, 3, none⟩ (.int .i64 (c0 + d * p.cost))) = w5 at *
            clear hS4 y3 y4
            have ex : iarr (fun z => if z = k then x k + d else flowM ps x by_ t d m2 z) ps.length = iarr (flowM ps x by_ t d (m2 + 1)) ps.length := iarr_ext (fun z hz => by
              show _ = if z = kOf by_ (nd ps by_ t m2) then flowM ps x by_ t d m2 z + (if (by_ (nd ps by_ t m2)).2 then -d else d) else flowM ps x by_ t d m2 z
              rw [HKJ.out.1, ← HKJ.out.1, HKJ.out.2.1, HKJ.out.1, hb1]
              by_cases e : z = k
              · subst e; rw [if_pos rfl, if_pos rfl, HKJ.out.2.2]; simp; try omega
              · rw [if_neg e, if_neg e])
            have ec : c0 + d * p.cost = costF ps (flowM ps x by_ t d (m2 + 1)) := by
              rw [HCE.out]
              simp [Int.neg_mul]
              try omega
            rw [ec] at hS5
            unfold RunRs at hS5
            rw [ex] at hS5
            have hS6 : SL W B (RunRs rb fb hb gf gb N ps.length cap (some ⟨b, o, none⟩) (costF ps (flowM ps x by_ t d (m2 + 1))) (flowM ps x by_ t d (m2 + 1)) hh far by_ rs) w5 := hS5
            clear hS5 ex ec
            have c6 : w5.cell? ⟨rb, 6, none⟩ = some (.slice (some ⟨gb, 0, none⟩) N N) := hS6.cell 0 rfl 6 rfl
            have c1 : w5.cell? ⟨rb, 1, none⟩ = some (.slice (some ⟨b, o, none⟩) ps.length cap) := hS6.cell 0 rfl 1 rfl
            have ck : w5.cell? ⟨gb, J * 2, none⟩ = some (.int .i64 (k : Int)) := (by have h := hS6.cell 4 rfl _ (sarr_get0 _ _ _ hjN); rw [hb1] at h; exact h)
            have cb : w5.cell? ⟨gb, J * 2 + 1, none⟩ = some (.bool false) := (by have h := hS6.cell 4 rfl _ (sarr_get1 _ _ _ hjN); rw [hb1] at h; exact h)
            have HBK := Lib.hid (back_any w5 rb k ps.length cap false b o p.fr p.to hk hL c1 ((hS6.below.cell hbB).trans d0) ((hS6.below.cell hbB).trans d1))
            have HS6 := Lib.hid hS6
            clear hS6
            go_wp2_with (go_at_call 47; (with_reducible refine HBK.out.mono ?_); rintro e w8 ⟨rfl, hb8⟩; have HS8 := Lib.hid (HS6.out.call hb8); clear hb8)
            go_roundw
            case rel => exact ⟨m2 + 1, by rw [HP.out, ← eP], by omega, HS8.out⟩
            case measure => simpa [eP, intOf] using hrk
  
          · skip
            have hwx : IntKind.i64.wrap (x k - d) = x k - d := by rw [IntKind.wrap_i64]; omega
            have hcy : 0 ≤ x k - d ∧ True := ⟨by omega, trivial⟩
            go_upto_region 14 with fail
            have hS1 : SL W B (RunRs rb fb hb gf gb N ps.length cap (some ⟨b, o, none⟩) c0 (fun z => if z = k then x k - d else flowM ps x by_ t d m2 z) hh far by_ rs) (wr.setCell ⟨fb, k, none⟩ (.int .i64 (x k - d))) := hS.setInt 1 rfl k (x k - d)
            generalize (wr.setCell ⟨fb, k, none⟩ (.int .i64 (x k - d))) = w3 at *
            clear c6 c1 c2 ck cb cx cf hS hwx hcy
            refine wp_region_sl [0,1,2,3,4,5,6,7,8,9,10,11,12,13,14,15,16] [] [17,18,19,20] _ hS1 (List.Sublist.refl _) (by kernel_rfl) (by kernel_rfl) (.cons rfl (.cons rfl (.cons rfl (.cons rfl .nil)))) (fun C cw _ hC => ?_)
            have q1 : ∀ c, (cw c).cell? ⟨rb, 1, none⟩ = some (.slice (some ⟨b, o, none⟩) ps.length cap) := fun c => (hC c).cell 0 rfl 1 rfl
            have q3 : ∀ c, (cw c).cell? ⟨rb, 3, none⟩ = some (.int .i64 c0) := fun c => (hC c).cell 0 rfl 3 rfl
            have q4 : ∀ c, (cw c).cell? ⟨b, o + k * 4 + 3, none⟩ = some (.int .i64 p.cost) := fun c => ((hC c).below.cell hbB).trans d3
            have hw1 : IntKind.i64.wrap (d * p.cost) = d * p.cost := by rw [IntKind.wrap_i64]; omega
            have hw2 : IntKind.i64.wrap (c0 - d * p.cost) = c0 - d * p.cost := by rw [IntKind.wrap_i64]; omega
            repeat (first | (refine pl_nil _ _ rfl rfl rfl rfl (fun Kv hK => ?_); go_simp; refine hK _ ?_; clear hK Kv) | (refine pl_look rfl rfl rfl (fun Kv hK => ?_); go_big_quiet_op; refine hK _ ?_; clear hK Kv))
            clear q1 q3 q4 hC hw1 hw2
            refine pl_end ?_
            intro w4 hS4
            refine pm_end ?_
            have y3 : w4.cell? ⟨rb, 3, none⟩ = some (.int .i64 c0) := hS4.cell 0 rfl 3 rfl
            have y4 := hS4.free 0 rfl 3
            clear hS1
            go_upto_region 10 with fail
            have hS5 : SL W B (RunRs rb fb hb gf gb N ps.length cap (some ⟨b, o, none⟩) (c0 - d * p.cost) (fun z => if z = k then x k - d else flowM ps x by_ t d m2 z) hh far by_ rs) (w4.setCell ⟨rb, 3, none⟩ (.int .i64 (c0 - d * p.cost))) := hS4.setCell 0 rfl 3 _
            generalize (w4.setCell ⟨rb, 3, none⟩ (.int .i64 (c0 - d * p.cost))) = w5 at *
            clear hS4 y3 y4
            have ex : iarr (fun z => if z = k then x k - d else flowM ps x by_ t d m2 z) ps.length = iarr (flowM ps x by_ t d (m2 + 1)) ps.length := iarr_ext (fun z hz => by
              show _ = if z = kOf by_ (nd ps by_ t m2) then flowM ps x by_ t d m2 z + (if (by_ (nd ps by_ t m2)).2 then -d else d) else flowM ps x by_ t d m2 z
              rw [HKJ.out.1, ← HKJ.out.1, HKJ.out.2.1, HKJ.out.1, hb1]
              by_cases e : z = k
              · subst e; rw [if_pos rfl, if_pos rfl, HKJ.out.2.2]; simp; try omega
              · rw [if_neg e, if_neg e])
            have ec : c0 - d * p.cost = costF ps (flowM ps x by_ t d (m2 + 1)) := by
              rw [HCE.out]
              simp [Int.neg_mul]
              try omega
            rw [ec] at hS5
            unfold RunRs at hS5
            rw [ex] at hS5
            have hS6 : SL W B (RunRs rb fb hb gf gb N ps.length cap (some ⟨b, o, none⟩) (costF ps (flowM ps x by_ t d (m2 + 1))) (flowM ps x by_ t d (m2 + 1)) hh far by_ rs) w5 := hS5
            clear hS5 ex ec
            have c6 : w5.cell? ⟨rb, 6, none⟩ = some (.slice (some ⟨gb, 0, none⟩) N N) := hS6.cell 0 rfl 6 rfl
            have c1 : w5.cell? ⟨rb, 1, none⟩ = some (.slice (some ⟨b, o, none⟩) ps.length cap) := hS6.cell 0 rfl 1 rfl
            have ck : w5.cell? ⟨gb, J * 2, none⟩ = some (.int .i64 (k : Int)) := (by have h := hS6.cell 4 rfl _ (sarr_get0 _ _ _ hjN); rw [hb1] at h; exact h)
            have cb : w5.cell? ⟨gb, J * 2 + 1, none⟩ = some (.bool true) := (by have h := hS6.cell 4 rfl _ (sarr_get1 _ _ _ hjN); rw [hb1] at h; exact h)
            have HBK := Lib.hid (back_any w5 rb k ps.length cap true b o p.fr p.to hk hL c1 ((hS6.below.cell hbB).trans d0) ((hS6.below.cell hbB).trans d1))
            have HS6 := Lib.hid hS6
            clear hS6
            go_wp2_with (go_at_call 47; (with_reducible refine HBK.out.mono ?_); rintro e w8 ⟨rfl, hb8⟩; have HS8 := Lib.hid (HS6.out.call hb8); clear hb8)
            go_roundw
            case rel => exact ⟨m2 + 1, by rw [HP.out, ← eP], by omega, HS8.out⟩
            case measure => simpa [eP, intOf] using hrk
  
    · have hz : ((nd ps by_ t m : Int) != (s : Int)) = true := by simpa using hne
      have hsm := HW.out.1.seen m (Nat.le_refl _)
      obtain ⟨k, p, bb, q, r, ek, hb1, eq, er, ⟨hk, hp⟩, hrk, x0, x1, x2, hPN, hr1, hcase⟩ := step_pack HT.out.2.1 HT.out.2.2.1 (HT.out.1 _ hsm.2 hsm.1 hne)
      have HWS := Lib.hid (way_step HT.out.2.1 HT.out.1 HW.out.1 hne)
      have hjN := hsm.2
      have HMN : Hid (∀ i, i < m + 1 → (i = m ∧ resd ps x by_ (nd ps by_ t i) = r) ∨ d ≤ resd ps x by_ (nd ps by_ t i)) := Lib.hid (fun i hi => by
        by_cases e : i = m
        · subst e; exact .inl ⟨rfl, er⟩
        · exact .inr (HW.out.2 i (by omega)))
      have HP : Hid (nd ps by_ t (m + 1) = q) := Lib.hid eq
      obtain ⟨b, o, rfl, hbB, d0, d1, d2, d3⟩ := pipes_at HR.out hk
      rw [hp] at d0 d1 d2 d3
      obtain ⟨J, hJ⟩ : ∃ J, nd ps by_ t m = J := ⟨_, rfl⟩
      rw [hJ] at hz hb1 hrk hjN ⊢
      clear hne hsm ek eq er hp HW
      have c6 : wr.cell? ⟨rb, 6, none⟩ = some (.slice (some ⟨gb, 0, none⟩) N N) := hS.cell 0 rfl 6 rfl
      have c1 : wr.cell? ⟨rb, 1, none⟩ = some (.slice (some ⟨b, o, none⟩) ps.length cap) := hS.cell 0 rfl 1 rfl
      have c2 : wr.cell? ⟨rb, 2, none⟩ = some (.slice (some ⟨fb, 0, none⟩) ps.length ps.length) := hS.cell 0 rfl 2 rfl
      have ck : wr.cell? ⟨gb, J * 2, none⟩ = some (.int .i64 (k : Int)) := (by have h := hS.cell 4 rfl _ (sarr_get0 _ _ _ hjN); rw [hb1] at h; exact h)
      have cb : wr.cell? ⟨gb, J * 2 + 1, none⟩ = some (.bool bb) := (by have h := hS.cell 4 rfl _ (sarr_get1 _ _ _ hjN); rw [hb1] at h; exact h)
      have cx : wr.cell? ⟨fb, k, none⟩ = some (.int .i64 (x k)) := hS.cell 1 rfl k (iarr_get _ _ _ hk)
      rcases hcase with ⟨rfl, eP, er⟩ | ⟨rfl, eP, er⟩
      · go_upto_region 7 with fail
        clear c6 c1 c2 ck cb cx
        refine wp_region_sl [0,1,2,3,4,5,6,7,8,9,10,11,12,13,14,15,16,17,18,19] [] [20] _ hS (List.Sublist.refl _) (by kernel_rfl) (by kernel_rfl) (.cons rfl .nil) (fun C cw _ hC => ?_)
        have q1 : ∀ c, (cw c).cell? ⟨rb, 1, none⟩ = some (.slice (some ⟨b, o, none⟩) ps.length cap) := fun c => (hC c).cell 0 rfl 1 rfl
        have q2 : ∀ c, (cw c).cell? ⟨rb, 2, none⟩ = some (.slice (some ⟨fb, 0, none⟩) ps.length ps.length) := fun c => (hC c).cell 0 rfl 2 rfl
        have q3 : ∀ c, (cw c).cell? ⟨fb, k, none⟩ = some (.int .i64 (x k)) := fun c => (hC c).cell 1 rfl k (iarr_get _ _ _ hk)
        have q4 : ∀ c, (cw c).cell? ⟨b, o + k * 4 + 2, none⟩ = some (.int .i64 p.room) := fun c => ((hC c).below.cell hbB).trans d2
        repeat (first | (refine pl_nil _ _ rfl rfl rfl rfl (fun Kv hK => ?_); go_simp; refine hK _ ?_; clear hK Kv) | (refine pl_look rfl rfl rfl (fun Kv hK => ?_); go_big_quiet_op; refine hK _ ?_; clear hK Kv) | (refine pl_min _ _ _ _ _ _ _ _ rfl rfl rfl rfl rfl rfl (fun Kv hK => ?_); go_simp; refine hK _ ?_; clear hK Kv))
        clear q1 q2 q3 q4 hC
        refine pl_end ?_
        intro w1 hS4
        refine pm_end ?_
        clear hS
        go_upto_region 3 with fail
        have c6 : w1.cell? ⟨rb, 6, none⟩ = some (.slice (some ⟨gb, 0, none⟩) N N) := hS4.cell 0 rfl 6 rfl
        have c1 : w1.cell? ⟨rb, 1, none⟩ = some (.slice (some ⟨b, o, none⟩) ps.length cap) := hS4.cell 0 rfl 1 rfl
        have ck : w1.cell? ⟨gb, J * 2, none⟩ = some (.int .i64 (k : Int)) := (by have h := hS4.cell 4 rfl _ (sarr_get0 _ _ _ hjN); rw [hb1] at h; exact h)
        have cb : w1.cell? ⟨gb, J * 2 + 1, none⟩ = some (.bool false) := (by have h := hS4.cell 4 rfl _ (sarr_get1 _ _ _ hjN); rw [hb1] at h; exact h)
        have HBK := Lib.hid (back_any w1 rb k ps.length cap false b o p.fr p.to hk hL c1 ((hS4.below.cell hbB).trans d0) ((hS4.below.cell hbB).trans d1))
        have HS5 := Lib.hid hS4
        clear hS4
        have hrd : q < N := hPN
        go_wp2_with (go_at_call 47; (with_reducible refine HBK.out.mono ?_); rintro e w8 ⟨rfl, hb8⟩; have HS8 := Lib.hid (HS5.out.call hb8); clear hb8)
        go_roundw
        case rel =>
          refine ⟨m + 1, _, by rw [HP.out, ← eP], rfl, ?_, ?_, Lib.hid ⟨HWS.out, fun i hi => ?_⟩, HS8.out⟩
          · split <;> omega
          · split <;> omega
          · rcases HMN.out i hi with ⟨rfl, h1⟩ | h1
            · rw [h1]; split <;> omega
            · split <;> omega
        case measure => simpa [eP, intOf] using hrk
      · go_upto_region 3 with fail
        clear c6 c1 c2 ck cb cx
        have c6 : wr.cell? ⟨rb, 6, none⟩ = some (.slice (some ⟨gb, 0, none⟩) N N) := hS.cell 0 rfl 6 rfl
        have c1 : wr.cell? ⟨rb, 1, none⟩ = some (.slice (some ⟨b, o, none⟩) ps.length cap) := hS.cell 0 rfl 1 rfl
        have ck : wr.cell? ⟨gb, J * 2, none⟩ = some (.int .i64 (k : Int)) := (by have h := hS.cell 4 rfl _ (sarr_get0 _ _ _ hjN); rw [hb1] at h; exact h)
        have cb : wr.cell? ⟨gb, J * 2 + 1, none⟩ = some (.bool true) := (by have h := hS.cell 4 rfl _ (sarr_get1 _ _ _ hjN); rw [hb1] at h; exact h)
        have HBK := Lib.hid (back_any wr rb k ps.length cap true b o p.fr p.to hk hL c1 ((hS.below.cell hbB).trans d0) ((hS.below.cell hbB).trans d1))
        have HS5 := Lib.hid hS
        clear hS
        have hrd : q < N := hPN
        go_wp2_with (go_at_call 47; (with_reducible refine HBK.out.mono ?_); rintro e w8 ⟨rfl, hb8⟩; have HS8 := Lib.hid (HS5.out.call hb8); clear hb8)
        go_roundw
        case rel =>
          refine ⟨m + 1, _, by rw [HP.out, ← eP], rfl, ?_, ?_, Lib.hid ⟨HWS.out, fun i hi => ?_⟩, HS8.out⟩
          · split <;> omega
          · split <;> omega
          · rcases HMN.out i hi with ⟨rfl, h1⟩ | h1
            · rw [h1]; split <;> omega
            · split <;> omega
        case measure => simpa [eP, intOf] using hrk
end Go.Proofs.Ytgnmbmlpfjlbiaa
