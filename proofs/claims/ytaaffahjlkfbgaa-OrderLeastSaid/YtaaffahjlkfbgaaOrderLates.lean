/- The walk of law OrderLates. -/
import Derived.Test.YtaaffahjlkfbgaaFwd
import Derived.Test.YtaaffahjlkfbgaaRoundsM
import Derived.Test.YtaaffahjlkfbgaaCloneInt64
import Derived.Test.YtaaffahjlkfbgaaEqualRow
namespace Go.Proofs.Ytaaffahjlkfbgaa
open Go.ChangeShapes Go.WideShapes Go.ChangeAt Go.RowKit
set_option linter.unusedVariables false
theorem late_step (N : Nat) (V0 : Nat → Int) (k : Nat) (X : Int) (h : V0 k = X) : iarr (fun j => if j = k then X else if j < k then V0 j else 0) N = iarr (fun j => if j < k + 1 then V0 j else 0) N := iarr_ext fun j hj => by
  by_cases e : j = k
  · rw [if_pos e, if_pos (by omega), e, h]
  · rw [if_neg e]
    by_cases e2 : j < k
    · rw [if_pos e2, if_pos (by omega)]
    · rw [if_neg e2, if_neg (by omega)]
theorem late_skip (N : Nat) (V0 : Nat → Int) (k : Nat) (h : V0 k = 0) : iarr (fun j => if j < k then V0 j else 0) N = iarr (fun j => if j < k + 1 then V0 j else 0) N := iarr_ext fun j hj => by
  by_cases e : j = k
  · rw [if_neg (by omega), if_pos (by omega), e, h]
  · by_cases e2 : j < k
    · rw [if_pos e2, if_pos (by omega)]
    · rw [if_neg e2, if_neg (by omega)]
set_option maxRecDepth 100000 in
set_option maxHeartbeats 8000000 in
theorem orderLates0 (W : World) (n : Int) (A : Option Addr) (cap : Nat) (l : List LinkV) (hr : Links W W.heap.size A l) (hl : l.length ≤ maxLen) (hok : ∀ a ∈ l, a.ok) (n0 : 0 ≤ n) (n1 : n ≤ 255) (FA : Option Addr) (fc : Nat) (fl : List Int) (hfr : Reads W W.heap.size 1 FA fl.length (fl.map (.int .i32))) (hfl : fl.length ≤ maxLen) (hfw : ∀ x ∈ fl, (Lit.int .i32 x).wf = true) :
    Calls Try.prog 10 #[.int .u8 n, .slice A l.length cap, .slice FA fl.length fc] W fun e w' => e = .returned (.bool true) ∧ Below W.heap.size W w' := by
  have HS0 := Lib.hid (SL.start (Nat.le_refl W.heap.size))
  obtain ⟨N, L1, hlo1, hgr⟩ := lawO_pack cap hr hl hok n0 n1
  have HGR := Lib.hid (fun w' (h : Below W.heap.size W w') => forward_any W n A cap l.length N L1 w' h hlo1 hgr)
  have hlo := lawO_fwd hlo1
  obtain ⟨L, hL⟩ : ∃ L, fwd L1 = L := ⟨_, rfl⟩
  have hup : ∀ a ∈ L, a.fr < a.to := fun a ha => by rw [← hL] at ha; exact fwd_up ha
  rw [hL] at HGR hlo
  obtain ⟨out, hg, hs⟩ := exists_out N L
  have hoN : out.length = N := by have := up_whole hup hlo.inn hs; have := hg.len; omega
  have HLO := Lib.hid hlo
  have HG := Lib.hid (And.intro hg (And.intro hs hoN))
  have HIN := Lib.hid hlo.inn
  have HWT := Lib.hid hlo.wt
  have hn1 := hlo.n1
  have hn8 := hlo.n8
  have hlen := hlo.len
  obtain ⟨V0, hV0⟩ : ∃ V0, begF N fl = V0 := ⟨_, rfl⟩
  have hV32 : ∀ j, -2147483648 ≤ V0 j ∧ V0 j ≤ 2147483647 := fun j => by rw [← hV0]; exact begF_bnd hfw N j
  have HVB := Lib.hid hV32
  have HBND : Hid (∀ r, r ≤ N → ∀ k, k ≤ L.length → ∀ j, j < N → -4294967296 ≤ (L.take k).foldl relaxA (roundsA L V0 r) j ∧ (L.take k).foldl relaxA (roundsA L V0 r) j ≤ 8589934592) := Lib.hid (fun r hr k hk j hj => late_bnd hlo.len hlo.wt (fun j => by have := hV32 j; omega) r (by omega) k j)
  have HVI : Hid (∀ j, j < N → ∀ h : j < fl.length, V0 j = fl[j]) := Lib.hid (fun j hj h => by rw [← hV0]; exact begF_at hj h)
  have HVO : Hid (∀ j, ¬ j < fl.length → V0 j = 0) := Lib.hid (fun j h => by rw [← hV0]; exact begF_out h)
  have HVL : Hid (∀ j, ((List.range N).map V0).getD j 0 = V0 j) := Lib.hid (fun j => by rw [← hV0]; exact begF_list N fl j)
  have HFR : Hid (∀ (w' : World), Below W.heap.size W w' → Reads w' w'.heap.size 1 FA fl.length (fl.map (.int .i32))) := Lib.hid (fun w' h => reads_more (Reads.below hfr h) h.size)
  have HFW := Lib.hid hfw
  obtain ⟨i0, hi0, hz0, hz1, hz2⟩ := info_parts int64_info
  have HI := Lib.hid (And.intro hi0 (And.intro hz0 (And.intro hz1 hz2)))
  have hfl' : fl.length ≤ 9223372036854775807 := by unfold maxLen at hfl; omega
  clear hr hok hlo1 hgr hlo hup hL hg hs hoN hV0 hV32 hfr hfw hfl hi0 hz0 hz1 hz2
  go_enter Try.func10, Try.ntmps10
  go_upto_region 4 with (first
    | (go_at_call 31; (with_reducible refine (awake08 _).mono ?_); rintro e w1 ⟨rfl, hb1⟩; have HS1 := Lib.hid (HS0.out.call hb1); clear hb1)
    | (go_at_call 35; (with_reducible refine (HGR.out _ HS1.out.below).mono ?_); rintro e w2 ⟨v, rfl, hS⟩
       obtain ⟨A2, c2, rfl, _, _⟩ := (hS.row 0 rfl).slice_
       have hS2 := HS1.out.join hS
       clear hS))
  have hS3 := hS2.alloc #[.int .i64 N, .slice A2 L.length c2] 45
  obtain ⟨gb, hgb⟩ : ∃ gb, gb = w2.heap.size := ⟨_, rfl⟩
  generalize (w2.alloc (.cells #[.int .i64 N, .slice A2 L.length c2] 45)) = w3 at *
  rw [← hgb] at hS3 ⊢
  clear hgb hS2
  have c0 : w3.cell? ⟨gb, 0, none⟩ = some (.int .i64 N) := hS3.cell 0 rfl 0 rfl
  have HS3 := Lib.hid hS3
  clear hS3
  go_upto_region 5 with (first
    | (at_make; refine wpList_make_rep _ rfl _ _ 47 rfl 2 i0 (.int .i64 0) Try.underlying47 HI.out.1 HI.out.2.1 HI.out.2.2.1 rfl .i64 .i64 N N N rfl rfl rfl rfl ?b2 ?b3 ?_
       case b2 => rw [HI.out.2.2.2]; omega
       case b3 => unfold maxLen; omega
       intro w4 hg4 hb4 hz4
       obtain ⟨bb, hbb⟩ : ∃ bb, bb = w3.heap.size := ⟨_, rfl⟩
       have hS := HS3.out.made hb4 hg4
       rw [← hbb] at hS
       have HS4 : Hid (SL W W.heap.size [.blk bb (iarr (fun j => if j < 0 then V0 j else 0) N) 2, .blk gb #[.int .i64 N, .slice A2 L.length c2] 45, .row 55 3 (.slice A2 L.length c2) L.length (arcCells L)] w4) := Lib.hid (by
         have e : iarr (fun j => if j < 0 then V0 j else 0) N = Array.replicate N (.int .i64 0) := by
           rw [← madeCells_one (.int .i64 0) N rfl]
           show _ = madeCells #[Value.int .i64 0] N
           rw [iarr_made]
           exact iarr_ext fun i _ => if_neg (by omega)
         rw [e]
         exact hS)
       rw [← hbb]
       clear hg4 hb4 hz4 hS hbb c0))
  go_wp2_with fail
  go_loopw [25] (fun i wr => ∃ k : Nat, k ≤ N ∧ i = .int .i64 k ∧ SL W W.heap.size [.blk bb (iarr (fun j => if j < k then V0 j else 0) N) 2, .blk gb #[.int .i64 N, .slice A2 L.length c2] 45, .row 55 3 (.slice A2 L.length c2) L.length (arcCells L)] wr) (fun i _ => N - (intOf i).toNat)
  case atStart => exact ⟨0, by omega, rfl, HS4.out⟩
  case round =>
    clear HS4
    obtain ⟨k, hk, rfl, hS⟩ := hrel
    by_cases hlt : k < N
    · by_cases hkf : k < fl.length
      · obtain ⟨bf, pf, rfl, hbf, e0⟩ := reads_plain (HFR.out _ hS.below) (by omega) Nat.one_pos
        have x0 : wr.cell? ⟨bf, pf + k, none⟩ = some (.int .i32 fl[k]) := e0 k _ (by simp [hkf])
        have hx := HFW.out _ (List.getElem_mem hkf)
        simp [Lit.wf, IntKind.min, IntKind.max, IntKind.signed, IntKind.bits] at hx
        have HX := Lib.hid (HVI.out k hlt hkf)
        obtain ⟨X, hX⟩ : ∃ X, fl[k] = X := ⟨_, rfl⟩
        rw [hX] at x0 hx HX
        obtain ⟨hx0, hx1⟩ := hx
        have d0 : wr.cell? ⟨bb, k, none⟩ = some (.int .i64 (if k < k then V0 k else 0)) := hS.cell 0 rfl k (iarr_get _ _ _ hlt)
        have d1 := hS.free 0 rfl k
        have hS4 := hS.setInt 0 rfl k X
        rw [late_step N V0 k X HX.out] at hS4
        have HS4 := Lib.hid hS4
        clear hS hS4 e0 hX hbf
        go_wp2_with fail
        go_roundw
        case rel => exact ⟨k + 1, by omega, by go_num, HS4.out⟩
        case measure => simp [intOf]; omega
      · rw [late_skip N V0 k (HVO.out k hkf)] at hS
        have HS4 := Lib.hid hS
        clear hS
        go_wp2_with fail
        go_roundw
        case rel => exact ⟨k + 1, by omega, by go_num, HS4.out⟩
        case measure => simp [intOf]; omega
    · obtain rfl : k = N := by omega
      have e5 : iarr (fun j => if j < k then V0 j else 0) k = iarr V0 k := iarr_ext fun j hj => if_pos hj
      rw [e5] at hS
      have hS5 : SL W W.heap.size [.row 2 1 (.slice (some ⟨bb, 0, none⟩) k k) k (nums V0 k), .blk gb #[.int .i64 k, .slice A2 L.length c2] 45, .row 55 3 (.slice A2 L.length c2) L.length (arcCells L)] wr := hS.asRow 0 rfl (by unfold maxLen; omega)
      have c0 : wr.cell? ⟨gb, 0, none⟩ = some (.int .i64 k) := hS5.cell 1 rfl 0 rfl
      have c1 : wr.cell? ⟨gb, 1, none⟩ = some (.slice A2 L.length c2) := hS5.cell 1 rfl 1 rfl
      have hrd := hS5.reads 0 rfl
      have hml : ((List.range k).map V0).length = k := by simp
      have HLT : Hid (Calls Try.prog 36 #[.agg #[.int .i64 k, .slice A2 L.length c2], .slice (some ⟨bb, 0, none⟩) k k] wr fun e w' => ∃ g v, e = .returned (.tuple #[.slice (some ⟨g, 0, none⟩) k k, .int .i64 0]) ∧ SL wr wr.heap.size [.blk g (iarr v k) 2] w' ∧ ∀ j, j < k → roundsA L V0 k j = v j) := Lib.hid (by
        refine (late_fin k A2 c2 L _ k ((List.range k).map V0) wr (hS5.reads 2 rfl) (by rw [hml]; unfold nums at hrd; rw [List.map_map]; exact hrd) hml HLO.out.check ?_).mono ?_
        · rintro ⟨x, hx, hb⟩
          obtain ⟨j, _, rfl⟩ := List.mem_map.1 hx
          have := HVB.out j
          unfold farB at hb
          simp at hb
          omega
        · rintro e w' ⟨o2, g2, s2, h⟩
          obtain rfl := g2.one HG.out.1 s2 HG.out.2.1
          rcases h with ⟨_, g, v, rfl, hSv, hlv⟩ | ⟨hlt2, _⟩
          · refine ⟨g, v, rfl, hSv, fun j hj => ?_⟩
            have e6 : (fun j => ((List.range k).map V0).getD j 0) = V0 := funext HVL.out
            rw [e6] at hlv
            exact late_rounds hlv HG.out.1 HG.out.2.2 HIN.out j hj
          · have := HG.out.2.2; omega)
      have HS5 := Lib.hid hS5
      clear hS hS5 e5 hrd hml
      go_upto_region 12 with (first
        | (go_at_call 36; (with_reducible refine HLT.out.mono ?_); rintro e w6 ⟨lb, v6, rfl, hSv, hv6⟩
           have hS6 := HS5.out.join hSv
           have HV6 := Lib.hid hv6
           clear hSv hv6 c0 c1))
      have hrd : Reads w6 w6.heap.size 1 (some ⟨bb, 0, none⟩) k (nums V0 k) := hS6.reads 1 rfl
      have HRD := Lib.hid hrd
      have HS6 := Lib.hid hS6
      clear hrd hS6 HLT
      go_upto_region 13 with (first
        | (go_at_call 37; (with_reducible refine (cloneInt64 _ k k _ _ HRD.out (nums_one _ _) (by omega)).mono ?_); rintro e w7 ⟨v8, rfl, hc⟩
           rcases (hc.row 0 rfl).in_ with h0 | ⟨g8, o8, c8, rfl, hg8⟩
           · omega
           have hS7 := HS6.out.join hc
           clear hc hg8))
      have HSR : Hid (SL W W.heap.size (.row 2 1 (.slice (some ⟨g8, o8, none⟩) k c8) k (nums (roundsA L V0 0) k) :: [.blk lb (iarr v6 k) 2, .row 2 1 (.slice (some ⟨bb, 0, none⟩) k k) k (nums V0 k), .blk gb #[.int .i64 k, .slice A2 L.length c2] 45, .row 55 3 (.slice A2 L.length c2) L.length (arcCells L)]) w7) := Lib.hid hS7
      have c0 : w7.cell? ⟨gb, 0, none⟩ = some (.int .i64 k) := hS7.cell 3 rfl 0 rfl
      clear hS7 HRD HS6 HS5
      obtain ⟨N, rfl⟩ : ∃ N, N = k := ⟨_, rfl⟩
      obtain ⟨RS, hRS⟩ : ∃ RS : List Rs, RS = [.blk lb (iarr v6 N) 2, .row 2 1 (.slice (some ⟨bb, 0, none⟩) N N) N (nums V0 N), .blk gb #[.int .i64 N, .slice A2 L.length c2] 45, .row 55 3 (.slice A2 L.length c2) L.length (arcCells L)] := ⟨_, rfl⟩
      rw [← hRS] at HSR
      obtain ⟨ig, hig⟩ : ∃ ig : Nat, ig = 2 := ⟨_, rfl⟩
      have HGB : Hid (RS[ig]? = some (.blk gb #[.int .i64 N, .slice A2 L.length c2] 45)) := Lib.hid (by rw [hRS, hig]; rfl)
      have HAR : Hid (∀ w', SL W W.heap.size RS w' → Arcs w' w'.heap.size A2 L) := Lib.hid (fun w' h => by rw [hRS] at h; exact h.reads 3 rfl)
      have HRS := Lib.hid hRS
      clear hRS hig
      go_wp2_with fail
      clear c0
      go_loopw [51] (fun i wr => ∃ r : Nat, r ≤ N ∧ i = .int .i64 r ∧ SL W W.heap.size (.row 2 1 (.slice (some ⟨g8, o8, none⟩) N c8) N (nums (roundsA L V0 r) N) :: RS) wr) (fun i _ => N - (intOf i).toNat)
      case atStart => exact ⟨0, by omega, rfl, HSR.out⟩
      case round =>
        clear HSR
        obtain ⟨r, hr, rfl, hS⟩ := hrel
        by_cases hltr : r < N
        · obtain ⟨F, hF⟩ : ∃ F, F = roundsA L V0 r := ⟨_, rfl⟩
          have HB := Lib.hid (HBND.out r (by omega))
          rw [← hF] at hS HB
          have HF := Lib.hid hF
          clear hF
          have c0 : wr.cell? ⟨gb, 0, none⟩ = some (.int .i64 N) := hS.cell (ig + 1) HGB.out 0 rfl
          have c1 : wr.cell? ⟨gb, 1, none⟩ = some (.slice A2 L.length c2) := hS.cell (ig + 1) HGB.out 1 rfl
          have HSI : Hid (SL W W.heap.size (.row 2 1 (.slice (some ⟨g8, o8, none⟩) N c8) N (nums ((L.take 0).foldl relaxA F) N) :: RS) wr) := Lib.hid hS
          obtain ⟨wo, rfl⟩ : ∃ wo : World, wo = wr := ⟨_, rfl⟩
          clear hS
          go_wp2_with fail
          clear c0 c1
          go_loopw [56] (fun i wi => ∃ k : Nat, k ≤ L.length ∧ i = .int .i64 k ∧ SL W W.heap.size (.row 2 1 (.slice (some ⟨g8, o8, none⟩) N c8) N (nums ((L.take k).foldl relaxA F) N) :: RS) wi) (fun i _ => L.length - (intOf i).toNat)
          case atStart => exact ⟨0, by omega, rfl, HSI.out⟩
          case round =>
            clear HSI
            obtain ⟨k, hk, rfl, hS⟩ := hrel
            by_cases hltk : k < L.length
            · obtain ⟨b, p, rfl, hb, a0, a1, a2⟩ := arcs_at (HAR.out _ hS.tail) hltk
              obtain ⟨⟨f0, f1⟩, t0, t1⟩ := HIN.out _ (List.getElem_mem hltk)
              obtain ⟨wt0, wt1⟩ := HWT.out _ (List.getElem_mem hltk)
              have hbF := HB.out k (by omega) L[k].fr.toNat (by omega)
              have HQ : Hid ((L.take (k + 1)).foldl relaxA F = relaxA ((L.take k).foldl relaxA F) L[k]) := Lib.hid (by rw [List.take_succ_eq_append_getElem hltk, List.foldl_append]; rfl)
              obtain ⟨G, hG⟩ : ∃ G, G = (L.take k).foldl relaxA F := ⟨_, rfl⟩
              rw [← hG] at hS HQ hbF
              obtain ⟨a, ha⟩ : ∃ a, L[k] = a := ⟨_, rfl⟩
              rw [ha] at a0 a1 a2 f0 f1 t0 t1 wt0 wt1 HQ hbF
              clear ha hG
              obtain ⟨Fv, hFv⟩ : ∃ Fv, G a.fr.toNat = Fv := ⟨_, rfl⟩
              obtain ⟨Gv, hGv⟩ : ∃ Gv, G a.to.toNat = Gv := ⟨_, rfl⟩
              rw [hFv] at hbF
              obtain ⟨hbF0, hbF1⟩ := hbF
              have HFG := Lib.hid (And.intro hFv hGv)
              clear hFv hGv
              have hS2 := hS.alloc #[.int .i64 a.fr, .int .i64 a.to, .int .i64 a.wt] 55
              have hz1 : b < wr.heap.size := hb
              clear hS
              go_upto_region 18 with fail
              obtain ⟨ar, har⟩ : ∃ ar, ar = wr.heap.size := ⟨_, rfl⟩
              generalize (wr.alloc (.cells #[.int .i64 a.fr, .int .i64 a.to, .int .i64 a.wt] 55)) = w9 at *
              rw [← har] at hS2 ⊢
              clear har a0 a1 a2 hz1 hb
              refine wp_region_sl [0,1,2,3,4,5,6,7,8,9,10,11,12,13,14,15,16] [] [17,18] _ hS2 (List.Sublist.refl _) (by kernel_rfl) (by kernel_rfl) (.cons rfl (.cons rfl .nil)) (fun C cw _ hC => ?_)
              have q0 : ∀ c, (cw c).cell? ⟨ar, 0, none⟩ = some (.int .i64 a.fr) := fun c => (hC c).cell 0 rfl 0 rfl
              have q1 : ∀ c, (cw c).cell? ⟨ar, 1, none⟩ = some (.int .i64 a.to) := fun c => (hC c).cell 0 rfl 1 rfl
              have q2 : ∀ c, (cw c).cell? ⟨ar, 2, none⟩ = some (.int .i64 a.wt) := fun c => (hC c).cell 0 rfl 2 rfl
              have q3 : ∀ c, (cw c).cell? ⟨g8, o8 + a.fr.toNat, none⟩ = some (.int .i64 Fv) := fun c => by rw [← HFG.out.1]; exact (hC c).rowCell 1 rfl _ (nums_get _ _ _ (by omega))
              have q4 : ∀ c, (cw c).cell? ⟨g8, o8 + a.to.toNat, none⟩ = some (.int .i64 Gv) := fun c => by rw [← HFG.out.2]; exact (hC c).rowCell 1 rfl _ (nums_get _ _ _ (by omega))
              repeat (first | (refine pl_look rfl rfl rfl (fun Kv hK => ?_); go_big_quiet_op; refine hK _ ?_; clear hK Kv) | (refine pl_max _ _ _ _ _ _ _ _ rfl rfl rfl rfl rfl rfl (fun Kv hK => ?_); go_simp; refine hK _ ?_; clear hK Kv))
              clear q0 q1 q2 q3 q4 hC
              refine pl_end ?_
              intro w1 hS4
              refine pm_end ?_
              have y4 : w1.cell? ⟨g8, o8 + a.to.toNat, none⟩ = some (.int .i64 Gv) := by rw [← HFG.out.2]; exact hS4.rowCell 1 rfl _ (nums_get _ _ _ (by omega))
              have y5 := hS4.rowFree 1 rfl (o8 + a.to.toNat) (by omega)
              have hS5 := hS4.setRowCell 1 rfl a.to.toNat (by omega) (.int .i64 (if Gv < Fv + a.wt then Fv + a.wt else Gv))
              rw [nums_set] at hS5
              have HS5 := Lib.hid hS5
              clear hS2 hS4 hS5
              go_wp2_with fail
              go_roundw
              case rel =>
                refine ⟨k + 1, by omega, by go_num, ?_⟩
                rw [HQ.out]
                have e : nums (relaxA G a) N = nums (fun j => if j = a.to.toNat then (if Gv < Fv + a.wt then Fv + a.wt else Gv) else G j) N := nums_ext fun v hv => by
                  unfold relaxA
                  by_cases ev : v = a.to.toNat
                  · rw [if_pos ev, if_pos ev, HFG.out.1, HFG.out.2]
                    split <;> omega
                  · rw [if_neg ev, if_neg ev]
                rw [e]
                exact HS5.out.tail
              case measure => simp [intOf]; omega
            · obtain rfl : k = L.length := by omega
              rw [List.take_length] at hS
              have HS := Lib.hid hS
              clear hS
              go_wp2_with fail
              go_roundw
              case rel =>
                refine ⟨r + 1, by omega, by go_num, ?_⟩
                show SL W W.heap.size (.row 2 1 _ N (nums (roundA L (roundsA L V0 r)) N) :: RS) _
                rw [← HF.out]
                exact HS.out
              case measure => simp [intOf]; omega
        · obtain rfl : r = N := by omega
          rw [HRS.out] at hS
          have hS8 : SL W W.heap.size [.row 2 1 (.slice (some ⟨g8, o8, none⟩) r c8) r (nums (roundsA L V0 r) r), .row 2 1 (.slice (some ⟨lb, 0, none⟩) r r) r (nums v6 r), .row 2 1 (.slice (some ⟨bb, 0, none⟩) r r) r (nums V0 r), .blk gb #[.int .i64 r, .slice A2 L.length c2] 45, .row 55 3 (.slice A2 L.length c2) L.length (arcCells L)] wr := hS.asRow 1 rfl (by unfold maxLen; omega)
          have HR1 := Lib.hid (hS8.reads 1 rfl)
          have HR2 := Lib.hid (hS8.reads 0 rfl)
          have HS8 := Lib.hid hS8
          clear hS hS8
          go_wp2_with (first
            | (go_at_call 38; (with_reducible refine (equal_nums64 v6 (roundsA L V0 r) r _ _ r c8 _ (by omega) HR1.out HR2.out).mono ?_); rintro e w9 ⟨bq, rfl, hbq, hB9⟩
               obtain rfl : bq = true := hbq.2 (fun j hj => (HV6.out j hj).symm)
               have HS9 := Lib.hid (HS8.out.call hB9)
               clear hbq hB9))
          go_ret
          exact ⟨rfl, HS9.out.below⟩
set_option maxRecDepth 100000 in
theorem orderLates_walk {H : Type} {enc : TypeId × Value → H} {base : Nat} (W : World) (n : Int) (_hn : (Lit.int .u8 n).wf = true) (v : Value) (d : DataW H) (p : List MemPlace) (o : Value.okWide Try.prog W .any base 39 v) (k : DataW.Trod enc Try.prog W 0 (fun _ => true) true 39 v d p)
    (FA : Option Addr) (fc : Nat) (fl : List Int) (hfr : Reads W W.heap.size 1 FA fl.length (fl.map (.int .i32))) (hfl : fl.length ≤ maxLen) (hfw : ∀ x ∈ fl, (Lit.int .i32 x).wf = true) :
    Calls Try.prog 10 #[.int .u8 n, v, .slice FA fl.length fc] W fun e w' => e = .returned (.bool true) ∧ Below W.heap.size W w' := by
  obtain ⟨A, cap, l, rfl, hr, hl, hok⟩ := links_open o k
  simp [Lit.wf, IntKind.min, IntKind.max, IntKind.signed, IntKind.bits] at _hn
  exact orderLates0 W n A cap l hr hl hok _hn.1 _hn.2 FA fc fl hfr hfl hfw
end Go.Proofs.Ytaaffahjlkfbgaa
