/- wharfagelaw14.Readies, of an instance that may be. (printed by gen/reache.py) -/
import Derived.Test.YtjpejclfppbboaaApartW
import Derived.Test.YtjpejclfppbboaaReachC
import Derived.Test.YtjpejclfppbboaaMakeW
import Derived.Deep.CutBlock
import Derived.Deep.CutRange
import Derived.Deep.DeepCutAuto
namespace Go.Proofs.Ytjpejclfppbboaa
open Go.ChangeShapes Go.WideShapes Go.ChangeAt Go.RowKit
set_option linter.unusedVariables false
set_option linter.unusedSimpArgs false
theorem mo_join {W w : World} {B : Nat} {v : Value} {ps : List (List Int × Value)} {R : List Rs} (h : SL W B (MO v ps [] ++ R) w) : SL W B (MO v ps R) w := by
 unfold MO at h ⊢
 rwa [List.append_nil] at h
theorem mo_rest {v : Value} {ps : List (List Int × Value)} {R : List Rs} (k : Nat) : (MO v ps R)[ps.length + 1 + k]? = R[k]? := by
 have hl : ((listN 51 2).own v ps).length = ps.length + 1 := by unfold Nest.own; simp
 unfold MO
 rw [List.getElem?_append_right (by omega), hl]
 congr 1
 omega
theorem info_i64_14 : (Try.prog.info? 2).map (fun i => (i.zero, i.size, i.bytes)) = some (some (.int .i64 0), 1, 8) := by kernel_rfl
theorem make_i64s14 (N : Nat) (hN : N ≤ 20000) (w : World) : (Instr.makeSlice 51 (.int .i64 (N : Int)) (.int .i64 (N : Int))).run Try.prog w = .ok (.slice (some ⟨w.heap.size, 0, none⟩) N N) (w.alloc (.cells (iarr (fun _ => 0) N) 2)) := by
 obtain ⟨i, h1, h2, h3, h4⟩ := info_parts info_i64_14
 have := run_make (P := Try.prog) w 51 2 i _ Try.underlying51 h1 h2 .i64 .i64 N N (by omega) (by omega) (by rw [h4]; omega) (by omega)
 rw [this, h3]
 simp only [Int.toNat_natCast, Nat.mul_one]
 rw [← iarr_made]; rfl
theorem readies_at {x : InstV} (h : x.Fit) {i : Nat} (hi : i < x.sats.length) :
 (0 ≤ apartM x.n (timeF x) (fun _ => 0) (inSat x) 0 (1 + i) ∧ apartM x.n (timeF x) (fun _ => 0) (inSat x) 0 (1 + i) ≤ 10000) ∧ (readyM x)[i]? = some (apartM x.n (timeF x) (fun _ => 0) (inSat x) 0 (1 + i) + (x.sats[i]'hi).hold) := by
 have h0 : inSat x 0 = true := by unfold inSat; rw [decide_eq_true_eq]; omega
 have h1 : inSat x (1 + i) = true := by unfold inSat; rw [decide_eq_true_eq]; omega
 refine ⟨apart_bd (n := x.n) (st := fun _ => 0) (time_in h) (fun i => Int.le_refl 0) h0 h1 (by omega), ?_⟩
 unfold readyM
 rw [List.getElem?_map, List.getElem?_range hi, Option.map_some]
 congr 2
 simp [hi]
set_option maxRecDepth 100000 in
set_option maxHeartbeats 8000000 in
theorem readies_any (x : InstV) (p : IAt) (w : World) (hI : InstIn w w.heap.size p x) (hF : x.Fit) :
 Calls Try.prog 29 #[.agg (x.cells p)] w (ReadyR w (readyM x)) := by
 obtain ⟨sqb, sqo, hSA, hq9⟩ := sats_at hI.sats (k := 0) (by have := hF.sats; omega)
 have HND : Hid (∀ wx, Calls Try.prog 19 #[.agg (x.cells p)] wx fun e w' => e = .returned (.int .i64 (x.n : Nat)) ∧ Below wx.heap.size wx w') := Lib.hid (fun wx => nodes11_any x p wx (by have := hF.sats; omega) (by have := hF.custs; omega))
 have HAP : Hid (∀ (wx : World) (stb ib : Nat), Below w.heap.size w wx → (∀ i, i < x.n → wx.cell? ⟨stb, i, none⟩ = some (.int .i64 0)) → (∀ i, i < x.n → wx.cell? ⟨ib, i, none⟩ = some (.bool (inSat x i))) → Calls Try.prog 58 #[.slice p.TA x.time.length p.tc, .slice (some ⟨stb, 0, none⟩) x.n x.n, .slice (some ⟨ib, 0, none⟩) x.n x.n] wx (ApartPost wx x.n (apartM x.n (timeF x) (fun _ => 0) (inSat x)))) := Lib.hid (fun wx stb ib hb h1 h2 => lawApart_any x hF p.TA p.tc stb ib (fun _ => 0) (inSat x) wx (hI.at_ hb).time h1 h2 (fun i => by decide))
 obtain ⟨SA, sc, CA, cc, KA, kc, TA, tc⟩ := p
 simp only at hSA
 subst hSA
 have HI := Lib.hid hI
 have HF := Lib.hid hF
 have HRA : Hid (∀ i (hi : i < x.sats.length), _) := Lib.hid (fun i hi => readies_at hF (i := i) hi)
 obtain ⟨i1, hi1, hy0, hy1, hy2⟩ := info_parts int64_info
 have HI1 := Lib.hid (And.intro hi1 (And.intro hy0 (And.intro hy1 hy2)))
 have hlen := hF.timeLen.1
 have hN10 := hF.n9
 have HNX : Hid (x.n = 1 + x.sats.length + x.custs.length) := Lib.hid rfl
 have HINS : Hid (∀ i, inSat x i = decide (i < 1 + x.sats.length)) := Lib.hid (fun _ => rfl)
 obtain ⟨ns, hns⟩ : ∃ n, x.sats.length = n := ⟨_, rfl⟩
 have HNS := Lib.hid hns
 have hn3 : ns ≤ 3 := by have := hF.sats; omega
 have hn1 : 1 ≤ x.custs.length := hF.custs.1
 unfold InstV.cells at HND ⊢
 simp only at HAP HND ⊢
 rw [hlen] at HAP HND ⊢
 rw [hns] at HND HNX HINS ⊢
 obtain ⟨D, hD⟩ : ∃ D, apartM x.n (timeF x) (fun _ => 0) (inSat x) = D := ⟨_, rfl⟩
 rw [hD] at HAP HRA
 obtain ⟨N, hN⟩ : ∃ N, x.n = N := ⟨_, rfl⟩
 rw [hN] at HAP HND HNX hN10 ⊢
 obtain ⟨I, hII⟩ : ∃ I, inSat x = I := ⟨_, rfl⟩
 rw [hII] at HAP HINS
 have hnN : 1 + ns < N := by have := HNX.out; omega
 have hmk := make_bools N (by omega)
 have hmi := make_i64s14 N (by omega)
 have hS := (SL.start (W := w) (Nat.le_refl w.heap.size)).alloc #[.int .i64 x.fin, .int .i64 x.tm, .int .i64 x.tr, .int .i64 x.bm, .int .i64 x.br, .slice (some ⟨sqb, sqo, none⟩) ns sc, .slice CA x.custs.length cc, .slice KA x.cost.length kc, .slice TA N tc] 39
 obtain ⟨xb, hxb⟩ : ∃ b, w.heap.size = b := ⟨_, rfl⟩
 obtain ⟨w0, hw0⟩ : ∃ y, w.alloc (.cells #[.int .i64 x.fin, .int .i64 x.tm, .int .i64 x.tr, .int .i64 x.bm, .int .i64 x.br, .slice (some ⟨sqb, sqo, none⟩) ns sc, .slice CA x.custs.length cc, .slice KA x.cost.length kc, .slice TA N tc] 39) = y := ⟨_, rfl⟩
 have HS0 : Hid (SL w w.heap.size [.blk xb #[.int .i64 x.fin, .int .i64 x.tm, .int .i64 x.tr, .int .i64 x.bm, .int .i64 x.br, .slice (some ⟨sqb, sqo, none⟩) ns sc, .slice CA x.custs.length cc, .slice KA x.cost.length kc, .slice TA N tc] 39] w0) := Lib.hid (by rw [← hxb, ← hw0]; exact hS)
 have HW := Lib.hid (And.intro hxb hw0)
 clear hS hxb hw0 hI hF hi1 hy0 hy1 hy2 hq9 hns hlen hD hN hII hn1
 go_enter Try.func29, Try.ntmps29
 go_upto_region 1 with fail
 rw [HW.out.2, HW.out.1]
 have d0 : w0.cell? ⟨xb, 0, none⟩ = some (.int .i64 x.fin) := HS0.out.cell 0 rfl 0 rfl
 have d1 : w0.cell? ⟨xb, 1, none⟩ = some (.int .i64 x.tm) := HS0.out.cell 0 rfl 1 rfl
 have d2 : w0.cell? ⟨xb, 2, none⟩ = some (.int .i64 x.tr) := HS0.out.cell 0 rfl 2 rfl
 have d3 : w0.cell? ⟨xb, 3, none⟩ = some (.int .i64 x.bm) := HS0.out.cell 0 rfl 3 rfl
 have d4 : w0.cell? ⟨xb, 4, none⟩ = some (.int .i64 x.br) := HS0.out.cell 0 rfl 4 rfl
 have d5 : w0.cell? ⟨xb, 5, none⟩ = some (.slice (some ⟨sqb, sqo, none⟩) ns sc) := HS0.out.cell 0 rfl 5 rfl
 have d6 : w0.cell? ⟨xb, 6, none⟩ = some (.slice CA x.custs.length cc) := HS0.out.cell 0 rfl 6 rfl
 have d7 : w0.cell? ⟨xb, 7, none⟩ = some (.slice KA x.cost.length kc) := HS0.out.cell 0 rfl 7 rfl
 have d8 : w0.cell? ⟨xb, 8, none⟩ = some (.slice TA N tc) := HS0.out.cell 0 rfl 8 rfl
 go_upto_region 2 with (go_at_call 19; (with_reducible refine (HND.out w0).mono ?_); rintro e w1 ⟨rfl, hb⟩
                        have HS1 : Hid (SL w w.heap.size [.blk xb #[.int .i64 x.fin, .int .i64 x.tm, .int .i64 x.tr, .int .i64 x.bm, .int .i64 x.br, .slice (some ⟨sqb, sqo, none⟩) ns sc, .slice CA x.custs.length cc, .slice KA x.cost.length kc, .slice TA N tc] 39] w1) := Lib.hid (HS0.out.call hb)
                        clear hb)
 clear d0 d1 d2 d3 d4 d5 d6 d7 d8 HND HS0 HW
 have hS2 := HS1.out.alloc (barr (fun _ => false) N) 4
 have d5 : w1.cell? ⟨xb, 5, none⟩ = some (.slice (some ⟨sqb, sqo, none⟩) ns sc) := HS1.out.cell 0 rfl 5 rfl
 go_upto_region 3 with fail
 clear HS1 d5
 obtain ⟨ib, hib⟩ : ∃ b, w1.heap.size = b := ⟨_, rfl⟩
 obtain ⟨w2, hw2⟩ : ∃ y, w1.alloc (.cells (barr (fun _ => false) N) 4) = y := ⟨_, rfl⟩
 rw [hib, hw2] at hS2 ⊢
 clear hib hw2
 have HS2 : Hid (SL w w.heap.size [.blk ib (barr (fun j => decide (j < 0)) N) 4, .blk xb #[.int .i64 x.fin, .int .i64 x.tm, .int .i64 x.tr, .int .i64 x.bm, .int .i64 x.br, .slice (some ⟨sqb, sqo, none⟩) ns sc, .slice CA x.custs.length cc, .slice KA x.cost.length kc, .slice TA N tc] 39] w2) := Lib.hid (by
  rw [show (fun j => decide (j < 0)) = (fun _ => false) from by funext j; simp]
  exact hS2)
 have d5 : w2.cell? ⟨xb, 5, none⟩ = some (.slice (some ⟨sqb, sqo, none⟩) ns sc) := hS2.cell 1 rfl 5 rfl
 clear hS2
 obtain ⟨m1, hm1⟩ : ∃ m : Nat, 1 + ns = m := ⟨_, rfl⟩
 have hm1i : (1 + ns : Int) = (m1 : Int) := by omega
 have HM1 := Lib.hid hm1
 have hmN : m1 < N := by omega
 go_upto_region 4 with fail
 clear d5
 try rw [hm1i]
 go_loopw [18] (fun iv wr => ∃ i : Nat, i ≤ m1 ∧ iv = .int .i64 i ∧ SL w w.heap.size [.blk ib (barr (fun j => decide (j < i)) N) 4, .blk xb #[.int .i64 x.fin, .int .i64 x.tm, .int .i64 x.tr, .int .i64 x.bm, .int .i64 x.br, .slice (some ⟨sqb, sqo, none⟩) ns sc, .slice CA x.custs.length cc, .slice KA x.cost.length kc, .slice TA N tc] 39] wr) (fun iv _ => m1 - (intOf iv).toNat)
 case atStart => exact ⟨0, by omega, rfl, HS2.out⟩
 case round =>
  clear HS2
  obtain ⟨i, hi, rfl, hS⟩ := hrel
  by_cases hlt : i < m1
  · have y0 : wr.cell? ⟨ib, i, none⟩ = some (.bool (decide (i < i))) := hS.cell 0 rfl i (barr_get _ _ _ (by omega))
    have y1 := hS.free 0 rfl i
    have hin : i < N := by omega
    have HS3 := Lib.hid (hS.setBool 0 rfl i true)
    have HFE : Hid ((fun j => if j = i then true else decide (j < i)) = fun j => decide (j < i + 1)) := Lib.hid (by
     funext j
     by_cases e : j = i
     · subst e; simp
     · rw [if_neg e, decide_eq_decide]; omega)
    clear hS
    go_wp2_with fail
    go_roundw
    case rel => exact ⟨i + 1, by omega, by go_num, by rw [← HFE.out]; exact HS3.out⟩
    case measure => simp [intOf]; omega
  · obtain rfl : m1 = i := by omega
    have HS := Lib.hid hS
    have HIE : Hid ((fun j => decide (j < m1)) = I) := Lib.hid (by funext j; rw [HINS.out, HM1.out])
    rw [HIE.out] at HS
    clear hS hlt hm1i
    obtain ⟨wo, rfl⟩ : ∃ wo : World, wo = wr := ⟨_, rfl⟩
    go_upto_region 8 with fail
    refine wp_region_sl [0,1,2,4] [3,5] [6] [.blk xb #[.int .i64 x.fin, .int .i64 x.tm, .int .i64 x.tr, .int .i64 x.bm, .int .i64 x.br, .slice (some ⟨sqb, sqo, none⟩) ns sc, .slice CA x.custs.length cc, .slice KA x.cost.length kc, .slice TA N tc] 39] HS.out (.cons _ (.cons_cons _ (List.nil_sublist _))) (by kernel_rfl) (by kernel_rfl) (.cons rfl .nil) (fun C cw _ hC => ?_)
    have q8 : ∀ d, (cw d).cell? ⟨xb, 8, none⟩ = some (.slice TA N tc) := fun d => (hC d).cell 0 rfl 8 rfl
    repeat (refine pl_look rfl rfl rfl (fun Kv hK => ?_); go_big_quiet_op; refine hK _ ?_; clear hK Kv)
    clear q8 hC HS
    refine pl_end ?_
    intro w4 hS4
    refine pm_eff rfl rfl fun Kv hK => ?_
    go_simp
    have hS5 := hS4.alloc (iarr (fun _ => 0) N) 2
    obtain ⟨stb, hstb⟩ : ∃ b, w4.heap.size = b := ⟨_, rfl⟩
    obtain ⟨w5, hw5⟩ : ∃ y, w4.alloc (.cells (iarr (fun _ => 0) N) 2) = y := ⟨_, rfl⟩
    rw [hstb, hw5] at hS5
    rw [hstb, hw5]
    clear hstb hw5 hS4
    refine ⟨hS5.sub (.cons _ (.cons _ (.cons_cons _ (List.nil_sublist _)))), hK _ _ ?_⟩
    clear hK Kv
    refine pm_eff rfl rfl fun Kv hK => ?_
    go_simp
    refine eff_call (HAP.out w5 stb ib hS5.below (fun i hi => hS5.cell 0 rfl i (iarr_get _ _ _ hi)) (fun i hi => hS5.cell 1 rfl i (barr_get _ _ _ hi))) (fun e w6 h => ?_)
    obtain ⟨g, ps, rfl, hM, hq⟩ := h
    have hS6 := mo_join (hS5.join hq)
    refine .inl ⟨_, rfl, hS6.sub (.trans (.cons _ (.cons _ (.cons_cons _ (List.nil_sublist _)))) (List.sublist_append_right _ _)), hK _ _ ?_⟩
    clear hK Kv hq hS5
    refine pm_end ?_
    have hS7 : SL w w.heap.size (MO (.slice (some ⟨g, 0, none⟩) N N) ps [.blk xb #[.int .i64 x.fin, .int .i64 x.tm, .int .i64 x.tr, .int .i64 x.bm, .int .i64 x.br, .slice (some ⟨sqb, sqo, none⟩) ns sc, .slice CA x.custs.length cc, .slice KA x.cost.length kc, .slice TA N tc] 39]) w6 := hS6.sub (List.Sublist.append (List.Sublist.refl _) (.cons _ (.cons _ (List.Sublist.refl _))))
    have HS7 := Lib.hid hS7
    have HM := Lib.hid hM
    have hpl := hM.1
    have h0p : 0 < ps.length := by omega
    clear hS6 hS7 hM HAP hmk hmi
    have d5 : w6.cell? ⟨xb, 5, none⟩ = some (.slice (some ⟨sqb, sqo, none⟩) ns sc) := HS7.out.cell (ps.length + 1 + 0) (show (MO (.slice (some ⟨g, 0, none⟩) N N) ps [.blk xb #[.int .i64 x.fin, .int .i64 x.tm, .int .i64 x.tr, .int .i64 x.bm, .int .i64 x.br, .slice (some ⟨sqb, sqo, none⟩) ns sc, .slice CA x.custs.length cc, .slice KA x.cost.length kc, .slice TA N tc] 39])[ps.length + 1 + 0]? = some (.blk xb #[.int .i64 x.fin, .int .i64 x.tm, .int .i64 x.tr, .int .i64 x.bm, .int .i64 x.br, .slice (some ⟨sqb, sqo, none⟩) ns sc, .slice CA x.custs.length cc, .slice KA x.cost.length kc, .slice TA N tc] 39) from mo_rest 0) 5 rfl
    have HS8 := Lib.hid (HS7.out.nil 2 1)
    have HRL := Lib.hid (ready_len x)
    obtain ⟨R, hR⟩ : ∃ R, readyM x = R := ⟨_, rfl⟩
    have HR := Lib.hid hR
    rw [hR] at HRA HRL
    obtain ⟨g0, o0, c0, hv0⟩ := mo_valN HM.out HS7.out h0p (by omega)
    have HV0 := Lib.hid hv0
    clear hR hv0 HS7
    go_upto_region 11 with fail
    clear d5
    go_loopw [34, 7] (fun iv v8 wr => ∃ i : Nat, i ≤ ns ∧ iv = .int .i64 i ∧ SL w w.heap.size (.row 2 1 v8 i ((R.take i).map (.int .i64)) :: MO (.slice (some ⟨g, 0, none⟩) N N) ps [.blk xb #[.int .i64 x.fin, .int .i64 x.tm, .int .i64 x.tr, .int .i64 x.bm, .int .i64 x.br, .slice (some ⟨sqb, sqo, none⟩) ns sc, .slice CA x.custs.length cc, .slice KA x.cost.length kc, .slice TA N tc] 39]) wr) (fun iv _ _ => ns - (intOf iv).toNat)
    case atStart => exact ⟨0, by omega, rfl, HS8.out⟩
    case round =>
     clear HS8
     obtain ⟨i, hi, rfl, hS⟩ := hrel
     obtain ⟨A8, c8, rfl, _, _⟩ := (hS.row 0 rfl).slice_
     by_cases hlt : i < ns
     · have his : i < x.sats.length := by rw [HNS.out]; exact hlt
       obtain ⟨b, o, hA, hbB, e0, e1⟩ := sats_at HI.out.sats his
       obtain ⟨rfl, rfl⟩ : sqb = b ∧ sqo = o := by simpa using hA
       obtain ⟨⟨hf0, hf1⟩, hrd⟩ := HRA.out i his
       have hsi := (HF.out.satsIn _ (List.getElem_mem his)).2
       obtain ⟨hd, hhd⟩ : ∃ v, (x.sats[i]'his).hold = v := ⟨_, rfl⟩
       obtain ⟨rm, hrm⟩ : ∃ v, (x.sats[i]'his).room = v := ⟨_, rfl⟩
       rw [hhd] at e1 hrd hsi
       rw [hrm] at e0
       obtain ⟨hh0, hh1⟩ := hsi
       have hRi : i < R.length := by rw [HRL.out]; exact his
       have HTK : Hid (R.take (i + 1) = R.take i ++ [D 0 (1 + i) + hd]) := Lib.hid (by
        rw [List.take_succ_eq_append_getElem hRi]
        rw [List.getElem?_eq_getElem hRi] at hrd
        rw [Option.some.inj hrd])
       have d0 := (hS.below.cell (p := ⟨sqb, sqo + i * 2, none⟩) hbB).trans e0
       have d1 := (hS.below.cell (p := ⟨sqb, sqo + i * 2 + 1, none⟩) hbB).trans e1
       have hS2 := hS.alloc #[.int .i64 rm, .int .i64 hd] 97
       have hz1 : sqb < wr.heap.size := Nat.lt_of_lt_of_le hbB hS.size
       have hiN : 1 + i < N := by omega
       obtain ⟨fv, hfv⟩ : ∃ f, D 0 (1 + i) = f := ⟨_, rfl⟩
       have HFV := Lib.hid hfv
       rw [hfv] at hf0 hf1 HTK
       clear hS hA hhd hrm hrd e0 e1 hRi hfv
       go_upto_region 13 with fail
       obtain ⟨ar, har⟩ : ∃ ar, wr.heap.size = ar := ⟨_, rfl⟩
       obtain ⟨w9, hw9⟩ : ∃ y, wr.alloc (.cells #[.int .i64 rm, .int .i64 hd] 97) = y := ⟨_, rfl⟩
       rw [har, hw9] at hS2 ⊢
       clear har hw9 d0 d1 hz1
       obtain ⟨j1, hj1⟩ : ∃ j, 1 + i = j := ⟨_, rfl⟩
       rw [hj1] at hiN HFV
       have hwr : IntKind.i64.wrap (fv + hd) = fv + hd := by rw [IntKind.wrap_i64]; omega
       refine wp_region_sl [0,1,2,3,4,5,6,7,8,9,10] [11,12] [13] (.blk ar #[.int .i64 rm, .int .i64 hd] 97 :: MO (.slice (some ⟨g, 0, none⟩) N N) ps [.blk xb #[.int .i64 x.fin, .int .i64 x.tm, .int .i64 x.tr, .int .i64 x.bm, .int .i64 x.br, .slice (some ⟨sqb, sqo, none⟩) ns sc, .slice CA x.custs.length cc, .slice KA x.cost.length kc, .slice TA N tc] 39]) hS2 (.cons_cons _ (.cons _ (List.Sublist.refl _))) (by kernel_rfl) (by kernel_rfl) (.cons rfl .nil) (fun C cw _ hC => ?_)
       have q1 : ∀ d, (cw d).cell? ⟨ar, 1, none⟩ = some (.int .i64 hd) := fun d => (hC d).cell 0 rfl 1 rfl
       have q2 : ∀ d, (cw d).cell? ⟨g, 0, none⟩ = some (.slice (some ⟨g0, o0, none⟩) N c0) := fun d => mo_headN hpl (hC d).tail h0p HV0.out
       have q3 : ∀ d, (cw d).cell? ⟨g0, o0 + j1, none⟩ = some (.int .i64 fv) := fun d => by rw [mo_numN HM.out (hC d).tail h0p HV0.out hiN, HFV.out]
       have hjj : (1 : Int) + (i : Int) = (j1 : Int) := by omega
       have hN0 : 0 < N := by omega
       repeat (refine pl_look rfl rfl rfl (fun Kv hK => ?_); go_big_quiet_op; refine hK _ ?_; clear hK Kv)
       clear q1 q2 q3 hC
       refine pl_end ?_
       intro w4 hS4
       clear hS2
       refine pm_eff rfl rfl fun Kv hK => ?_
       go_simp
       refine ⟨(hS4.alloc _ _).sub (.cons _ (.cons_cons _ (.cons _ (List.Sublist.refl _)))), hK _ _ ?_⟩
       clear hK Kv
       refine pm_append rfl rfl (.tmp 39) (.tmp 50) 51 rfl hS4 1 i1 _ 1 8 Try.underlying51 HI1.out.1 HI1.out.2.1 HI1.out.2.2.1 HI1.out.2.2.2 rfl (by decide) _ _ 1 _ rfl rfl _ rfl rfl (by decide) rfl (by simp [Value.oneCell']) (by omega) (by decide) ?_
       intro v' w7 hS7 hz7
       refine ⟨hS7.sub (.cons_cons _ (.cons _ (List.Sublist.refl _))), fun Kv hK => hK _ _ ?_⟩
       refine pm_end ?_
       have HS8 : Hid (SL w w.heap.size (.row 2 1 v' (i + 1) ((R.take i).map (.int .i64) ++ [.int .i64 (fv + hd)]) :: MO (.slice (some ⟨g, 0, none⟩) N N) ps [.blk xb #[.int .i64 x.fin, .int .i64 x.tm, .int .i64 x.tr, .int .i64 x.bm, .int .i64 x.br, .slice (some ⟨sqb, sqo, none⟩) ns sc, .slice CA x.custs.length cc, .slice KA x.cost.length kc, .slice TA N tc] 39]) w7) := Lib.hid hS7.tail
       clear hS7 hS4 hz7 hwr hjj hj1
       go_wp2_with fail
       go_roundw
       case rel => exact ⟨i + 1, by omega, by go_num, by
        rw [HTK.out, List.map_append]
        exact HS8.out⟩
       case measure => simp [intOf]; omega
     · obtain rfl : ns = i := by omega
       have HTK : Hid (R.take ns = R) := Lib.hid (List.take_of_length_le (by rw [HRL.out, HNS.out]; exact Nat.le_refl _))
       have HLR : Hid (R.length = ns) := Lib.hid (by rw [HRL.out, HNS.out])
       have HS := Lib.hid hS
       clear hS hlt
       go_wp2_with fail
       go_ret
       have h := HS.out
       rw [HTK.out] at h
       rw [HR.out]
       refine ⟨A8, c8, by rw [HLR.out]; rfl, ?_, h.below⟩
       have h2 := h.reads 0 rfl
       unfold IntsAt
       rw [HLR.out]
       exact h2
end Go.Proofs.Ytjpejclfppbboaa
