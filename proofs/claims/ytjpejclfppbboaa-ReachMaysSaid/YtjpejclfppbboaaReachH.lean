/- wharfagelaw14.Mays, of an instance that may be. (printed by gen/reachh.py) -/
import Derived.Test.YtjpejclfppbboaaMaysM
import Derived.Test.YtjpejclfppbboaaReachG
import Derived.Test.YtjpejclfppbboaaReachE
import Derived.Test.YtjpejclfppbboaaReachF
import Derived.Deep.CutBlock
import Derived.Deep.CutRange
import Derived.Deep.DeepCutAuto
namespace Go.Proofs.Ytjpejclfppbboaa
open Go.ChangeShapes Go.WideShapes Go.ChangeAt Go.RowKit
set_option linter.unusedVariables false
set_option linter.unusedSimpArgs false
def boolN (T t : TypeId) : Nest (List Bool) := ⟨T, 1, t, 1, fun _ => [], fun l => l.length, fun l => l.map .bool⟩
theorem boolN_ok (T t : TypeId) : (boolN T t).Ok := ⟨fun _ => rfl, fun b => by simp [boolN]⟩
def rowMB (x : InstV) (s : Nat) : List Bool := (List.range x.custs.length).map (mayM x s)
theorem rowMB_len (x : InstV) (s : Nat) : (rowMB x s).length = x.custs.length := by unfold rowMB; simp
theorem cells_succ (x : InstV) (s c : Nat) : ((List.range (c + 1)).map (mayM x s)).map Value.bool = ((List.range c).map (mayM x s)).map Value.bool ++ [.bool (mayM x s c)] := by
 rw [List.range_succ, List.map_append, List.map_append]
 rfl
def MaysB (W : World) (x : InstV) (e : Ending) (w' : World) : Prop := ∃ A c ps, e = .returned (.slice A x.sats.length c) ∧ ps.map (·.1) = (List.range x.sats.length).map (rowMB x) ∧ SL W W.heap.size ((boolN 80 4).own (.slice A x.sats.length c) ps) w'
theorem info_rowMB : (Try.prog.info? 80).map (fun i => (i.zero, i.size, i.bytes)) = some (some (.slice none 0 0), 1, 24) := by kernel_rfl
theorem info_bool14 : (Try.prog.info? 4).map (fun i => (i.zero, i.size, i.bytes)) = some (some (.bool false), 1, 1) := by kernel_rfl
set_option maxRecDepth 100000 in
set_option maxHeartbeats 8000000 in
theorem lawMays_any (x : InstV) (p : IAt) (w : World) (hI : InstIn w w.heap.size p x) (hF : x.Fit) :
 Calls Try.prog 35 #[.agg (x.cells p)] w (MaysB w x) := by
 obtain ⟨sqb, sqo, hSA⟩ : ∃ b o, p.SA = some ⟨b, o, none⟩ := by
  obtain ⟨b, o, h, _⟩ := sats_at hI.sats (k := 0) (by have := hF.sats; omega)
  exact ⟨b, o, h⟩
 obtain ⟨cqb, cqo, hCA⟩ : ∃ b o, p.CA = some ⟨b, o, none⟩ := by
  obtain ⟨b, o, h, _⟩ := custs_at hI.custs (k := 0) (by have := hF.custs; omega)
  exact ⟨b, o, h⟩
 have HRD : Hid (∀ wx, Below w.heap.size w wx → Calls Try.prog 29 #[.agg (x.cells p)] wx (ReadyR wx (readyM x))) := Lib.hid (fun wx hb => readies_any x p wx (hI.at_ hb) hF)
 have HWY : Hid (∀ (s : Nat) wx, s < x.sats.length → Below w.heap.size w wx → Calls Try.prog 30 #[.agg (x.cells p), .int .i64 (s : Int)] wx (WaysR wx (outM x s) (backM x s))) := Lib.hid (fun s wx hs hb => lawWays_any x p s wx (hI.at_ hb) hF hs)
 obtain ⟨SA, sc, CA, cc, KA, kc, TA, tc⟩ := p
 simp only at hSA hCA
 subst hSA hCA
 have HI := Lib.hid hI
 have HF := Lib.hid hF
 obtain ⟨i0, hi0, hz0, hz1, hz2⟩ := info_parts info_rowMB
 have HII := Lib.hid (And.intro hi0 (And.intro hz0 (And.intro hz1 hz2)))
 obtain ⟨i1, hi1, hy0, hy1, hy2⟩ := info_parts info_bool14
 have HI1 := Lib.hid (And.intro hi1 (And.intro hy0 (And.intro hy1 hy2)))
 have HRL := Lib.hid (ready_len x)
 have HOL := Lib.hid (fun s => out_len x s)
 have HBL := Lib.hid (fun s => back_len x s)
 have HLL := Lib.hid (fun s => rowMB_len x s)
 obtain ⟨ns, hns⟩ : ∃ n, x.sats.length = n := ⟨_, rfl⟩
 obtain ⟨nc, hnc⟩ : ∃ n, x.custs.length = n := ⟨_, rfl⟩
 have HNS := Lib.hid hns
 have HNC := Lib.hid hnc
 have hn3 : 1 ≤ ns ∧ ns ≤ 3 := by have := hF.sats; omega
 have hn6 : 1 ≤ nc ∧ nc ≤ 6 := by have := hF.custs; omega
 unfold InstV.cells at HRD HWY ⊢
 simp only at HRD HWY ⊢
 rw [hns, hnc] at HRD HWY
 rw [hns, hnc]
 rw [hnc] at HLL
 have hS := (SL.start (W := w) (Nat.le_refl w.heap.size)).alloc #[.int .i64 x.fin, .int .i64 x.tm, .int .i64 x.tr, .int .i64 x.bm, .int .i64 x.br, .slice (some ⟨sqb, sqo, none⟩) ns sc, .slice (some ⟨cqb, cqo, none⟩) nc cc, .slice KA x.cost.length kc, .slice TA x.time.length tc] 39
 obtain ⟨xb, hxb⟩ : ∃ b, w.heap.size = b := ⟨_, rfl⟩
 obtain ⟨w0, hw0⟩ : ∃ y, w.alloc (.cells #[.int .i64 x.fin, .int .i64 x.tm, .int .i64 x.tr, .int .i64 x.bm, .int .i64 x.br, .slice (some ⟨sqb, sqo, none⟩) ns sc, .slice (some ⟨cqb, cqo, none⟩) nc cc, .slice KA x.cost.length kc, .slice TA x.time.length tc] 39) = y := ⟨_, rfl⟩
 have HS0 : Hid (SL w w.heap.size [.blk xb #[.int .i64 x.fin, .int .i64 x.tm, .int .i64 x.tr, .int .i64 x.bm, .int .i64 x.br, .slice (some ⟨sqb, sqo, none⟩) ns sc, .slice (some ⟨cqb, cqo, none⟩) nc cc, .slice KA x.cost.length kc, .slice TA x.time.length tc] 39] w0) := Lib.hid (by rw [← hxb, ← hw0]; exact hS)
 have HW := Lib.hid (And.intro hxb hw0)
 have HXF : Hid (∀ wx, Below w0.heap.size w0 wx → wx.cell? ⟨xb, 0, none⟩ = some (.int .i64 x.fin) ∧ wx.cell? ⟨xb, 1, none⟩ = some (.int .i64 x.tm) ∧ wx.cell? ⟨xb, 2, none⟩ = some (.int .i64 x.tr) ∧ wx.cell? ⟨xb, 3, none⟩ = some (.int .i64 x.bm) ∧ wx.cell? ⟨xb, 4, none⟩ = some (.int .i64 x.br) ∧ wx.cell? ⟨xb, 5, none⟩ = some (.slice (some ⟨sqb, sqo, none⟩) ns sc) ∧ wx.cell? ⟨xb, 6, none⟩ = some (.slice (some ⟨cqb, cqo, none⟩) nc cc) ∧ wx.cell? ⟨xb, 7, none⟩ = some (.slice KA x.cost.length kc) ∧ wx.cell? ⟨xb, 8, none⟩ = some (.slice TA x.time.length tc)) := Lib.hid (fun wx hb => by
  have hx := (hb.block xb (HS0.out.lt 0 rfl).2).trans (HS0.out.blk 0 rfl)
  have hc : ∀ j v, (#[.int .i64 x.fin, .int .i64 x.tm, .int .i64 x.tr, .int .i64 x.bm, .int .i64 x.br, .slice (some ⟨sqb, sqo, none⟩) ns sc, .slice (some ⟨cqb, cqo, none⟩) nc cc, .slice KA x.cost.length kc, .slice TA x.time.length tc] : Array Value)[j]? = some v → wx.cell? ⟨xb, j, none⟩ = some v := fun j v hj => by rw [cell_of_row _ _ _ _ _ _ hx]; exact hj
  exact ⟨hc 0 _ rfl, hc 1 _ rfl, hc 2 _ rfl, hc 3 _ rfl, hc 4 _ rfl, hc 5 _ rfl, hc 6 _ rfl, hc 7 _ rfl, hc 8 _ rfl⟩)
 have HW0 : Hid (∀ wx, Below w0.heap.size w0 wx → Below w.heap.size w wx) := Lib.hid (fun wx hb => HS0.out.below.trans (hb.mono HS0.out.size))
 have HB0 := Lib.hid (Below.refl w0.heap.size w0)
 clear hS hxb hw0 hI hF hi0 hz0 hz1 hz2 hi1 hy0 hy1 hy2 hns hnc HS0
 go_enter Try.func35, Try.ntmps35
 go_upto_region 1 with fail
 rw [HW.out.2, HW.out.1]
 clear HW
 obtain ⟨d0, d1, d2, d3, d4, d5, d6, d7, d8⟩ := HXF.out w0 HB0.out
 go_upto_region 3 with (go_at_call 29; (with_reducible refine (HRD.out _ (HW0.out _ HB0.out)).mono ?_); rintro e w2 ⟨RA, rc, rfl, hr, hb⟩
                        have HB2 := Lib.hid (HB0.out.trans (hb.mono HB0.out.size))
                        have HR := Lib.hid hr
                        clear hb hr)
 clear d0 d1 d2 d3 d4 d5 d6 d7 d8 HRD
 obtain ⟨rb, ro, hRA, _, _⟩ := ints_at HR.out (k := 0) (by rw [HRL.out, HNS.out]; omega)
 subst hRA
 have HX2 : Hid (∀ wx, Below w2.heap.size w2 wx → Below w0.heap.size w0 wx) := Lib.hid (fun wx hb => HB2.out.trans (hb.mono HB2.out.size))
 have HRF : Hid (∀ s, s < ns → rb < w2.heap.size ∧ ∀ wx, Below w2.heap.size w2 wx → wx.cell? ⟨rb, ro + s, none⟩ = some (.int .i64 ((readyM x).getD s 0))) := Lib.hid (fun s hs => by
  have hs' : s < (readyM x).length := by rw [HRL.out, HNS.out]; exact hs
  obtain ⟨b, o, hA, hb, hc⟩ := ints_at HR.out hs'
  obtain ⟨rfl, rfl⟩ : rb = b ∧ ro = o := by simpa using hA
  refine ⟨hb, fun wx hbx => (hbx.cell (p := ⟨rb, ro + s, none⟩) hb).trans ?_⟩
  rw [hc]
  simp [hs'])
 have HRN : Hid ((readyM x).length = ns) := Lib.hid (by rw [HRL.out, HNS.out])
 rw [HRN.out]
 have d5 : w2.cell? ⟨xb, 5, none⟩ = some (.slice (some ⟨sqb, sqo, none⟩) ns sc) := (HXF.out w2 HB2.out).2.2.2.2.2.1
 have HS2 : Hid (SL w2 w2.heap.size ((boolN 80 4).own (.slice none 0 0) []) w2) := Lib.hid ((SL.start (W := w2) (Nat.le_refl _)).nil 80 1)
 go_upto_region 4 with fail
 clear d5
 go_loopw [18, 3] (fun iv v3 wr => ∃ i ps, i ≤ ns ∧ iv = .int .i64 (i : Nat) ∧ ps.map (·.1) = (List.range i).map (rowMB x) ∧ SL w2 w2.heap.size ((boolN 80 4).own v3 ps) wr) (fun iv _ _ => ns - (intOf iv).toNat)
 case atStart => exact ⟨0, [], by omega, rfl, rfl, HS2.out⟩
 case round =>
  clear HS2
  obtain ⟨i, ps, hi, rfl, hps, hS⟩ := hrel
  have hpl : ps.length = i := by have h := congrArg List.length hps; simpa using h
  obtain ⟨A4, c4, rfl, _⟩ := gn_open (N := boolN 80 4) (P := []) (R := []) (v := _) (ps := ps) (by rw [List.append_nil, List.nil_append]; exact hS)
  rw [hpl] at hS ⊢
  have HPS := Lib.hid hps
  have HPL := Lib.hid hpl
  clear hps hpl
  by_cases hlt : i < ns
  · have his : i < x.sats.length := by rw [HNS.out]; exact hlt
    obtain ⟨b, o, hA, hbB, e0, e1⟩ := sats_at HI.out.sats his
    obtain ⟨rfl, rfl⟩ : sqb = b ∧ sqo = o := by simpa using hA
    obtain ⟨hd, hhd⟩ : ∃ v, (x.sats[i]'his).hold = v := ⟨_, rfl⟩
    obtain ⟨rm, hrm⟩ : ∃ v, (x.sats[i]'his).room = v := ⟨_, rfl⟩
    have HRM : Hid ((x.sats.getD i noSat).room = rm) := Lib.hid (by rw [← hrm]; simp [his])
    rw [hhd] at e1
    rw [hrm] at e0
    have hwb := HW0.out _ (HX2.out _ hS.below)
    have d0 := (hwb.cell (p := ⟨sqb, sqo + i * 2, none⟩) hbB).trans e0
    have d1 := (hwb.cell (p := ⟨sqb, sqo + i * 2 + 1, none⟩) hbB).trans e1
    have hz1 : sqb < wr.heap.size := Nat.lt_of_lt_of_le hbB hwb.size
    have hS2 := hS.alloc #[.int .i64 rm, .int .i64 hd] 97
    clear hS hA hhd hrm e0 e1 hwb
    go_upto_region 6 with fail
    obtain ⟨ar, har⟩ : ∃ ar, wr.heap.size = ar := ⟨_, rfl⟩
    obtain ⟨w9, hw9⟩ : ∃ y, wr.alloc (.cells #[.int .i64 rm, .int .i64 hd] 97) = y := ⟨_, rfl⟩
    rw [har, hw9] at hS2 ⊢
    clear har hw9 d0 d1 hz1
    have HS2 := Lib.hid hS2
    have HC9 := Lib.hid (HWY.out i w9 hlt (HW0.out _ (HX2.out _ HS2.out.below)))
    clear hS2
    obtain ⟨d0, d1, d2, d3, d4, d5, d6, d7, d8⟩ := HXF.out w9 (HX2.out _ HS2.out.below)
    go_upto_region 8 with (go_at_call 30; (with_reducible refine HC9.out.mono ?_); rintro e w12 ⟨OA, oc, KA2, kc2, rfl, ho, hk, hb⟩
                           have HSM := Lib.hid (HS2.out.call hb)
                           have HO := Lib.hid ho
                           have HK := Lib.hid hk
                           clear ho hk hb)
    clear HC9 HS2 d0 d1 d2 d3 d4 d5 d6 d7 d8
    have ho' := HO.out
    have hk := HK.out
    clear HO HK
    have HX12 : Hid (∀ wx, Below w12.heap.size w12 wx → Below w2.heap.size w2 wx) := Lib.hid (fun wx hb => HSM.out.below.trans (hb.mono HSM.out.size))
    have HLO := Lib.hid (show (outM x i).length = nc by rw [HOL.out, HNC.out])
    have HLK := Lib.hid (show (backM x i).length = nc by rw [HBL.out, HNC.out])
    obtain ⟨ob, oo, hOA, _, _⟩ := ints_at ho' (k := 0) (by rw [HLO.out]; omega)
    obtain ⟨kb, ko, hKA, _, _⟩ := ints_at hk (k := 0) (by rw [HLK.out]; omega)
    subst hOA hKA
    have HOF : Hid (∀ c, c < nc → ∀ wx, Below w12.heap.size w12 wx → wx.cell? ⟨ob, oo + c, none⟩ = some (.int .i64 ((outM x i).getD c 0))) := Lib.hid (fun c hc wx hbx => by
     have hs' : c < (outM x i).length := by rw [HLO.out]; exact hc
     obtain ⟨b, o, hA, hb, hc⟩ := ints_at ho' hs'
     obtain ⟨rfl, rfl⟩ : ob = b ∧ oo = o := by simpa using hA
     refine (hbx.cell (p := ⟨ob, oo + c, none⟩) hb).trans ?_
     rw [hc]
     simp [hs'])
    have HKF : Hid (∀ c, c < nc → ∀ wx, Below w12.heap.size w12 wx → wx.cell? ⟨kb, ko + c, none⟩ = some (.int .i64 ((backM x i).getD c 0))) := Lib.hid (fun c hc wx hbx => by
     have hs' : c < (backM x i).length := by rw [HLK.out]; exact hc
     obtain ⟨b, o, hA, hb, hc⟩ := ints_at hk hs'
     obtain ⟨rfl, rfl⟩ : kb = b ∧ ko = o := by simpa using hA
     refine (hbx.cell (p := ⟨kb, ko + c, none⟩) hb).trans ?_
     rw [hc]
     simp [hs'])
    have HARF : Hid (∀ wx, Below w12.heap.size w12 wx → wx.cell? ⟨ar, 0, none⟩ = some (.int .i64 rm)) := Lib.hid (fun wx hb => by
     rw [cell_of_row _ _ _ _ _ _ ((hb.block ar (HSM.out.lt 0 rfl).2).trans (HSM.out.blk 0 rfl))]
     rfl)
    rw [HLO.out, HLK.out]
    have d6 : w12.cell? ⟨xb, 6, none⟩ = some (.slice (some ⟨cqb, cqo, none⟩) nc cc) := (HXF.out w12 (HX2.out _ HSM.out.below)).2.2.2.2.2.2.1
    have HSN := Lib.hid ((SL.start (W := w12) (Nat.le_refl _)).nil 4 1)
    clear ho' hk
    go_upto_region 9 with fail
    clear d6
    go_loopw [32, 9] (fun cv v9 wr => ∃ c : Nat, c ≤ nc ∧ cv = .int .i64 c ∧ SL w12 w12.heap.size [.row 4 1 v9 c (((List.range c).map (mayM x i)).map Value.bool)] wr) (fun cv _ _ => nc - (intOf cv).toNat)
    case atStart => exact ⟨0, by omega, rfl, HSN.out⟩
    case round =>
     clear HSN
     obtain ⟨c, hc, rfl, hS⟩ := hrel
     obtain ⟨A9, c9, rfl, _, _⟩ := (hS.row 0 rfl).slice_
     by_cases hcl : c < nc
     · have HCS := Lib.hid (cells_succ x i c)
       have hcx : c < x.custs.length := by rw [HNC.out]; exact hcl
       obtain ⟨b, o, hA, hbB, e0, e1, e2, e3⟩ := custs_at HI.out.custs hcx
       obtain ⟨rfl, rfl⟩ : cqb = b ∧ cqo = o := by simpa using hA
       obtain ⟨⟨hr0, hr1⟩, ho0, ho1⟩ := And.intro (ready_get HF.out his) (out_get HF.out his hcx)
       obtain ⟨hk0, hk1⟩ := back_get HF.out his hcx
       obtain ⟨hat0, hat1⟩ := at_get HF.out his hcx
       have hmx := show atM x i c = max ((readyM x).getD i 0 + (outM x i).getD c 0) (x.custs.getD c noCust).opn from rfl
       have hmy := show mayM x i c = (decide ((x.custs.getD c noCust).load ≤ (x.sats.getD i noSat).room) && (decide ((x.custs.getD c noCust).load ≤ x.br) && (decide (atM x i c ≤ (x.custs.getD c noCust).cls) && decide (atM x i c + (backM x i).getD c 0 ≤ x.fin)))) from rfl
       have hofa := HOF.out c hcl
       have hkfa := HKF.out c hcl
       have hrfa := (HRF.out i hlt).2
       rw [HRM.out, show x.custs.getD c noCust = x.custs[c]'hcx by simp [hcx]] at hmy
       rw [show x.custs.getD c noCust = x.custs[c]'hcx by simp [hcx]] at hmx
       obtain ⟨rv, hrv⟩ : ∃ v, (readyM x).getD i 0 = v := ⟨_, rfl⟩
       obtain ⟨ov, hov⟩ : ∃ v, (outM x i).getD c 0 = v := ⟨_, rfl⟩
       obtain ⟨kv, hkv⟩ : ∃ v, (backM x i).getD c 0 = v := ⟨_, rfl⟩
       obtain ⟨tv, htv⟩ : ∃ v, atM x i c = v := ⟨_, rfl⟩
       obtain ⟨mv, hmv⟩ : ∃ v, mayM x i c = v := ⟨_, rfl⟩
       rw [hrv, hov, htv] at hmx
       rw [hmv, htv, hkv] at hmy
       rw [hmv] at HCS
       rw [hrv] at hr0 hr1 hrfa
       rw [hov] at ho0 ho1 hofa
       rw [hkv] at hk0 hk1 hkfa
       rw [htv] at hat0 hat1
       obtain ⟨sv, hsv⟩ : ∃ v, (x.custs[c]'hcx).stay = v := ⟨_, rfl⟩
       obtain ⟨ld, hld⟩ : ∃ v, (x.custs[c]'hcx).load = v := ⟨_, rfl⟩
       obtain ⟨op, hop⟩ : ∃ v, (x.custs[c]'hcx).opn = v := ⟨_, rfl⟩
       obtain ⟨cl, hcl2⟩ : ∃ v, (x.custs[c]'hcx).cls = v := ⟨_, rfl⟩
       rw [hsv] at e3
       rw [hld] at e0 hmy
       rw [hop] at e1 hmx
       rw [hcl2] at e2 hmy
       have hwb := HW0.out _ (HX2.out _ (HX12.out _ hS.below))
       have d0 := (hwb.cell (p := ⟨cqb, cqo + c * 4, none⟩) hbB).trans e0
       have d1 := (hwb.cell (p := ⟨cqb, cqo + c * 4 + 1, none⟩) hbB).trans e1
       have d2 := (hwb.cell (p := ⟨cqb, cqo + c * 4 + 2, none⟩) hbB).trans e2
       have d3 := (hwb.cell (p := ⟨cqb, cqo + c * 4 + 3, none⟩) hbB).trans e3
       have hz1 : cqb < wr.heap.size := Nat.lt_of_lt_of_le hbB hwb.size
       have hS2 := hS.alloc #[.int .i64 ld, .int .i64 op, .int .i64 cl, .int .i64 sv] 73
       have hmz : (if rv + ov < op then op else rv + ov) = tv := by
        rw [hmx]; omega
       have hwr1 : IntKind.i64.wrap (rv + ov) = rv + ov := by rw [IntKind.wrap_i64]; omega
       have HMY := Lib.hid hmy
       have HMX := Lib.hid hmx
       have HRFA := Lib.hid hrfa
       have HOFA := Lib.hid hofa
       have HKFA := Lib.hid hkfa
       have HHX : Hid (∀ wx, Below w12.heap.size w12 wx → Below w2.heap.size w2 wx) := HX12
       clear hS hA e0 e1 e2 e3 hwb hrv hov hkv htv hsv hld hop hcl2 hmy hmx hrfa hofa hkfa hbB
       go_upto_region 11 with fail
       obtain ⟨cr, hcr⟩ : ∃ cr, wr.heap.size = cr := ⟨_, rfl⟩
       obtain ⟨w13, hw13⟩ : ∃ y, wr.alloc (.cells #[.int .i64 ld, .int .i64 op, .int .i64 cl, .int .i64 sv] 73) = y := ⟨_, rfl⟩
       rw [hcr, hw13] at hS2 ⊢
       clear hcr hw13 d0 d1 d2 d3 hz1
       refine wp_region_sl [0,1,2,3,4,5,6,7,8,9,10,11] [] [12] _ hS2 (List.Sublist.refl _) (by kernel_rfl) (by kernel_rfl) (.cons rfl .nil) (fun C cw _ hC => ?_)
       have qa : ∀ d, (cw d).cell? ⟨rb, ro + i, none⟩ = some (.int .i64 rv) := fun d => HRFA.out (cw d) (HHX.out _ (hC d).below)
       have qb : ∀ d, (cw d).cell? ⟨ob, oo + c, none⟩ = some (.int .i64 ov) := fun d => HOFA.out (cw d) (hC d).below
       have qc : ∀ d, (cw d).cell? ⟨cr, 1, none⟩ = some (.int .i64 op) := fun d => (hC d).cell 0 rfl 1 rfl
       repeat (first | (refine pl_look rfl rfl rfl (fun Kv hK => ?_); go_big_quiet_op; refine hK _ ?_; clear hK Kv) | (refine pl_max14 _ _ _ _ _ _ _ _ rfl rfl rfl rfl rfl hmz (fun Kv hK => ?_); go_simp; refine hK _ ?_; clear hK Kv))
       clear qa qb qc hC hmz
       refine pl_end ?_
       intro w14 hS14
       refine pm_end ?_
       clear hS2
       have HS14 := Lib.hid hS14
       clear hS14
       go_upto_region 12 with fail
       have hwr2 : IntKind.i64.wrap (tv + kv) = tv + kv := by rw [IntKind.wrap_i64]; omega
       by_cases t3 : ld ≤ rm
       case neg =>
        as_aux_lemma =>
        have t3b : decide (ld ≤ rm) = false := by simp [t3]
        refine wp_region_sl [0, 1, 2, 3, 4, 5, 6, 7, 8, 9, 10, 11, 12, 13, 14, 15, 16, 17, 18, 19, 20, 21, 22, 23, 24, 25, 26, 27, 28, 29, 30] [31, 32] [33] [.blk cr #[.int .i64 ld, .int .i64 op, .int .i64 cl, .int .i64 sv] 73] HS14.out (.cons_cons _ (List.nil_sublist _)) (by kernel_rfl) (by kernel_rfl) (.cons rfl .nil) (fun C cw _ hC => ?_)
        have q1 : ∀ d, (cw d).cell? ⟨cr, 2, none⟩ = some (.int .i64 cl) := fun d => (hC d).cell 0 rfl 2 rfl
        have q2 : ∀ d, (cw d).cell? ⟨cr, 0, none⟩ = some (.int .i64 ld) := fun d => (hC d).cell 0 rfl 0 rfl
        have q3 : ∀ d, (cw d).cell? ⟨kb, ko + c, none⟩ = some (.int .i64 kv) := fun d => HKFA.out (cw d) (hC d).below
        have q4 : ∀ d, (cw d).cell? ⟨xb, 0, none⟩ = some (.int .i64 x.fin) := fun d => (HXF.out (cw d) (HX2.out _ (HHX.out _ (hC d).below))).1
        have q5 : ∀ d, (cw d).cell? ⟨xb, 4, none⟩ = some (.int .i64 x.br) := fun d => (HXF.out (cw d) (HX2.out _ (HHX.out _ (hC d).below))).2.2.2.2.1
        have q6 : ∀ d, (cw d).cell? ⟨ar, 0, none⟩ = some (.int .i64 rm) := fun d => HARF.out (cw d) (hC d).below
        repeat (first | (refine pl_look rfl rfl rfl (fun Kv hK => ?_); go_big_quiet_op; refine hK _ ?_; clear hK Kv) | (refine pl_skip rfl rfl (fun Kv hK => ?_); go_simp; refine hK _ ?_; clear hK Kv))
        clear q1 q2 q3 q4 q5 q6 hC
        refine pl_end ?_
        intro w15 hS15
        refine pm_eff rfl rfl fun Kv hK => ?_
        go_simp
        refine ⟨(hS15.alloc _ _).sub (.cons _ (.cons_cons _ (List.nil_sublist _))), hK _ _ ?_⟩
        clear hK Kv
        refine pm_append rfl rfl (.tmp 49) (.tmp 80) 80 rfl hS15 1 i1 (.bool false) 1 1 Try.underlying80 HI1.out.1 HI1.out.2.1 HI1.out.2.2.1 HI1.out.2.2.2 rfl (by decide) _ _ 1 _ rfl rfl _ rfl rfl (by decide) rfl (by simp [Value.oneCell']) (by omega) (by decide) ?_
        intro v9 w16 hS16 hz16
        refine ⟨hS16.sub (.cons_cons _ (List.nil_sublist _)), fun Kv hK => hK _ _ ?_⟩
        refine pm_end ?_
        have HS16 := Lib.hid hS16.tail
        clear hS16 hz16 hS15
        have HM3 : Hid (mv = false) := Lib.hid (by rw [HMY.out]; simp [t3])
        go_wp2_with fail
        go_roundw
        case rel => exact ⟨c + 1, by omega, by go_num, by rw [HCS.out, HM3.out]; exact HS16.out⟩
        case measure => simp [intOf]; omega
       case pos =>
       by_cases t4 : ld ≤ x.br
       case neg =>
        as_aux_lemma =>
        have t3b : decide (ld ≤ rm) = true := by simp [t3]
        have t4b : decide (ld ≤ x.br) = false := by simp [t4]
        refine wp_region_sl [0, 1, 2, 3, 4, 5, 6, 7, 8, 9, 10, 11, 12, 13, 14, 15, 16, 17, 18, 19, 20, 21, 22, 23, 24, 25, 26, 27, 28, 29, 30] [31, 32] [33] [.blk cr #[.int .i64 ld, .int .i64 op, .int .i64 cl, .int .i64 sv] 73] HS14.out (.cons_cons _ (List.nil_sublist _)) (by kernel_rfl) (by kernel_rfl) (.cons rfl .nil) (fun C cw _ hC => ?_)
        have q1 : ∀ d, (cw d).cell? ⟨cr, 2, none⟩ = some (.int .i64 cl) := fun d => (hC d).cell 0 rfl 2 rfl
        have q2 : ∀ d, (cw d).cell? ⟨cr, 0, none⟩ = some (.int .i64 ld) := fun d => (hC d).cell 0 rfl 0 rfl
        have q3 : ∀ d, (cw d).cell? ⟨kb, ko + c, none⟩ = some (.int .i64 kv) := fun d => HKFA.out (cw d) (hC d).below
        have q4 : ∀ d, (cw d).cell? ⟨xb, 0, none⟩ = some (.int .i64 x.fin) := fun d => (HXF.out (cw d) (HX2.out _ (HHX.out _ (hC d).below))).1
        have q5 : ∀ d, (cw d).cell? ⟨xb, 4, none⟩ = some (.int .i64 x.br) := fun d => (HXF.out (cw d) (HX2.out _ (HHX.out _ (hC d).below))).2.2.2.2.1
        have q6 : ∀ d, (cw d).cell? ⟨ar, 0, none⟩ = some (.int .i64 rm) := fun d => HARF.out (cw d) (hC d).below
        repeat (first | (refine pl_look rfl rfl rfl (fun Kv hK => ?_); go_big_quiet_op; refine hK _ ?_; clear hK Kv) | (refine pl_skip rfl rfl (fun Kv hK => ?_); go_simp; refine hK _ ?_; clear hK Kv))
        clear q1 q2 q3 q4 q5 q6 hC
        refine pl_end ?_
        intro w15 hS15
        refine pm_eff rfl rfl fun Kv hK => ?_
        go_simp
        refine ⟨(hS15.alloc _ _).sub (.cons _ (.cons_cons _ (List.nil_sublist _))), hK _ _ ?_⟩
        clear hK Kv
        refine pm_append rfl rfl (.tmp 49) (.tmp 80) 80 rfl hS15 1 i1 (.bool false) 1 1 Try.underlying80 HI1.out.1 HI1.out.2.1 HI1.out.2.2.1 HI1.out.2.2.2 rfl (by decide) _ _ 1 _ rfl rfl _ rfl rfl (by decide) rfl (by simp [Value.oneCell']) (by omega) (by decide) ?_
        intro v9 w16 hS16 hz16
        refine ⟨hS16.sub (.cons_cons _ (List.nil_sublist _)), fun Kv hK => hK _ _ ?_⟩
        refine pm_end ?_
        have HS16 := Lib.hid hS16.tail
        clear hS16 hz16 hS15
        have HM3 : Hid (mv = false) := Lib.hid (by rw [HMY.out]; simp [t3, t4])
        go_wp2_with fail
        go_roundw
        case rel => exact ⟨c + 1, by omega, by go_num, by rw [HCS.out, HM3.out]; exact HS16.out⟩
        case measure => simp [intOf]; omega
       case pos =>
       by_cases t1 : tv ≤ cl
       case neg =>
        as_aux_lemma =>
        have t3b : decide (ld ≤ rm) = true := by simp [t3]
        have t4b : decide (ld ≤ x.br) = true := by simp [t4]
        have t1b : decide (tv ≤ cl) = false := by simp [t1]
        refine wp_region_sl [0, 1, 2, 3, 4, 5, 6, 7, 8, 9, 10, 11, 12, 13, 14, 15, 16, 17, 18, 19, 20, 21, 22, 23, 24, 25, 26, 27, 28, 29, 30] [31, 32] [33] [.blk cr #[.int .i64 ld, .int .i64 op, .int .i64 cl, .int .i64 sv] 73] HS14.out (.cons_cons _ (List.nil_sublist _)) (by kernel_rfl) (by kernel_rfl) (.cons rfl .nil) (fun C cw _ hC => ?_)
        have q1 : ∀ d, (cw d).cell? ⟨cr, 2, none⟩ = some (.int .i64 cl) := fun d => (hC d).cell 0 rfl 2 rfl
        have q2 : ∀ d, (cw d).cell? ⟨cr, 0, none⟩ = some (.int .i64 ld) := fun d => (hC d).cell 0 rfl 0 rfl
        have q3 : ∀ d, (cw d).cell? ⟨kb, ko + c, none⟩ = some (.int .i64 kv) := fun d => HKFA.out (cw d) (hC d).below
        have q4 : ∀ d, (cw d).cell? ⟨xb, 0, none⟩ = some (.int .i64 x.fin) := fun d => (HXF.out (cw d) (HX2.out _ (HHX.out _ (hC d).below))).1
        have q5 : ∀ d, (cw d).cell? ⟨xb, 4, none⟩ = some (.int .i64 x.br) := fun d => (HXF.out (cw d) (HX2.out _ (HHX.out _ (hC d).below))).2.2.2.2.1
        have q6 : ∀ d, (cw d).cell? ⟨ar, 0, none⟩ = some (.int .i64 rm) := fun d => HARF.out (cw d) (hC d).below
        repeat (first | (refine pl_look rfl rfl rfl (fun Kv hK => ?_); go_big_quiet_op; refine hK _ ?_; clear hK Kv) | (refine pl_skip rfl rfl (fun Kv hK => ?_); go_simp; refine hK _ ?_; clear hK Kv))
        clear q1 q2 q3 q4 q5 q6 hC
        refine pl_end ?_
        intro w15 hS15
        refine pm_eff rfl rfl fun Kv hK => ?_
        go_simp
        refine ⟨(hS15.alloc _ _).sub (.cons _ (.cons_cons _ (List.nil_sublist _))), hK _ _ ?_⟩
        clear hK Kv
        refine pm_append rfl rfl (.tmp 49) (.tmp 80) 80 rfl hS15 1 i1 (.bool false) 1 1 Try.underlying80 HI1.out.1 HI1.out.2.1 HI1.out.2.2.1 HI1.out.2.2.2 rfl (by decide) _ _ 1 _ rfl rfl _ rfl rfl (by decide) rfl (by simp [Value.oneCell']) (by omega) (by decide) ?_
        intro v9 w16 hS16 hz16
        refine ⟨hS16.sub (.cons_cons _ (List.nil_sublist _)), fun Kv hK => hK _ _ ?_⟩
        refine pm_end ?_
        have HS16 := Lib.hid hS16.tail
        clear hS16 hz16 hS15
        have HM3 : Hid (mv = false) := Lib.hid (by rw [HMY.out]; simp [t3, t4, t1])
        go_wp2_with fail
        go_roundw
        case rel => exact ⟨c + 1, by omega, by go_num, by rw [HCS.out, HM3.out]; exact HS16.out⟩
        case measure => simp [intOf]; omega
       case pos =>
       by_cases t2 : tv + kv ≤ x.fin
       case neg =>
        as_aux_lemma =>
        have t3b : decide (ld ≤ rm) = true := by simp [t3]
        have t4b : decide (ld ≤ x.br) = true := by simp [t4]
        have t1b : decide (tv ≤ cl) = true := by simp [t1]
        have t2b : decide (tv + kv ≤ x.fin) = false := by simp [t2]
        refine wp_region_sl [0, 1, 2, 3, 4, 5, 6, 7, 8, 9, 10, 11, 12, 13, 14, 15, 16, 17, 18, 19, 20, 21, 22, 23, 24, 25, 26, 27, 28, 29, 30] [31, 32] [33] [.blk cr #[.int .i64 ld, .int .i64 op, .int .i64 cl, .int .i64 sv] 73] HS14.out (.cons_cons _ (List.nil_sublist _)) (by kernel_rfl) (by kernel_rfl) (.cons rfl .nil) (fun C cw _ hC => ?_)
        have q1 : ∀ d, (cw d).cell? ⟨cr, 2, none⟩ = some (.int .i64 cl) := fun d => (hC d).cell 0 rfl 2 rfl
        have q2 : ∀ d, (cw d).cell? ⟨cr, 0, none⟩ = some (.int .i64 ld) := fun d => (hC d).cell 0 rfl 0 rfl
        have q3 : ∀ d, (cw d).cell? ⟨kb, ko + c, none⟩ = some (.int .i64 kv) := fun d => HKFA.out (cw d) (hC d).below
        have q4 : ∀ d, (cw d).cell? ⟨xb, 0, none⟩ = some (.int .i64 x.fin) := fun d => (HXF.out (cw d) (HX2.out _ (HHX.out _ (hC d).below))).1
        have q5 : ∀ d, (cw d).cell? ⟨xb, 4, none⟩ = some (.int .i64 x.br) := fun d => (HXF.out (cw d) (HX2.out _ (HHX.out _ (hC d).below))).2.2.2.2.1
        have q6 : ∀ d, (cw d).cell? ⟨ar, 0, none⟩ = some (.int .i64 rm) := fun d => HARF.out (cw d) (hC d).below
        repeat (first | (refine pl_look rfl rfl rfl (fun Kv hK => ?_); go_big_quiet_op; refine hK _ ?_; clear hK Kv) | (refine pl_skip rfl rfl (fun Kv hK => ?_); go_simp; refine hK _ ?_; clear hK Kv))
        clear q1 q2 q3 q4 q5 q6 hC
        refine pl_end ?_
        intro w15 hS15
        refine pm_eff rfl rfl fun Kv hK => ?_
        go_simp
        refine ⟨(hS15.alloc _ _).sub (.cons _ (.cons_cons _ (List.nil_sublist _))), hK _ _ ?_⟩
        clear hK Kv
        refine pm_append rfl rfl (.tmp 49) (.tmp 80) 80 rfl hS15 1 i1 (.bool false) 1 1 Try.underlying80 HI1.out.1 HI1.out.2.1 HI1.out.2.2.1 HI1.out.2.2.2 rfl (by decide) _ _ 1 _ rfl rfl _ rfl rfl (by decide) rfl (by simp [Value.oneCell']) (by omega) (by decide) ?_
        intro v9 w16 hS16 hz16
        refine ⟨hS16.sub (.cons_cons _ (List.nil_sublist _)), fun Kv hK => hK _ _ ?_⟩
        refine pm_end ?_
        have HS16 := Lib.hid hS16.tail
        clear hS16 hz16 hS15
        have HM3 : Hid (mv = false) := Lib.hid (by rw [HMY.out]; simp [t3, t4, t1, t2])
        go_wp2_with fail
        go_roundw
        case rel => exact ⟨c + 1, by omega, by go_num, by rw [HCS.out, HM3.out]; exact HS16.out⟩
        case measure => simp [intOf]; omega
       case pos =>
       have t3b : decide (ld ≤ rm) = true := by simp [t3]
       have t4b : decide (ld ≤ x.br) = true := by simp [t4]
       have t1b : decide (tv ≤ cl) = true := by simp [t1]
       have t2b : decide (tv + kv ≤ x.fin) = true := by simp [t2]
       refine wp_region_sl [0, 1, 2, 3, 4, 5, 6, 7, 8, 9, 10, 11, 12, 13, 14, 15, 16, 17, 18, 19, 20, 21, 22, 23, 24, 25, 26, 27, 28, 29, 30] [31, 32] [33] [.blk cr #[.int .i64 ld, .int .i64 op, .int .i64 cl, .int .i64 sv] 73] HS14.out (.cons_cons _ (List.nil_sublist _)) (by kernel_rfl) (by kernel_rfl) (.cons rfl .nil) (fun C cw _ hC => ?_)
       have q1 : ∀ d, (cw d).cell? ⟨cr, 2, none⟩ = some (.int .i64 cl) := fun d => (hC d).cell 0 rfl 2 rfl
       have q2 : ∀ d, (cw d).cell? ⟨cr, 0, none⟩ = some (.int .i64 ld) := fun d => (hC d).cell 0 rfl 0 rfl
       have q3 : ∀ d, (cw d).cell? ⟨kb, ko + c, none⟩ = some (.int .i64 kv) := fun d => HKFA.out (cw d) (hC d).below
       have q4 : ∀ d, (cw d).cell? ⟨xb, 0, none⟩ = some (.int .i64 x.fin) := fun d => (HXF.out (cw d) (HX2.out _ (HHX.out _ (hC d).below))).1
       have q5 : ∀ d, (cw d).cell? ⟨xb, 4, none⟩ = some (.int .i64 x.br) := fun d => (HXF.out (cw d) (HX2.out _ (HHX.out _ (hC d).below))).2.2.2.2.1
       have q6 : ∀ d, (cw d).cell? ⟨ar, 0, none⟩ = some (.int .i64 rm) := fun d => HARF.out (cw d) (hC d).below
       repeat (first | (refine pl_look rfl rfl rfl (fun Kv hK => ?_); go_big_quiet_op; refine hK _ ?_; clear hK Kv) | (refine pl_skip rfl rfl (fun Kv hK => ?_); go_simp; refine hK _ ?_; clear hK Kv))
       clear q1 q2 q3 q4 q5 q6 hC
       refine pl_end ?_
       intro w15 hS15
       refine pm_eff rfl rfl fun Kv hK => ?_
       go_simp
       refine ⟨(hS15.alloc _ _).sub (.cons _ (.cons_cons _ (List.nil_sublist _))), hK _ _ ?_⟩
       clear hK Kv
       refine pm_append rfl rfl (.tmp 49) (.tmp 80) 80 rfl hS15 1 i1 (.bool false) 1 1 Try.underlying80 HI1.out.1 HI1.out.2.1 HI1.out.2.2.1 HI1.out.2.2.2 rfl (by decide) _ _ 1 _ rfl rfl _ rfl rfl (by decide) rfl (by simp [Value.oneCell']) (by omega) (by decide) ?_
       intro v9 w16 hS16 hz16
       refine ⟨hS16.sub (.cons_cons _ (List.nil_sublist _)), fun Kv hK => hK _ _ ?_⟩
       refine pm_end ?_
       have HS16 := Lib.hid hS16.tail
       clear hS16 hz16 hS15
       have HM3 : Hid (mv = true) := Lib.hid (by rw [HMY.out]; simp [t3, t4, t1, t2])
       go_wp2_with fail
       go_roundw
       case rel => exact ⟨c + 1, by omega, by go_num, by rw [HCS.out, HM3.out]; exact HS16.out⟩
       case measure => simp [intOf]; omega
     · obtain rfl : nc = c := by omega
       have HS0 : Hid (SL w2 w2.heap.size ([.row 4 1 (.slice A9 nc c9) nc (((List.range nc).map (mayM x i)).map Value.bool)] ++ (boolN 80 4).own (.slice A4 i c4) ps) wr) := Lib.hid ((HSM.out.join hS).sub (.cons_cons _ (.cons _ (List.Sublist.refl _))))
       clear hS hcl
       have HRW : Hid (rowMB x i = (List.range nc).map (mayM x i)) := Lib.hid (by unfold rowMB; rw [HNC.out])
       go_wp2_with (at_builtin; refine stopHere ?_)
       show wpList _ _ _ _ _ _
       refine wpList_append_sl rfl _ _ 78 rfl HS0.out 1 i0 (.slice none 0 0) 1 24 Try.underlying78 HII.out.1 HII.out.2.1 HII.out.2.2.1 HII.out.2.2.2 rfl (by decide) _ i 1 ((boolN 80 4).heads ps) (by rw [← HPL.out]; rfl) rfl _ rfl rfl (by decide) rfl (by simp [Value.oneCell']) (by omega) (by decide) ?_
       intro v' w6 hS6 hz6
       have HS6 : Hid (SL w2 w2.heap.size ((boolN 80 4).own v' (ps ++ [(rowMB x i, .slice A9 nc c9)])) w6) := Lib.hid (by
        have h := SL.nestSnoc (N := boolN 80 4) (P := []) (R := []) (v := v') (ps := ps) (q := (rowMB x i, .slice A9 nc c9)) (by
         rw [HPL.out, HRW.out, List.append_nil, List.nil_append]
         unfold Nest.inner boolN
         simp only [List.length_map, List.length_range]
         exact hS6)
        rw [List.append_nil, List.nil_append] at h
        exact h)
       clear HS0 hS6 hz6
       go_wp2_with fail
       go_roundw
       case rel => exact ⟨i + 1, _, by omega, by go_num, by rw [List.map_append, HPS.out, List.range_succ, List.map_append]; rfl, HS6.out⟩
       case measure => simp [intOf]; omega
  · obtain rfl : ns = i := by omega
    have HS := Lib.hid (SL.rebase hS (HW0.out _ HB2.out) (HW0.out _ HB2.out).size)
    clear hS hlt
    go_wp2_with fail
    go_ret
    exact ⟨A4, c4, ps, by rw [HNS.out]; rfl, by rw [HNS.out]; exact HPS.out, by rw [HNS.out]; exact HS.out⟩
end Go.Proofs.Ytjpejclfppbboaa
