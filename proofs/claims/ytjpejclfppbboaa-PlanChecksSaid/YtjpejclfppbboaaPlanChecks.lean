/- The walk of law PlanChecks. (printed by gen/planchecks.py) -/
import Derived.Test.YtjpejclfppbboaaDrawn
import Derived.Test.YtjpejclfppbboaaAwake17
import Derived.Test.YtjpejclfppbboaaCode17
import Derived.Test.YtjpejclfppbboaaLawCost
import Derived.Test.YtjpejclfppbboaaRowRun
namespace Go.Proofs.Ytjpejclfppbboaa
open Go.ChangeShapes Go.WideShapes Go.ChangeAt Go.RowKit
set_option linter.unusedVariables false
set_option linter.unusedSimpArgs false
set_option maxRecDepth 100000 in
set_option maxHeartbeats 16000000 in
theorem planChecks_any (sp : IAt) (s : SmallV) (a : WishAt) (u : WishV) (what at_ by_ : Int) (w : World) (hI0 : SmallIn w w.heap.size sp s) (hL0 : SmallL s) (hok : s.ok) (hW : WishIn w w.heap.size a u) (hu : u.ok) (hl : u.L) (hw : 0 ≤ what ∧ what ≤ 255) (ha : 0 ≤ at_ ∧ at_ ≤ 255) (hb : -128 ≤ by_ ∧ by_ ≤ 127) :
    Calls Try.prog 11 #[.agg (s.vals sp), .agg (u.vals a), .int .u8 what, .int .u8 at_, .int .i8 by_] w fun e w' => e = .returned (.bool true) ∧ Below w.heap.size w w' := by
  have hx := SmallV.small hok
  have HX := Lib.hid hx
  have HI0 := Lib.hid hI0
  have HW := Lib.hid (And.intro hW (And.intro hu hl))
  have HNUM := Lib.hid (And.intro hw (And.intro ha hb))
  have HPS : Hid ((Try.prog.info? 30).map (·.size) = some 2) := Lib.hid (by kernel_rfl)
  have HIS : Hid ((Try.prog.info? 39).map (·.size) = some 9) := Lib.hid (by kernel_rfl)
  have HSS : Hid ((Try.prog.info? 26).map (·.size) = some 11) := Lib.hid (by kernel_rfl)
  have HWS : Hid ((Try.prog.info? 83).map (·.size) = some 3) := Lib.hid (by kernel_rfl)
  have HMK : Hid (∀ wx, Below w.heap.size w wx → Calls Try.prog 16 #[.agg (s.vals sp)] wx (MakePost wx s.mk_)) := Lib.hid (fun wx hb => make_any s sp wx ((hI0.below hb).more hb.size) hL0 hok)
  unfold SmallV.vals at HMK
  unfold SmallV.vals WishV.vals
  have hS := ((SL.start (W := w) (Nat.le_refl w.heap.size)).alloc #[.int .u8 s.fin, .int .u8 s.trucks, .int .u8 s.troom, .int .u8 s.bikes, .int .u8 s.broom, .slice sp.SA s.sats.length sp.sc, .slice sp.CA s.custs.length sp.cc, .slice sp.KA s.cost.length sp.kc, .slice sp.TA s.time.length sp.tc, .bool s.tight, .bool s.loose] 26).alloc #[.slice a.SA u.sats.length a.sc, .slice a.OA u.order.length a.oc, .slice a.CA u.cuts.length a.cc] 83
  simp only [size_alloc'] at hS
  obtain ⟨sb, hsb⟩ : ∃ sb, w.heap.size = sb := ⟨_, rfl⟩
  obtain ⟨wb, hwb⟩ : ∃ wb, sb + 1 = wb := ⟨_, rfl⟩
  obtain ⟨w1, hw1⟩ : ∃ w1, ((w.alloc (.cells #[.int .u8 s.fin, .int .u8 s.trucks, .int .u8 s.troom, .int .u8 s.bikes, .int .u8 s.broom, .slice sp.SA s.sats.length sp.sc, .slice sp.CA s.custs.length sp.cc, .slice sp.KA s.cost.length sp.kc, .slice sp.TA s.time.length sp.tc, .bool s.tight, .bool s.loose] 26)).alloc (.cells #[.slice a.SA u.sats.length a.sc, .slice a.OA u.order.length a.oc, .slice a.CA u.cuts.length a.cc] 83)) = w1 := ⟨_, rfl⟩
  have HS1 : Hid (SL w w.heap.size [.blk wb #[.slice a.SA u.sats.length a.sc, .slice a.OA u.order.length a.oc, .slice a.CA u.cuts.length a.cc] 83, .blk sb #[.int .u8 s.fin, .int .u8 s.trucks, .int .u8 s.troom, .int .u8 s.bikes, .int .u8 s.broom, .slice sp.SA s.sats.length sp.sc, .slice sp.CA s.custs.length sp.cc, .slice sp.KA s.cost.length sp.kc, .slice sp.TA s.time.length sp.tc, .bool s.tight, .bool s.loose] 26] w1) := Lib.hid (by rw [← hwb, ← hsb, ← hw1]; exact hS)
  have HBL := Lib.hid (And.intro hsb (And.intro hwb hw1))
  clear hx hI0 hL0 hok hW hu hl hw ha hb hS hsb hwb hw1
  go_enter Try.func11, Try.ntmps11
  go_upto_region 1 with fail
  rw [HBL.out.2.2, HBL.out.1, HBL.out.2.1]
  go_upto_region 3 with (go_at_call 14; (with_reducible refine (awake17 _).mono ?_); rintro e w2 ⟨rfl, hb2⟩)
  have HS2 : Hid (SL w w.heap.size [.blk wb #[.slice a.SA u.sats.length a.sc, .slice a.OA u.order.length a.oc, .slice a.CA u.cuts.length a.cc] 83, .blk sb #[.int .u8 s.fin, .int .u8 s.trucks, .int .u8 s.troom, .int .u8 s.bikes, .int .u8 s.broom, .slice sp.SA s.sats.length sp.sc, .slice sp.CA s.custs.length sp.cc, .slice sp.KA s.cost.length sp.kc, .slice sp.TA s.time.length sp.tc, .bool s.tight, .bool s.loose] 26] w2) := Lib.hid (HS1.out.call hb2)
  clear hb2 HS1
  go_upto_region 4 with first
    | (refine wpList_load_row rfl 26 _ rfl sb rfl _ #[.int .u8 s.fin, .int .u8 s.trucks, .int .u8 s.troom, .int .u8 s.bikes, .int .u8 s.broom, .slice sp.SA s.sats.length sp.sc, .slice sp.CA s.custs.length sp.cc, .slice sp.KA s.cost.length sp.kc, .slice sp.TA s.time.length sp.tc, .bool s.tight, .bool s.loose] _ _ (HS2.out.blk 1 rfl) Try.underlying26 rfl HSS.out ?_)
    | (go_at_call 16; (with_reducible refine (HMK.out _ HS2.out.below).mono ?_); rintro e w3 ⟨p, hk, ht, rfl, hl1, hl2, hq⟩
       have HI3 := Lib.hid (made_in hl1 hl2 hq).1
       have HS3 := Lib.hid (HS2.out.call hq.below)
       clear hq hl1 hl2 HMK HS2
       unfold InstV.cells)
  obtain ⟨x, hxq⟩ : ∃ x, s.mk_ = x := ⟨_, rfl⟩
  rw [hxq] at HX HI3 ⊢
  obtain ⟨XC, hXC⟩ : ∃ XC : Array Value, #[.int .i64 x.fin, .int .i64 x.tm, .int .i64 x.tr, .int .i64 x.bm, .int .i64 x.br, .slice p.SA x.sats.length p.sc, .slice p.CA x.custs.length p.cc, .slice p.KA x.cost.length p.kc, .slice p.TA x.time.length p.tc] = XC := ⟨_, rfl⟩
  have HXC : Hid (x.cells p = XC) := Lib.hid hXC
  rw [hXC]
  have HXS : Hid (XC.size = 9) := Lib.hid (by rw [← hXC]; rfl)
  have HXI : Hid ((Try.prog.info? 39).map (·.size) = some XC.size) := Lib.hid (by rw [HXS.out]; exact HIS.out)
  have HS4 := Lib.hid (HS3.out.alloc XC 39)
  have HI4 : Hid (InstIn (w3.alloc (.cells XC 39)) w3.heap.size p x) := Lib.hid (HI3.out.below ((Below.refl _ _).alloc (Nat.le_refl _) _))
  have HB4 : Hid (Below w3.heap.size w3 (w3.alloc (.cells XC 39))) := Lib.hid ((Below.refl _ _).alloc (Nat.le_refl _) _)
  obtain ⟨ib, hib⟩ : ∃ ib, w3.heap.size = ib := ⟨_, rfl⟩
  rw [hib] at HS4 HI4 HB4 ⊢
  have HIB := Lib.hid hib
  generalize (w3.alloc (.cells XC 39)) = w4 at *
  clear hxq hXC hib HI3 HS3
  have HI4' : Hid (InstIn w4 w4.heap.size p x) := Lib.hid (HI4.out.more (Nat.le_of_lt (HS4.out.lt 0 rfl).2))
  have HDR : Hid (Calls Try.prog 38 #[.agg XC, .agg #[.slice a.SA u.sats.length a.sc, .slice a.OA u.order.length a.oc, .slice a.CA u.cuts.length a.cc]] w4 (PlanPost w4 (draftM x u))) := Lib.hid (by
    have h := drawn_draft x p u a w4 HI4'.out (wishIn_more (HW.out.1.below HS4.out.below) HS4.out.below.size) HX.out HW.out.2.1 HW.out.2.2
    rw [HXC.out] at h; exact h)
  obtain ⟨q0, hq0⟩ : ∃ q0, draftM x u = q0 := ⟨_, rfl⟩
  have HQ0 : Hid (PlanS q0) := Lib.hid (by rw [← hq0]; exact draft_S HX.out)
  rw [hq0] at HDR
  clear hq0 HI4
  go_upto_region 5 with first
    | (refine wpList_load_row rfl 39 _ rfl ib rfl _ XC _ _ (HS4.out.blk 0 rfl) Try.underlying39 rfl HXI.out ?_)
    | (refine wpList_load_row rfl 83 _ rfl wb rfl _ #[.slice a.SA u.sats.length a.sc, .slice a.OA u.order.length a.oc, .slice a.CA u.cuts.length a.cc] _ _ (HS4.out.blk 1 rfl) Try.underlying83 rfl HWS.out ?_)
    | (go_at_call 38; (with_reducible refine HDR.out.mono ?_); rintro e w5 ⟨TA0, tc0, BA0, bc0, rfl, hP0, hT0, hB0⟩
       have HP0 := Lib.hid hP0
       have HS5 := Lib.hid (HS4.out.call hB0)
       have HB5 := Lib.hid hB0
       clear hP0 hT0 hB0 HDR)
    | (go_at_call 37; (with_reducible refine (drawn_spoilt _ _ _ _ q0 _ _ _ _ HP0.out HQ0.out HNUM.out.1 HNUM.out.2.1 HNUM.out.2.2).mono ?_); rintro e w6 ⟨q, hQL, TA, tc, BA, bc, rfl, hP6, hT6, hB6⟩
       have HP6 := Lib.hid (And.intro hP6 (And.intro hT6 hQL))
       have HS6 := Lib.hid (HS5.out.call hB6)
       have HI6 := Lib.hid ((HI4'.out.below HB5.out).below (hB6.mono HB5.out.size))
       have HZ6 := Lib.hid (Nat.le_trans HB5.out.size hB6.size)
       clear hP6 hT6 hQL hB6 HP0 HQ0 HNUM)
  obtain ⟨nt, hnt⟩ : ∃ n, q.trucks.length = n := ⟨_, rfl⟩
  obtain ⟨nb, hnb⟩ : ∃ n, q.bikes.length = n := ⟨_, rfl⟩
  have HNQ := Lib.hid (And.intro hnt hnb)
  rw [hnt, hnb]
  have hS7 := HS6.out.alloc #[.slice TA nt tc, .slice BA nb bc] 30
  have HB7 : Hid (Below w6.heap.size w6 (w6.alloc (.cells #[.slice TA nt tc, .slice BA nb bc] 30))) := Lib.hid ((Below.refl _ _).alloc (Nat.le_refl _) _)
  obtain ⟨pb, hpb⟩ : ∃ pb, w6.heap.size = pb := ⟨_, rfl⟩
  rw [hpb] at hS7 ⊢
  generalize (w6.alloc (.cells #[.slice TA nt tc, .slice BA nb bc] 30)) = w7 at *
  have HS7 := Lib.hid hS7
  have HI7 : Hid (InstIn w7 w7.heap.size p x) := Lib.hid ((HI6.out.below (HB7.out.mono HZ6.out)).more (Nat.le_trans HZ6.out HB7.out.size))
  have HP7 : Hid (PlanIn w7 w7.heap.size TA BA q ∧ TrucksC w7 w7.heap.size TA q.trucks ∧ PlanL q) := Lib.hid ⟨(HP6.out.1.below HB7.out).more HB7.out.size, TrucksC.more (TrucksC.below HP6.out.2.1 HB7.out) HB7.out.size, HP6.out.2.2⟩
  have HIBX : Hid (∀ wx, Below w7.heap.size w7 wx → wx.heap[ib]? = some (.cells XC 39 (0, 0))) := Lib.hid (fun wx hb => (hb.block ib (HS7.out.lt 1 rfl).2).trans (HS7.out.blk 1 rfl))
  have HPBX : Hid (∀ wx, Below w7.heap.size w7 wx → wx.heap[pb]? = some (.cells #[.slice TA nt tc, .slice BA nb bc] 30 (0, 0))) := Lib.hid (fun wx hb => (hb.block pb (HS7.out.lt 0 rfl).2).trans (HS7.out.blk 0 rfl))
  have HB0 : Hid (Below w.heap.size w w7) := Lib.hid HS7.out.below
  clear hnt hnb hpb hS7 HS7 HS6 HS5 HS4 HB5 HB7 HP6 HI6 HZ6 HI4' HB4 HI0 HW HBL HIB
  obtain ⟨cd, hcd⟩ : ∃ cd, planCode x q = cd := ⟨_, rfl⟩
  have HCD := Lib.hid hcd
  have HCO : Hid (∀ wx, Below w7.heap.size w7 wx → Calls Try.prog 18 #[.agg XC, .agg #[.slice TA nt tc, .slice BA nb bc]] wx fun e w' => e = .returned (.int .i64 cd) ∧ Below wx.heap.size wx w') := Lib.hid (fun wx hb => by
    have h := code_any x p TA BA tc bc q wx ((HI7.out.below hb).more hb.size) ((HP7.out.1.below hb).more hb.size) (TrucksC.more (TrucksC.below HP7.out.2.1 hb) hb.size) HX.out HP7.out.2.2
    rw [HNQ.out.1, HNQ.out.2, HXC.out, hcd] at h; exact h)
  have HCK : Hid (∀ wx, Below w7.heap.size w7 wx → Calls Try.prog 17 #[.agg XC, .agg #[.slice TA nt tc, .slice BA nb bc]] wx fun e w' => e = .returned (.int .i64 cd) ∧ Below wx.heap.size wx w') := Lib.hid (fun wx hb => by
    have h := planCheck_any x p TA BA tc bc q wx ((HI7.out.below hb).more hb.size) ((HP7.out.1.below hb).more hb.size) HX.out HP7.out.2.2
    rw [HNQ.out.1, HNQ.out.2, HXC.out, hcd] at h; exact h)
  obtain ⟨nn, hnn⟩ : ∃ nn, (if planCode x q = 0 then planCost x q else 0) = nn := ⟨_, rfl⟩
  have HNV := Lib.hid hnn
  have HCT : Hid (∀ wx, Below w7.heap.size w7 wx → Calls Try.prog 25 #[.agg XC, .agg #[.slice TA nt tc, .slice BA nb bc]] wx fun e w' => e = .returned (.tuple #[.int .i64 nn, .int .i64 cd]) ∧ Below wx.heap.size wx w') := Lib.hid (fun wx hb => by
    have h := planCost_any x p TA BA tc bc q wx ((HI7.out.below hb).more hb.size) ((HP7.out.1.below hb).more hb.size) HX.out HP7.out.2.2
    unfold CostPost at h
    rw [HNQ.out.1, HNQ.out.2, HXC.out, hnn, hcd] at h; exact h)
  clear hcd hnn
  go_upto_region 6 with first
    | (refine wpList_load_row rfl 39 _ rfl ib rfl _ XC _ _ (HIBX.out w7 (Below.refl _ _)) Try.underlying39 rfl HXI.out ?_)
    | (refine wpList_load_row rfl 30 _ rfl pb rfl _ #[.slice TA nt tc, .slice BA nb bc] _ _ (HPBX.out w7 (Below.refl _ _)) Try.underlying30 rfl HPS.out ?_)
    | (go_at_call 18; (with_reducible refine (HCO.out w7 (Below.refl _ _)).mono ?_); rintro e w8 ⟨rfl, hb8⟩
       have HB8 := Lib.hid hb8
       clear hb8 HCO)
  go_upto_region 7 with first
    | (refine wpList_load_row rfl 39 _ rfl ib rfl _ XC _ _ (HIBX.out w8 HB8.out) Try.underlying39 rfl HXI.out ?_)
    | (refine wpList_load_row rfl 30 _ rfl pb rfl _ #[.slice TA nt tc, .slice BA nb bc] _ _ (HPBX.out w8 HB8.out) Try.underlying30 rfl HPS.out ?_)
    | (go_at_call 25; (with_reducible refine (HCT.out w8 HB8.out).mono ?_); rintro e w9 ⟨rfl, hb9⟩
       have HB9 := Lib.hid (HB8.out.trans (hb9.mono HB8.out.size))
       clear hb9 HCT HB8)
  go_upto_region 9 with first
    | (refine wpList_load_row rfl 39 _ rfl ib rfl _ XC _ _ (HIBX.out w9 HB9.out) Try.underlying39 rfl HXI.out ?_)
    | (refine wpList_load_row rfl 30 _ rfl pb rfl _ #[.slice TA nt tc, .slice BA nb bc] _ _ (HPBX.out w9 HB9.out) Try.underlying30 rfl HPS.out ?_)
    | (go_at_call 17; (with_reducible refine (HCK.out w9 HB9.out).mono ?_); rintro e w10 ⟨rfl, hb10⟩
       have HB10 := Lib.hid (HB9.out.trans (hb10.mono HB9.out.size))
       clear hb10 HCK HB9)
  by_cases hc0 : cd = 0
  · subst hc0
    have HN0 : Hid (nn = planCost x q) := Lib.hid (by rw [← HNV.out, if_pos HCD.out])
    have HLC : Hid (Calls Try.prog 39 #[.agg XC, .agg #[.slice TA nt tc, .slice BA nb bc]] w10 fun e w' => e = .returned (.int .i64 nn) ∧ Below w10.heap.size w10 w') := Lib.hid (by
      have h := lawCost_any x p TA BA tc bc q w10 ((HI7.out.below HB10.out).more HB10.out.size) ((HP7.out.1.below HB10.out).more HB10.out.size) HX.out HP7.out.2.2 (planNum_code HCD.out)
      rw [HNQ.out.1, HNQ.out.2, HXC.out, ← HN0.out] at h; exact h)
    go_wp2_with first
      | (refine wpList_load_row_g rfl 39 _ rfl ib rfl _ XC _ _ (HIBX.out w10 HB10.out) Try.underlying39 rfl HXI.out ?_)
      | (refine wpList_load_row_g rfl 30 _ rfl pb rfl _ #[.slice TA nt tc, .slice BA nb bc] _ _ (HPBX.out w10 HB10.out) Try.underlying30 rfl HPS.out ?_)
      | (go_at_call 39; (with_reducible refine HLC.out.mono ?_); rintro e w11 ⟨rfl, hb11⟩
         have HB11 := Lib.hid (HB10.out.trans (hb11.mono HB10.out.size))
         clear hb11 HLC)
    go_ret
    exact ⟨rfl, HB0.out.trans (HB11.out.mono HB0.out.size)⟩
  · have HN0 : Hid (nn = 0) := Lib.hid (by rw [← HNV.out, if_neg (by rw [HCD.out]; exact hc0)])
    have hc1 : (cd == 0) = false := by rw [beq_eq_false_iff_ne]; exact hc0
    have hc2 : (cd != 0) = true := by rw [bne_iff_ne]; exact hc0
    have hn1 : (nn == 0) = true := by rw [beq_iff_eq]; exact HN0.out
    clear hc0
    go_wp2_with fail
    go_ret
    exact ⟨rfl, HB0.out.trans (HB10.out.mono HB0.out.size)⟩
theorem u8_wf5 {n : Int} (h : (Lit.int .u8 n).wf = true) : 0 ≤ n ∧ n ≤ 255 := by
  simp [Lit.wf, IntKind.min, IntKind.max, IntKind.signed, IntKind.bits] at h; omega
theorem i8_wf5 {n : Int} (h : (Lit.int .i8 n).wf = true) : -128 ≤ n ∧ n ≤ 127 := by
  simp [Lit.wf, IntKind.min, IntKind.max, IntKind.signed, IntKind.bits] at h; omega
set_option maxRecDepth 100000 in
theorem planChecks_walk {H : Type} {enc : TypeId × Value → H} {base : Nat} (W : World) (v0 : Value) (d0 : DataW H) (p0 : List MemPlace) (o0 : Value.okWide Try.prog W .any base 26 v0) (k0 : DataW.Trod enc Try.prog W 0 (fun _ => true) true 26 v0 d0 p0)
    (v1 : Value) (d1 : DataW H) (p1 : List MemPlace) (o1 : Value.okWide Try.prog W .any base 83 v1) (k1 : DataW.Trod enc Try.prog W 0 (fun _ => true) true 83 v1 d1 p1) (what : Int) (hw : (Lit.int .u8 what).wf = true) (at_ : Int) (ha : (Lit.int .u8 at_).wf = true) (by_ : Int) (hb : (Lit.int .i8 by_).wf = true) :
    Calls Try.prog 11 #[v0, v1, .int .u8 what, .int .u8 at_, .int .i8 by_] W fun e w' => e = .returned (.bool true) ∧ Below W.heap.size W w' := by
  obtain ⟨sp, s, rfl, hI, hl, hok⟩ := small_open o0 k0
  obtain ⟨a, u, rfl, hW, hu, hul⟩ := wish_open o1 k1
  exact planChecks_any sp s a u what at_ by_ W hI hl hok hW hu hul (u8_wf5 hw) (u8_wf5 ha) (i8_wf5 hb)
end Go.Proofs.Ytjpejclfppbboaa
