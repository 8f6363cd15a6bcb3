/- The walk of law DeltaRounds. (printed by gen/deltarounds.py) -/
import Derived.Test.YtpbhbmdghafkmaaDrawn
import Derived.Test.YtpbhbmdghafkmaaAwake24
import Derived.Test.YtpbhbmdghafkmaaLRounds24
import Derived.Deep.CutBlock
import Derived.Deep.CutRange
import Derived.Deep.DeepCutAuto
namespace Go.Proofs.Ytpbhbmdghafkmaa
open Go.ChangeShapes Go.WideShapes Go.ChangeAt Go.RowKit
set_option linter.unusedVariables false
set_option linter.unusedSimpArgs false
set_option maxRecDepth 100000 in
set_option maxHeartbeats 16000000 in
theorem deltaRounds_any (sp : IAt) (s : SmallV) (a : WishAt) (u : WishV) (what at_ by_ : Int) (w : World) (hI0 : SmallIn w w.heap.size sp s) (hL0 : SmallL s) (hok : s.ok) (hW : WishIn w w.heap.size a u) (hu : u.ok) (hl : u.L) (hw : 0 ≤ what ∧ what ≤ 255) (ha : 0 ≤ at_ ∧ at_ ≤ 255) (hb : -128 ≤ by_ ∧ by_ ≤ 127) :
    Calls Try.prog 6 #[.agg (s.vals sp), .agg (u.vals a), .int .u8 what, .int .u8 at_, .int .i8 by_] w fun e w' => e = .returned (.bool true) ∧ Below w.heap.size w w' := by
  have hx := SmallV.small hok
  have HX := Lib.hid hx
  have HI0 := Lib.hid hI0
  have HW := Lib.hid (And.intro hW (And.intro hu hl))
  have HNUM := Lib.hid (And.intro hw (And.intro ha hb))
  have HPS : Hid ((Try.prog.info? 39).map (·.size) = some 2) := Lib.hid (by kernel_rfl)
  have HIS : Hid ((Try.prog.info? 58).map (·.size) = some 9) := Lib.hid (by kernel_rfl)
  have HSS : Hid ((Try.prog.info? 49).map (·.size) = some 11) := Lib.hid (by kernel_rfl)
  have HWS : Hid ((Try.prog.info? 51).map (·.size) = some 3) := Lib.hid (by kernel_rfl)
  have HMK : Hid (∀ wx, Below w.heap.size w wx → Calls Try.prog 20 #[.agg (s.vals sp)] wx (MakePost wx s.mk_)) := Lib.hid (fun wx hb => make_any s sp wx ((hI0.below hb).more hb.size) hL0 hok)
  unfold SmallV.vals at HMK
  unfold SmallV.vals WishV.vals
  have hS := ((SL.start (W := w) (Nat.le_refl w.heap.size)).alloc #[.int .u8 s.fin, .int .u8 s.trucks, .int .u8 s.troom, .int .u8 s.bikes, .int .u8 s.broom, .slice sp.SA s.sats.length sp.sc, .slice sp.CA s.custs.length sp.cc, .slice sp.KA s.cost.length sp.kc, .slice sp.TA s.time.length sp.tc, .bool s.tight, .bool s.loose] 49).alloc #[.slice a.SA u.sats.length a.sc, .slice a.OA u.order.length a.oc, .slice a.CA u.cuts.length a.cc] 51
  simp only [size_alloc'] at hS
  obtain ⟨sb, hsb⟩ : ∃ sb, w.heap.size = sb := ⟨_, rfl⟩
  obtain ⟨wb, hwb⟩ : ∃ wb, sb + 1 = wb := ⟨_, rfl⟩
  obtain ⟨w1, hw1⟩ : ∃ w1, ((w.alloc (.cells #[.int .u8 s.fin, .int .u8 s.trucks, .int .u8 s.troom, .int .u8 s.bikes, .int .u8 s.broom, .slice sp.SA s.sats.length sp.sc, .slice sp.CA s.custs.length sp.cc, .slice sp.KA s.cost.length sp.kc, .slice sp.TA s.time.length sp.tc, .bool s.tight, .bool s.loose] 49)).alloc (.cells #[.slice a.SA u.sats.length a.sc, .slice a.OA u.order.length a.oc, .slice a.CA u.cuts.length a.cc] 51)) = w1 := ⟨_, rfl⟩
  have HS1 : Hid (SL w w.heap.size [.blk wb #[.slice a.SA u.sats.length a.sc, .slice a.OA u.order.length a.oc, .slice a.CA u.cuts.length a.cc] 51, .blk sb #[.int .u8 s.fin, .int .u8 s.trucks, .int .u8 s.troom, .int .u8 s.bikes, .int .u8 s.broom, .slice sp.SA s.sats.length sp.sc, .slice sp.CA s.custs.length sp.cc, .slice sp.KA s.cost.length sp.kc, .slice sp.TA s.time.length sp.tc, .bool s.tight, .bool s.loose] 49] w1) := Lib.hid (by rw [← hwb, ← hsb, ← hw1]; exact hS)
  have HBL := Lib.hid (And.intro hsb (And.intro hwb hw1))
  clear hx hI0 hL0 hok hW hu hl hw ha hb hS hsb hwb hw1
  have hfd : ∀ (A1 A2 : Option Addr) (n1 n2 c1 c2 : Nat) (w : World), (Instr.field 39 (.agg #[.slice A1 n1 c1, .slice A2 n2 c2]) 1).run Try.prog w = .ok (.slice A2 n2 c2) w := fun _ _ _ _ _ _ _ => by kernel_rfl
  go_enter Try.func6, Try.ntmps6
  go_upto_region 1 with fail
  rw [HBL.out.2.2, HBL.out.1, HBL.out.2.1]
  go_upto_region 3 with (go_at_call 19; (with_reducible refine (awake24 _).mono ?_); rintro e w2 ⟨rfl, hb2⟩)
  have HS2 : Hid (SL w w.heap.size [.blk wb #[.slice a.SA u.sats.length a.sc, .slice a.OA u.order.length a.oc, .slice a.CA u.cuts.length a.cc] 51, .blk sb #[.int .u8 s.fin, .int .u8 s.trucks, .int .u8 s.troom, .int .u8 s.bikes, .int .u8 s.broom, .slice sp.SA s.sats.length sp.sc, .slice sp.CA s.custs.length sp.cc, .slice sp.KA s.cost.length sp.kc, .slice sp.TA s.time.length sp.tc, .bool s.tight, .bool s.loose] 49] w2) := Lib.hid (HS1.out.call hb2)
  clear hb2 HS1
  go_upto_region 4 with first
    | (refine wpList_load_row rfl 49 _ rfl sb rfl _ #[.int .u8 s.fin, .int .u8 s.trucks, .int .u8 s.troom, .int .u8 s.bikes, .int .u8 s.broom, .slice sp.SA s.sats.length sp.sc, .slice sp.CA s.custs.length sp.cc, .slice sp.KA s.cost.length sp.kc, .slice sp.TA s.time.length sp.tc, .bool s.tight, .bool s.loose] _ _ (HS2.out.blk 1 rfl) Try.underlying49 rfl HSS.out ?_)
    | (go_at_call 20; (with_reducible refine (HMK.out _ HS2.out.below).mono ?_); rintro e w3 ⟨p, hk, ht, rfl, hl1, hl2, hq⟩
       have HI3 := Lib.hid (made_in hl1 hl2 hq).1
       have HS3 := Lib.hid (HS2.out.call hq.below)
       clear hq hl1 hl2 HMK HS2
       unfold InstV.cells)
  obtain ⟨x, hxq⟩ : ∃ x, s.mk_ = x := ⟨_, rfl⟩
  rw [hxq] at HX HI3 ⊢
  obtain ⟨XC, hXC⟩ : ∃ XC : Array Value, #[.int .i64 x.fin, .int .i64 x.tm, .int .i64 x.tr, .int .i64 x.bm, .int .i64 x.br, .slice p.SA x.sats.length p.sc, .slice p.CA x.custs.length p.cc, .slice p.KA x.cost.length p.kc, .slice p.TA x.time.length p.tc] = XC := ⟨_, rfl⟩
  have HXC : Hid (x.cells p = XC) := Lib.hid hXC
  rw [hXC]
  have HXS : Hid (XC.size = 9) := Lib.hid (by rw [← hXC]; rfl)
  have HXI : Hid ((Try.prog.info? 58).map (·.size) = some XC.size) := Lib.hid (by rw [HXS.out]; exact HIS.out)
  have HS4 := Lib.hid (HS3.out.alloc XC 58)
  have HI4 : Hid (InstIn (w3.alloc (.cells XC 58)) w3.heap.size p x) := Lib.hid (HI3.out.below ((Below.refl _ _).alloc (Nat.le_refl _) _))
  have HB4 : Hid (Below w3.heap.size w3 (w3.alloc (.cells XC 58))) := Lib.hid ((Below.refl _ _).alloc (Nat.le_refl _) _)
  obtain ⟨ib, hib⟩ : ∃ ib, w3.heap.size = ib := ⟨_, rfl⟩
  rw [hib] at HS4 HI4 HB4 ⊢
  have HIB := Lib.hid hib
  generalize (w3.alloc (.cells XC 58)) = w4 at *
  clear hxq hXC hib HI3 HS3
  have HI4' : Hid (InstIn w4 w4.heap.size p x) := Lib.hid (HI4.out.more (Nat.le_of_lt (HS4.out.lt 0 rfl).2))
  have HDR : Hid (Calls Try.prog 22 #[.agg XC, .agg #[.slice a.SA u.sats.length a.sc, .slice a.OA u.order.length a.oc, .slice a.CA u.cuts.length a.cc]] w4 (PlanPost w4 (draftM x u))) := Lib.hid (by
    have h := drawn_draft x p u a w4 HI4'.out (wishIn_more (HW.out.1.below HS4.out.below) HS4.out.below.size) HX.out HW.out.2.1 HW.out.2.2
    rw [HXC.out] at h; exact h)
  obtain ⟨q0, hq0⟩ : ∃ q0, draftM x u = q0 := ⟨_, rfl⟩
  have HQ0 : Hid (PlanS q0) := Lib.hid (by rw [← hq0]; exact draft_S HX.out)
  rw [hq0] at HDR
  clear hq0 HI4
  go_upto_region 5 with first
    | (refine wpList_load_row rfl 58 _ rfl ib rfl _ XC _ _ (HS4.out.blk 0 rfl) Try.underlying58 rfl HXI.out ?_)
    | (refine wpList_load_row rfl 51 _ rfl wb rfl _ #[.slice a.SA u.sats.length a.sc, .slice a.OA u.order.length a.oc, .slice a.CA u.cuts.length a.cc] _ _ (HS4.out.blk 1 rfl) Try.underlying51 rfl HWS.out ?_)
    | (go_at_call 22; (with_reducible refine HDR.out.mono ?_); rintro e w5 ⟨TA0, tc0, BA0, bc0, rfl, hP0, hT0, hB0⟩
       have HP0 := Lib.hid hP0
       have HS5 := Lib.hid (HS4.out.call hB0)
       have HB5 := Lib.hid hB0
       clear hP0 hT0 hB0 HDR)
    | (go_at_call 21; (with_reducible refine (drawn_spoilt _ _ _ _ q0 _ _ _ _ HP0.out HQ0.out HNUM.out.1 HNUM.out.2.1 HNUM.out.2.2).mono ?_); rintro e w6 ⟨q, hQL, TA, tc, BA, bc, rfl, hP6, hT6, hB6⟩
       have HP6 := Lib.hid (And.intro hP6 (And.intro hT6 hQL))
       have HS6 := Lib.hid (HS5.out.call hB6)
       have HI6 := Lib.hid ((HI4'.out.below HB5.out).below (hB6.mono HB5.out.size))
       have HZ6 := Lib.hid (Nat.le_trans HB5.out.size hB6.size)
       clear hP6 hT6 hQL hB6 HP0 HQ0 HNUM)
  have HI7 : Hid (InstIn w6 w6.heap.size p x) := Lib.hid (HI6.out.more HZ6.out)
  obtain ⟨bs, hbs⟩ : ∃ bs, q.bikes = bs := ⟨_, rfl⟩
  have HBK : Hid (Bikes w6 w6.heap.size BA bs) := Lib.hid (by rw [← hbs]; exact HP6.out.1.bikes)
  have HBL2 : Hid (bs.length ≤ 100000 ∧ ∀ b ∈ bs, b.stops.length ≤ 100000) := Lib.hid (by rw [← hbs]; exact ⟨HP6.out.2.2.bikes, fun b hb => Nat.le_trans (stops_le_all hb) HP6.out.2.2.custs⟩)
  rw [hbs]
  obtain ⟨r, hr⟩ : ∃ r, roundsOf x bs = r := ⟨_, rfl⟩
  have HR1 : Hid (∀ wx, Below w6.heap.size w6 wx → Calls Try.prog 23 #[.agg #[.int .i64 x.fin, .int .i64 x.tm, .int .i64 x.tr, .int .i64 x.bm, .int .i64 x.br, .slice p.SA x.sats.length p.sc, .slice p.CA x.custs.length p.cc, .slice p.KA x.cost.length p.kc, .slice p.TA x.time.length p.tc], .slice BA bs.length bc] wx fun e w' => e = .returned (.int .i64 r) ∧ Below wx.heap.size wx w') := Lib.hid (fun wx hb => by
    rw [← hr]
    exact rounds_any x p BA bc bs wx (HI7.out.at_ hb) HX.out (HBK.out.at_ hb) HBL2.out.1 HBL2.out.2)
  have HR2 : Hid (∀ wx, Below w6.heap.size w6 wx → Calls Try.prog 24 #[.agg #[.int .i64 x.fin, .int .i64 x.tm, .int .i64 x.tr, .int .i64 x.bm, .int .i64 x.br, .slice p.SA x.sats.length p.sc, .slice p.CA x.custs.length p.cc, .slice p.KA x.cost.length p.kc, .slice p.TA x.time.length p.tc], .slice BA bs.length bc] wx fun e w' => e = .returned (.int .i64 r) ∧ Below wx.heap.size wx w') := Lib.hid (fun wx hb => by
    rw [← hr]
    exact lrounds_any x p BA bc bs wx (HI7.out.at_ hb) HX.out (HBK.out.at_ hb) HBL2.out.1 HBL2.out.2)
  have hlt1 := (HS6.out.lt 0 rfl).2
  clear hr hbs HP6 HBK HBL2 HI7
  refine wp_region_sq _ (SL.start (Nat.le_refl w6.heap.size)) (by kernel_rfl) (by kernel_rfl) fun C cw _ hC hin => ?_
  have h1 : ∀ c, Calls Try.prog 23 #[.agg #[.int .i64 x.fin, .int .i64 x.tm, .int .i64 x.tr, .int .i64 x.bm, .int .i64 x.br, .slice p.SA x.sats.length p.sc, .slice p.CA x.custs.length p.cc, .slice p.KA x.cost.length p.kc, .slice p.TA x.time.length p.tc], .slice BA bs.length bc] (cw c) fun e w' => e = .returned (.int .i64 r) ∧ ∃ c', w' = cw c' := fun c => sq_call (hC c) hin (HR1.out _ (hC c).below)
  have h2 : ∀ c, Calls Try.prog 24 #[.agg #[.int .i64 x.fin, .int .i64 x.tm, .int .i64 x.tr, .int .i64 x.bm, .int .i64 x.br, .slice p.SA x.sats.length p.sc, .slice p.CA x.custs.length p.cc, .slice p.KA x.cost.length p.kc, .slice p.TA x.time.length p.tc], .slice BA bs.length bc] (cw c) fun e w' => e = .returned (.int .i64 r) ∧ ∃ c', w' = cw c' := fun c => sq_call (hC c) hin (HR2.out _ (hC c).below)
  have HH1 := Lib.hid h1
  have HH2 := Lib.hid h2
  have q0 : ∀ c, (cw c).cell? ⟨ib, 0, none⟩ = some (.int .i64 x.fin) := fun c => ((hC c).below.cell (p := ⟨ib, 0, none⟩) hlt1).trans (HS6.out.cell 0 rfl 0 (by rw [← HXC.out]; rfl))
  have q1 : ∀ c, (cw c).cell? ⟨ib, 1, none⟩ = some (.int .i64 x.tm) := fun c => ((hC c).below.cell (p := ⟨ib, 1, none⟩) hlt1).trans (HS6.out.cell 0 rfl 1 (by rw [← HXC.out]; rfl))
  have q2 : ∀ c, (cw c).cell? ⟨ib, 2, none⟩ = some (.int .i64 x.tr) := fun c => ((hC c).below.cell (p := ⟨ib, 2, none⟩) hlt1).trans (HS6.out.cell 0 rfl 2 (by rw [← HXC.out]; rfl))
  have q3 : ∀ c, (cw c).cell? ⟨ib, 3, none⟩ = some (.int .i64 x.bm) := fun c => ((hC c).below.cell (p := ⟨ib, 3, none⟩) hlt1).trans (HS6.out.cell 0 rfl 3 (by rw [← HXC.out]; rfl))
  have q4 : ∀ c, (cw c).cell? ⟨ib, 4, none⟩ = some (.int .i64 x.br) := fun c => ((hC c).below.cell (p := ⟨ib, 4, none⟩) hlt1).trans (HS6.out.cell 0 rfl 4 (by rw [← HXC.out]; rfl))
  have q5 : ∀ c, (cw c).cell? ⟨ib, 5, none⟩ = some (.slice p.SA x.sats.length p.sc) := fun c => ((hC c).below.cell (p := ⟨ib, 5, none⟩) hlt1).trans (HS6.out.cell 0 rfl 5 (by rw [← HXC.out]; rfl))
  have q6 : ∀ c, (cw c).cell? ⟨ib, 6, none⟩ = some (.slice p.CA x.custs.length p.cc) := fun c => ((hC c).below.cell (p := ⟨ib, 6, none⟩) hlt1).trans (HS6.out.cell 0 rfl 6 (by rw [← HXC.out]; rfl))
  have q7 : ∀ c, (cw c).cell? ⟨ib, 7, none⟩ = some (.slice p.KA x.cost.length p.kc) := fun c => ((hC c).below.cell (p := ⟨ib, 7, none⟩) hlt1).trans (HS6.out.cell 0 rfl 7 (by rw [← HXC.out]; rfl))
  have q8 : ∀ c, (cw c).cell? ⟨ib, 8, none⟩ = some (.slice p.TA x.time.length p.tc) := fun c => ((hC c).below.cell (p := ⟨ib, 8, none⟩) hlt1).trans (HS6.out.cell 0 rfl 8 (by rw [← HXC.out]; rfl))
  have HB8 := Lib.hid HS6.out.below
  clear hC hin h1 h2 HS6
  repeat (go_big_quiet_step (first | (go_at_call 23; with_reducible exact HH1.out _) | (go_at_call 24; with_reducible exact HH2.out _)))
  refine wpQuiet_nil ?_
  intro w9 hS9
  have HB9 := Lib.hid (HB8.out.trans (hS9.below.mono HB8.out.size))
  clear hS9 q0 q1 q2 q3 q4 q5 q6 q7 q8
  go_wp2_with fail
  go_ret
  exact ⟨retBool (by simp), HB9.out⟩
theorem deltaRounds_u8 {n : Int} (h : (Lit.int .u8 n).wf = true) : 0 ≤ n ∧ n ≤ 255 := by
  simp [Lit.wf, IntKind.min, IntKind.max, IntKind.signed, IntKind.bits] at h; omega
theorem deltaRounds_i8 {n : Int} (h : (Lit.int .i8 n).wf = true) : -128 ≤ n ∧ n ≤ 127 := by
  simp [Lit.wf, IntKind.min, IntKind.max, IntKind.signed, IntKind.bits] at h; omega
set_option maxRecDepth 100000 in
theorem deltaRounds_walk {H : Type} {enc : TypeId × Value → H} {base : Nat} (W : World) (v0 : Value) (d0 : DataW H) (p0 : List MemPlace) (o0 : Value.okWide Try.prog W .any base 49 v0) (k0 : DataW.Trod enc Try.prog W 0 (fun _ => true) true 49 v0 d0 p0)
    (v1 : Value) (d1 : DataW H) (p1 : List MemPlace) (o1 : Value.okWide Try.prog W .any base 51 v1) (k1 : DataW.Trod enc Try.prog W 0 (fun _ => true) true 51 v1 d1 p1) (what : Int) (hw : (Lit.int .u8 what).wf = true) (at_ : Int) (ha : (Lit.int .u8 at_).wf = true) (by_ : Int) (hb : (Lit.int .i8 by_).wf = true) :
    Calls Try.prog 6 #[v0, v1, .int .u8 what, .int .u8 at_, .int .i8 by_] W fun e w' => e = .returned (.bool true) ∧ Below W.heap.size W w' := by
  obtain ⟨sp, s, rfl, hI, hl, hok⟩ := small_open o0 k0
  obtain ⟨a, u, rfl, hW, hu, hul⟩ := wish_open o1 k1
  exact deltaRounds_any sp s a u what at_ by_ W hI hl hok hW hu hul (deltaRounds_u8 hw) (deltaRounds_u8 ha) (deltaRounds_i8 hb)
end Go.Proofs.Ytpbhbmdghafkmaa
