/- The walk of law DeltaChanges. (printed by gen/deltachanges.py) -/
import Derived.Test.YtpbhbmdghafkmaaBoth23J
import Derived.Test.YtpbhbmdghafkmaaOneJ
import Derived.Test.YtpbhbmdghafkmaaAwake24
import Derived.Test.YtpbhbmdghafkmaaLRounds24
import Derived.Test.YtpbhbmdghafkmaaDelta24
import Derived.Test.YtpbhbmdghafkmaaSmallMove
import Derived.Test.YtpbhbmdghafkmaaMoveOpen
import Derived.Test.YtpbhbmdghafkmaaPhase
import Derived.Deep.CutBlock
import Derived.Deep.CutRange
import Derived.Deep.DeepCutAuto
namespace Go.Proofs.Ytpbhbmdghafkmaa
open Go.ChangeShapes Go.WideShapes Go.ChangeAt Go.RowKit
set_option linter.unusedVariables false
set_option linter.unusedSimpArgs false
set_option maxRecDepth 100000 in
set_option maxHeartbeats 16000000 in
theorem deltaChanges_any (sp : IAt) (s : SmallV) (a : WishAt) (u : WishV) (what at_ by_ sk sa si sbb sj : Int) (w : World) (hI0 : SmallIn w w.heap.size sp s) (hL0 : SmallL s) (hok : s.ok) (hW : WishIn w w.heap.size a u) (hu : u.ok) (hl : u.L) (hw : 0 ≤ what ∧ what ≤ 255) (ha : 0 ≤ at_ ∧ at_ ≤ 255) (hb : -128 ≤ by_ ∧ by_ ≤ 127) (hm : SmV.Ok ⟨sk, sa, si, sbb, sj⟩) :
 Calls Try.prog 7 #[.agg (s.vals sp), .agg (u.vals a), .int .u8 what, .int .u8 at_, .int .i8 by_, .agg #[.int .u8 sk, .int .i8 sa, .int .i8 si, .int .i8 sbb, .int .i8 sj]] w fun e w' => e = .returned (.bool true) ∧ Below w.heap.size w w' := by
 have hx := SmallV.small hok
 have HX := Lib.hid hx
 have HI0 := Lib.hid hI0
 have HW := Lib.hid (And.intro hW (And.intro hu hl))
 have HNUM := Lib.hid (And.intro hw (And.intro ha hb))
 have HIS : Hid ((Try.prog.info? 58).map (·.size) = some 9) := Lib.hid (by kernel_rfl)
 have HSS : Hid ((Try.prog.info? 49).map (·.size) = some 11) := Lib.hid (by kernel_rfl)
 have HWS : Hid ((Try.prog.info? 51).map (·.size) = some 3) := Lib.hid (by kernel_rfl)
 have HMK : Hid (∀ wx, Below w.heap.size w wx → Calls Try.prog 20 #[.agg (s.vals sp)] wx (MakePost wx s.mk_)) := Lib.hid (fun wx hb => make_any s sp wx ((hI0.below hb).more hb.size) hL0 hok)
 obtain ⟨mv, hmv⟩ : ∃ m, SmV.move ⟨sk, sa, si, sbb, sj⟩ = m := ⟨_, rfl⟩
 have HMC : Hid (∀ wx, Calls Try.prog 15 #[.agg #[.int .u8 sk, .int .i8 sa, .int .i8 si, .int .i8 sbb, .int .i8 sj]] wx (SmPost wx mv)) := Lib.hid (fun wx => by rw [← hmv]; exact smove_any sk sa si sbb sj wx hm)
 have hfd : ∀ (A1 A2 : Option Addr) (n1 n2 c1 c2 : Nat) (w : World), (Instr.field 39 (.agg #[.slice A1 n1 c1, .slice A2 n2 c2]) 1).run Try.prog w = .ok (.slice A2 n2 c2) w := fun _ _ _ _ _ _ _ => by kernel_rfl
 unfold SmallV.vals at HMK
 unfold SmallV.vals WishV.vals
 have hS := (((SL.start (W := w) (Nat.le_refl w.heap.size)).alloc #[.int .u8 s.fin, .int .u8 s.trucks, .int .u8 s.troom, .int .u8 s.bikes, .int .u8 s.broom, .slice sp.SA s.sats.length sp.sc, .slice sp.CA s.custs.length sp.cc, .slice sp.KA s.cost.length sp.kc, .slice sp.TA s.time.length sp.tc, .bool s.tight, .bool s.loose] 49).alloc #[.slice a.SA u.sats.length a.sc, .slice a.OA u.order.length a.oc, .slice a.CA u.cuts.length a.cc] 51).alloc #[.int .u8 sk, .int .i8 sa, .int .i8 si, .int .i8 sbb, .int .i8 sj] 25
 simp only [size_alloc'] at hS
 obtain ⟨sb, hsb⟩ : ∃ sb, w.heap.size = sb := ⟨_, rfl⟩
 obtain ⟨wb, hwb⟩ : ∃ wb, sb + 1 = wb := ⟨_, rfl⟩
 obtain ⟨mb, hmb⟩ : ∃ mb, wb + 1 = mb := ⟨_, rfl⟩
 obtain ⟨w1, hw1⟩ : ∃ w1, (((w.alloc (.cells #[.int .u8 s.fin, .int .u8 s.trucks, .int .u8 s.troom, .int .u8 s.bikes, .int .u8 s.broom, .slice sp.SA s.sats.length sp.sc, .slice sp.CA s.custs.length sp.cc, .slice sp.KA s.cost.length sp.kc, .slice sp.TA s.time.length sp.tc, .bool s.tight, .bool s.loose] 49)).alloc (.cells #[.slice a.SA u.sats.length a.sc, .slice a.OA u.order.length a.oc, .slice a.CA u.cuts.length a.cc] 51)).alloc (.cells #[.int .u8 sk, .int .i8 sa, .int .i8 si, .int .i8 sbb, .int .i8 sj] 25)) = w1 := ⟨_, rfl⟩
 have HS1 : Hid (SL w w.heap.size [.blk mb #[.int .u8 sk, .int .i8 sa, .int .i8 si, .int .i8 sbb, .int .i8 sj] 25, .blk wb #[.slice a.SA u.sats.length a.sc, .slice a.OA u.order.length a.oc, .slice a.CA u.cuts.length a.cc] 51, .blk sb #[.int .u8 s.fin, .int .u8 s.trucks, .int .u8 s.troom, .int .u8 s.bikes, .int .u8 s.broom, .slice sp.SA s.sats.length sp.sc, .slice sp.CA s.custs.length sp.cc, .slice sp.KA s.cost.length sp.kc, .slice sp.TA s.time.length sp.tc, .bool s.tight, .bool s.loose] 49] w1) := Lib.hid (by rw [← hmb, ← hwb, ← hsb, ← hw1]; exact hS)
 have HBL0 := Lib.hid (And.intro hsb (And.intro hwb (And.intro hmb hw1)))
 clear hx hI0 hL0 hok hW hu hl hm hS hsb hwb hmb hw1 hmv hw ha hb
 go_enter Try.func7, Try.ntmps7
 go_upto_region 1 with fail
 rw [HBL0.out.2.2.2, HBL0.out.1, HBL0.out.2.1, HBL0.out.2.2.1]
 go_upto_region 3 with (go_at_call 19; (with_reducible refine (awake24 _).mono ?_); rintro e w2 ⟨rfl, hb2⟩)
 have HS2 := Lib.hid (HS1.out.call hb2)
 clear hb2 HS1
 go_upto_region 4 with first
  | (refine wpList_load_row rfl 49 _ rfl sb rfl _ #[.int .u8 s.fin, .int .u8 s.trucks, .int .u8 s.troom, .int .u8 s.bikes, .int .u8 s.broom, .slice sp.SA s.sats.length sp.sc, .slice sp.CA s.custs.length sp.cc, .slice sp.KA s.cost.length sp.kc, .slice sp.TA s.time.length sp.tc, .bool s.tight, .bool s.loose] _ _ (HS2.out.blk 2 rfl) Try.underlying49 rfl HSS.out ?_)
  | (go_at_call 20; (with_reducible refine (HMK.out _ HS2.out.below).mono ?_); rintro e w3 ⟨p, hk, ht, rfl, hl1, hl2, hq⟩
     have HI3 := Lib.hid (made_in hl1 hl2 hq).1
     have HS3 := Lib.hid (HS2.out.call hq.below)
     clear hq hl1 hl2 HMK HS2
     unfold InstV.cells)
 obtain ⟨x, hxq⟩ : ∃ x, s.mk_ = x := ⟨_, rfl⟩
 rw [hxq] at HX HI3 ⊢
 obtain ⟨XC, hXC⟩ : ∃ XC : Array Value, #[.int .i64 x.fin, .int .i64 x.tm, .int .i64 x.tr, .int .i64 x.bm, .int .i64 x.br, .slice p.SA x.sats.length p.sc, .slice p.CA x.custs.length p.cc, .slice p.KA x.cost.length p.kc, .slice p.TA x.time.length p.tc] = XC := ⟨_, rfl⟩
 have HXC : Hid (x.cells p = XC) := Lib.hid hXC
 rw [hXC]
 have HXS : Hid (XC.size = 9) := Lib.hid (by rw [← hXC]; rfl)
 have HXI : Hid ((Try.prog.info? 58).map (·.size) = some XC.size) := Lib.hid (by rw [HXS.out]; exact HIS.out)
 have HS4 := Lib.hid (HS3.out.alloc XC 58)
 have HI4 : Hid (InstIn (w3.alloc (.cells XC 58)) (w3.alloc (.cells XC 58)).heap.size p x) := Lib.hid (HI3.out.at_ ((Below.refl _ _).alloc (Nat.le_refl _) _))
 obtain ⟨ib, hib⟩ : ∃ ib, w3.heap.size = ib := ⟨_, rfl⟩
 rw [hib] at HS4 ⊢
 generalize (w3.alloc (.cells XC 58)) = w4 at *
 clear hxq hXC hib HI3 HS3
 have HDR : Hid (Calls Try.prog 22 #[.agg XC, .agg #[.slice a.SA u.sats.length a.sc, .slice a.OA u.order.length a.oc, .slice a.CA u.cuts.length a.cc]] w4 (PlanPost w4 (draftM x u))) := Lib.hid (by
  have h := drawn_draft x p u a w4 HI4.out (wishIn_more (HW.out.1.below HS4.out.below) HS4.out.below.size) HX.out HW.out.2.1 HW.out.2.2
  rw [HXC.out] at h; exact h)
 obtain ⟨q0, hq0⟩ : ∃ q0, draftM x u = q0 := ⟨_, rfl⟩
 have HQ0 : Hid (PlanS q0) := Lib.hid (by rw [← hq0]; exact draft_S HX.out)
 rw [hq0] at HDR
 clear hq0
 go_upto_region 5 with first
  | (refine wpList_load_row rfl 58 _ rfl ib rfl _ XC _ _ (HS4.out.blk 0 rfl) Try.underlying58 rfl HXI.out ?_)
  | (refine wpList_load_row rfl 51 _ rfl wb rfl _ #[.slice a.SA u.sats.length a.sc, .slice a.OA u.order.length a.oc, .slice a.CA u.cuts.length a.cc] _ _ (HS4.out.blk 2 rfl) Try.underlying51 rfl HWS.out ?_)
  | (go_at_call 22; (with_reducible refine HDR.out.mono ?_); rintro e w5 ⟨TA0, tc0, BA0, bc0, rfl, hP0, hT0, hB0⟩
     have HP0 := Lib.hid hP0
     have HS5 := Lib.hid (HS4.out.call hB0)
     have HI5 := Lib.hid (HI4.out.at_ hB0)
     clear hP0 hT0 hB0 HDR)
  | (go_at_call 21; (with_reducible refine (drawn_spoiltT _ _ _ _ q0 _ _ _ _ HP0.out HQ0.out HNUM.out.1 HNUM.out.2.1 HNUM.out.2.2).mono ?_); rintro e w6 ⟨q, hQL, TA, tc, BA, bc, rfl, hP6, hT6, hB6⟩
     have HP6 := Lib.hid (And.intro hP6 hQL)
     have HS6 := Lib.hid (HS5.out.call hB6)
     have HI6 := Lib.hid (HI5.out.at_ hB6)
     clear hP6 hT6 hQL hB6 HP0 HQ0 HNUM HI5)
 obtain ⟨bs, hbs⟩ : ∃ bs, q.bikes = bs := ⟨_, rfl⟩
 have HBK : Hid (Bikes w6 w6.heap.size BA bs) := Lib.hid (by rw [← hbs]; exact HP6.out.1.bikes)
 have HBL : Hid (bs.length ≤ 90000 ∧ (allStops bs).length ≤ 90000) := Lib.hid (by rw [← hbs]; exact ⟨HP6.out.2.bikes, HP6.out.2.custs⟩)
 rw [hbs]
 clear hbs HP6 HS4 HS5 HI4 HI0 HW HBL0 HXS HXI HIS HSS HWS
 obtain ⟨k2, a2, i2, b2, j2⟩ := mv
 have hlt1 := (HS6.out.lt 0 rfl).2
 have hlt2 := (HS6.out.lt 1 rfl).2
 have HLT := Lib.hid (And.intro hlt1 (And.intro hlt2 True.intro))
 clear hlt1 hlt2
 have HCI := Lib.hid (change_is x bs ⟨k2, a2, i2, b2, j2⟩)
 obtain ⟨o, ho⟩ : ∃ o, applyM x.sats.length bs ⟨k2, a2, i2, b2, j2⟩ = o := ⟨_, rfl⟩
 have HLL : Hid (∀ l ok, AB o l ok → l.length ≤ 100000 ∧ ∀ b ∈ l, b.stops.length ≤ 100000) := Lib.hid (fun l ok h => by
  rw [← ho] at h
  have h1 := ab_len h
  have h2 := HBL.out
  exact ⟨by omega, fun b hb => by have := stops_le_all hb; omega⟩)
 have HCH : Hid (∀ wx, Below w6.heap.size w6 wx → Calls Try.prog 25 #[.agg #[.int .i64 x.fin, .int .i64 x.tm, .int .i64 x.tr, .int .i64 x.bm, .int .i64 x.br, .slice p.SA x.sats.length p.sc, .slice p.CA x.custs.length p.cc, .slice p.KA x.cost.length p.kc, .slice p.TA x.time.length p.tc], .slice BA bs.length bc, .agg #[.int .i64 k2, .int .i64 a2, .int .i64 i2, .int .i64 b2, .int .i64 j2]] wx (ChangePost wx (o.map fun now => roundsOf x now - roundsOf x bs))) := Lib.hid (fun wx hb => by
  have h := change_any x p BA bc bs k2 a2 i2 b2 j2 wx (HI6.out.at_ hb) HX.out (bikes_more (HBK.out.below hb) hb.size) (by have := HBL.out; omega) (by have := HBL.out; omega)
  rw [HCI.out, ho] at h
  exact h)
 have HAP : Hid (∀ wx, Below w6.heap.size w6 wx → Calls Try.prog 16 #[.int .i64 (x.sats.length : Nat), .slice BA bs.length bc, .agg #[.int .i64 k2, .int .i64 a2, .int .i64 i2, .int .i64 b2, .int .i64 j2]] wx (ABPost wx o)) := Lib.hid (fun wx hb => by
  have h := lab_any (x.sats.length : Nat) BA bc bs k2 a2 i2 b2 j2 wx (bikes_more (HBK.out.below hb) hb.size) (by have := HBL.out; omega) (by have := HBL.out; omega)
  rw [ho] at h
  exact h)
 have HRO : Hid (∀ A c l wx, l.length ≤ 100000 → (∀ b ∈ l, b.stops.length ≤ 100000) → Below w6.heap.size w6 wx → Bikes wx wx.heap.size A l → Calls Try.prog 24 #[.agg #[.int .i64 x.fin, .int .i64 x.tm, .int .i64 x.tr, .int .i64 x.bm, .int .i64 x.br, .slice p.SA x.sats.length p.sc, .slice p.CA x.custs.length p.cc, .slice p.KA x.cost.length p.kc, .slice p.TA x.time.length p.tc], .slice A l.length c] wx fun e w' => e = .returned (.int .i64 (roundsOf x l)) ∧ Below wx.heap.size wx w') := Lib.hid (fun A c l wx h1 h2 hb hB => lrounds_any x p A c l wx (HI6.out.at_ hb) HX.out hB h1 h2)
 have HRI : Hid (∀ l : List BikeV, l.length ≤ 100000 → (∀ b ∈ l, b.stops.length ≤ 100000) → 0 ≤ roundsOf x l ∧ roundsOf x l ≤ 400000000000) := Lib.hid (fun l h1 h2 => by
  have h := roundsOf_in HX.out h2 l.length (Nat.le_refl _)
  rw [List.take_length] at h
  omega)
 have HBS : Hid (bs.length ≤ 100000 ∧ ∀ b ∈ bs, b.stops.length ≤ 100000) := Lib.hid ⟨by have := HBL.out; omega, fun b hb => by have := stops_le_all hb; have := HBL.out; omega⟩
 clear ho HCI
 go_cut [15, 16] (fun vd vo wx => ∃ d okk, vd = .int .i64 d ∧ vo = .bool okk ∧ (match o.map (fun now => roundsOf x now - roundsOf x bs) with | none => d = 0 ∧ okk = false | some n => d = n ∧ okk = true) ∧ Below w6.heap.size w6 wx)
 case first =>
  have hb7 : Below w6.heap.size w6 w6 := Below.refl _ _
  refine wp_region_ph [0, 1, 2, 3, 4, 5, 6, 7, 8] [9] [] (SL.start (W := w6) (Nat.le_refl _)) (List.Sublist.refl _) (by kernel_rfl) (by kernel_rfl) (.cons rfl .nil) (fun C cw _ hC w7 hS7 => ?_)
  have hbc : ∀ c, Below w6.heap.size w6 (cw c) := fun c => hb7.trans ((hC c).below.mono hb7.size)
  have qi0 : ∀ c, (cw c).cell? ⟨ib, 0, none⟩ = some (.int .i64 x.fin) := fun c => ((hbc c).cell (p := ⟨ib, 0, none⟩) HLT.out.1).trans (HS6.out.cell 0 rfl 0 (by rw [← HXC.out]; rfl))
  have qi1 : ∀ c, (cw c).cell? ⟨ib, 1, none⟩ = some (.int .i64 x.tm) := fun c => ((hbc c).cell (p := ⟨ib, 1, none⟩) HLT.out.1).trans (HS6.out.cell 0 rfl 1 (by rw [← HXC.out]; rfl))
  have qi2 : ∀ c, (cw c).cell? ⟨ib, 2, none⟩ = some (.int .i64 x.tr) := fun c => ((hbc c).cell (p := ⟨ib, 2, none⟩) HLT.out.1).trans (HS6.out.cell 0 rfl 2 (by rw [← HXC.out]; rfl))
  have qi3 : ∀ c, (cw c).cell? ⟨ib, 3, none⟩ = some (.int .i64 x.bm) := fun c => ((hbc c).cell (p := ⟨ib, 3, none⟩) HLT.out.1).trans (HS6.out.cell 0 rfl 3 (by rw [← HXC.out]; rfl))
  have qi4 : ∀ c, (cw c).cell? ⟨ib, 4, none⟩ = some (.int .i64 x.br) := fun c => ((hbc c).cell (p := ⟨ib, 4, none⟩) HLT.out.1).trans (HS6.out.cell 0 rfl 4 (by rw [← HXC.out]; rfl))
  have qi5 : ∀ c, (cw c).cell? ⟨ib, 5, none⟩ = some (.slice p.SA x.sats.length p.sc) := fun c => ((hbc c).cell (p := ⟨ib, 5, none⟩) HLT.out.1).trans (HS6.out.cell 0 rfl 5 (by rw [← HXC.out]; rfl))
  have qi6 : ∀ c, (cw c).cell? ⟨ib, 6, none⟩ = some (.slice p.CA x.custs.length p.cc) := fun c => ((hbc c).cell (p := ⟨ib, 6, none⟩) HLT.out.1).trans (HS6.out.cell 0 rfl 6 (by rw [← HXC.out]; rfl))
  have qi7 : ∀ c, (cw c).cell? ⟨ib, 7, none⟩ = some (.slice p.KA x.cost.length p.kc) := fun c => ((hbc c).cell (p := ⟨ib, 7, none⟩) HLT.out.1).trans (HS6.out.cell 0 rfl 7 (by rw [← HXC.out]; rfl))
  have qi8 : ∀ c, (cw c).cell? ⟨ib, 8, none⟩ = some (.slice p.TA x.time.length p.tc) := fun c => ((hbc c).cell (p := ⟨ib, 8, none⟩) HLT.out.1).trans (HS6.out.cell 0 rfl 8 (by rw [← HXC.out]; rfl))
  have qm0 : ∀ c, (cw c).cell? ⟨mb, 0, none⟩ = some (.int .u8 sk) := fun c => ((hbc c).cell (p := ⟨mb, 0, none⟩) HLT.out.2.1).trans (HS6.out.cell 1 rfl 0 rfl)
  have qm1 : ∀ c, (cw c).cell? ⟨mb, 1, none⟩ = some (.int .i8 sa) := fun c => ((hbc c).cell (p := ⟨mb, 1, none⟩) HLT.out.2.1).trans (HS6.out.cell 1 rfl 1 rfl)
  have qm2 : ∀ c, (cw c).cell? ⟨mb, 2, none⟩ = some (.int .i8 si) := fun c => ((hbc c).cell (p := ⟨mb, 2, none⟩) HLT.out.2.1).trans (HS6.out.cell 1 rfl 2 rfl)
  have qm3 : ∀ c, (cw c).cell? ⟨mb, 3, none⟩ = some (.int .i8 sbb) := fun c => ((hbc c).cell (p := ⟨mb, 3, none⟩) HLT.out.2.1).trans (HS6.out.cell 1 rfl 3 rfl)
  have qm4 : ∀ c, (cw c).cell? ⟨mb, 4, none⟩ = some (.int .i8 sj) := fun c => ((hbc c).cell (p := ⟨mb, 4, none⟩) HLT.out.2.1).trans (HS6.out.cell 1 rfl 4 rfl)
  refine ph_look 0 rfl (by kernel_rfl) rfl (by kernel_rfl) rfl rfl (fun Kv hK => ?_); go_big_quiet_op; refine hK _ ?_; clear hK Kv
  refine ph_look 1 rfl (by kernel_rfl) rfl (by kernel_rfl) rfl rfl (fun Kv hK => ?_); go_big_quiet_op; refine hK _ ?_; clear hK Kv
  refine ph_look 2 rfl (by kernel_rfl) rfl (by kernel_rfl) rfl rfl (fun Kv hK => ?_); go_big_quiet_op; refine hK _ ?_; clear hK Kv
  refine ph_eff 3 rfl (by kernel_rfl) rfl rfl (fun Kv hK => ?_)
  go_simp
  refine eff_call (HMC.out _) (fun e w8 h => ?_)
  obtain ⟨rfl, hb8⟩ := h
  have hk8 := hS7.call hb8
  refine .inl ⟨_, rfl, hk8, hK _ _ ?_⟩
  clear hK Kv
  unfold MoveV.cells
  refine ph_eff 4 rfl (by kernel_rfl) rfl rfl (fun Kv hK => ?_)
  go_simp
  refine eff_call (HCH.out _ hk8.below) (fun e w9 h => ?_)
  obtain ⟨⟨d, okk, rfl, hd⟩, hb9⟩ := h
  have hk9 := hk8.call hb9
  refine .inl ⟨_, rfl, hk9, hK _ _ ?_⟩
  clear hK Kv
  refine ph_look 5 rfl (by kernel_rfl) rfl (by kernel_rfl) rfl rfl (fun Kv hK => ?_); go_big_quiet_op; refine hK _ ?_; clear hK Kv
  refine ph_look 6 rfl (by kernel_rfl) rfl (by kernel_rfl) rfl rfl (fun Kv hK => ?_); go_big_quiet_op; refine hK _ ?_; clear hK Kv
  refine ph_look 7 rfl (by kernel_rfl) rfl (by kernel_rfl) rfl rfl (fun Kv hK => ?_); go_big_quiet_op; refine hK _ ?_; clear hK Kv
  refine ph_look 8 rfl (by kernel_rfl) rfl (by kernel_rfl) rfl rfl (fun Kv hK => ?_); go_big_quiet_op; refine hK _ ?_; clear hK Kv
  clear hk8 hb8 hb9
  refine ph_end (by kernel_rfl) ?_
  have HB9 := Lib.hid hk9.below
  have HD := Lib.hid hd
  clear hk9 hC hS7 hd hb7 hbc
  go_wp2_with fail
  go_meet
  exact ⟨_, _, rfl, rfl, HD.out, HB9.out⟩
 case rest =>
  obtain ⟨d, okk, rfl, rfl, hd, hb7⟩ := hcut
  have HD1 := Lib.hid hd
  have HB7 := Lib.hid hb7
  clear hd hb7 HCH
  obtain ⟨w7, rfl⟩ : ∃ w, w = wc := ⟨_, rfl⟩
  go_upto_region 6 with fail
  go_cut [17, 18] (fun vd vo wx => ∃ A c l okk, vd = .slice A (List.length l) c ∧ vo = .bool okk ∧ AB o l okk ∧ Bikes wx wx.heap.size A l ∧ Below w7.heap.size w7 wx)
  case first =>
   obtain ⟨w0, rfl⟩ : ∃ w, w = w7 := ⟨_, rfl⟩
   have hb7 : Below w6.heap.size w6 w0 := HB7.out
   refine wp_region_ph [0, 1, 2, 3, 4, 5, 6, 7, 8, 9, 10] [11] [] (SL.start (W := w0) (Nat.le_refl _)) (List.Sublist.refl _) (by kernel_rfl) (by kernel_rfl) (.cons rfl .nil) (fun C cw _ hC w7 hS7 => ?_)
   have hbc : ∀ c, Below w6.heap.size w6 (cw c) := fun c => hb7.trans ((hC c).below.mono hb7.size)
   have qi0 : ∀ c, (cw c).cell? ⟨ib, 0, none⟩ = some (.int .i64 x.fin) := fun c => ((hbc c).cell (p := ⟨ib, 0, none⟩) HLT.out.1).trans (HS6.out.cell 0 rfl 0 (by rw [← HXC.out]; rfl))
   have qi1 : ∀ c, (cw c).cell? ⟨ib, 1, none⟩ = some (.int .i64 x.tm) := fun c => ((hbc c).cell (p := ⟨ib, 1, none⟩) HLT.out.1).trans (HS6.out.cell 0 rfl 1 (by rw [← HXC.out]; rfl))
   have qi2 : ∀ c, (cw c).cell? ⟨ib, 2, none⟩ = some (.int .i64 x.tr) := fun c => ((hbc c).cell (p := ⟨ib, 2, none⟩) HLT.out.1).trans (HS6.out.cell 0 rfl 2 (by rw [← HXC.out]; rfl))
   have qi3 : ∀ c, (cw c).cell? ⟨ib, 3, none⟩ = some (.int .i64 x.bm) := fun c => ((hbc c).cell (p := ⟨ib, 3, none⟩) HLT.out.1).trans (HS6.out.cell 0 rfl 3 (by rw [← HXC.out]; rfl))
   have qi4 : ∀ c, (cw c).cell? ⟨ib, 4, none⟩ = some (.int .i64 x.br) := fun c => ((hbc c).cell (p := ⟨ib, 4, none⟩) HLT.out.1).trans (HS6.out.cell 0 rfl 4 (by rw [← HXC.out]; rfl))
   have qi5 : ∀ c, (cw c).cell? ⟨ib, 5, none⟩ = some (.slice p.SA x.sats.length p.sc) := fun c => ((hbc c).cell (p := ⟨ib, 5, none⟩) HLT.out.1).trans (HS6.out.cell 0 rfl 5 (by rw [← HXC.out]; rfl))
   have qi6 : ∀ c, (cw c).cell? ⟨ib, 6, none⟩ = some (.slice p.CA x.custs.length p.cc) := fun c => ((hbc c).cell (p := ⟨ib, 6, none⟩) HLT.out.1).trans (HS6.out.cell 0 rfl 6 (by rw [← HXC.out]; rfl))
   have qi7 : ∀ c, (cw c).cell? ⟨ib, 7, none⟩ = some (.slice p.KA x.cost.length p.kc) := fun c => ((hbc c).cell (p := ⟨ib, 7, none⟩) HLT.out.1).trans (HS6.out.cell 0 rfl 7 (by rw [← HXC.out]; rfl))
   have qi8 : ∀ c, (cw c).cell? ⟨ib, 8, none⟩ = some (.slice p.TA x.time.length p.tc) := fun c => ((hbc c).cell (p := ⟨ib, 8, none⟩) HLT.out.1).trans (HS6.out.cell 0 rfl 8 (by rw [← HXC.out]; rfl))
   have qm0 : ∀ c, (cw c).cell? ⟨mb, 0, none⟩ = some (.int .u8 sk) := fun c => ((hbc c).cell (p := ⟨mb, 0, none⟩) HLT.out.2.1).trans (HS6.out.cell 1 rfl 0 rfl)
   have qm1 : ∀ c, (cw c).cell? ⟨mb, 1, none⟩ = some (.int .i8 sa) := fun c => ((hbc c).cell (p := ⟨mb, 1, none⟩) HLT.out.2.1).trans (HS6.out.cell 1 rfl 1 rfl)
   have qm2 : ∀ c, (cw c).cell? ⟨mb, 2, none⟩ = some (.int .i8 si) := fun c => ((hbc c).cell (p := ⟨mb, 2, none⟩) HLT.out.2.1).trans (HS6.out.cell 1 rfl 2 rfl)
   have qm3 : ∀ c, (cw c).cell? ⟨mb, 3, none⟩ = some (.int .i8 sbb) := fun c => ((hbc c).cell (p := ⟨mb, 3, none⟩) HLT.out.2.1).trans (HS6.out.cell 1 rfl 3 rfl)
   have qm4 : ∀ c, (cw c).cell? ⟨mb, 4, none⟩ = some (.int .i8 sj) := fun c => ((hbc c).cell (p := ⟨mb, 4, none⟩) HLT.out.2.1).trans (HS6.out.cell 1 rfl 4 rfl)
   refine ph_look 0 rfl (by kernel_rfl) rfl (by kernel_rfl) rfl rfl (fun Kv hK => ?_); go_big_quiet_op; refine hK _ ?_; clear hK Kv
   refine ph_look 1 rfl (by kernel_rfl) rfl (by kernel_rfl) rfl rfl (fun Kv hK => ?_); go_big_quiet_op; refine hK _ ?_; clear hK Kv
   refine ph_len 2 _ _ _ _ _ (by kernel_rfl) rfl (by kernel_rfl) rfl (by kernel_rfl) rfl rfl rfl (fun Kv hK => ?_); go_simp; refine hK _ ?_; clear hK Kv
   refine ph_look 3 rfl (by kernel_rfl) rfl (by kernel_rfl) rfl rfl (fun Kv hK => ?_); go_big_quiet_op; refine hK _ ?_; clear hK Kv
   refine ph_look 4 rfl (by kernel_rfl) rfl (by kernel_rfl) rfl rfl (fun Kv hK => ?_); go_big_quiet_op; refine hK _ ?_; clear hK Kv
   refine ph_eff 5 rfl (by kernel_rfl) rfl rfl (fun Kv hK => ?_)
   go_simp
   refine eff_call (HMC.out _) (fun e w8 h => ?_)
   obtain ⟨rfl, hb8⟩ := h
   have hk8 := hS7.call hb8
   refine .inl ⟨_, rfl, hk8, hK _ _ ?_⟩
   clear hK Kv
   unfold MoveV.cells
   refine ph_eff 6 rfl (by kernel_rfl) rfl rfl (fun Kv hK => ?_)
   go_simp
   refine eff_call (HAP.out _ (hb7.trans (hk8.below.mono hb7.size))) (fun e w9 h => ?_)
   obtain ⟨A8, c8, l8, ok8, rfl, hm, hB8, hb9⟩ := h
   have hk9 := hk8.call hb9
   refine .inl ⟨_, rfl, hk9, hK _ _ ?_⟩
   clear hK Kv
   refine ph_look 7 rfl (by kernel_rfl) rfl (by kernel_rfl) rfl rfl (fun Kv hK => ?_); go_big_quiet_op; refine hK _ ?_; clear hK Kv
   refine ph_look 8 rfl (by kernel_rfl) rfl (by kernel_rfl) rfl rfl (fun Kv hK => ?_); go_big_quiet_op; refine hK _ ?_; clear hK Kv
   refine ph_look 9 rfl (by kernel_rfl) rfl (by kernel_rfl) rfl rfl (fun Kv hK => ?_); go_big_quiet_op; refine hK _ ?_; clear hK Kv
   refine ph_look 10 rfl (by kernel_rfl) rfl (by kernel_rfl) rfl rfl (fun Kv hK => ?_); go_big_quiet_op; refine hK _ ?_; clear hK Kv
   clear hk8 hb8 hb9
   refine ph_end (by kernel_rfl) ?_
   have HB9 := Lib.hid hk9.below
   have HD := Lib.hid (And.intro hm hB8)
   clear hk9 hC hS7 hm hB8 hb7 hbc
   go_wp2_with fail
   go_meet
   exact ⟨_, _, _, _, rfl, rfl, HD.out.1, HD.out.2, HB9.out⟩
  case rest =>
   obtain ⟨A8, c8, l8, ok8, rfl, rfl, hm8, hB8, hb8⟩ := hcut
   have HM8 := Lib.hid (And.intro hm8 (And.intro hB8 hb8))
   clear hm8 hB8 hb8 HAP
   have HB8 := Lib.hid (HB7.out.trans (HM8.out.2.2.mono HB7.out.size))
   cases o with
   | none =>
     obtain ⟨rfl, rfl⟩ := HD1.out
     obtain ⟨rfl, rfl⟩ := HM8.out.1
     have HBE := Lib.hid (HS6.out.below.trans (HB8.out.mono HS6.out.below.size))
     clear HM8 HD1
     go_wp2_with fail
     go_ret
     exact ⟨rfl, HBE.out⟩
   | some now =>
     obtain ⟨hd0, rfl⟩ := HD1.out
     have hd : d = roundsOf x now - roundsOf x bs := hd0
     obtain ⟨hl8, rfl⟩ := HM8.out.1
     have hl9 := HLL.out l8 true HM8.out.1
     have hr1 := HRI.out l8 hl9.1 hl9.2
     have hr2 := HRI.out bs HBS.out.1 HBS.out.2
     rw [← hl8] at hd
     have HR1 : Hid (∀ wx, Below wc.heap.size wc wx → Calls Try.prog 24 #[.agg #[.int .i64 x.fin, .int .i64 x.tm, .int .i64 x.tr, .int .i64 x.bm, .int .i64 x.br, .slice p.SA x.sats.length p.sc, .slice p.CA x.custs.length p.cc, .slice p.KA x.cost.length p.kc, .slice p.TA x.time.length p.tc], .slice A8 l8.length c8] wx fun e w' => e = .returned (.int .i64 (roundsOf x l8)) ∧ Below wx.heap.size wx w') := Lib.hid (fun wx hb => HRO.out A8 c8 l8 wx hl9.1 hl9.2 (HB8.out.trans (hb.mono HB8.out.size)) (bikes_more (HM8.out.2.1.below hb) hb.size))
     have HR2 : Hid (∀ wx, Below wc.heap.size wc wx → Calls Try.prog 24 #[.agg #[.int .i64 x.fin, .int .i64 x.tm, .int .i64 x.tr, .int .i64 x.bm, .int .i64 x.br, .slice p.SA x.sats.length p.sc, .slice p.CA x.custs.length p.cc, .slice p.KA x.cost.length p.kc, .slice p.TA x.time.length p.tc], .slice BA bs.length bc] wx fun e w' => e = .returned (.int .i64 (roundsOf x bs)) ∧ Below wx.heap.size wx w') := Lib.hid (fun wx hb => by
      have hb2 := HB8.out.trans (hb.mono HB8.out.size)
      exact HRO.out BA bc bs wx HBS.out.1 HBS.out.2 hb2 (bikes_more (HBK.out.below hb2) hb2.size))
     obtain ⟨r1, hr1'⟩ : ∃ r, roundsOf x l8 = r := ⟨_, rfl⟩
     obtain ⟨r2, hr2'⟩ : ∃ r, roundsOf x bs = r := ⟨_, rfl⟩
     rw [hr1'] at HR1 hr1 hd
     rw [hr2'] at HR2 hr2 hd
     subst hd
     obtain ⟨hr1a, hr1b⟩ := hr1
     obtain ⟨hr2a, hr2b⟩ := hr2
     clear hr1' hr2' hl8 hl9 HD1 hd0
     go_upto_region 9 with fail
     have hb7 := HB8.out
     refine wp_region_sq _ (SL.start (Nat.le_refl wc.heap.size)) (by kernel_rfl) (by kernel_rfl) fun C cw _ hC hin => ?_
     have h1 : ∀ c, Calls Try.prog 24 #[.agg #[.int .i64 x.fin, .int .i64 x.tm, .int .i64 x.tr, .int .i64 x.bm, .int .i64 x.br, .slice p.SA x.sats.length p.sc, .slice p.CA x.custs.length p.cc, .slice p.KA x.cost.length p.kc, .slice p.TA x.time.length p.tc], .slice A8 l8.length c8] (cw c) fun e w' => e = .returned (.int .i64 r1) ∧ ∃ c', w' = cw c' := fun c => sq_call (hC c) hin (HR1.out _ (hC c).below)
     have h2 : ∀ c, Calls Try.prog 24 #[.agg #[.int .i64 x.fin, .int .i64 x.tm, .int .i64 x.tr, .int .i64 x.bm, .int .i64 x.br, .slice p.SA x.sats.length p.sc, .slice p.CA x.custs.length p.cc, .slice p.KA x.cost.length p.kc, .slice p.TA x.time.length p.tc], .slice BA bs.length bc] (cw c) fun e w' => e = .returned (.int .i64 r2) ∧ ∃ c', w' = cw c' := fun c => sq_call (hC c) hin (HR2.out _ (hC c).below)
     have HH1 := Lib.hid h1
     have HH2 := Lib.hid h2
     have hbc : ∀ c, Below w6.heap.size w6 (cw c) := fun c => hb7.trans ((hC c).below.mono hb7.size)
     have qi0 : ∀ c, (cw c).cell? ⟨ib, 0, none⟩ = some (.int .i64 x.fin) := fun c => ((hbc c).cell (p := ⟨ib, 0, none⟩) HLT.out.1).trans (HS6.out.cell 0 rfl 0 (by rw [← HXC.out]; rfl))
     have qi1 : ∀ c, (cw c).cell? ⟨ib, 1, none⟩ = some (.int .i64 x.tm) := fun c => ((hbc c).cell (p := ⟨ib, 1, none⟩) HLT.out.1).trans (HS6.out.cell 0 rfl 1 (by rw [← HXC.out]; rfl))
     have qi2 : ∀ c, (cw c).cell? ⟨ib, 2, none⟩ = some (.int .i64 x.tr) := fun c => ((hbc c).cell (p := ⟨ib, 2, none⟩) HLT.out.1).trans (HS6.out.cell 0 rfl 2 (by rw [← HXC.out]; rfl))
     have qi3 : ∀ c, (cw c).cell? ⟨ib, 3, none⟩ = some (.int .i64 x.bm) := fun c => ((hbc c).cell (p := ⟨ib, 3, none⟩) HLT.out.1).trans (HS6.out.cell 0 rfl 3 (by rw [← HXC.out]; rfl))
     have qi4 : ∀ c, (cw c).cell? ⟨ib, 4, none⟩ = some (.int .i64 x.br) := fun c => ((hbc c).cell (p := ⟨ib, 4, none⟩) HLT.out.1).trans (HS6.out.cell 0 rfl 4 (by rw [← HXC.out]; rfl))
     have qi5 : ∀ c, (cw c).cell? ⟨ib, 5, none⟩ = some (.slice p.SA x.sats.length p.sc) := fun c => ((hbc c).cell (p := ⟨ib, 5, none⟩) HLT.out.1).trans (HS6.out.cell 0 rfl 5 (by rw [← HXC.out]; rfl))
     have qi6 : ∀ c, (cw c).cell? ⟨ib, 6, none⟩ = some (.slice p.CA x.custs.length p.cc) := fun c => ((hbc c).cell (p := ⟨ib, 6, none⟩) HLT.out.1).trans (HS6.out.cell 0 rfl 6 (by rw [← HXC.out]; rfl))
     have qi7 : ∀ c, (cw c).cell? ⟨ib, 7, none⟩ = some (.slice p.KA x.cost.length p.kc) := fun c => ((hbc c).cell (p := ⟨ib, 7, none⟩) HLT.out.1).trans (HS6.out.cell 0 rfl 7 (by rw [← HXC.out]; rfl))
     have qi8 : ∀ c, (cw c).cell? ⟨ib, 8, none⟩ = some (.slice p.TA x.time.length p.tc) := fun c => ((hbc c).cell (p := ⟨ib, 8, none⟩) HLT.out.1).trans (HS6.out.cell 0 rfl 8 (by rw [← HXC.out]; rfl))
     have HBE := Lib.hid (HS6.out.below.trans (HB8.out.mono HS6.out.below.size))
     clear hC hin h1 h2 HS6 HR1 HR2 hbc hb7
     repeat (go_big_quiet_step (first | (go_at_call 24; with_reducible exact HH1.out _) | (go_at_call 24; with_reducible exact HH2.out _)))
     refine wpQuiet_nil ?_
     intro w9 hS9
     have HB9 := Lib.hid (HBE.out.trans (hS9.below.mono HBE.out.size))
     clear hS9 qi0 qi1 qi2 qi3 qi4 qi5 qi6 qi7 qi8
     go_wp2_with fail
     go_ret
     exact ⟨retBool (by simp), HB9.out⟩
set_option maxRecDepth 100000 in
theorem deltaChanges_walk {H : Type} {enc : TypeId × Value → H} {base : Nat} (W : World) (v0 : Value) (d0 : DataW H) (p0 : List MemPlace) (o0 : Value.okWide Try.prog W .any base 49 v0) (k0 : DataW.Trod enc Try.prog W 0 (fun _ => true) true 49 v0 d0 p0)
 (v1 : Value) (d1 : DataW H) (p1 : List MemPlace) (o1 : Value.okWide Try.prog W .any base 51 v1) (k1 : DataW.Trod enc Try.prog W 0 (fun _ => true) true 51 v1 d1 p1) (what : Int) (hw : (Lit.int .u8 what).wf = true) (at_ : Int) (ha : (Lit.int .u8 at_).wf = true) (by_ : Int) (hb : (Lit.int .i8 by_).wf = true)
 (v2 : Value) (d2 : DataW H) (p2 : List MemPlace) (o2 : Value.okWide Try.prog W .any base 25 v2) (k2 : DataW.Trod enc Try.prog W 0 (fun _ => true) true 25 v2 d2 p2) :
 Calls Try.prog 7 #[v0, v1, .int .u8 what, .int .u8 at_, .int .i8 by_, v2] W fun e w' => e = .returned (.bool true) ∧ Below W.heap.size W w' := by
 obtain ⟨sp, s, rfl, hI, hl, hok⟩ := small_open o0 k0
 obtain ⟨a, u, rfl, hW, hu, hul⟩ := wish_open o1 k1
 obtain ⟨m, rfl, hm⟩ := smm_open o2 k2
 exact deltaChanges_any sp s a u what at_ by_ m.kind m.a m.i m.b m.j W hI hl hok hW hu hul (by simp [Lit.wf, IntKind.min, IntKind.max, IntKind.signed, IntKind.bits] at hw; omega) (by simp [Lit.wf, IntKind.min, IntKind.max, IntKind.signed, IntKind.bits] at ha; omega) (by simp [Lit.wf, IntKind.min, IntKind.max, IntKind.signed, IntKind.bits] at hb; omega) hm
end Go.Proofs.Ytpbhbmdghafkmaa
