/- The walk of law DeltaRaw, of plans whose stops an int holds. (printed by gen/deltaraw.py) -/
import Derived.Test.YtpbhbmdghafkmaaMoveRaw
import Derived.Test.YtpbhbmdghafkmaaSmallOpen
import Derived.Test.YtpbhbmdghafkmaaMakeW
import Derived.Test.YtpbhbmdghafkmaaAwake24
import Derived.Test.YtpbhbmdghafkmaaLRounds24
import Derived.Test.YtpbhbmdghafkmaaDelta24
import Derived.Test.YtpbhbmdghafkmaaPhase
import Derived.Deep.CutBlock
import Derived.Deep.CutRange
import Derived.Deep.DeepCutAuto
namespace Go.Proofs.Ytpbhbmdghafkmaa
open Go.ChangeShapes Go.WideShapes Go.ChangeAt Go.RowKit
set_option linter.unusedVariables false
set_option linter.unusedSimpArgs false
theorem size_alloc9 (w : World) (o : Obj) : (w.alloc o).heap.size = w.heap.size + 1 := Array.size_push _
set_option maxRecDepth 100000 in
set_option maxHeartbeats 16000000 in
theorem deltaRaw_any (sp : IAt) (s : SmallV) (TA BA : Option Addr) (tc bc : Nat) (q : PlanV) (k2 a2 i2 b2 j2 : Int) (w : World) (hI0 : SmallIn w w.heap.size sp s) (hL0 : SmallL s) (hok : s.ok) (hP : PlanIn w w.heap.size TA BA q) (hW : PlanW q) :
 Calls Try.prog 8 #[.agg (s.vals sp), .agg #[.slice TA q.trucks.length tc, .slice BA q.bikes.length bc], .agg #[.int .i64 k2, .int .i64 a2, .int .i64 i2, .int .i64 b2, .int .i64 j2]] w fun e w' => e = .returned (.bool true) ∧ Below w.heap.size w w' := by
 have hx := SmallV.small hok
 have HX := Lib.hid hx
 have HLT0 : Hid (∀ wx, Below w.heap.size w wx → Calls Try.prog 18 #[.agg #[.slice TA q.trucks.length tc, .slice BA q.bikes.length bc]] wx fun e w' => e = .returned (.bool (decide (q.many ≤ 200))) ∧ Below wx.heap.size wx w') := Lib.hid (fun wx hb => light_any TA BA tc bc q wx ⟨trucks_more (hP.trucks.below hb) hb.size, bikes_more (hP.bikes.below hb) hb.size⟩ hW)
 have HMY : Hid (q.many ≤ 200 → q.bikes.length ≤ 90000 ∧ (allStops q.bikes).length ≤ 90000) := Lib.hid (fun h => by unfold PlanV.many at h; omega)
 have HBI : Hid (∀ wx, Below w.heap.size w wx → Bikes wx wx.heap.size BA q.bikes) := Lib.hid (fun wx hb => bikes_more (hP.bikes.below hb) hb.size)
 have HIS : Hid ((Try.prog.info? 58).map (·.size) = some 9) := Lib.hid (by kernel_rfl)
 have HSS : Hid ((Try.prog.info? 49).map (·.size) = some 11) := Lib.hid (by kernel_rfl)
 have HMK : Hid (∀ wx, Below w.heap.size w wx → Calls Try.prog 20 #[.agg (s.vals sp)] wx (MakePost wx s.mk_)) := Lib.hid (fun wx hb => make_any s sp wx ((hI0.below hb).more hb.size) hL0 hok)
 obtain ⟨bs, hbs⟩ : ∃ l, q.bikes = l := ⟨_, rfl⟩
 rw [hbs] at HMY HBI HLT0 ⊢
 unfold SmallV.vals at HMK
 unfold SmallV.vals
 have hS := (((SL.start (W := w) (Nat.le_refl w.heap.size)).alloc #[.int .u8 s.fin, .int .u8 s.trucks, .int .u8 s.troom, .int .u8 s.bikes, .int .u8 s.broom, .slice sp.SA s.sats.length sp.sc, .slice sp.CA s.custs.length sp.cc, .slice sp.KA s.cost.length sp.kc, .slice sp.TA s.time.length sp.tc, .bool s.tight, .bool s.loose] 49).alloc #[.slice TA q.trucks.length tc, .slice BA bs.length bc] 39).alloc #[.int .i64 k2, .int .i64 a2, .int .i64 i2, .int .i64 b2, .int .i64 j2] 33
 simp only [size_alloc9] at hS
 obtain ⟨sb, hsb⟩ : ∃ sb, w.heap.size = sb := ⟨_, rfl⟩
 obtain ⟨pb, hpb⟩ : ∃ b, sb + 1 = b := ⟨_, rfl⟩
 obtain ⟨mb, hmb⟩ : ∃ mb, pb + 1 = mb := ⟨_, rfl⟩
 obtain ⟨w1, hw1⟩ : ∃ w1, (((w.alloc (.cells #[.int .u8 s.fin, .int .u8 s.trucks, .int .u8 s.troom, .int .u8 s.bikes, .int .u8 s.broom, .slice sp.SA s.sats.length sp.sc, .slice sp.CA s.custs.length sp.cc, .slice sp.KA s.cost.length sp.kc, .slice sp.TA s.time.length sp.tc, .bool s.tight, .bool s.loose] 49)).alloc (.cells #[.slice TA q.trucks.length tc, .slice BA bs.length bc] 39)).alloc (.cells #[.int .i64 k2, .int .i64 a2, .int .i64 i2, .int .i64 b2, .int .i64 j2] 33)) = w1 := ⟨_, rfl⟩
 have HS1 : Hid (SL w w.heap.size [.blk mb #[.int .i64 k2, .int .i64 a2, .int .i64 i2, .int .i64 b2, .int .i64 j2] 33, .blk pb #[.slice TA q.trucks.length tc, .slice BA bs.length bc] 39, .blk sb #[.int .u8 s.fin, .int .u8 s.trucks, .int .u8 s.troom, .int .u8 s.bikes, .int .u8 s.broom, .slice sp.SA s.sats.length sp.sc, .slice sp.CA s.custs.length sp.cc, .slice sp.KA s.cost.length sp.kc, .slice sp.TA s.time.length sp.tc, .bool s.tight, .bool s.loose] 49] w1) := Lib.hid (by rw [← hmb, ← hpb, ← hsb, ← hw1]; exact hS)
 have HBL0 := Lib.hid (And.intro hsb (And.intro hpb (And.intro hmb hw1)))
 clear hx hI0 hL0 hok hP hW hS hsb hpb hmb hw1 hbs
 go_enter Try.func8, Try.ntmps8
 go_upto_region 1 with fail
 rw [HBL0.out.2.2.2, HBL0.out.1, HBL0.out.2.1, HBL0.out.2.2.1]
 go_upto_region 3 with (go_at_call 19; (with_reducible refine (awake24 _).mono ?_); rintro e w2 ⟨rfl, hb2⟩)
 have HS2 := Lib.hid (HS1.out.call hb2)
 clear hb2 HS1
 have yp0 : w2.cell? ⟨pb, 0, none⟩ = some (.slice TA q.trucks.length tc) := HS2.out.cell 1 rfl 0 rfl
 have yp1 : w2.cell? ⟨pb, 1, none⟩ = some (.slice BA bs.length bc) := HS2.out.cell 1 rfl 1 rfl
 have HLT2 := Lib.hid (HLT0.out _ HS2.out.below)
 by_cases hm : q.many ≤ 200
 case neg =>
  have hmb : decide (q.many ≤ 200) = false := decide_eq_false hm
  rw [hmb] at HLT2
  clear hm hmb HLT0 HMY HBI
  go_wp2_with (go_at_call 18; (with_reducible refine HLT2.out.mono ?_); rintro e w3 ⟨rfl, hb⟩
               have HS3 := Lib.hid (HS2.out.call hb)
               clear hb)
  go_ret
  exact ⟨rfl, HS3.out.below⟩
 case pos =>
 have hmb : decide (q.many ≤ 200) = true := decide_eq_true hm
 rw [hmb] at HLT2
 have HBL := Lib.hid (HMY.out hm)
 clear hm hmb HLT0 HMY
 go_upto_region 6 with first
  | (go_at_call 18; (with_reducible refine HLT2.out.mono ?_); rintro e w3 ⟨rfl, hb⟩
     have HS2' := Lib.hid (HS2.out.call hb)
     clear hb HS2 yp0 yp1
     have HS2 := HS2'
     clear HS2')
  | (refine wpList_load_row rfl 49 _ rfl sb rfl _ #[.int .u8 s.fin, .int .u8 s.trucks, .int .u8 s.troom, .int .u8 s.bikes, .int .u8 s.broom, .slice sp.SA s.sats.length sp.sc, .slice sp.CA s.custs.length sp.cc, .slice sp.KA s.cost.length sp.kc, .slice sp.TA s.time.length sp.tc, .bool s.tight, .bool s.loose] _ _ (HS2.out.blk 2 rfl) Try.underlying49 rfl HSS.out ?_)
  | (go_at_call 20; (with_reducible refine (HMK.out _ HS2.out.below).mono ?_); rintro e w3 ⟨p, hk, ht, rfl, hl1, hl2, hq⟩
     have HI3 := Lib.hid (made_in hl1 hl2 hq).1
     have HS3 := Lib.hid (HS2.out.call hq.below)
     clear hq hl1 hl2 HMK HS2
     unfold InstV.cells)
 obtain ⟨x, hxq⟩ : ∃ x, s.mk_ = x := ⟨_, rfl⟩
 rw [hxq] at HX HI3 ⊢
 obtain ⟨XC, hXC⟩ : ∃ XC : Array Value, #[.int .i64 x.fin, .int .i64 x.tm, .int .i64 x.tr, .int .i64 x.bm, .int .i64 x.br, .slice p.SA x.sats.length p.sc, .slice p.CA x.custs.length p.cc, .slice p.KA x.cost.length p.kc, .slice p.TA x.time.length p.tc] = XC := ⟨_, rfl⟩
 have HXC : Hid (x.cells p = XC) := Lib.hid hXC
 rw [hXC]
 have HXS : Hid (XC.size = 9) := Lib.hid (by rw [← hXC]; rfl)
 have HXI : Hid ((Try.prog.info? 58).map (·.size) = some XC.size) := Lib.hid (by rw [HXS.out]; exact HIS.out)
 have HS6 := Lib.hid (HS3.out.alloc XC 58)
 have HI6 : Hid (InstIn (w3.alloc (.cells XC 58)) (w3.alloc (.cells XC 58)).heap.size p x) := Lib.hid (HI3.out.at_ ((Below.refl _ _).alloc (Nat.le_refl _) _))
 obtain ⟨ib, hib⟩ : ∃ ib, w3.heap.size = ib := ⟨_, rfl⟩
 rw [hib] at HS6 ⊢
 generalize (w3.alloc (.cells XC 58)) = w6 at *
 have HBK : Hid (Bikes w6 w6.heap.size BA bs) := Lib.hid (HBI.out w6 HS6.out.below)
 clear hxq hXC hib HI3 HS3 HBI HBL0 HSS
 have hlt1 := (HS6.out.lt 0 rfl).2
 have hlt2 := (HS6.out.lt 1 rfl).2
 have hlt3 := (HS6.out.lt 2 rfl).2
 have HLT := Lib.hid (And.intro hlt1 (And.intro hlt2 hlt3))
 clear hlt1 hlt2 hlt3
 have HCI := Lib.hid (change_is x bs ⟨k2, a2, i2, b2, j2⟩)
 obtain ⟨o, ho⟩ : ∃ o, applyM x.sats.length bs ⟨k2, a2, i2, b2, j2⟩ = o := ⟨_, rfl⟩
 have HLL : Hid (∀ l ok, AB o l ok → l.length ≤ 100000 ∧ ∀ b ∈ l, b.stops.length ≤ 100000) := Lib.hid (fun l ok h => by
  rw [← ho] at h
  have h1 := ab_len h
  have h2 := HBL.out
  exact ⟨by omega, fun b hb => by have := stops_le_all hb; omega⟩)
 have HCH : Hid (∀ wx, Below w6.heap.size w6 wx → Calls Try.prog 25 #[.agg #[.int .i64 x.fin, .int .i64 x.tm, .int .i64 x.tr, .int .i64 x.bm, .int .i64 x.br, .slice p.SA x.sats.length p.sc, .slice p.CA x.custs.length p.cc, .slice p.KA x.cost.length p.kc, .slice p.TA x.time.length p.tc], .slice BA bs.length bc, .agg #[.int .i64 k2, .int .i64 a2, .int .i64 i2, .int .i64 b2, .int .i64 j2]] wx (ChangePost wx (o.map fun now => roundsOf x now - roundsOf x bs))) := Lib.hid (fun wx hb => by
  have h := change_any x p BA bc bs k2 a2 i2 b2 j2 wx (HI6.out.at_ hb) HX.out (bikes_more (HBK.out.below hb) hb.size) (by have := HBL.out; omega) (by have := HBL.out; omega)
  rw [HCI.out, ho] at h
  exact h)
 have HAP : Hid (∀ wx, Below w6.heap.size w6 wx → Calls Try.prog 16 #[.int .i64 (x.sats.length : Nat), .slice BA bs.length bc, .agg #[.int .i64 k2, .int .i64 a2, .int .i64 i2, .int .i64 b2, .int .i64 j2]] wx (ABPost wx o)) := Lib.hid (fun wx hb => by
  have h := lab_any (x.sats.length : Nat) BA bc bs k2 a2 i2 b2 j2 wx (bikes_more (HBK.out.below hb) hb.size) (by have := HBL.out; omega) (by have := HBL.out; omega)
  rw [ho] at h
  exact h)
 have HRO : Hid (∀ A c l wx, l.length ≤ 100000 → (∀ b ∈ l, b.stops.length ≤ 100000) → Below w6.heap.size w6 wx → Bikes wx wx.heap.size A l → Calls Try.prog 24 #[.agg #[.int .i64 x.fin, .int .i64 x.tm, .int .i64 x.tr, .int .i64 x.bm, .int .i64 x.br, .slice p.SA x.sats.length p.sc, .slice p.CA x.custs.length p.cc, .slice p.KA x.cost.length p.kc, .slice p.TA x.time.length p.tc], .slice A l.length c] wx fun e w' => e = .returned (.int .i64 (roundsOf x l)) ∧ Below wx.heap.size wx w') := Lib.hid (fun A c l wx h1 h2 hb hB => lrounds_any x p A c l wx (HI6.out.at_ hb) HX.out hB h1 h2)
 have HRI : Hid (∀ l : List BikeV, l.length ≤ 100000 → (∀ b ∈ l, b.stops.length ≤ 100000) → 0 ≤ roundsOf x l ∧ roundsOf x l ≤ 400000000000) := Lib.hid (fun l h1 h2 => by
  have h := roundsOf_in HX.out h2 l.length (Nat.le_refl _)
  rw [List.take_length] at h
  omega)
 have HBS : Hid (bs.length ≤ 100000 ∧ ∀ b ∈ bs, b.stops.length ≤ 100000) := Lib.hid ⟨by have := HBL.out; omega, fun b hb => by have := stops_le_all hb; have := HBL.out; omega⟩
 clear ho HCI
 go_cut [8, 9] (fun vd vo wx => ∃ d okk, vd = .int .i64 d ∧ vo = .bool okk ∧ (match o.map (fun now => roundsOf x now - roundsOf x bs) with | none => d = 0 ∧ okk = false | some n => d = n ∧ okk = true) ∧ Below w6.heap.size w6 wx)
 case first =>
  have HC1 := Lib.hid (HCH.out w6 (Below.refl _ _))
  have yi0 : w6.cell? ⟨ib, 0, none⟩ = some (.int .i64 x.fin) := HS6.out.cell 0 rfl 0 (by rw [← HXC.out]; rfl)
  have yi1 : w6.cell? ⟨ib, 1, none⟩ = some (.int .i64 x.tm) := HS6.out.cell 0 rfl 1 (by rw [← HXC.out]; rfl)
  have yi2 : w6.cell? ⟨ib, 2, none⟩ = some (.int .i64 x.tr) := HS6.out.cell 0 rfl 2 (by rw [← HXC.out]; rfl)
  have yi3 : w6.cell? ⟨ib, 3, none⟩ = some (.int .i64 x.bm) := HS6.out.cell 0 rfl 3 (by rw [← HXC.out]; rfl)
  have yi4 : w6.cell? ⟨ib, 4, none⟩ = some (.int .i64 x.br) := HS6.out.cell 0 rfl 4 (by rw [← HXC.out]; rfl)
  have yi5 : w6.cell? ⟨ib, 5, none⟩ = some (.slice p.SA x.sats.length p.sc) := HS6.out.cell 0 rfl 5 (by rw [← HXC.out]; rfl)
  have yi6 : w6.cell? ⟨ib, 6, none⟩ = some (.slice p.CA x.custs.length p.cc) := HS6.out.cell 0 rfl 6 (by rw [← HXC.out]; rfl)
  have yi7 : w6.cell? ⟨ib, 7, none⟩ = some (.slice p.KA x.cost.length p.kc) := HS6.out.cell 0 rfl 7 (by rw [← HXC.out]; rfl)
  have yi8 : w6.cell? ⟨ib, 8, none⟩ = some (.slice p.TA x.time.length p.tc) := HS6.out.cell 0 rfl 8 (by rw [← HXC.out]; rfl)
  have yp1 : w6.cell? ⟨pb, 1, none⟩ = some (.slice BA bs.length bc) := HS6.out.cell 2 rfl 1 rfl
  have ym0 : w6.cell? ⟨mb, 0, none⟩ = some (.int .i64 k2) := HS6.out.cell 1 rfl 0 rfl
  have ym1 : w6.cell? ⟨mb, 1, none⟩ = some (.int .i64 a2) := HS6.out.cell 1 rfl 1 rfl
  have ym2 : w6.cell? ⟨mb, 2, none⟩ = some (.int .i64 i2) := HS6.out.cell 1 rfl 2 rfl
  have ym3 : w6.cell? ⟨mb, 3, none⟩ = some (.int .i64 b2) := HS6.out.cell 1 rfl 3 rfl
  have ym4 : w6.cell? ⟨mb, 4, none⟩ = some (.int .i64 j2) := HS6.out.cell 1 rfl 4 rfl
  clear HCH HAP HRO HRI HBS HLL
  go_wp2_with (go_at_call 25; (with_reducible refine HC1.out.mono ?_); rintro e w9 ⟨⟨d, okk, rfl, hd⟩, hb9⟩
               have HD := Lib.hid hd
               have HB9 := Lib.hid hb9
               clear hd hb9)
  go_meet
  exact ⟨_, _, rfl, rfl, HD.out, HB9.out⟩
 case rest =>
  obtain ⟨d, okk, rfl, rfl, hd, hb7⟩ := hcut
  have HD1 := Lib.hid hd
  have HB7 := Lib.hid hb7
  clear hd hb7 HCH
  obtain ⟨w7, rfl⟩ : ∃ w, w = wc := ⟨_, rfl⟩
  go_upto_region 7 with fail
  go_cut [10, 11] (fun vd vo wx => ∃ A c l okk, vd = .slice A (List.length l) c ∧ vo = .bool okk ∧ AB o l okk ∧ Bikes wx wx.heap.size A l ∧ Below w7.heap.size w7 wx)
  case first =>
   have HC1 := Lib.hid (HAP.out w7 HB7.out)
   have yi0 : w7.cell? ⟨ib, 0, none⟩ = some (.int .i64 x.fin) := ((HB7.out).cell (p := ⟨ib, 0, none⟩) HLT.out.1).trans (HS6.out.cell 0 rfl 0 (by rw [← HXC.out]; rfl))
   have yi1 : w7.cell? ⟨ib, 1, none⟩ = some (.int .i64 x.tm) := ((HB7.out).cell (p := ⟨ib, 1, none⟩) HLT.out.1).trans (HS6.out.cell 0 rfl 1 (by rw [← HXC.out]; rfl))
   have yi2 : w7.cell? ⟨ib, 2, none⟩ = some (.int .i64 x.tr) := ((HB7.out).cell (p := ⟨ib, 2, none⟩) HLT.out.1).trans (HS6.out.cell 0 rfl 2 (by rw [← HXC.out]; rfl))
   have yi3 : w7.cell? ⟨ib, 3, none⟩ = some (.int .i64 x.bm) := ((HB7.out).cell (p := ⟨ib, 3, none⟩) HLT.out.1).trans (HS6.out.cell 0 rfl 3 (by rw [← HXC.out]; rfl))
   have yi4 : w7.cell? ⟨ib, 4, none⟩ = some (.int .i64 x.br) := ((HB7.out).cell (p := ⟨ib, 4, none⟩) HLT.out.1).trans (HS6.out.cell 0 rfl 4 (by rw [← HXC.out]; rfl))
   have yi5 : w7.cell? ⟨ib, 5, none⟩ = some (.slice p.SA x.sats.length p.sc) := ((HB7.out).cell (p := ⟨ib, 5, none⟩) HLT.out.1).trans (HS6.out.cell 0 rfl 5 (by rw [← HXC.out]; rfl))
   have yi6 : w7.cell? ⟨ib, 6, none⟩ = some (.slice p.CA x.custs.length p.cc) := ((HB7.out).cell (p := ⟨ib, 6, none⟩) HLT.out.1).trans (HS6.out.cell 0 rfl 6 (by rw [← HXC.out]; rfl))
   have yi7 : w7.cell? ⟨ib, 7, none⟩ = some (.slice p.KA x.cost.length p.kc) := ((HB7.out).cell (p := ⟨ib, 7, none⟩) HLT.out.1).trans (HS6.out.cell 0 rfl 7 (by rw [← HXC.out]; rfl))
   have yi8 : w7.cell? ⟨ib, 8, none⟩ = some (.slice p.TA x.time.length p.tc) := ((HB7.out).cell (p := ⟨ib, 8, none⟩) HLT.out.1).trans (HS6.out.cell 0 rfl 8 (by rw [← HXC.out]; rfl))
   have yp1 : w7.cell? ⟨pb, 1, none⟩ = some (.slice BA bs.length bc) := ((HB7.out).cell (p := ⟨pb, 1, none⟩) HLT.out.2.2).trans (HS6.out.cell 2 rfl 1 rfl)
   have ym0 : w7.cell? ⟨mb, 0, none⟩ = some (.int .i64 k2) := ((HB7.out).cell (p := ⟨mb, 0, none⟩) HLT.out.2.1).trans (HS6.out.cell 1 rfl 0 rfl)
   have ym1 : w7.cell? ⟨mb, 1, none⟩ = some (.int .i64 a2) := ((HB7.out).cell (p := ⟨mb, 1, none⟩) HLT.out.2.1).trans (HS6.out.cell 1 rfl 1 rfl)
   have ym2 : w7.cell? ⟨mb, 2, none⟩ = some (.int .i64 i2) := ((HB7.out).cell (p := ⟨mb, 2, none⟩) HLT.out.2.1).trans (HS6.out.cell 1 rfl 2 rfl)
   have ym3 : w7.cell? ⟨mb, 3, none⟩ = some (.int .i64 b2) := ((HB7.out).cell (p := ⟨mb, 3, none⟩) HLT.out.2.1).trans (HS6.out.cell 1 rfl 3 rfl)
   have ym4 : w7.cell? ⟨mb, 4, none⟩ = some (.int .i64 j2) := ((HB7.out).cell (p := ⟨mb, 4, none⟩) HLT.out.2.1).trans (HS6.out.cell 1 rfl 4 rfl)
   clear HAP HRO HRI HBS HLL
   go_wp2_with (go_at_call 16; (with_reducible refine HC1.out.mono ?_); rintro e w9 ⟨A8, c8, l8, ok8, rfl, hm, hB8, hb9⟩
                have HD := Lib.hid (And.intro hm hB8)
                have HB9 := Lib.hid hb9
                clear hm hB8 hb9)
   go_meet
   exact ⟨_, _, _, _, rfl, rfl, HD.out.1, HD.out.2, HB9.out⟩
  case rest =>
   obtain ⟨A8, c8, l8, ok8, rfl, rfl, hm8, hB8, hb8⟩ := hcut
   have HM8 := Lib.hid (And.intro hm8 (And.intro hB8 hb8))
   clear hm8 hB8 hb8 HAP
   have HB8 := Lib.hid (HB7.out.trans (HM8.out.2.2.mono HB7.out.size))
   cases o with
   | none =>
     obtain ⟨rfl, rfl⟩ := HD1.out
     obtain ⟨rfl, rfl⟩ := HM8.out.1
     have HBE := Lib.hid (HS6.out.below.trans (HB8.out.mono HS6.out.below.size))
     clear HM8 HD1
     go_wp2_with fail
     go_ret
     exact ⟨rfl, HBE.out⟩
   | some now =>
     obtain ⟨hd0, rfl⟩ := HD1.out
     have hd : d = roundsOf x now - roundsOf x bs := hd0
     obtain ⟨hl8, rfl⟩ := HM8.out.1
     have hl9 := HLL.out l8 true HM8.out.1
     have hr1 := HRI.out l8 hl9.1 hl9.2
     have hr2 := HRI.out bs HBS.out.1 HBS.out.2
     rw [← hl8] at hd
     have HR1 : Hid (∀ wx, Below wc.heap.size wc wx → Calls Try.prog 24 #[.agg #[.int .i64 x.fin, .int .i64 x.tm, .int .i64 x.tr, .int .i64 x.bm, .int .i64 x.br, .slice p.SA x.sats.length p.sc, .slice p.CA x.custs.length p.cc, .slice p.KA x.cost.length p.kc, .slice p.TA x.time.length p.tc], .slice A8 l8.length c8] wx fun e w' => e = .returned (.int .i64 (roundsOf x l8)) ∧ Below wx.heap.size wx w') := Lib.hid (fun wx hb => HRO.out A8 c8 l8 wx hl9.1 hl9.2 (HB8.out.trans (hb.mono HB8.out.size)) (bikes_more (HM8.out.2.1.below hb) hb.size))
     have HR2 : Hid (∀ wx, Below wc.heap.size wc wx → Calls Try.prog 24 #[.agg #[.int .i64 x.fin, .int .i64 x.tm, .int .i64 x.tr, .int .i64 x.bm, .int .i64 x.br, .slice p.SA x.sats.length p.sc, .slice p.CA x.custs.length p.cc, .slice p.KA x.cost.length p.kc, .slice p.TA x.time.length p.tc], .slice BA bs.length bc] wx fun e w' => e = .returned (.int .i64 (roundsOf x bs)) ∧ Below wx.heap.size wx w') := Lib.hid (fun wx hb => by
      have hb2 := HB8.out.trans (hb.mono HB8.out.size)
      exact HRO.out BA bc bs wx HBS.out.1 HBS.out.2 hb2 (bikes_more (HBK.out.below hb2) hb2.size))
     obtain ⟨r1, hr1'⟩ : ∃ r, roundsOf x l8 = r := ⟨_, rfl⟩
     obtain ⟨r2, hr2'⟩ : ∃ r, roundsOf x bs = r := ⟨_, rfl⟩
     rw [hr1'] at HR1 hr1 hd
     rw [hr2'] at HR2 hr2 hd
     subst hd
     obtain ⟨hr1a, hr1b⟩ := hr1
     obtain ⟨hr2a, hr2b⟩ := hr2
     clear hr1' hr2' hl8 hl9 HD1 hd0
     go_upto_region 10 with fail
     have hb7 := HB8.out
     refine wp_region_sq _ (SL.start (Nat.le_refl wc.heap.size)) (by kernel_rfl) (by kernel_rfl) fun C cw _ hC hin => ?_
     have h1 : ∀ c, Calls Try.prog 24 #[.agg #[.int .i64 x.fin, .int .i64 x.tm, .int .i64 x.tr, .int .i64 x.bm, .int .i64 x.br, .slice p.SA x.sats.length p.sc, .slice p.CA x.custs.length p.cc, .slice p.KA x.cost.length p.kc, .slice p.TA x.time.length p.tc], .slice A8 l8.length c8] (cw c) fun e w' => e = .returned (.int .i64 r1) ∧ ∃ c', w' = cw c' := fun c => sq_call (hC c) hin (HR1.out _ (hC c).below)
     have h2 : ∀ c, Calls Try.prog 24 #[.agg #[.int .i64 x.fin, .int .i64 x.tm, .int .i64 x.tr, .int .i64 x.bm, .int .i64 x.br, .slice p.SA x.sats.length p.sc, .slice p.CA x.custs.length p.cc, .slice p.KA x.cost.length p.kc, .slice p.TA x.time.length p.tc], .slice BA bs.length bc] (cw c) fun e w' => e = .returned (.int .i64 r2) ∧ ∃ c', w' = cw c' := fun c => sq_call (hC c) hin (HR2.out _ (hC c).below)
     have HH1 := Lib.hid h1
     have HH2 := Lib.hid h2
     have hbc : ∀ c, Below w6.heap.size w6 (cw c) := fun c => hb7.trans ((hC c).below.mono hb7.size)
     have qi0 : ∀ c, (cw c).cell? ⟨ib, 0, none⟩ = some (.int .i64 x.fin) := fun c => ((hbc c).cell (p := ⟨ib, 0, none⟩) HLT.out.1).trans (HS6.out.cell 0 rfl 0 (by rw [← HXC.out]; rfl))
     have qi1 : ∀ c, (cw c).cell? ⟨ib, 1, none⟩ = some (.int .i64 x.tm) := fun c => ((hbc c).cell (p := ⟨ib, 1, none⟩) HLT.out.1).trans (HS6.out.cell 0 rfl 1 (by rw [← HXC.out]; rfl))
     have qi2 : ∀ c, (cw c).cell? ⟨ib, 2, none⟩ = some (.int .i64 x.tr) := fun c => ((hbc c).cell (p := ⟨ib, 2, none⟩) HLT.out.1).trans (HS6.out.cell 0 rfl 2 (by rw [← HXC.out]; rfl))
     have qi3 : ∀ c, (cw c).cell? ⟨ib, 3, none⟩ = some (.int .i64 x.bm) := fun c => ((hbc c).cell (p := ⟨ib, 3, none⟩) HLT.out.1).trans (HS6.out.cell 0 rfl 3 (by rw [← HXC.out]; rfl))
     have qi4 : ∀ c, (cw c).cell? ⟨ib, 4, none⟩ = some (.int .i64 x.br) := fun c => ((hbc c).cell (p := ⟨ib, 4, none⟩) HLT.out.1).trans (HS6.out.cell 0 rfl 4 (by rw [← HXC.out]; rfl))
     have qi5 : ∀ c, (cw c).cell? ⟨ib, 5, none⟩ = some (.slice p.SA x.sats.length p.sc) := fun c => ((hbc c).cell (p := ⟨ib, 5, none⟩) HLT.out.1).trans (HS6.out.cell 0 rfl 5 (by rw [← HXC.out]; rfl))
     have qi6 : ∀ c, (cw c).cell? ⟨ib, 6, none⟩ = some (.slice p.CA x.custs.length p.cc) := fun c => ((hbc c).cell (p := ⟨ib, 6, none⟩) HLT.out.1).trans (HS6.out.cell 0 rfl 6 (by rw [← HXC.out]; rfl))
     have qi7 : ∀ c, (cw c).cell? ⟨ib, 7, none⟩ = some (.slice p.KA x.cost.length p.kc) := fun c => ((hbc c).cell (p := ⟨ib, 7, none⟩) HLT.out.1).trans (HS6.out.cell 0 rfl 7 (by rw [← HXC.out]; rfl))
     have qi8 : ∀ c, (cw c).cell? ⟨ib, 8, none⟩ = some (.slice p.TA x.time.length p.tc) := fun c => ((hbc c).cell (p := ⟨ib, 8, none⟩) HLT.out.1).trans (HS6.out.cell 0 rfl 8 (by rw [← HXC.out]; rfl))
     have qp1 : ∀ c, (cw c).cell? ⟨pb, 1, none⟩ = some (.slice BA bs.length bc) := fun c => ((hbc c).cell (p := ⟨pb, 1, none⟩) HLT.out.2.2).trans (HS6.out.cell 2 rfl 1 rfl)
     have HBE := Lib.hid (HS6.out.below.trans (HB8.out.mono HS6.out.below.size))
     clear hC hin h1 h2 HS6 HR1 HR2 hbc hb7
     repeat (go_big_quiet_step (first | (go_at_call 24; with_reducible exact HH1.out _) | (go_at_call 24; with_reducible exact HH2.out _)))
     refine wpQuiet_nil ?_
     intro w9 hS9
     have HB9 := Lib.hid (HBE.out.trans (hS9.below.mono HBE.out.size))
     clear hS9 qi0 qi1 qi2 qi3 qi4 qi5 qi6 qi7 qi8 qp1
     go_wp2_with fail
     go_ret
     exact ⟨retBool (by simp), HB9.out⟩
set_option maxRecDepth 100000 in
theorem deltaRaw_walk {H : Type} {enc : TypeId × Value → H} {base : Nat} (W : World) (v0 : Value) (d0 : DataW H) (p0 : List MemPlace) (o0 : Value.okWide Try.prog W .any base 49 v0) (k0 : DataW.Trod enc Try.prog W 0 (fun _ => true) true 49 v0 d0 p0)
 (v1 : Value) (d1 : DataW H) (p1 : List MemPlace) (o1 : Value.okWide Try.prog W .any base 39 v1) (k1 : DataW.Trod enc Try.prog W 0 (fun _ => true) true 39 v1 d1 p1) (z1 : Rows.uptoBulk d1 ≤ 1048576)
 (v2 : Value) (d2 : DataW H) (p2 : List MemPlace) (o2 : Value.okWide Try.prog W .any base 33 v2) (k2 : DataW.Trod enc Try.prog W 0 (fun _ => true) true 33 v2 d2 p2) :
 Calls Try.prog 8 #[v0, v1, v2] W fun e w' => e = .returned (.bool true) ∧ Below W.heap.size W w' := by
 obtain ⟨sp, s, rfl, hI, hl, hok⟩ := small_open o0 k0
 obtain ⟨TA, BA, tc, bc, pl, rfl, hT, hB, h1, h2, hD, _⟩ := plan_openD o1 k1
 obtain ⟨m, rfl, _⟩ := move_open o2 k2
 exact deltaRaw_any sp s TA BA tc bc pl m.kind m.a m.i m.b m.j W hI hl hok ⟨hT.plain, hB.plain⟩ (hD.wide z1)
end Go.Proofs.Ytpbhbmdghafkmaa
