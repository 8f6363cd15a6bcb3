/- The walk of law DeltaPlan. (printed by gen/deltaplan.py) -/
import Derived.Test.YtpbhbmdghafkmaaDrawn
import Derived.Test.YtpbhbmdghafkmaaAwake24
import Derived.Test.YtpbhbmdghafkmaaDelta24
import Derived.Test.YtpbhbmdghafkmaaSmallMove
import Derived.Test.YtpbhbmdghafkmaaMoveOpen
import Derived.Test.YtpbhbmdghafkmaaCost17
import Derived.Test.YtpbhbmdghafkmaaPhase
import Derived.Deep.CutBlock
import Derived.Deep.CutRange
import Derived.Deep.DeepCutAuto
namespace Go.Proofs.Ytpbhbmdghafkmaa
open Go.ChangeShapes Go.WideShapes Go.ChangeAt Go.RowKit
set_option linter.unusedVariables false
set_option linter.unusedSimpArgs false
theorem bikes_some {x : InstV} {q : PlanV} (h : planCode x q = 0) : ∀ b ∈ q.bikes, 0 < b.stops.length := by
  have hr : routesB x q = true := by
    cases hr : routesB x q with
    | true => rfl
    | false =>
      exfalso
      unfold planCode at h
      rw [hr] at h
      split at h <;> simp at h
  unfold routesB at hr
  rw [Bool.and_eq_true] at hr
  intro b hb
  obtain ⟨k, hk, rfl⟩ := List.getElem_of_mem hb
  have h2 := hr.2
  unfold routeB bikesK at h2
  have h3 := List.all_eq_true.1 h2 k (by simpa using hk)
  simp only [List.getD_eq_getElem?_getD, List.getElem?_eq_getElem hk, Option.getD_some] at h3
  unfold bikeB bikeHB at h3
  simp only [Bool.and_eq_true, decide_eq_true_eq] at h3
  exact h3.1.2
theorem costB_rounds {x : InstV} {bs : List BikeV} (h : ∀ b ∈ bs, 0 < b.stops.length) : costB x bs bs.length = roundsOf x bs := by
  unfold costB roundsOf
  rw [List.take_length]
  congr 1
  apply List.map_congr_left
  intro b hb
  have := h b hb
  unfold roundOf
  rw [if_neg (by omega)]
theorem cost_less {x : InstV} {ts : List (List StopV)} {bs cs : List BikeV} (h1 : planCode x ⟨ts, bs⟩ = 0) (h2 : planCode x ⟨ts, cs⟩ = 0) : planCost x ⟨ts, cs⟩ - planCost x ⟨ts, bs⟩ = roundsOf x cs - roundsOf x bs := by
  unfold planCost
  rw [costB_rounds (bikes_some h1), costB_rounds (bikes_some h2)]
  simp only
  omega
theorem planCost_in {x : InstV} (hx : x.Small) {q : PlanV} (hL : PlanL q) : 0 ≤ planCost x q ∧ planCost x q ≤ 700000000000 := by
  have h1 := costT_in hx hL.stops (Nat.le_refl q.trucks.length)
  have h2 := costB_in hx hL.custs (Nat.le_refl q.bikes.length)
  have := hL.trucks
  have := hL.bikes
  unfold planCost
  omega
set_option maxRecDepth 100000 in
set_option maxHeartbeats 16000000 in
theorem deltaPlan_any (sp : IAt) (s : SmallV) (a : WishAt) (u : WishV) (sk sa si sbb sj : Int) (w : World) (hI0 : SmallIn w w.heap.size sp s) (hL0 : SmallL s) (hok : s.ok) (hW : WishIn w w.heap.size a u) (hu : u.ok) (hl : u.L) (hm : SmV.Ok ⟨sk, sa, si, sbb, sj⟩) :
    Calls Try.prog 10 #[.agg (s.vals sp), .agg (u.vals a), .agg #[.int .u8 sk, .int .i8 sa, .int .i8 si, .int .i8 sbb, .int .i8 sj]] w fun e w' => e = .returned (.bool true) ∧ Below w.heap.size w w' := by
  have hx := SmallV.small hok
  have HX := Lib.hid hx
  have HI0 := Lib.hid hI0
  have HW := Lib.hid (And.intro hW (And.intro hu hl))
  have HMO := Lib.hid hm
  have HPS : Hid ((Try.prog.info? 39).map (·.size) = some 2) := Lib.hid (by kernel_rfl)
  have HIS : Hid ((Try.prog.info? 58).map (·.size) = some 9) := Lib.hid (by kernel_rfl)
  have HSS : Hid ((Try.prog.info? 49).map (·.size) = some 11) := Lib.hid (by kernel_rfl)
  have HWS : Hid ((Try.prog.info? 51).map (·.size) = some 3) := Lib.hid (by kernel_rfl)
  have HMK : Hid (∀ wx, Below w.heap.size w wx → Calls Try.prog 20 #[.agg (s.vals sp)] wx (MakePost wx s.mk_)) := Lib.hid (fun wx hb => make_any s sp wx ((hI0.below hb).more hb.size) hL0 hok)
  obtain ⟨mv, hmv⟩ : ∃ m, SmV.move ⟨sk, sa, si, sbb, sj⟩ = m := ⟨_, rfl⟩
  have HMC : Hid (∀ wx, Calls Try.prog 15 #[.agg #[.int .u8 sk, .int .i8 sa, .int .i8 si, .int .i8 sbb, .int .i8 sj]] wx (SmPost wx mv)) := Lib.hid (fun wx => by rw [← hmv]; exact smove_any sk sa si sbb sj wx hm)
  unfold SmallV.vals at HMK
  unfold SmallV.vals WishV.vals
  have hS := (((SL.start (W := w) (Nat.le_refl w.heap.size)).alloc #[.int .u8 s.fin, .int .u8 s.trucks, .int .u8 s.troom, .int .u8 s.bikes, .int .u8 s.broom, .slice sp.SA s.sats.length sp.sc, .slice sp.CA s.custs.length sp.cc, .slice sp.KA s.cost.length sp.kc, .slice sp.TA s.time.length sp.tc, .bool s.tight, .bool s.loose] 49).alloc #[.slice a.SA u.sats.length a.sc, .slice a.OA u.order.length a.oc, .slice a.CA u.cuts.length a.cc] 51).alloc #[.int .u8 sk, .int .i8 sa, .int .i8 si, .int .i8 sbb, .int .i8 sj] 25
  simp only [size_alloc'] at hS
  obtain ⟨sb, hsb⟩ : ∃ sb, w.heap.size = sb := ⟨_, rfl⟩
  obtain ⟨wb, hwb⟩ : ∃ wb, sb + 1 = wb := ⟨_, rfl⟩
  obtain ⟨mb, hmb⟩ : ∃ mb, wb + 1 = mb := ⟨_, rfl⟩
  obtain ⟨w1, hw1⟩ : ∃ w1, (((w.alloc (.cells #[.int .u8 s.fin, .int .u8 s.trucks, .int .u8 s.troom, .int .u8 s.bikes, .int .u8 s.broom, .slice sp.SA s.sats.length sp.sc, .slice sp.CA s.custs.length sp.cc, .slice sp.KA s.cost.length sp.kc, .slice sp.TA s.time.length sp.tc, .bool s.tight, .bool s.loose] 49)).alloc (.cells #[.slice a.SA u.sats.length a.sc, .slice a.OA u.order.length a.oc, .slice a.CA u.cuts.length a.cc] 51)).alloc (.cells #[.int .u8 sk, .int .i8 sa, .int .i8 si, .int .i8 sbb, .int .i8 sj] 25)) = w1 := ⟨_, rfl⟩
  have HS1 : Hid (SL w w.heap.size [.blk mb #[.int .u8 sk, .int .i8 sa, .int .i8 si, .int .i8 sbb, .int .i8 sj] 25, .blk wb #[.slice a.SA u.sats.length a.sc, .slice a.OA u.order.length a.oc, .slice a.CA u.cuts.length a.cc] 51, .blk sb #[.int .u8 s.fin, .int .u8 s.trucks, .int .u8 s.troom, .int .u8 s.bikes, .int .u8 s.broom, .slice sp.SA s.sats.length sp.sc, .slice sp.CA s.custs.length sp.cc, .slice sp.KA s.cost.length sp.kc, .slice sp.TA s.time.length sp.tc, .bool s.tight, .bool s.loose] 49] w1) := Lib.hid (by rw [← hmb, ← hwb, ← hsb, ← hw1]; exact hS)
  have HBL := Lib.hid (And.intro hsb (And.intro hwb (And.intro hmb hw1)))
  clear hx hI0 hL0 hok hW hu hl hm hS hsb hwb hmb hw1 hmv
  go_enter Try.func10, Try.ntmps10
  go_upto_region 1 with fail
  rw [HBL.out.2.2.2, HBL.out.1, HBL.out.2.1, HBL.out.2.2.1]
  go_upto_region 3 with (go_at_call 19; (with_reducible refine (awake24 _).mono ?_); rintro e w2 ⟨rfl, hb2⟩)
  have HS2 := Lib.hid (HS1.out.call hb2)
  clear hb2 HS1
  go_upto_region 4 with first
    | (refine wpList_load_row rfl 49 _ rfl sb rfl _ #[.int .u8 s.fin, .int .u8 s.trucks, .int .u8 s.troom, .int .u8 s.bikes, .int .u8 s.broom, .slice sp.SA s.sats.length sp.sc, .slice sp.CA s.custs.length sp.cc, .slice sp.KA s.cost.length sp.kc, .slice sp.TA s.time.length sp.tc, .bool s.tight, .bool s.loose] _ _ (HS2.out.blk 2 rfl) Try.underlying49 rfl HSS.out ?_)
    | (go_at_call 20; (with_reducible refine (HMK.out _ HS2.out.below).mono ?_); rintro e w3 ⟨p, hk, ht, rfl, hl1, hl2, hq⟩
       have HI3 := Lib.hid (made_in hl1 hl2 hq).1
       have HS3 := Lib.hid (HS2.out.call hq.below)
       clear hq hl1 hl2 HMK HS2
       unfold InstV.cells)
  obtain ⟨x, hxq⟩ : ∃ x, s.mk_ = x := ⟨_, rfl⟩
  rw [hxq] at HX HI3 ⊢
  obtain ⟨XC, hXC⟩ : ∃ XC : Array Value, #[.int .i64 x.fin, .int .i64 x.tm, .int .i64 x.tr, .int .i64 x.bm, .int .i64 x.br, .slice p.SA x.sats.length p.sc, .slice p.CA x.custs.length p.cc, .slice p.KA x.cost.length p.kc, .slice p.TA x.time.length p.tc] = XC := ⟨_, rfl⟩
  have HXC : Hid (x.cells p = XC) := Lib.hid hXC
  rw [hXC]
  have HXS : Hid (XC.size = 9) := Lib.hid (by rw [← hXC]; rfl)
  have HXI : Hid ((Try.prog.info? 58).map (·.size) = some XC.size) := Lib.hid (by rw [HXS.out]; exact HIS.out)
  have HS4 := Lib.hid (HS3.out.alloc XC 58)
  have HI4 : Hid (InstIn (w3.alloc (.cells XC 58)) (w3.alloc (.cells XC 58)).heap.size p x) := Lib.hid (HI3.out.at_ ((Below.refl _ _).alloc (Nat.le_refl _) _))
  obtain ⟨ib, hib⟩ : ∃ ib, w3.heap.size = ib := ⟨_, rfl⟩
  rw [hib] at HS4 ⊢
  generalize (w3.alloc (.cells XC 58)) = w4 at *
  clear hxq hXC hib HI3 HS3
  have HDR : Hid (Calls Try.prog 22 #[.agg XC, .agg #[.slice a.SA u.sats.length a.sc, .slice a.OA u.order.length a.oc, .slice a.CA u.cuts.length a.cc]] w4 (PlanPost w4 (draftM x u))) := Lib.hid (by
    have h := drawn_draft x p u a w4 HI4.out (wishIn_more (HW.out.1.below HS4.out.below) HS4.out.below.size) HX.out HW.out.2.1 HW.out.2.2
    rw [HXC.out] at h; exact h)
  obtain ⟨q, hq0⟩ : ∃ q0, draftM x u = q0 := ⟨_, rfl⟩
  have HQ0 : Hid (PlanS q) := Lib.hid (by rw [← hq0]; exact draft_S HX.out)
  rw [hq0] at HDR
  clear hq0
  go_upto_region 5 with first
    | (refine wpList_load_row rfl 58 _ rfl ib rfl _ XC _ _ (HS4.out.blk 0 rfl) Try.underlying58 rfl HXI.out ?_)
    | (refine wpList_load_row rfl 51 _ rfl wb rfl _ #[.slice a.SA u.sats.length a.sc, .slice a.OA u.order.length a.oc, .slice a.CA u.cuts.length a.cc] _ _ (HS4.out.blk 2 rfl) Try.underlying51 rfl HWS.out ?_)
    | (go_at_call 22; (with_reducible refine HDR.out.mono ?_); rintro e w5 ⟨TA, tc, BA, bc, rfl, hP5, hT5, hB5⟩
       have HP5 := Lib.hid hP5
       have HS5 := Lib.hid (HS4.out.call hB5)
       have HI5 := Lib.hid (HI4.out.at_ hB5)
       clear hP5 hT5 hB5 HDR)
  have hS6 := HS5.out.alloc #[.slice TA q.trucks.length tc, .slice BA q.bikes.length bc] 39
  have hB6 : Below w5.heap.size w5 (w5.alloc (.cells #[.slice TA q.trucks.length tc, .slice BA q.bikes.length bc] 39)) := (Below.refl _ _).alloc (Nat.le_refl _) _
  have HP6 := Lib.hid ((HP5.out.below hB6).more hB6.size)
  have HI6 := Lib.hid (HI5.out.at_ hB6)
  obtain ⟨pb, hpb⟩ : ∃ b, w5.heap.size = b := ⟨_, rfl⟩
  obtain ⟨w6, hw6⟩ : ∃ w6, w5.alloc (.cells #[.slice TA q.trucks.length tc, .slice BA q.bikes.length bc] 39) = w6 := ⟨_, rfl⟩
  rw [hpb, hw6] at hS6
  rw [hw6] at HP6 HI6
  rw [hpb, hw6]
  have HS6 := Lib.hid hS6
  clear hS6 hB6 hpb hw6 HS5 HP5 HI5 HS4 HI4
  obtain ⟨k2, a2, i2, b2, j2⟩ := mv
  have HPL := Lib.hid (PlanS.L HQ0.out)
  have HCH : Hid (∀ wx, Below w6.heap.size w6 wx → Calls Try.prog 25 #[.agg #[.int .i64 x.fin, .int .i64 x.tm, .int .i64 x.tr, .int .i64 x.bm, .int .i64 x.br, .slice p.SA x.sats.length p.sc, .slice p.CA x.custs.length p.cc, .slice p.KA x.cost.length p.kc, .slice p.TA x.time.length p.tc], .slice BA q.bikes.length bc, .agg #[.int .i64 k2, .int .i64 a2, .int .i64 i2, .int .i64 b2, .int .i64 j2]] wx (ChangePost wx (changeM x q.bikes ⟨k2, a2, i2, b2, j2⟩))) := Lib.hid (fun wx hb => change_any x p BA bc q.bikes k2 a2 i2 b2 j2 wx (HI6.out.at_ hb) HX.out (bikes_more (HP6.out.bikes.below hb) hb.size) (by have := HQ0.out.bikes; omega) HPL.out.custs)
  have HAP : Hid (∀ wx, Below w6.heap.size w6 wx → Calls Try.prog 13 #[.int .i64 (x.sats.length : Nat), .slice BA q.bikes.length bc, .agg #[.int .i64 k2, .int .i64 a2, .int .i64 i2, .int .i64 b2, .int .i64 j2]] wx (ApplyPost wx (applyM x.sats.length q.bikes ⟨k2, a2, i2, b2, j2⟩))) := Lib.hid (fun wx hb => apply_any (x.sats.length : Nat) BA bc q.bikes k2 a2 i2 b2 j2 wx (bikes_more (HP6.out.bikes.below hb) hb.size) HPL.out.bikes HPL.out.custs)
  have HCI := Lib.hid (change_is x q.bikes ⟨k2, a2, i2, b2, j2⟩)
  obtain ⟨o, ho⟩ : ∃ o, applyM x.sats.length q.bikes ⟨k2, a2, i2, b2, j2⟩ = o := ⟨_, rfl⟩
  have HAO := Lib.hid ho
  rw [ho] at HAP HCI
  rw [HCI.out] at HCH
  clear ho HCI
  have hlt1 := (HS6.out.lt 1 rfl).2
  have hlt2 := (HS6.out.lt 0 rfl).2
  have hlt3 := (HS6.out.lt 2 rfl).2
  have HLT := Lib.hid (And.intro hlt1 (And.intro hlt2 hlt3))
  clear hlt1 hlt2 hlt3
  go_cut [9, 10] (fun v9 v10 wx => ∃ d okk, v9 = .int .i64 d ∧ v10 = .bool okk ∧ (match o.map (fun now => roundsOf x now - roundsOf x q.bikes) with | none => d = 0 ∧ okk = false | some n => d = n ∧ okk = true) ∧ Below w6.heap.size w6 wx)
  case first =>
    refine wp_region_ph [0, 1, 2, 3, 4, 5, 6, 7, 8, 9] [10] [] (SL.start (W := w6) (Nat.le_refl _)) (List.Sublist.refl _) (by kernel_rfl) (by kernel_rfl) (.cons rfl .nil) (fun C cw _ hC w7 hS7 => ?_)
    have qi0 : ∀ c, (cw c).cell? ⟨ib, 0, none⟩ = some (.int .i64 x.fin) := fun c => (((hC c).below).cell (p := ⟨ib, 0, none⟩) HLT.out.1).trans (HS6.out.cell 1 rfl 0 (by rw [← HXC.out]; rfl))
    have qi1 : ∀ c, (cw c).cell? ⟨ib, 1, none⟩ = some (.int .i64 x.tm) := fun c => (((hC c).below).cell (p := ⟨ib, 1, none⟩) HLT.out.1).trans (HS6.out.cell 1 rfl 1 (by rw [← HXC.out]; rfl))
    have qi2 : ∀ c, (cw c).cell? ⟨ib, 2, none⟩ = some (.int .i64 x.tr) := fun c => (((hC c).below).cell (p := ⟨ib, 2, none⟩) HLT.out.1).trans (HS6.out.cell 1 rfl 2 (by rw [← HXC.out]; rfl))
    have qi3 : ∀ c, (cw c).cell? ⟨ib, 3, none⟩ = some (.int .i64 x.bm) := fun c => (((hC c).below).cell (p := ⟨ib, 3, none⟩) HLT.out.1).trans (HS6.out.cell 1 rfl 3 (by rw [← HXC.out]; rfl))
    have qi4 : ∀ c, (cw c).cell? ⟨ib, 4, none⟩ = some (.int .i64 x.br) := fun c => (((hC c).below).cell (p := ⟨ib, 4, none⟩) HLT.out.1).trans (HS6.out.cell 1 rfl 4 (by rw [← HXC.out]; rfl))
    have qi5 : ∀ c, (cw c).cell? ⟨ib, 5, none⟩ = some (.slice p.SA x.sats.length p.sc) := fun c => (((hC c).below).cell (p := ⟨ib, 5, none⟩) HLT.out.1).trans (HS6.out.cell 1 rfl 5 (by rw [← HXC.out]; rfl))
    have qi6 : ∀ c, (cw c).cell? ⟨ib, 6, none⟩ = some (.slice p.CA x.custs.length p.cc) := fun c => (((hC c).below).cell (p := ⟨ib, 6, none⟩) HLT.out.1).trans (HS6.out.cell 1 rfl 6 (by rw [← HXC.out]; rfl))
    have qi7 : ∀ c, (cw c).cell? ⟨ib, 7, none⟩ = some (.slice p.KA x.cost.length p.kc) := fun c => (((hC c).below).cell (p := ⟨ib, 7, none⟩) HLT.out.1).trans (HS6.out.cell 1 rfl 7 (by rw [← HXC.out]; rfl))
    have qi8 : ∀ c, (cw c).cell? ⟨ib, 8, none⟩ = some (.slice p.TA x.time.length p.tc) := fun c => (((hC c).below).cell (p := ⟨ib, 8, none⟩) HLT.out.1).trans (HS6.out.cell 1 rfl 8 (by rw [← HXC.out]; rfl))
    have qp0 : ∀ c, (cw c).cell? ⟨pb, 0, none⟩ = some (.slice TA q.trucks.length tc) := fun c => (((hC c).below).cell (p := ⟨pb, 0, none⟩) HLT.out.2.1).trans (HS6.out.cell 0 rfl 0 (rfl))
    have qp1 : ∀ c, (cw c).cell? ⟨pb, 1, none⟩ = some (.slice BA q.bikes.length bc) := fun c => (((hC c).below).cell (p := ⟨pb, 1, none⟩) HLT.out.2.1).trans (HS6.out.cell 0 rfl 1 (rfl))
    have qm0 : ∀ c, (cw c).cell? ⟨mb, 0, none⟩ = some (.int .u8 sk) := fun c => (((hC c).below).cell (p := ⟨mb, 0, none⟩) HLT.out.2.2).trans (HS6.out.cell 2 rfl 0 (rfl))
    have qm1 : ∀ c, (cw c).cell? ⟨mb, 1, none⟩ = some (.int .i8 sa) := fun c => (((hC c).below).cell (p := ⟨mb, 1, none⟩) HLT.out.2.2).trans (HS6.out.cell 2 rfl 1 (rfl))
    have qm2 : ∀ c, (cw c).cell? ⟨mb, 2, none⟩ = some (.int .i8 si) := fun c => (((hC c).below).cell (p := ⟨mb, 2, none⟩) HLT.out.2.2).trans (HS6.out.cell 2 rfl 2 (rfl))
    have qm3 : ∀ c, (cw c).cell? ⟨mb, 3, none⟩ = some (.int .i8 sbb) := fun c => (((hC c).below).cell (p := ⟨mb, 3, none⟩) HLT.out.2.2).trans (HS6.out.cell 2 rfl 3 (rfl))
    have qm4 : ∀ c, (cw c).cell? ⟨mb, 4, none⟩ = some (.int .i8 sj) := fun c => (((hC c).below).cell (p := ⟨mb, 4, none⟩) HLT.out.2.2).trans (HS6.out.cell 2 rfl 4 (rfl))
    refine ph_look 0 rfl (by kernel_rfl) rfl (by kernel_rfl) rfl rfl (fun Kv hK => ?_); go_big_quiet_op; refine hK _ ?_; clear hK Kv
    refine ph_look 1 rfl (by kernel_rfl) rfl (by kernel_rfl) rfl rfl (fun Kv hK => ?_); go_big_quiet_op; refine hK _ ?_; clear hK Kv
    refine ph_look 2 rfl (by kernel_rfl) rfl (by kernel_rfl) rfl rfl (fun Kv hK => ?_); go_big_quiet_op; refine hK _ ?_; clear hK Kv
    refine ph_look 3 rfl (by kernel_rfl) rfl (by kernel_rfl) rfl rfl (fun Kv hK => ?_); go_big_quiet_op; refine hK _ ?_; clear hK Kv
    refine ph_eff 4 rfl (by kernel_rfl) rfl rfl (fun Kv hK => ?_)
    go_simp
    refine eff_call (HMC.out _) (fun e w8 h => ?_)
    obtain ⟨rfl, hb8⟩ := h
    have hk8 := hS7.call hb8
    refine .inl ⟨_, rfl, hk8, hK _ _ ?_⟩
    clear hK Kv
    unfold MoveV.cells
    refine ph_eff 5 rfl (by kernel_rfl) rfl rfl (fun Kv hK => ?_)
    go_simp
    refine eff_call (HCH.out _ hk8.below) (fun e w9 h => ?_)
    obtain ⟨⟨d, okk, rfl, hd⟩, hb9⟩ := h
    have hk9 := hk8.call hb9
    refine .inl ⟨_, rfl, hk9, hK _ _ ?_⟩
    clear hK Kv
    refine ph_look 6 rfl (by kernel_rfl) rfl (by kernel_rfl) rfl rfl (fun Kv hK => ?_); go_big_quiet_op; refine hK _ ?_; clear hK Kv
    refine ph_look 7 rfl (by kernel_rfl) rfl (by kernel_rfl) rfl rfl (fun Kv hK => ?_); go_big_quiet_op; refine hK _ ?_; clear hK Kv
    refine ph_look 8 rfl (by kernel_rfl) rfl (by kernel_rfl) rfl rfl (fun Kv hK => ?_); go_big_quiet_op; refine hK _ ?_; clear hK Kv
    refine ph_look 9 rfl (by kernel_rfl) rfl (by kernel_rfl) rfl rfl (fun Kv hK => ?_); go_big_quiet_op; refine hK _ ?_; clear hK Kv
    refine ph_end (by kernel_rfl) ?_
    have HB9 := Lib.hid hk9.below
    have HD := Lib.hid hd
    clear hk9 hk8 hb8 hb9 hC hS7 hd
    go_wp2_with fail
    go_meet
    exact ⟨_, _, rfl, rfl, HD.out, HB9.out⟩
  case rest =>
    obtain ⟨d, okk, rfl, rfl, hd, hb7⟩ := hcut
    have HD := Lib.hid hd
    have HB7 := Lib.hid hb7
    clear hd hb7 HCH
    obtain ⟨w7, hw7⟩ : ∃ w, wc = w := ⟨_, rfl⟩
    subst hw7
    go_upto_region 6 with fail
    go_cut [11, 12] (fun v11 v12 wx => ∃ A c l okk, v11 = .slice A l.length c ∧ v12 = .bool okk ∧ (match o with | none => l = [] ∧ okk = false | some now => l = now ∧ okk = true) ∧ Bikes wx wx.heap.size A l ∧ Below w6.heap.size w6 wx)
    case first =>
      have hb7 := HB7.out
      refine wp_region_ph [0, 1, 2, 3, 4, 5, 6, 7, 8, 9, 10, 11] [12] [] (SL.start (W := wc) (Nat.le_refl _)) (List.Sublist.refl _) (by kernel_rfl) (by kernel_rfl) (.cons rfl .nil) (fun C cw _ hC w8 hS8 => ?_)
      have hbc : ∀ c, Below w6.heap.size w6 (cw c) := fun c => hb7.trans ((hC c).below.mono hb7.size)
      have qi0 : ∀ c, (cw c).cell? ⟨ib, 0, none⟩ = some (.int .i64 x.fin) := fun c => ((hbc c).cell (p := ⟨ib, 0, none⟩) HLT.out.1).trans (HS6.out.cell 1 rfl 0 (by rw [← HXC.out]; rfl))
      have qi1 : ∀ c, (cw c).cell? ⟨ib, 1, none⟩ = some (.int .i64 x.tm) := fun c => ((hbc c).cell (p := ⟨ib, 1, none⟩) HLT.out.1).trans (HS6.out.cell 1 rfl 1 (by rw [← HXC.out]; rfl))
      have qi2 : ∀ c, (cw c).cell? ⟨ib, 2, none⟩ = some (.int .i64 x.tr) := fun c => ((hbc c).cell (p := ⟨ib, 2, none⟩) HLT.out.1).trans (HS6.out.cell 1 rfl 2 (by rw [← HXC.out]; rfl))
      have qi3 : ∀ c, (cw c).cell? ⟨ib, 3, none⟩ = some (.int .i64 x.bm) := fun c => ((hbc c).cell (p := ⟨ib, 3, none⟩) HLT.out.1).trans (HS6.out.cell 1 rfl 3 (by rw [← HXC.out]; rfl))
      have qi4 : ∀ c, (cw c).cell? ⟨ib, 4, none⟩ = some (.int .i64 x.br) := fun c => ((hbc c).cell (p := ⟨ib, 4, none⟩) HLT.out.1).trans (HS6.out.cell 1 rfl 4 (by rw [← HXC.out]; rfl))
      have qi5 : ∀ c, (cw c).cell? ⟨ib, 5, none⟩ = some (.slice p.SA x.sats.length p.sc) := fun c => ((hbc c).cell (p := ⟨ib, 5, none⟩) HLT.out.1).trans (HS6.out.cell 1 rfl 5 (by rw [← HXC.out]; rfl))
      have qi6 : ∀ c, (cw c).cell? ⟨ib, 6, none⟩ = some (.slice p.CA x.custs.length p.cc) := fun c => ((hbc c).cell (p := ⟨ib, 6, none⟩) HLT.out.1).trans (HS6.out.cell 1 rfl 6 (by rw [← HXC.out]; rfl))
      have qi7 : ∀ c, (cw c).cell? ⟨ib, 7, none⟩ = some (.slice p.KA x.cost.length p.kc) := fun c => ((hbc c).cell (p := ⟨ib, 7, none⟩) HLT.out.1).trans (HS6.out.cell 1 rfl 7 (by rw [← HXC.out]; rfl))
      have qi8 : ∀ c, (cw c).cell? ⟨ib, 8, none⟩ = some (.slice p.TA x.time.length p.tc) := fun c => ((hbc c).cell (p := ⟨ib, 8, none⟩) HLT.out.1).trans (HS6.out.cell 1 rfl 8 (by rw [← HXC.out]; rfl))
      have qp0 : ∀ c, (cw c).cell? ⟨pb, 0, none⟩ = some (.slice TA q.trucks.length tc) := fun c => ((hbc c).cell (p := ⟨pb, 0, none⟩) HLT.out.2.1).trans (HS6.out.cell 0 rfl 0 (rfl))
      have qp1 : ∀ c, (cw c).cell? ⟨pb, 1, none⟩ = some (.slice BA q.bikes.length bc) := fun c => ((hbc c).cell (p := ⟨pb, 1, none⟩) HLT.out.2.1).trans (HS6.out.cell 0 rfl 1 (rfl))
      have qm0 : ∀ c, (cw c).cell? ⟨mb, 0, none⟩ = some (.int .u8 sk) := fun c => ((hbc c).cell (p := ⟨mb, 0, none⟩) HLT.out.2.2).trans (HS6.out.cell 2 rfl 0 (rfl))
      have qm1 : ∀ c, (cw c).cell? ⟨mb, 1, none⟩ = some (.int .i8 sa) := fun c => ((hbc c).cell (p := ⟨mb, 1, none⟩) HLT.out.2.2).trans (HS6.out.cell 2 rfl 1 (rfl))
      have qm2 : ∀ c, (cw c).cell? ⟨mb, 2, none⟩ = some (.int .i8 si) := fun c => ((hbc c).cell (p := ⟨mb, 2, none⟩) HLT.out.2.2).trans (HS6.out.cell 2 rfl 2 (rfl))
      have qm3 : ∀ c, (cw c).cell? ⟨mb, 3, none⟩ = some (.int .i8 sbb) := fun c => ((hbc c).cell (p := ⟨mb, 3, none⟩) HLT.out.2.2).trans (HS6.out.cell 2 rfl 3 (rfl))
      have qm4 : ∀ c, (cw c).cell? ⟨mb, 4, none⟩ = some (.int .i8 sj) := fun c => ((hbc c).cell (p := ⟨mb, 4, none⟩) HLT.out.2.2).trans (HS6.out.cell 2 rfl 4 (rfl))
      refine ph_look 0 rfl (by kernel_rfl) rfl (by kernel_rfl) rfl rfl (fun Kv hK => ?_); go_big_quiet_op; refine hK _ ?_; clear hK Kv
      refine ph_look 1 rfl (by kernel_rfl) rfl (by kernel_rfl) rfl rfl (fun Kv hK => ?_); go_big_quiet_op; refine hK _ ?_; clear hK Kv
      refine ph_len 2 _ _ _ _ _ (by kernel_rfl) rfl (by kernel_rfl) rfl (by kernel_rfl) rfl rfl rfl (fun Kv hK => ?_); go_simp; refine hK _ ?_; clear hK Kv
      refine ph_look 3 rfl (by kernel_rfl) rfl (by kernel_rfl) rfl rfl (fun Kv hK => ?_); go_big_quiet_op; refine hK _ ?_; clear hK Kv
      refine ph_look 4 rfl (by kernel_rfl) rfl (by kernel_rfl) rfl rfl (fun Kv hK => ?_); go_big_quiet_op; refine hK _ ?_; clear hK Kv
      refine ph_look 5 rfl (by kernel_rfl) rfl (by kernel_rfl) rfl rfl (fun Kv hK => ?_); go_big_quiet_op; refine hK _ ?_; clear hK Kv
      refine ph_eff 6 rfl (by kernel_rfl) rfl rfl (fun Kv hK => ?_)
      go_simp
      refine eff_call (HMC.out _) (fun e w9 h => ?_)
      obtain ⟨rfl, hb9⟩ := h
      have hk9 := hS8.call hb9
      refine .inl ⟨_, rfl, hk9, hK _ _ ?_⟩
      clear hK Kv
      unfold MoveV.cells
      refine ph_eff 7 rfl (by kernel_rfl) rfl rfl (fun Kv hK => ?_)
      go_simp
      refine eff_call (HAP.out _ (hb7.trans (hk9.below.mono hb7.size))) (fun e w10 h => ?_)
      have hP : ∃ A c l okk, e = .returned (.tuple #[.slice A (List.length l) c, .bool okk]) ∧ (match o with | none => l = [] ∧ okk = false | some now => l = now ∧ okk = true) ∧ Bikes w10 w10.heap.size A l ∧ Below w9.heap.size w9 w10 := by
        cases o with
        | none =>
          obtain ⟨rfl, hb⟩ := h
          exact ⟨none, 0, [], false, rfl, ⟨rfl, rfl⟩, ⟨fun _ => ⟨none, 0⟩, ⟨rfl, fun h => absurd h (by simp)⟩, fun i hi => absurd hi (by simp)⟩, hb⟩
        | some now =>
          obtain ⟨v, ps, rfl, hps, h8⟩ := h
          obtain ⟨A8, c8, hv8, _, _⟩ := (own_outer h8 (fun r hr => hr)).slice_
          have hpl : ps.length = now.length := by rw [← hps, List.length_map]
          rw [hpl] at hv8
          subst hv8
          refine ⟨A8, c8, now, true, rfl, ⟨rfl, rfl⟩, ?_, h8.below⟩
          rw [← hps]
          exact bikes_own (T := 44) (t := 3) (A := A8) (c := c8) h8 (fun r hr => by rw [hpl] at hr; exact hr)
      clear h
      obtain ⟨A8, c8, l, ok2, rfl, hm, hB8, hb10⟩ := hP
      have hk10 := hk9.call hb10
      refine .inl ⟨_, rfl, hk10, hK _ _ ?_⟩
      clear hK Kv
      refine ph_look 8 rfl (by kernel_rfl) rfl (by kernel_rfl) rfl rfl (fun Kv hK => ?_); go_big_quiet_op; refine hK _ ?_; clear hK Kv
      refine ph_look 9 rfl (by kernel_rfl) rfl (by kernel_rfl) rfl rfl (fun Kv hK => ?_); go_big_quiet_op; refine hK _ ?_; clear hK Kv
      refine ph_look 10 rfl (by kernel_rfl) rfl (by kernel_rfl) rfl rfl (fun Kv hK => ?_); go_big_quiet_op; refine hK _ ?_; clear hK Kv
      refine ph_look 11 rfl (by kernel_rfl) rfl (by kernel_rfl) rfl rfl (fun Kv hK => ?_); go_big_quiet_op; refine hK _ ?_; clear hK Kv
      refine ph_end (by kernel_rfl) ?_
      have HB9 := Lib.hid (hb7.trans (hk10.below.mono hb7.size))
      have HM8 := Lib.hid (And.intro hm hB8)
      clear hk10 hk9 hb9 hb10 hC hbc hS8 hm hB8
      go_wp2_with fail
      go_meet
      exact ⟨_, _, _, _, rfl, rfl, HM8.out.1, HM8.out.2, HB9.out⟩
    case rest =>
      obtain ⟨A8, c8, l, ok2, rfl, rfl, hm, hB8, hb8⟩ := hcut
      have HM := Lib.hid hm
      have HB8 := Lib.hid hb8
      have HBK := Lib.hid hB8
      clear hm hB8 hb8 HAP HB7
      have HLL : Hid (l.length ≤ 100000 ∧ (allStops l).length ≤ 100000) := Lib.hid (by
        have h0 := HM.out
        have h9 := HAO.out
        cases o with
        | none => rw [h0.1]; simp [allStops]
        | some now =>
          rw [h0.1]
          have h1 := apply_sort h9
          have h2 := HPL.out.custs
          refine ⟨?_, by omega⟩
          unfold applyM at h9
          cases hr : rawM x.sats.length q.bikes ⟨k2, a2, i2, b2, j2⟩ with
          | none => rw [hr] at h9; cases h9
          | some r =>
            rw [hr] at h9
            cases h9
            have := raw_len hr
            have := HQ0.out.bikes
            have := List.length_filter_le keepB r
            show (r.filter keepB).length ≤ 100000
            omega)
      have HPL2 : Hid (PlanL ⟨q.trucks, l⟩) := Lib.hid ⟨HPL.out.trucks, HLL.out.1, HPL.out.stops, HLL.out.2⟩
      have HC1 : Hid (∀ wx, Below w6.heap.size w6 wx → Calls Try.prog 27 #[.agg XC, .agg #[.slice TA q.trucks.length tc, .slice BA q.bikes.length bc]] wx (CostPost wx x q)) := Lib.hid (fun wx hb => by
        have h := planCost_any x p TA BA tc bc q wx (HI6.out.at_ hb) (HP6.out.below hb |>.more hb.size) HX.out HPL.out
        rw [HXC.out] at h
        exact h)
      have HC2 : Hid (∀ wx, Below wc.heap.size wc wx → Calls Try.prog 27 #[.agg XC, .agg #[.slice TA q.trucks.length tc, .slice A8 l.length c8]] wx (CostPost wx x ⟨q.trucks, l⟩)) := Lib.hid (fun wx hb => by
        have h6 := HB8.out.trans (hb.mono HB8.out.size)
        have h := planCost_any x p TA A8 tc c8 ⟨q.trucks, l⟩ wx (HI6.out.at_ h6) ⟨trucks_more (HP6.out.trucks.below h6) h6.size, bikes_more (HBK.out.below hb) hb.size⟩ HX.out HPL2.out
        rw [HXC.out] at h
        exact h)
      have HCL : Hid (planCode x q = 0 → planCode x ⟨q.trucks, l⟩ = 0 → planCost x ⟨q.trucks, l⟩ - planCost x q = roundsOf x l - roundsOf x q.bikes) := Lib.hid (fun h1 h2 => cost_less (bs := q.bikes) h1 h2)
      obtain ⟨cd1, hc1⟩ : ∃ c, planCode x q = c := ⟨_, rfl⟩
      obtain ⟨cd2, hc2⟩ : ∃ c, planCode x ⟨q.trucks, l⟩ = c := ⟨_, rfl⟩
      obtain ⟨ct1, ht1⟩ : ∃ c, planCost x q = c := ⟨_, rfl⟩
      obtain ⟨ct2, ht2⟩ : ∃ c, planCost x ⟨q.trucks, l⟩ = c := ⟨_, rfl⟩
      have hin1 := planCost_in HX.out HPL.out
      have hin2 := planCost_in HX.out HPL2.out
      rw [ht1] at hin1 HCL
      rw [ht2] at hin2 HCL
      rw [hc1, hc2] at HCL
      unfold CostPost at HC1 HC2
      rw [hc1, ht1] at HC1
      rw [hc2, ht2] at HC2
      obtain ⟨g1, g2⟩ := hin1
      obtain ⟨g3, g4⟩ := hin2
      obtain ⟨av, hav⟩ : ∃ v, (if cd1 = 0 then ct1 else 0) = v := ⟨_, rfl⟩
      obtain ⟨bv, hbv⟩ : ∃ v, (if cd2 = 0 then ct2 else 0) = v := ⟨_, rfl⟩
      rw [hav] at HC1
      rw [hbv] at HC2
      have HAV := Lib.hid (And.intro hav hbv)
      have hb1 : 0 ≤ av ∧ av ≤ 700000000000 := by rw [← hav]; split <;> omega
      have hb2 : 0 ≤ bv ∧ bv ≤ 700000000000 := by rw [← hbv]; split <;> omega
      obtain ⟨b1, b11⟩ := hb1
      obtain ⟨b22, b23⟩ := hb2
      have HXB : Hid (∀ wx, Below w6.heap.size w6 wx → wx.heap[ib]? = some (.cells XC 58 (0, 0))) := Lib.hid (fun wx hb => (hb.block ib HLT.out.1).trans (HS6.out.blk 1 rfl))
      have HPB : Hid (∀ wx, Below w6.heap.size w6 wx → wx.heap[pb]? = some (.cells #[.slice TA q.trucks.length tc, .slice BA q.bikes.length bc] 39 (0, 0))) := Lib.hid (fun wx hb => (hb.block pb HLT.out.2.1).trans (HS6.out.blk 0 rfl))
      clear hc1 hc2 ht1 ht2 hav hbv g1 g2 g3 g4
      go_upto_region 8 with first
        | (refine wpList_load_row rfl 58 _ rfl ib rfl _ XC _ _ (HXB.out _ HB8.out) Try.underlying58 rfl HXI.out ?_)
        | (refine wpList_load_row rfl 39 _ rfl pb rfl _ #[.slice TA q.trucks.length tc, .slice BA q.bikes.length bc] _ _ (HPB.out _ HB8.out) Try.underlying39 rfl HPS.out ?_)
        | (go_at_call 27; (with_reducible refine (HC1.out _ HB8.out).mono ?_); rintro e w11 ⟨rfl, hb11⟩
           have HB11 := Lib.hid hb11
           have HB12 := Lib.hid (HB8.out.trans (hb11.mono HB8.out.size))
           clear hb11 HC1)
      have yp : w11.cell? ⟨pb, 0, none⟩ = some (.slice TA q.trucks.length tc) := by rw [cell_of_row _ _ _ _ _ _ (HPB.out _ HB12.out)]; rfl
      go_upto_region 9 with first
        | (refine wpList_load_row rfl 58 _ rfl ib rfl _ XC _ _ (HXB.out _ HB12.out) Try.underlying58 rfl HXI.out ?_)
        | (go_at_call 27; (with_reducible refine (HC2.out _ HB11.out).mono ?_); rintro e w13 ⟨rfl, hb13⟩
           have HBZ := Lib.hid (HS6.out.below.trans ((HB12.out.trans (hb13.mono HB12.out.size)).mono HS6.out.below.size))
           clear hb13 HC2 yp)
      cases o with
      | none =>
        obtain ⟨rfl, rfl⟩ := HD.out
        have HOK : Hid (ok2 = false) := Lib.hid HM.out.2
        obtain rfl := HM.out.2
        by_cases z1 : cd1 = 0
        · subst z1
          by_cases z2 : cd2 = 0
          · subst z2
            go_wp2_with fail
            go_ret
            exact ⟨rfl, HBZ.out⟩
          · have t2 : (cd2 != 0) = true := by simpa using z2
            clear z2
            go_wp2_with fail
            go_ret
            exact ⟨rfl, HBZ.out⟩
        · have t1 : (cd1 != 0) = true := by simpa using z1
          clear z1
          go_wp2_with fail
          go_ret
          exact ⟨rfl, HBZ.out⟩
      | some now =>
        have hd1 : d = roundsOf x now - roundsOf x q.bikes := HD.out.1
        obtain rfl : okk = true := HD.out.2
        obtain rfl := HM.out.2
        have hl1 : l = now := HM.out.1
        by_cases z1 : cd1 = 0
        · by_cases z2 : cd2 = 0
          · have HV : Hid (bv - av = d) := Lib.hid (by rw [← HAV.out.1, ← HAV.out.2, if_pos z1, if_pos z2, HCL.out z1 z2, hd1, hl1])
            subst z1 z2
            obtain ⟨df, hdf⟩ : ∃ v, bv - av = v := ⟨_, rfl⟩
            have hd2 : d = bv - av := HV.out.symm
            clear hd1 hl1 hdf
            subst hd2
            go_wp2_with fail
            go_ret
            exact ⟨retBool (by simp), HBZ.out⟩
          · have t2 : (cd2 != 0) = true := by simpa using z2
            subst z1
            clear z2 hd1 hl1
            go_wp2_with fail
            go_ret
            exact ⟨rfl, HBZ.out⟩
        · have t1 : (cd1 != 0) = true := by simpa using z1
          clear z1 hd1 hl1
          go_wp2_with fail
          go_ret
          exact ⟨rfl, HBZ.out⟩
set_option maxRecDepth 100000 in
theorem deltaPlan_walk {H : Type} {enc : TypeId × Value → H} {base : Nat} (W : World) (v0 : Value) (d0 : DataW H) (p0 : List MemPlace) (o0 : Value.okWide Try.prog W .any base 49 v0) (k0 : DataW.Trod enc Try.prog W 0 (fun _ => true) true 49 v0 d0 p0)
    (v1 : Value) (d1 : DataW H) (p1 : List MemPlace) (o1 : Value.okWide Try.prog W .any base 51 v1) (k1 : DataW.Trod enc Try.prog W 0 (fun _ => true) true 51 v1 d1 p1) (v2 : Value) (d2 : DataW H) (p2 : List MemPlace) (o2 : Value.okWide Try.prog W .any base 25 v2) (k2 : DataW.Trod enc Try.prog W 0 (fun _ => true) true 25 v2 d2 p2) :
    Calls Try.prog 10 #[v0, v1, v2] W fun e w' => e = .returned (.bool true) ∧ Below W.heap.size W w' := by
  obtain ⟨sp, s, rfl, hI, hl, hok⟩ := small_open o0 k0
  obtain ⟨a, u, rfl, hW, hu, hul⟩ := wish_open o1 k1
  obtain ⟨m, rfl, hm⟩ := smm_open o2 k2
  exact deltaPlan_any sp s a u m.kind m.a m.i m.b m.j W hI hl hok hW hu hul hm
end Go.Proofs.Ytpbhbmdghafkmaa
