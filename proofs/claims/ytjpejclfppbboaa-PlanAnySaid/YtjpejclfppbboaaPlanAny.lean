/- The walk of law PlanAny. (printed by gen/plananywalk.py) -/
import Derived.Test.YtjpejclfppbboaaLight17
import Derived.Test.YtjpejclfppbboaaOpenD17
import Derived.Test.YtjpejclfppbboaaSmallOpen
namespace Go.Proofs.Ytjpejclfppbboaa
open Go.ChangeShapes Go.WideShapes Go.ChangeAt Go.RowKit
set_option linter.unusedVariables false
/-- Light, Check and Code, told together of an instance that Make makes. -/
def LightPost (c : Int → Prop) (q : PlanV) (P : Prop) (w : World) (e : Ending) (w' : World) : Prop := (∃ b : Bool, e = .returned (.bool b) ∧ (b = true → P)) ∧ Below w.heap.size w w'
structure AnyIn (TA BA : Option Addr) (tc bc : Nat) (x : InstV) (q : PlanV) (n : Nat) (w : World) : Prop where
  chk : ∀ (p : IAt) (wx : World), Below n w wx → InstIn wx wx.heap.size p x → Calls Try.prog 17 #[.agg (x.cells p), .agg #[.slice TA q.trucks.length tc, .slice BA q.bikes.length bc]] wx fun e w' => e = .returned (.int .i64 (if fleetB x q = false then 11 else planCode x q)) ∧ Below wx.heap.size wx w'
  cod : ∀ (p : IAt) (wx : World), Below n w wx → InstIn wx wx.heap.size p x → Calls Try.prog 18 #[.agg (x.cells p), .agg #[.slice TA q.trucks.length tc, .slice BA q.bikes.length bc]] wx fun e w' => e = .returned (.int .i64 (if fleetB x q = false then 11 else planCode x q)) ∧ Below wx.heap.size wx w'
theorem light_two (TA BA : Option Addr) (tc bc : Nat) (q : PlanV) (x : InstV) (w : World) (hx : x.Small) (hP : PlanIn w w.heap.size TA BA q) (hTC : TrucksC w w.heap.size TA q.trucks) (h1 : q.trucks.length ≤ maxLen ∧ ∀ t ∈ q.trucks, t.length ≤ maxLen) (h2 : q.bikes.length ≤ maxLen) (hR : PlanR q) :
    Calls Try.prog 15 #[.agg #[.slice TA q.trucks.length tc, .slice BA q.bikes.length bc]] w (LightPost (fun _ => True) q (AnyIn TA BA tc bc x q w.heap.size w) w) := by
  cases hf : fleetB x q
  · have hf2 : ¬ ((q.trucks.length : Int) ≤ x.tm ∧ (q.bikes.length : Int) ≤ x.bm) := by
      unfold fleetB at hf
      intro h
      rw [decide_eq_true h.1, decide_eq_true h.2] at hf
      cases hf
    refine (light_some TA BA tc bc q w hP h1.1 h2).mono ?_
    rintro e w' ⟨⟨b, rfl⟩, hb⟩
    refine ⟨⟨b, rfl, fun _ => ⟨fun p wx hbx hI => ?_, fun p wx hbx hI => ?_⟩⟩, hb⟩
    · rw [hf, if_pos rfl]
      exact planCheck_fleet x p TA BA q.trucks.length tc q.bikes.length bc wx hI hx.lens hx.code hf2
    · rw [hf, if_pos rfl]
      exact code_fleet x p TA BA q.trucks.length tc q.bikes.length bc wx hf2
  · have hfl : (q.trucks.length : Int) ≤ x.tm ∧ (q.bikes.length : Int) ≤ x.bm := by
      unfold fleetB at hf
      simpa using hf
    have htm := hx.tm
    have hbm := hx.bm
    have hs := flatten_max (m := 8796093022208) (fun t ht => by have := hR.stops t ht; unfold reachBytes at this; omega)
    have hc := allStops_max (m := 17592186044416) (fun b hb => by have := hR.custs b hb; unfold reachBytes at this; omega)
    have g1 : q.trucks.length ≤ 4 := by omega
    have g2 : q.bikes.length ≤ 6 := by omega
    refine (light_any TA BA tc bc q w hP ⟨by omega, by omega, by omega, by omega⟩).mono ?_
    rintro e w' ⟨rfl, hb⟩
    refine ⟨⟨_, rfl, fun h => ⟨fun p wx hbx hI => ?_, fun p wx hbx hI => ?_⟩⟩, hb⟩
    · rw [if_neg (by rw [hf]; simp)]
      exact planCheck_any x p TA BA tc bc q wx hI ⟨hP.trucks.at_ hbx, hP.bikes.at_ hbx⟩ hx (PlanW.light (of_decide_eq_true h))
    · rw [if_neg (by rw [hf]; simp)]
      exact code_any x p TA BA tc bc q wx hI ⟨hP.trucks.at_ hbx, hP.bikes.at_ hbx⟩ ((hTC.below hbx).more hbx.size) hx (PlanW.light (of_decide_eq_true h))
set_option maxRecDepth 100000 in
set_option maxHeartbeats 2000000 in
theorem planAny0 (s : SmallV) (sp : IAt) (TA BA : Option Addr) (tc bc : Nat) (q : PlanV) (w : World) (hI : SmallIn w w.heap.size sp s) (hl : SmallL s) (hok : s.ok) (hP : PlanIn w w.heap.size TA BA q) (hTC : TrucksC w w.heap.size TA q.trucks) (h1 : q.trucks.length ≤ maxLen ∧ ∀ t ∈ q.trucks, t.length ≤ maxLen) (h2 : q.bikes.length ≤ maxLen) (hR : PlanR q) :
    Calls Try.prog 3 #[.agg (s.vals sp), .agg #[.slice TA q.trucks.length tc, .slice BA q.bikes.length bc]] w fun e w' => e = .returned (.bool true) ∧ Below w.heap.size w w' := by
  have hx := SmallV.small hok
  have HLT : Hid (∀ wx, Below w.heap.size w wx → Calls Try.prog 15 #[.agg #[.slice TA q.trucks.length tc, .slice BA q.bikes.length bc]] wx (LightPost (fun _ => True) q (AnyIn TA BA tc bc s.mk_ q wx.heap.size wx) wx)) := Lib.hid (fun wx hb => light_two TA BA tc bc q s.mk_ wx hx ⟨hP.trucks.at_ hb, hP.bikes.at_ hb⟩ ((hTC.below hb).more hb.size) h1 h2 hR)
  have HMK : Hid (∀ wx, Below w.heap.size w wx → Calls Try.prog 16 #[.agg #[.int .u8 s.fin, .int .u8 s.trucks, .int .u8 s.troom, .int .u8 s.bikes, .int .u8 s.broom, .slice sp.SA s.sats.length sp.sc, .slice sp.CA s.custs.length sp.cc, .slice sp.KA s.cost.length sp.kc, .slice sp.TA s.time.length sp.tc, .bool s.tight, .bool s.loose]] wx (MakePost wx s.mk_)) := Lib.hid (fun wx hb => make_any s sp wx ((hI.below hb).more hb.size) hl hok)
  have HS0 := Lib.hid (((SL.start (Nat.le_refl w.heap.size)).alloc (s.vals sp) 26).alloc #[.slice TA q.trucks.length tc, .slice BA q.bikes.length bc] 30)
  clear hI hl hok hP hTC h1 h2 hR hx
  unfold SmallV.vals
  obtain ⟨x, hxs⟩ : ∃ x, s.mk_ = x := ⟨_, rfl⟩
  rw [hxs] at HLT HMK
  clear hxs
  go_enter Try.func3, Try.ntmps3
  go_upto_region 1 with fail
  obtain ⟨sb, hsb⟩ : ∃ sb, sb = w.heap.size := ⟨_, rfl⟩
  obtain ⟨pb, hpb⟩ : ∃ pb, pb = w.heap.size + 1 := ⟨_, rfl⟩
  obtain ⟨pc, hpc⟩ : ∃ pc : Array Value, pc = #[.slice TA q.trucks.length tc, .slice BA q.bikes.length bc] := ⟨_, rfl⟩
  obtain ⟨sc, hsc⟩ : ∃ sc : Array Value, sc = #[.int .u8 s.fin, .int .u8 s.trucks, .int .u8 s.troom, .int .u8 s.bikes, .int .u8 s.broom, .slice sp.SA s.sats.length sp.sc, .slice sp.CA s.custs.length sp.cc, .slice sp.KA s.cost.length sp.kc, .slice sp.TA s.time.length sp.tc, .bool s.tight, .bool s.loose] := ⟨_, rfl⟩
  have HPC := Lib.hid hpc
  have HSC := Lib.hid hsc
  have HS1 : Hid (SL w w.heap.size [.blk pb pc 30, .blk sb sc 26] ((w.alloc (.cells #[.int .u8 s.fin, .int .u8 s.trucks, .int .u8 s.troom, .int .u8 s.bikes, .int .u8 s.broom, .slice sp.SA s.sats.length sp.sc, .slice sp.CA s.custs.length sp.cc, .slice sp.KA s.cost.length sp.kc, .slice sp.TA s.time.length sp.tc, .bool s.tight, .bool s.loose] 26)).alloc (.cells #[.slice TA q.trucks.length tc, .slice BA q.bikes.length bc] 30))) := Lib.hid (by
    have h := HS0.out
    unfold SmallV.vals at h
    rw [hsb, hpb, hpc, hsc]
    simpa using h)
  rw [← hpb, ← hsb]
  clear hpb hsb HS0 hpc hsc
  generalize ((w.alloc (.cells #[.int .u8 s.fin, .int .u8 s.trucks, .int .u8 s.troom, .int .u8 s.bikes, .int .u8 s.broom, .slice sp.SA s.sats.length sp.sc, .slice sp.CA s.custs.length sp.cc, .slice sp.KA s.cost.length sp.kc, .slice sp.TA s.time.length sp.tc, .bool s.tight, .bool s.loose] 26)).alloc (.cells #[.slice TA q.trucks.length tc, .slice BA q.bikes.length bc] 30)) = w1 at *
  go_upto_region 3 with (go_at_call 14; (with_reducible refine (awake17 _).mono ?_); rintro e w2 ⟨rfl, hb⟩
                         have HS2 := Lib.hid (HS1.out.call hb)
                         clear hb)
  have hS2 := HS2.out
  clear HS1
  have ap0 : w2.cell? ⟨pb, 0, none⟩ = some (.slice TA q.trucks.length tc) := hS2.cell 0 rfl 0 (by rw [HPC.out]; rfl)
  have ap1 : w2.cell? ⟨pb, 1, none⟩ = some (.slice BA q.bikes.length bc) := hS2.cell 0 rfl 1 (by rw [HPC.out]; rfl)
  clear hS2
  go_wp2_with (go_at_call 15; (with_reducible refine (HLT.out _ HS2.out.below).mono ?_); rintro e w3 ⟨⟨b, rfl, hy⟩, hb⟩
               have HYES := Lib.hid hy
               have HB3 := Lib.hid hb
               have HS3 := Lib.hid (HS2.out.call hb)
               have hS3 := HS3.out
               have b0 : w3.cell? ⟨sb, 0, none⟩ = some (.int .u8 s.fin) := hS3.cell 1 rfl 0 (by rw [HSC.out]; rfl)
               have b1 : w3.cell? ⟨sb, 1, none⟩ = some (.int .u8 s.trucks) := hS3.cell 1 rfl 1 (by rw [HSC.out]; rfl)
               have b2 : w3.cell? ⟨sb, 2, none⟩ = some (.int .u8 s.troom) := hS3.cell 1 rfl 2 (by rw [HSC.out]; rfl)
               have b3 : w3.cell? ⟨sb, 3, none⟩ = some (.int .u8 s.bikes) := hS3.cell 1 rfl 3 (by rw [HSC.out]; rfl)
               have b4 : w3.cell? ⟨sb, 4, none⟩ = some (.int .u8 s.broom) := hS3.cell 1 rfl 4 (by rw [HSC.out]; rfl)
               have b5 : w3.cell? ⟨sb, 5, none⟩ = some (.slice sp.SA s.sats.length sp.sc) := hS3.cell 1 rfl 5 (by rw [HSC.out]; rfl)
               have b6 : w3.cell? ⟨sb, 6, none⟩ = some (.slice sp.CA s.custs.length sp.cc) := hS3.cell 1 rfl 6 (by rw [HSC.out]; rfl)
               have b7 : w3.cell? ⟨sb, 7, none⟩ = some (.slice sp.KA s.cost.length sp.kc) := hS3.cell 1 rfl 7 (by rw [HSC.out]; rfl)
               have b8 : w3.cell? ⟨sb, 8, none⟩ = some (.slice sp.TA s.time.length sp.tc) := hS3.cell 1 rfl 8 (by rw [HSC.out]; rfl)
               have b9 : w3.cell? ⟨sb, 9, none⟩ = some (.bool s.tight) := hS3.cell 1 rfl 9 (by rw [HSC.out]; rfl)
               have b10 : w3.cell? ⟨sb, 10, none⟩ = some (.bool s.loose) := hS3.cell 1 rfl 10 (by rw [HSC.out]; rfl)
               clear hb ap0 ap1 hy hS3
               cases b)
  · go_wp2_with fail
    go_ret
    exact ⟨rfl, HS3.out.below⟩
  have HAI := Lib.hid (HYES.out (by simp))
  clear HYES HLT
  go_upto_region 6 with (go_at_call 16; (with_reducible refine (HMK.out _ HS3.out.below).mono ?_); rintro e w4 ⟨p, hk, ht, rfl, hl1, hl2, hq⟩
                         have HB4 := Lib.hid (hq.below.mono HB3.out.size)
                         have HS4 := Lib.hid ((HS3.out.call hq.below).alloc (x.cells p) 39)
                         have HI4 := Lib.hid (made_in hl1 hl2 hq).1
                         clear hq hl1 hl2 b0 b1 b2 b3 b4 b5 b6 b7 b8 b9 b10
                         unfold InstV.cells)
  obtain ⟨ib, hib⟩ : ∃ ib, ib = w4.heap.size := ⟨_, rfl⟩
  obtain ⟨ic, hic⟩ : ∃ ic : Array Value, ic = #[.int .i64 x.fin, .int .i64 x.tm, .int .i64 x.tr, .int .i64 x.bm, .int .i64 x.br, .slice p.SA x.sats.length p.sc, .slice p.CA x.custs.length p.cc, .slice p.KA x.cost.length p.kc, .slice p.TA x.time.length p.tc] := ⟨_, rfl⟩
  have HIC := Lib.hid hic
  have HB5 : Hid (Below w2.heap.size w2 (w4.alloc (.cells #[.int .i64 x.fin, .int .i64 x.tm, .int .i64 x.tr, .int .i64 x.bm, .int .i64 x.br, .slice p.SA x.sats.length p.sc, .slice p.CA x.custs.length p.cc, .slice p.KA x.cost.length p.kc, .slice p.TA x.time.length p.tc] 39))) := Lib.hid ((HB3.out.trans HB4.out).trans ((Below.refl _ _).alloc (Nat.le_trans HB3.out.size HB4.out.size) _))
  have HI5 : Hid (InstIn (w4.alloc (.cells #[.int .i64 x.fin, .int .i64 x.tm, .int .i64 x.tr, .int .i64 x.bm, .int .i64 x.br, .slice p.SA x.sats.length p.sc, .slice p.CA x.custs.length p.cc, .slice p.KA x.cost.length p.kc, .slice p.TA x.time.length p.tc] 39)) (w4.alloc (.cells #[.int .i64 x.fin, .int .i64 x.tm, .int .i64 x.tr, .int .i64 x.bm, .int .i64 x.br, .slice p.SA x.sats.length p.sc, .slice p.CA x.custs.length p.cc, .slice p.KA x.cost.length p.kc, .slice p.TA x.time.length p.tc] 39)).heap.size p x) := Lib.hid (HI4.out.at_ ((Below.refl _ _).alloc (Nat.le_refl _) _))
  have HS5 : Hid (SL w w.heap.size [.blk ib ic 39, .blk pb pc 30, .blk sb sc 26] (w4.alloc (.cells #[.int .i64 x.fin, .int .i64 x.tm, .int .i64 x.tr, .int .i64 x.bm, .int .i64 x.br, .slice p.SA x.sats.length p.sc, .slice p.CA x.custs.length p.cc, .slice p.KA x.cost.length p.kc, .slice p.TA x.time.length p.tc] 39))) := Lib.hid (by
    have h := HS4.out
    unfold InstV.cells at h
    rw [hib, hic]
    exact h)
  rw [← hib]
  generalize (w4.alloc (.cells #[.int .i64 x.fin, .int .i64 x.tm, .int .i64 x.tr, .int .i64 x.bm, .int .i64 x.br, .slice p.SA x.sats.length p.sc, .slice p.CA x.custs.length p.cc, .slice p.KA x.cost.length p.kc, .slice p.TA x.time.length p.tc] 39)) = w5 at *
  clear hib hic HS4 HI4 HB4 HB3 HS3 HS2 HMK
  obtain ⟨d, hd⟩ : ∃ d, (if fleetB x q = false then 11 else planCode x q) = d := ⟨_, rfl⟩
  have HD := Lib.hid hd
  clear hd
  refine wp_region_sq _ (SL.start (Nat.le_refl w5.heap.size)) (by kernel_rfl) (by kernel_rfl) fun C cw _ hC hin => ?_
  have hlt1 := (HS5.out.lt 0 rfl).2
  have hlt2 := (HS5.out.lt 1 rfl).2
  have q0 : ∀ c, (cw c).cell? ⟨ib, 0, none⟩ = some (.int .i64 x.fin) := fun c => ((hC c).below.cell (p := ⟨ib, 0, none⟩) hlt1).trans (HS5.out.cell 0 rfl 0 (by rw [HIC.out]; rfl))
  have q1 : ∀ c, (cw c).cell? ⟨ib, 1, none⟩ = some (.int .i64 x.tm) := fun c => ((hC c).below.cell (p := ⟨ib, 1, none⟩) hlt1).trans (HS5.out.cell 0 rfl 1 (by rw [HIC.out]; rfl))
  have q2 : ∀ c, (cw c).cell? ⟨ib, 2, none⟩ = some (.int .i64 x.tr) := fun c => ((hC c).below.cell (p := ⟨ib, 2, none⟩) hlt1).trans (HS5.out.cell 0 rfl 2 (by rw [HIC.out]; rfl))
  have q3 : ∀ c, (cw c).cell? ⟨ib, 3, none⟩ = some (.int .i64 x.bm) := fun c => ((hC c).below.cell (p := ⟨ib, 3, none⟩) hlt1).trans (HS5.out.cell 0 rfl 3 (by rw [HIC.out]; rfl))
  have q4 : ∀ c, (cw c).cell? ⟨ib, 4, none⟩ = some (.int .i64 x.br) := fun c => ((hC c).below.cell (p := ⟨ib, 4, none⟩) hlt1).trans (HS5.out.cell 0 rfl 4 (by rw [HIC.out]; rfl))
  have q5 : ∀ c, (cw c).cell? ⟨ib, 5, none⟩ = some (.slice p.SA x.sats.length p.sc) := fun c => ((hC c).below.cell (p := ⟨ib, 5, none⟩) hlt1).trans (HS5.out.cell 0 rfl 5 (by rw [HIC.out]; rfl))
  have q6 : ∀ c, (cw c).cell? ⟨ib, 6, none⟩ = some (.slice p.CA x.custs.length p.cc) := fun c => ((hC c).below.cell (p := ⟨ib, 6, none⟩) hlt1).trans (HS5.out.cell 0 rfl 6 (by rw [HIC.out]; rfl))
  have q7 : ∀ c, (cw c).cell? ⟨ib, 7, none⟩ = some (.slice p.KA x.cost.length p.kc) := fun c => ((hC c).below.cell (p := ⟨ib, 7, none⟩) hlt1).trans (HS5.out.cell 0 rfl 7 (by rw [HIC.out]; rfl))
  have q8 : ∀ c, (cw c).cell? ⟨ib, 8, none⟩ = some (.slice p.TA x.time.length p.tc) := fun c => ((hC c).below.cell (p := ⟨ib, 8, none⟩) hlt1).trans (HS5.out.cell 0 rfl 8 (by rw [HIC.out]; rfl))
  have qp0 : ∀ c, (cw c).cell? ⟨pb, 0, none⟩ = some (.slice TA q.trucks.length tc) := fun c => ((hC c).below.cell (p := ⟨pb, 0, none⟩) hlt2).trans (HS5.out.cell 1 rfl 0 (by rw [HPC.out]; rfl))
  have qp1 : ∀ c, (cw c).cell? ⟨pb, 1, none⟩ = some (.slice BA q.bikes.length bc) := fun c => ((hC c).below.cell (p := ⟨pb, 1, none⟩) hlt2).trans (HS5.out.cell 1 rfl 1 (by rw [HPC.out]; rfl))
  have HCKc : Hid (∀ c, Calls Try.prog 17 #[.agg #[.int .i64 x.fin, .int .i64 x.tm, .int .i64 x.tr, .int .i64 x.bm, .int .i64 x.br, .slice p.SA x.sats.length p.sc, .slice p.CA x.custs.length p.cc, .slice p.KA x.cost.length p.kc, .slice p.TA x.time.length p.tc], .agg #[.slice TA q.trucks.length tc, .slice BA q.bikes.length bc]] (cw c) fun e w' => e = .returned (.int .i64 d) ∧ ∃ c', w' = cw c') := Lib.hid (fun c => sq_call (hC c) hin (by have h := HAI.out.chk p (cw c) (HB5.out.trans ((hC c).below.mono HB5.out.size)) (HI5.out.at_ (hC c).below); rw [HD.out] at h; exact h))
  have HCOc : Hid (∀ c, Calls Try.prog 18 #[.agg #[.int .i64 x.fin, .int .i64 x.tm, .int .i64 x.tr, .int .i64 x.bm, .int .i64 x.br, .slice p.SA x.sats.length p.sc, .slice p.CA x.custs.length p.cc, .slice p.KA x.cost.length p.kc, .slice p.TA x.time.length p.tc], .agg #[.slice TA q.trucks.length tc, .slice BA q.bikes.length bc]] (cw c) fun e w' => e = .returned (.int .i64 d) ∧ ∃ c', w' = cw c') := Lib.hid (fun c => sq_call (hC c) hin (by have h := HAI.out.cod p (cw c) (HB5.out.trans ((hC c).below.mono HB5.out.size)) (HI5.out.at_ (hC c).below); rw [HD.out] at h; exact h))
  have HBW := Lib.hid HS5.out.below
  clear hC hin HAI HI5 HB5 HS5
  repeat (any_goals (go_big_quiet_step (first | (go_at_call 17; with_reducible exact HCKc.out _) | (go_at_call 18; with_reducible exact HCOc.out _))))
  refine wpQuiet_nil ?_
  intro w6 hS6
  have HB6 := Lib.hid (HBW.out.trans (hS6.below.mono HBW.out.size))
  clear hS6
  go_wp2_with fail
  go_ret
  exact ⟨rfl, HB6.out⟩
set_option maxRecDepth 100000 in
theorem planAny_walk {H : Type} {enc : TypeId × Value → H} {base : Nat} (W : World) (v0 : Value) (d0 : DataW H) (p0 : List MemPlace) (o0 : Value.okWide Try.prog W .any base 26 v0) (k0 : DataW.Trod enc Try.prog W 0 (fun _ => true) true 26 v0 d0 p0)
    (v1 : Value) (d1 : DataW H) (p1 : List MemPlace) (o1 : Value.okWide Try.prog W .any base 30 v1) (k1 : DataW.Trod enc Try.prog W 0 (fun _ => true) true 30 v1 d1 p1) (z1 : ∀ m ∈ d1.weights Try.prog 30, m ≤ reachBytes) :
    Calls Try.prog 3 #[v0, v1] W fun e w' => e = .returned (.bool true) ∧ Below W.heap.size W w' := by
  obtain ⟨sp, s, rfl, hI, hl, hok⟩ := small_open o0 k0
  obtain ⟨TA, BA, tc, bc, pl, rfl, hT, hB, h1, h2, hd, _, _⟩ := plan_openD o1 k1
  exact planAny0 s sp TA BA tc bc pl W hI hl hok ⟨hT.plain, hB.plain⟩ hT h1 h2.1 (hd.reach z1)
end Go.Proofs.Ytjpejclfppbboaa
