/- The walk of law DeltaNone. (printed by gen/deltanone.py) -/
import Derived.Test.YtpbhbmdghafkmaaLightS
import Derived.Test.YtpbhbmdghafkmaaWide24
import Derived.Test.YtpbhbmdghafkmaaAwake24
import Derived.Test.YtpbhbmdghafkmaaOpenD17
import Derived.Test.YtpbhbmdghafkmaaMoveOpen
import Derived.Deep.CutBlock
import Derived.Deep.CutRange
import Derived.Deep.DeepCutAuto
namespace Go.Proofs.Ytpbhbmdghafkmaa
open Go.ChangeShapes Go.WideShapes Go.ChangeAt Go.RowKit
set_option linter.unusedVariables false
set_option linter.unusedSimpArgs false
set_option maxRecDepth 100000 in
set_option maxHeartbeats 8000000 in
theorem deltaNone0 (x : InstV) (p : IAt) (TA BA : Option Addr) (tc bc : Nat) (q : PlanV) (kd a i b j : Int) (w : World) (hI : InstIn w w.heap.size p x) (hl : InstL x) (hP : PlanIn w w.heap.size TA BA q) (h1 : q.trucks.length ≤ maxLen) (h2 : q.bikes.length ≤ maxLen) (h3 : ∀ b ∈ q.bikes, b.stops.length * 8 ≤ 140737488351232) :
    Calls Try.prog 9 #[.agg (x.cells p), .agg #[.slice TA q.trucks.length tc, .slice BA q.bikes.length bc], .agg #[.int .i64 kd, .int .i64 a, .int .i64 i, .int .i64 b, .int .i64 j]] w fun e w' => e = .returned (.bool true) ∧ Below w.heap.size w w' := by
  have HLT : Hid (∀ wx, Below w.heap.size w wx → Calls Try.prog 18 #[.agg #[.slice TA q.trucks.length tc, .slice BA q.bikes.length bc]] wx fun e w' => (∃ b : Bool, e = .returned (.bool b)) ∧ Below wx.heap.size wx w') := Lib.hid (fun wx hb => light_some TA BA tc bc q wx ⟨trucks_more (hP.trucks.below hb) hb.size, bikes_more (hP.bikes.below hb) hb.size⟩ h1 h2)
  have HCK : Hid (∀ wx, Below w.heap.size w wx → Calls Try.prog 26 #[.agg #[.int .i64 x.fin, .int .i64 x.tm, .int .i64 x.tr, .int .i64 x.bm, .int .i64 x.br, .slice p.SA x.sats.length p.sc, .slice p.CA x.custs.length p.cc, .slice p.KA x.cost.length p.kc, .slice p.TA x.time.length p.tc]] wx fun e w' => e = .returned (.int .i64 x.code) ∧ Below wx.heap.size wx w') := Lib.hid (fun wx hb => check_any x p wx (hI.at_ hb) hl)
  have HCH : Hid (x.code ≠ 0 → ∀ wx, Below w.heap.size w wx → Calls Try.prog 25 #[.agg #[.int .i64 x.fin, .int .i64 x.tm, .int .i64 x.tr, .int .i64 x.bm, .int .i64 x.br, .slice p.SA x.sats.length p.sc, .slice p.CA x.custs.length p.cc, .slice p.KA x.cost.length p.kc, .slice p.TA x.time.length p.tc], .slice BA q.bikes.length bc, .agg #[.int .i64 kd, .int .i64 a, .int .i64 i, .int .i64 b, .int .i64 j]] wx fun e w' => e = .returned (.tuple #[.int .i64 0, .bool false]) ∧ Below wx.heap.size wx w') := Lib.hid (fun hc wx hb => change_bad x p BA q.bikes.length bc kd a i b j wx (hI.at_ hb) hl hc)
  have HRO : Hid (x.code ≠ 0 → ∀ wx, Below w.heap.size w wx → Calls Try.prog 23 #[.agg #[.int .i64 x.fin, .int .i64 x.tm, .int .i64 x.tr, .int .i64 x.bm, .int .i64 x.br, .slice p.SA x.sats.length p.sc, .slice p.CA x.custs.length p.cc, .slice p.KA x.cost.length p.kc, .slice p.TA x.time.length p.tc], .slice BA q.bikes.length bc] wx fun e w' => e = .returned (.int .i64 0) ∧ Below wx.heap.size wx w') := Lib.hid (fun hc wx hb => rounds_badW x p BA bc q.bikes wx (hI.at_ hb) hl hc (bikes_more (hP.bikes.below hb) hb.size) h2 h3)
  obtain ⟨cd, hcd⟩ : ∃ cd, x.code = cd := ⟨_, rfl⟩
  rw [hcd] at HCK HCH HRO
  have hS0 := (((SL.start (Nat.le_refl w.heap.size)).alloc (x.cells p) 58).alloc #[.slice TA q.trucks.length tc, .slice BA q.bikes.length bc] 39).alloc #[.int .i64 kd, .int .i64 a, .int .i64 i, .int .i64 b, .int .i64 j] 33
  have HS0 := Lib.hid hS0
  have hcl := hl.custs
  unfold maxLen at hcl
  clear hI hl hP hcd hS0 h1 h2 h3
  unfold InstV.cells
  go_enter Try.func9, Try.ntmps9
  go_upto_region 1 with fail
  obtain ⟨ib, hib⟩ : ∃ ib, ib = w.heap.size := ⟨_, rfl⟩
  obtain ⟨pb, hpb⟩ : ∃ pb, pb = w.heap.size + 1 := ⟨_, rfl⟩
  obtain ⟨mb, hmb⟩ : ∃ pb, pb = w.heap.size + 1 + 1 := ⟨_, rfl⟩
  obtain ⟨pc, hpc⟩ : ∃ pc : Array Value, pc = #[.slice TA q.trucks.length tc, .slice BA q.bikes.length bc] := ⟨_, rfl⟩
  obtain ⟨ic, hic⟩ : ∃ ic : Array Value, ic = #[.int .i64 x.fin, .int .i64 x.tm, .int .i64 x.tr, .int .i64 x.bm, .int .i64 x.br, .slice p.SA x.sats.length p.sc, .slice p.CA x.custs.length p.cc, .slice p.KA x.cost.length p.kc, .slice p.TA x.time.length p.tc] := ⟨_, rfl⟩
  have HPC := Lib.hid hpc
  have HIC := Lib.hid hic
  have HS1 : Hid (SL w w.heap.size [.blk mb #[.int .i64 kd, .int .i64 a, .int .i64 i, .int .i64 b, .int .i64 j] 33, .blk pb pc 39, .blk ib ic 58] (((w.alloc (.cells #[.int .i64 x.fin, .int .i64 x.tm, .int .i64 x.tr, .int .i64 x.bm, .int .i64 x.br, .slice p.SA x.sats.length p.sc, .slice p.CA x.custs.length p.cc, .slice p.KA x.cost.length p.kc, .slice p.TA x.time.length p.tc] 58)).alloc (.cells #[.slice TA q.trucks.length tc, .slice BA q.bikes.length bc] 39)).alloc (.cells #[.int .i64 kd, .int .i64 a, .int .i64 i, .int .i64 b, .int .i64 j] 33))) := Lib.hid (by
    have h := HS0.out
    unfold InstV.cells at h
    rw [hib, hpb, hpc, hic, hmb]
    simpa using h)
  rw [← hmb, ← hpb, ← hib]
  clear hpb hib hmb HS0 hpc hic
  generalize (((w.alloc (.cells #[.int .i64 x.fin, .int .i64 x.tm, .int .i64 x.tr, .int .i64 x.bm, .int .i64 x.br, .slice p.SA x.sats.length p.sc, .slice p.CA x.custs.length p.cc, .slice p.KA x.cost.length p.kc, .slice p.TA x.time.length p.tc] 58)).alloc (.cells #[.slice TA q.trucks.length tc, .slice BA q.bikes.length bc] 39)).alloc (.cells #[.int .i64 kd, .int .i64 a, .int .i64 i, .int .i64 b, .int .i64 j] 33)) = w1 at *
  go_upto_region 3 with (go_at_call 19; (with_reducible refine (awake24 _).mono ?_); rintro e w2 ⟨rfl, hb⟩
                         have HS2 := Lib.hid (HS1.out.call hb)
                         clear hb)
  have hS2 := HS2.out
  clear HS1
  have a0 : w2.cell? ⟨ib, 0, none⟩ = some (.int .i64 x.fin) := hS2.cell 2 rfl 0 (by rw [HIC.out]; rfl)
  have a1 : w2.cell? ⟨ib, 1, none⟩ = some (.int .i64 x.tm) := hS2.cell 2 rfl 1 (by rw [HIC.out]; rfl)
  have a2 : w2.cell? ⟨ib, 2, none⟩ = some (.int .i64 x.tr) := hS2.cell 2 rfl 2 (by rw [HIC.out]; rfl)
  have a3 : w2.cell? ⟨ib, 3, none⟩ = some (.int .i64 x.bm) := hS2.cell 2 rfl 3 (by rw [HIC.out]; rfl)
  have a4 : w2.cell? ⟨ib, 4, none⟩ = some (.int .i64 x.br) := hS2.cell 2 rfl 4 (by rw [HIC.out]; rfl)
  have a5 : w2.cell? ⟨ib, 5, none⟩ = some (.slice p.SA x.sats.length p.sc) := hS2.cell 2 rfl 5 (by rw [HIC.out]; rfl)
  have a6 : w2.cell? ⟨ib, 6, none⟩ = some (.slice p.CA x.custs.length p.cc) := hS2.cell 2 rfl 6 (by rw [HIC.out]; rfl)
  have a7 : w2.cell? ⟨ib, 7, none⟩ = some (.slice p.KA x.cost.length p.kc) := hS2.cell 2 rfl 7 (by rw [HIC.out]; rfl)
  have a8 : w2.cell? ⟨ib, 8, none⟩ = some (.slice p.TA x.time.length p.tc) := hS2.cell 2 rfl 8 (by rw [HIC.out]; rfl)
  have ap0 : w2.cell? ⟨pb, 0, none⟩ = some (.slice TA q.trucks.length tc) := hS2.cell 1 rfl 0 (by rw [HPC.out]; rfl)
  have ap1 : w2.cell? ⟨pb, 1, none⟩ = some (.slice BA q.bikes.length bc) := hS2.cell 1 rfl 1 (by rw [HPC.out]; rfl)
  have am0 : w2.cell? ⟨mb, 0, none⟩ = some (.int .i64 kd) := hS2.cell 0 rfl 0 rfl
  have am1 : w2.cell? ⟨mb, 1, none⟩ = some (.int .i64 a) := hS2.cell 0 rfl 1 rfl
  have am2 : w2.cell? ⟨mb, 2, none⟩ = some (.int .i64 i) := hS2.cell 0 rfl 2 rfl
  have am3 : w2.cell? ⟨mb, 3, none⟩ = some (.int .i64 b) := hS2.cell 0 rfl 3 rfl
  have am4 : w2.cell? ⟨mb, 4, none⟩ = some (.int .i64 j) := hS2.cell 0 rfl 4 rfl
  clear hS2
  by_cases g1 : 60 < x.custs.length
  case pos =>
    have g1b : (60 : Int) < (x.custs.length : Int) := by omega
    clear g1
    go_wp2_with fail
    go_ret
    exact ⟨rfl, HS2.out.below⟩
  case neg =>
  have g1b : ¬ (60 : Int) < (x.custs.length : Int) := by omega
  clear g1
  go_wp2_with (go_at_call 18; (with_reducible refine (HLT.out _ HS2.out.below).mono ?_); rintro e w3 ⟨⟨bl, rfl⟩, hb⟩
               have HS3 := Lib.hid (HS2.out.call hb)
               have hS3 := HS3.out
               have b0 : w3.cell? ⟨ib, 0, none⟩ = some (.int .i64 x.fin) := hS3.cell 2 rfl 0 (by rw [HIC.out]; rfl)
               have b1 : w3.cell? ⟨ib, 1, none⟩ = some (.int .i64 x.tm) := hS3.cell 2 rfl 1 (by rw [HIC.out]; rfl)
               have b2 : w3.cell? ⟨ib, 2, none⟩ = some (.int .i64 x.tr) := hS3.cell 2 rfl 2 (by rw [HIC.out]; rfl)
               have b3 : w3.cell? ⟨ib, 3, none⟩ = some (.int .i64 x.bm) := hS3.cell 2 rfl 3 (by rw [HIC.out]; rfl)
               have b4 : w3.cell? ⟨ib, 4, none⟩ = some (.int .i64 x.br) := hS3.cell 2 rfl 4 (by rw [HIC.out]; rfl)
               have b5 : w3.cell? ⟨ib, 5, none⟩ = some (.slice p.SA x.sats.length p.sc) := hS3.cell 2 rfl 5 (by rw [HIC.out]; rfl)
               have b6 : w3.cell? ⟨ib, 6, none⟩ = some (.slice p.CA x.custs.length p.cc) := hS3.cell 2 rfl 6 (by rw [HIC.out]; rfl)
               have b7 : w3.cell? ⟨ib, 7, none⟩ = some (.slice p.KA x.cost.length p.kc) := hS3.cell 2 rfl 7 (by rw [HIC.out]; rfl)
               have b8 : w3.cell? ⟨ib, 8, none⟩ = some (.slice p.TA x.time.length p.tc) := hS3.cell 2 rfl 8 (by rw [HIC.out]; rfl)
               have bp0 : w3.cell? ⟨pb, 0, none⟩ = some (.slice TA q.trucks.length tc) := hS3.cell 1 rfl 0 (by rw [HPC.out]; rfl)
               have bp1 : w3.cell? ⟨pb, 1, none⟩ = some (.slice BA q.bikes.length bc) := hS3.cell 1 rfl 1 (by rw [HPC.out]; rfl)
               have bm0 : w3.cell? ⟨mb, 0, none⟩ = some (.int .i64 kd) := hS3.cell 0 rfl 0 rfl
               have bm1 : w3.cell? ⟨mb, 1, none⟩ = some (.int .i64 a) := hS3.cell 0 rfl 1 rfl
               have bm2 : w3.cell? ⟨mb, 2, none⟩ = some (.int .i64 i) := hS3.cell 0 rfl 2 rfl
               have bm3 : w3.cell? ⟨mb, 3, none⟩ = some (.int .i64 b) := hS3.cell 0 rfl 3 rfl
               have bm4 : w3.cell? ⟨mb, 4, none⟩ = some (.int .i64 j) := hS3.cell 0 rfl 4 rfl
               clear hb hS3 HS2 a0 a1 a2 a3 a4 a5 a6 a7 a8 ap0 ap1 am0 am1 am2 am3 am4
               cases bl)
  · go_wp2_with fail
    go_ret
    exact ⟨rfl, HS3.out.below⟩
  by_cases hc : cd = 0
  case pos =>
    have hcb : (cd == 0) = true := by simpa using hc
    clear hc
    go_wp2_with (go_at_call 26; (with_reducible refine (HCK.out _ HS3.out.below).mono ?_); rintro e w4 ⟨rfl, hb⟩
                 have HS4 := Lib.hid (HS3.out.call hb)
                 clear hb)
    go_ret
    exact ⟨rfl, HS4.out.below⟩
  case neg =>
  have hcb : (cd == 0) = false := by simpa using hc
  have HCH2 := Lib.hid (HCH.out hc)
  have HRO2 := Lib.hid (HRO.out hc)
  clear hc HCH HRO
  have HSM : Hid ((Try.prog.info? 33).map (·.size) = some 5) := Lib.hid move_size
  go_wp2_with (first
    | (go_at_call 26; (with_reducible refine (HCK.out _ HS3.out.below).mono ?_); rintro e w4 ⟨rfl, hb⟩
       have HS4 := Lib.hid (HS3.out.call hb)
       have hS4 := HS4.out
       have c0 : w4.cell? ⟨ib, 0, none⟩ = some (.int .i64 x.fin) := hS4.cell 2 rfl 0 (by rw [HIC.out]; rfl)
       have c1 : w4.cell? ⟨ib, 1, none⟩ = some (.int .i64 x.tm) := hS4.cell 2 rfl 1 (by rw [HIC.out]; rfl)
       have c2 : w4.cell? ⟨ib, 2, none⟩ = some (.int .i64 x.tr) := hS4.cell 2 rfl 2 (by rw [HIC.out]; rfl)
       have c3 : w4.cell? ⟨ib, 3, none⟩ = some (.int .i64 x.bm) := hS4.cell 2 rfl 3 (by rw [HIC.out]; rfl)
       have c4 : w4.cell? ⟨ib, 4, none⟩ = some (.int .i64 x.br) := hS4.cell 2 rfl 4 (by rw [HIC.out]; rfl)
       have c5 : w4.cell? ⟨ib, 5, none⟩ = some (.slice p.SA x.sats.length p.sc) := hS4.cell 2 rfl 5 (by rw [HIC.out]; rfl)
       have c6 : w4.cell? ⟨ib, 6, none⟩ = some (.slice p.CA x.custs.length p.cc) := hS4.cell 2 rfl 6 (by rw [HIC.out]; rfl)
       have c7 : w4.cell? ⟨ib, 7, none⟩ = some (.slice p.KA x.cost.length p.kc) := hS4.cell 2 rfl 7 (by rw [HIC.out]; rfl)
       have c8 : w4.cell? ⟨ib, 8, none⟩ = some (.slice p.TA x.time.length p.tc) := hS4.cell 2 rfl 8 (by rw [HIC.out]; rfl)
       have cp0 : w4.cell? ⟨pb, 0, none⟩ = some (.slice TA q.trucks.length tc) := hS4.cell 1 rfl 0 (by rw [HPC.out]; rfl)
       have cp1 : w4.cell? ⟨pb, 1, none⟩ = some (.slice BA q.bikes.length bc) := hS4.cell 1 rfl 1 (by rw [HPC.out]; rfl)
       have cm0 : w4.cell? ⟨mb, 0, none⟩ = some (.int .i64 kd) := hS4.cell 0 rfl 0 rfl
       have cm1 : w4.cell? ⟨mb, 1, none⟩ = some (.int .i64 a) := hS4.cell 0 rfl 1 rfl
       have cm2 : w4.cell? ⟨mb, 2, none⟩ = some (.int .i64 i) := hS4.cell 0 rfl 2 rfl
       have cm3 : w4.cell? ⟨mb, 3, none⟩ = some (.int .i64 b) := hS4.cell 0 rfl 3 rfl
       have cm4 : w4.cell? ⟨mb, 4, none⟩ = some (.int .i64 j) := hS4.cell 0 rfl 4 rfl
       clear hb hS4 b0 b1 b2 b3 b4 b5 b6 b7 b8 bp0 bp1 bm0 bm1 bm2 bm3 bm4)
    | (go_at_call 25; (with_reducible refine (HCH2.out _ HS4.out.below).mono ?_); rintro e w5 ⟨rfl, hb⟩
       have HS5 := Lib.hid (HS4.out.call hb)
       have hS5 := HS5.out
       have d0 : w5.cell? ⟨ib, 0, none⟩ = some (.int .i64 x.fin) := hS5.cell 2 rfl 0 (by rw [HIC.out]; rfl)
       have d1 : w5.cell? ⟨ib, 1, none⟩ = some (.int .i64 x.tm) := hS5.cell 2 rfl 1 (by rw [HIC.out]; rfl)
       have d2 : w5.cell? ⟨ib, 2, none⟩ = some (.int .i64 x.tr) := hS5.cell 2 rfl 2 (by rw [HIC.out]; rfl)
       have d3 : w5.cell? ⟨ib, 3, none⟩ = some (.int .i64 x.bm) := hS5.cell 2 rfl 3 (by rw [HIC.out]; rfl)
       have d4 : w5.cell? ⟨ib, 4, none⟩ = some (.int .i64 x.br) := hS5.cell 2 rfl 4 (by rw [HIC.out]; rfl)
       have d5 : w5.cell? ⟨ib, 5, none⟩ = some (.slice p.SA x.sats.length p.sc) := hS5.cell 2 rfl 5 (by rw [HIC.out]; rfl)
       have d6 : w5.cell? ⟨ib, 6, none⟩ = some (.slice p.CA x.custs.length p.cc) := hS5.cell 2 rfl 6 (by rw [HIC.out]; rfl)
       have d7 : w5.cell? ⟨ib, 7, none⟩ = some (.slice p.KA x.cost.length p.kc) := hS5.cell 2 rfl 7 (by rw [HIC.out]; rfl)
       have d8 : w5.cell? ⟨ib, 8, none⟩ = some (.slice p.TA x.time.length p.tc) := hS5.cell 2 rfl 8 (by rw [HIC.out]; rfl)
       have dp0 : w5.cell? ⟨pb, 0, none⟩ = some (.slice TA q.trucks.length tc) := hS5.cell 1 rfl 0 (by rw [HPC.out]; rfl)
       have dp1 : w5.cell? ⟨pb, 1, none⟩ = some (.slice BA q.bikes.length bc) := hS5.cell 1 rfl 1 (by rw [HPC.out]; rfl)
       have dm0 : w5.cell? ⟨mb, 0, none⟩ = some (.int .i64 kd) := hS5.cell 0 rfl 0 rfl
       have dm1 : w5.cell? ⟨mb, 1, none⟩ = some (.int .i64 a) := hS5.cell 0 rfl 1 rfl
       have dm2 : w5.cell? ⟨mb, 2, none⟩ = some (.int .i64 i) := hS5.cell 0 rfl 2 rfl
       have dm3 : w5.cell? ⟨mb, 3, none⟩ = some (.int .i64 b) := hS5.cell 0 rfl 3 rfl
       have dm4 : w5.cell? ⟨mb, 4, none⟩ = some (.int .i64 j) := hS5.cell 0 rfl 4 rfl
       clear hb hS5 c0 c1 c2 c3 c4 c5 c6 c7 c8 cp0 cp1 cm0 cm1 cm2 cm3 cm4)
    | (go_at_call 23; (with_reducible refine (HRO2.out _ HS5.out.below).mono ?_); rintro e w6 ⟨rfl, hb⟩
       have HS6 := Lib.hid (HS5.out.call hb)
       clear hb))
  go_ret
  exact ⟨rfl, HS6.out.below⟩
set_option maxRecDepth 100000 in
theorem deltaNone_walk {H : Type} {enc : TypeId × Value → H} {base : Nat} (W : World) (v0 : Value) (d0 : DataW H) (p0 : List MemPlace) (o0 : Value.okWide Try.prog W .any base 58 v0) (k0 : DataW.Trod enc Try.prog W 0 (fun _ => true) true 58 v0 d0 p0)
    (v1 : Value) (d1 : DataW H) (p1 : List MemPlace) (o1 : Value.okWide Try.prog W .any base 39 v1) (k1 : DataW.Trod enc Try.prog W 0 (fun _ => true) true 39 v1 d1 p1) (z1 : ∀ m ∈ d1.weights Try.prog 39, m ≤ reachBytes)
    (v2 : Value) (d2 : DataW H) (p2 : List MemPlace) (o2 : Value.okWide Try.prog W .any base 33 v2) (k2 : DataW.Trod enc Try.prog W 0 (fun _ => true) true 33 v2 d2 p2) :
    Calls Try.prog 9 #[v0, v1, v2] W fun e w' => e = .returned (.bool true) ∧ Below W.heap.size W w' := by
  obtain ⟨q, x, rfl, hI, hx⟩ := inst_open o0 k0
  obtain ⟨TA, BA, tc, bc, pl, rfl, hT, hB, h1, h2, hD, _⟩ := plan_openD o1 k1
  obtain ⟨m, rfl, _⟩ := move_open o2 k2
  have hR := hD.reach z1
  exact deltaNone0 x q TA BA tc bc pl m.kind m.a m.i m.b m.j W hI hx ⟨hT.plain, hB.plain⟩ h1.1 h2.1 (fun b hb => by have := hR.custs b hb; unfold reachBytes at this; exact this)
end Go.Proofs.Ytpbhbmdghafkmaa
