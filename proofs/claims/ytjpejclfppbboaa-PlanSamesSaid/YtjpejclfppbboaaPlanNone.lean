/- Of an instance that may not be: plan.Check, plan.Cost; law17.Light; the walk of law PlanNone. (printed by gen/plannone.py) -/
import Derived.Test.YtjpejclfppbboaaAwake17
import Derived.Test.YtjpejclfppbboaaOpen17
namespace Go.Proofs.Ytjpejclfppbboaa
open Go.ChangeShapes Go.WideShapes Go.ChangeAt Go.RowKit
set_option linter.unusedVariables false
set_option maxRecDepth 100000 in
theorem planCheck_bad (x : InstV) (p : IAt) (TA BA : Option Addr) (nt tc nb bc : Nat) (w : World) (hI : InstIn w w.heap.size p x) (hl : InstL x) (hc : x.code ≠ 0) :
    Calls Try.prog 17 #[.agg (x.cells p), .agg #[.slice TA nt tc, .slice BA nb bc]] w fun e w' => e = .returned (.int .i64 x.code) ∧ Below w.heap.size w w' := by
  have HS0 := Lib.hid (((SL.start (Nat.le_refl w.heap.size)).alloc (x.cells p) 39).alloc #[.slice TA nt tc, .slice BA nb bc] 30)
  have HCK : Hid (∀ wx, Below w.heap.size w wx → Calls Try.prog 24 #[.agg #[.int .i64 x.fin, .int .i64 x.tm, .int .i64 x.tr, .int .i64 x.bm, .int .i64 x.br, .slice p.SA x.sats.length p.sc, .slice p.CA x.custs.length p.cc, .slice p.KA x.cost.length p.kc, .slice p.TA x.time.length p.tc]] wx fun e w' => e = .returned (.int .i64 x.code) ∧ Below wx.heap.size wx w') := Lib.hid (fun wx hb => check_any x p wx (hI.at_ hb) hl)
  obtain ⟨cd, hcd⟩ : ∃ cd, x.code = cd := ⟨_, rfl⟩
  rw [hcd] at HCK hc ⊢
  have hcb : (cd != 0) = true := by simpa using hc
  clear hI hl hcd hc
  unfold InstV.cells
  go_enter Try.func17, Try.ntmps17
  go_wp2_with (go_at_call 24; (with_reducible refine (HCK.out _ (by have h := HS0.out.below; unfold InstV.cells at h; exact h)).mono ?_); rintro e w2 ⟨rfl, hb⟩
               have HB2 := Lib.hid (by have h := HS0.out.call (by unfold InstV.cells; exact hb); exact h.below)
               clear hb)
  go_ret
  exact ⟨rfl, HB2.out⟩
set_option maxRecDepth 100000 in
theorem planCost_bad (x : InstV) (p : IAt) (TA BA : Option Addr) (nt tc nb bc : Nat) (w : World) (hI : InstIn w w.heap.size p x) (hl : InstL x) (hc : x.code ≠ 0) :
    Calls Try.prog 25 #[.agg (x.cells p), .agg #[.slice TA nt tc, .slice BA nb bc]] w fun e w' => e = .returned (.tuple #[.int .i64 0, .int .i64 x.code]) ∧ Below w.heap.size w w' := by
  have HS0 := Lib.hid (((SL.start (Nat.le_refl w.heap.size)).alloc (x.cells p) 39).alloc #[.slice TA nt tc, .slice BA nb bc] 30)
  have HCK : Hid (∀ wx, Below w.heap.size w wx → Calls Try.prog 17 #[.agg #[.int .i64 x.fin, .int .i64 x.tm, .int .i64 x.tr, .int .i64 x.bm, .int .i64 x.br, .slice p.SA x.sats.length p.sc, .slice p.CA x.custs.length p.cc, .slice p.KA x.cost.length p.kc, .slice p.TA x.time.length p.tc], .agg #[.slice TA nt tc, .slice BA nb bc]] wx fun e w' => e = .returned (.int .i64 x.code) ∧ Below wx.heap.size wx w') := Lib.hid (fun wx hb => planCheck_bad x p TA BA nt tc nb bc wx (hI.at_ hb) hl hc)
  obtain ⟨cd, hcd⟩ : ∃ cd, x.code = cd := ⟨_, rfl⟩
  rw [hcd] at HCK hc ⊢
  have hcb : (cd != 0) = true := by simpa using hc
  clear hI hl hcd hc
  unfold InstV.cells
  go_enter Try.func25, Try.ntmps25
  go_wp2_with (go_at_call 17; (with_reducible refine (HCK.out _ (by have h := HS0.out.below; unfold InstV.cells at h; exact h)).mono ?_); rintro e w2 ⟨rfl, hb⟩
               have HB2 := Lib.hid (by have h := HS0.out.call (by unfold InstV.cells; exact hb); exact h.below)
               clear hb)
  go_ret2
  exact ⟨rfl, HB2.out⟩
set_option maxRecDepth 100000 in
set_option maxHeartbeats 2000000 in
theorem light_some (TA BA : Option Addr) (tc bc : Nat) (q : PlanV) (w : World) (hP : PlanIn w w.heap.size TA BA q) (h1 : q.trucks.length ≤ maxLen) (h2 : q.bikes.length ≤ maxLen) :
    Calls Try.prog 15 #[.agg #[.slice TA q.trucks.length tc, .slice BA q.bikes.length bc]] w fun e w' => (∃ b : Bool, e = .returned (.bool b)) ∧ Below w.heap.size w w' := by
  unfold maxLen at h1 h2
  have HP := Lib.hid hP
  have hS0 := (SL.start (Nat.le_refl w.heap.size)).alloc #[.slice TA q.trucks.length tc, .slice BA q.bikes.length bc] 30
  have HS0 := Lib.hid hS0
  clear hP hS0
  go_enter Try.func15, Try.ntmps15
  go_upto_region 3 with fail
  obtain ⟨pb, hpb⟩ : ∃ pb, pb = w.heap.size := ⟨_, rfl⟩
  obtain ⟨pc, hpc⟩ : ∃ pc : Array Value, pc = #[.slice TA q.trucks.length tc, .slice BA q.bikes.length bc] := ⟨_, rfl⟩
  have HPC := Lib.hid hpc
  have HS1 : Hid (SL w w.heap.size [.blk pb pc 30] (w.alloc (.cells #[.slice TA q.trucks.length tc, .slice BA q.bikes.length bc] 30))) := Lib.hid (by rw [hpb, hpc]; exact HS0.out)
  rw [← hpb]
  clear hpb HS0 hpc
  generalize (w.alloc (.cells #[.slice TA q.trucks.length tc, .slice BA q.bikes.length bc] 30)) = w1 at *
  go_loopw [18, 3] (fun i v3 wr => ∃ (k : Nat) (n : Int), k ≤ q.trucks.length ∧ i = .int .i64 k ∧ v3 = .int .i64 n ∧ SL w w.heap.size [.blk pb pc 30] wr) (fun i _ _ => q.trucks.length - (intOf i).toNat)
  case atStart => exact ⟨0, _, by omega, rfl, rfl, HS1.out⟩
  case round =>
    clear HS1
    obtain ⟨k, n, hk, rfl, rfl, hS⟩ := hrel
    by_cases hlt : k < q.trucks.length
    · obtain ⟨b, o, a, c, hTA, hb, d00, _⟩ := trucks_at HP.out.trucks hlt
      have d0 := (hS.below.cell (p := ⟨b, o + k, none⟩) hb).trans d00
      obtain ⟨t, ht⟩ : ∃ t, q.trucks[k].length = t := ⟨_, rfl⟩
      rw [ht] at d0
      have HS2 := Lib.hid (hS.alloc #[.slice a t c] 49)
      rw [hTA]
      clear ht hS hTA d00
      go_wp2_with fail
      go_roundw
      case rel => exact ⟨k + 1, _, by omega, by go_num, rfl, HS2.out.tail⟩
      case measure => simp [intOf]; omega
    · obtain rfl : k = q.trucks.length := by omega
      have bp1 : wr.cell? ⟨pb, 1, none⟩ = some (.slice BA q.bikes.length bc) := hS.cell 0 rfl 1 (by rw [HPC.out]; rfl)
      have HS := Lib.hid hS
      clear hS hlt
      go_wp2_with fail
      clear bp1
      obtain ⟨wo, rfl⟩ : ∃ wo : World, wo = wr := ⟨_, rfl⟩
      go_loopw [31, 3] (fun i v3 wr => ∃ (k : Nat) (n : Int), k ≤ q.bikes.length ∧ i = .int .i64 k ∧ v3 = .int .i64 n ∧ SL w w.heap.size [.blk pb pc 30] wr) (fun i _ _ => q.bikes.length - (intOf i).toNat)
      case atStart => exact ⟨0, n, by omega, rfl, rfl, HS.out⟩
      case round =>
        clear HS
        obtain ⟨k, n, hk, rfl, rfl, hS⟩ := hrel
        by_cases hlt : k < q.bikes.length
        · obtain ⟨b, o, a, c, hBA, hb, d00, d01, _⟩ := bikes_at HP.out.bikes hlt
          have d0 := (hS.below.cell (p := ⟨b, o + k * 2, none⟩) hb).trans d00
          have d1 := (hS.below.cell (p := ⟨b, o + k * 2 + 1, none⟩) hb).trans d01
          obtain ⟨t, ht⟩ : ∃ t, q.bikes[k].stops.length = t := ⟨_, rfl⟩
          obtain ⟨s, hs⟩ : ∃ s, q.bikes[k].sat = s := ⟨_, rfl⟩
          rw [ht] at d1
          rw [hs] at d0
          have HS2 := Lib.hid (hS.alloc #[.int .i64 s, .slice a t c] 46)
          rw [hBA]
          clear ht hs hS hBA d00 d01
          go_wp2_with fail
          go_roundw
          case rel => exact ⟨k + 1, _, by omega, by go_num, rfl, HS2.out.tail⟩
          case measure => simp [intOf]; omega
        · obtain rfl : k = q.bikes.length := by omega
          have HS := Lib.hid hS
          clear hS hlt
          go_wp2_with fail
          go_ret
          exact ⟨⟨_, rfl⟩, HS.out.below⟩
set_option maxRecDepth 100000 in
set_option maxHeartbeats 8000000 in
theorem planNone0 (x : InstV) (p : IAt) (TA BA : Option Addr) (tc bc : Nat) (q : PlanV) (LA : Option Addr) (lc : Nat) (l : List Int) (w : World) (hI : InstIn w w.heap.size p x) (hl : InstL x) (hP : PlanIn w w.heap.size TA BA q) (h1 : q.trucks.length ≤ maxLen) (h2 : q.bikes.length ≤ maxLen) (hr : IntsAt w w.heap.size LA l) (hll : l.length ≤ maxLen) :
    Calls Try.prog 5 #[.agg (x.cells p), .agg #[.slice TA q.trucks.length tc, .slice BA q.bikes.length bc], .slice LA l.length lc] w fun e w' => e = .returned (.bool true) ∧ Below w.heap.size w w' := by
  have HLT : Hid (∀ wx, Below w.heap.size w wx → Calls Try.prog 15 #[.agg #[.slice TA q.trucks.length tc, .slice BA q.bikes.length bc]] wx fun e w' => (∃ b : Bool, e = .returned (.bool b)) ∧ Below wx.heap.size wx w') := Lib.hid (fun wx hb => light_some TA BA tc bc q wx ⟨hP.trucks.at_ hb, hP.bikes.at_ hb⟩ h1 h2)
  have HCK : Hid (∀ wx, Below w.heap.size w wx → Calls Try.prog 24 #[.agg #[.int .i64 x.fin, .int .i64 x.tm, .int .i64 x.tr, .int .i64 x.bm, .int .i64 x.br, .slice p.SA x.sats.length p.sc, .slice p.CA x.custs.length p.cc, .slice p.KA x.cost.length p.kc, .slice p.TA x.time.length p.tc]] wx fun e w' => e = .returned (.int .i64 x.code) ∧ Below wx.heap.size wx w') := Lib.hid (fun wx hb => check_any x p wx (hI.at_ hb) hl)
  have HCO : Hid (x.code ≠ 0 → ∀ wx, Below w.heap.size w wx → Calls Try.prog 25 #[.agg #[.int .i64 x.fin, .int .i64 x.tm, .int .i64 x.tr, .int .i64 x.bm, .int .i64 x.br, .slice p.SA x.sats.length p.sc, .slice p.CA x.custs.length p.cc, .slice p.KA x.cost.length p.kc, .slice p.TA x.time.length p.tc], .agg #[.slice TA q.trucks.length tc, .slice BA q.bikes.length bc]] wx fun e w' => e = .returned (.tuple #[.int .i64 0, .int .i64 x.code]) ∧ Below wx.heap.size wx w') := Lib.hid (fun hc wx hb => planCost_bad x p TA BA _ tc _ bc wx (hI.at_ hb) hl hc)
  have HPK : Hid (x.code ≠ 0 → ∀ wx, Below w.heap.size w wx → Calls Try.prog 17 #[.agg #[.int .i64 x.fin, .int .i64 x.tm, .int .i64 x.tr, .int .i64 x.bm, .int .i64 x.br, .slice p.SA x.sats.length p.sc, .slice p.CA x.custs.length p.cc, .slice p.KA x.cost.length p.kc, .slice p.TA x.time.length p.tc], .agg #[.slice TA q.trucks.length tc, .slice BA q.bikes.length bc]] wx fun e w' => e = .returned (.int .i64 x.code) ∧ Below wx.heap.size wx w') := Lib.hid (fun hc wx hb => planCheck_bad x p TA BA _ tc _ bc wx (hI.at_ hb) hl hc)
  have HWY : Hid (x.code ≠ 0 → l.length ≤ 100000 → ∀ wx, Below w.heap.size w wx → Calls Try.prog 20 #[.agg #[.int .i64 x.fin, .int .i64 x.tm, .int .i64 x.tr, .int .i64 x.bm, .int .i64 x.br, .slice p.SA x.sats.length p.sc, .slice p.CA x.custs.length p.cc, .slice p.KA x.cost.length p.kc, .slice p.TA x.time.length p.tc], .slice LA l.length lc] wx fun e w' => e = .returned (.int .i64 0) ∧ Below wx.heap.size wx w') := Lib.hid (fun hc hln wx hb => way_bad x p LA lc l wx (hI.at_ hb) hl (reads_more (Reads.below hr hb) hb.size) hln hc)
  obtain ⟨cd, hcd⟩ : ∃ cd, x.code = cd := ⟨_, rfl⟩
  rw [hcd] at HCK HCO HPK HWY
  have hS0 := ((SL.start (Nat.le_refl w.heap.size)).alloc (x.cells p) 39).alloc #[.slice TA q.trucks.length tc, .slice BA q.bikes.length bc] 30
  have HS0 := Lib.hid hS0
  unfold maxLen at hll
  have hcl := hl.custs
  unfold maxLen at hcl
  clear hI hl hP hr hcd hS0 h1 h2
  unfold InstV.cells
  go_enter Try.func5, Try.ntmps5
  go_upto_region 1 with fail
  obtain ⟨ib, hib⟩ : ∃ ib, ib = w.heap.size := ⟨_, rfl⟩
  obtain ⟨pb, hpb⟩ : ∃ pb, pb = w.heap.size + 1 := ⟨_, rfl⟩
  obtain ⟨pc, hpc⟩ : ∃ pc : Array Value, pc = #[.slice TA q.trucks.length tc, .slice BA q.bikes.length bc] := ⟨_, rfl⟩
  obtain ⟨ic, hic⟩ : ∃ ic : Array Value, ic = #[.int .i64 x.fin, .int .i64 x.tm, .int .i64 x.tr, .int .i64 x.bm, .int .i64 x.br, .slice p.SA x.sats.length p.sc, .slice p.CA x.custs.length p.cc, .slice p.KA x.cost.length p.kc, .slice p.TA x.time.length p.tc] := ⟨_, rfl⟩
  have HPC := Lib.hid hpc
  have HIC := Lib.hid hic
  have HS1 : Hid (SL w w.heap.size [.blk pb pc 30, .blk ib ic 39] ((w.alloc (.cells #[.int .i64 x.fin, .int .i64 x.tm, .int .i64 x.tr, .int .i64 x.bm, .int .i64 x.br, .slice p.SA x.sats.length p.sc, .slice p.CA x.custs.length p.cc, .slice p.KA x.cost.length p.kc, .slice p.TA x.time.length p.tc] 39)).alloc (.cells #[.slice TA q.trucks.length tc, .slice BA q.bikes.length bc] 30))) := Lib.hid (by
    have h := HS0.out
    unfold InstV.cells at h
    rw [hib, hpb, hpc, hic]
    simpa using h)
  rw [← hpb, ← hib]
  clear hpb hib HS0 hpc hic
  generalize ((w.alloc (.cells #[.int .i64 x.fin, .int .i64 x.tm, .int .i64 x.tr, .int .i64 x.bm, .int .i64 x.br, .slice p.SA x.sats.length p.sc, .slice p.CA x.custs.length p.cc, .slice p.KA x.cost.length p.kc, .slice p.TA x.time.length p.tc] 39)).alloc (.cells #[.slice TA q.trucks.length tc, .slice BA q.bikes.length bc] 30)) = w1 at *
  go_upto_region 3 with (go_at_call 14; (with_reducible refine (awake17 _).mono ?_); rintro e w2 ⟨rfl, hb⟩
                         have HS2 := Lib.hid (HS1.out.call hb)
                         clear hb)
  have hS2 := HS2.out
  clear HS1
  have a0 : w2.cell? ⟨ib, 0, none⟩ = some (.int .i64 x.fin) := hS2.cell 1 rfl 0 (by rw [HIC.out]; rfl)
  have a1 : w2.cell? ⟨ib, 1, none⟩ = some (.int .i64 x.tm) := hS2.cell 1 rfl 1 (by rw [HIC.out]; rfl)
  have a2 : w2.cell? ⟨ib, 2, none⟩ = some (.int .i64 x.tr) := hS2.cell 1 rfl 2 (by rw [HIC.out]; rfl)
  have a3 : w2.cell? ⟨ib, 3, none⟩ = some (.int .i64 x.bm) := hS2.cell 1 rfl 3 (by rw [HIC.out]; rfl)
  have a4 : w2.cell? ⟨ib, 4, none⟩ = some (.int .i64 x.br) := hS2.cell 1 rfl 4 (by rw [HIC.out]; rfl)
  have a5 : w2.cell? ⟨ib, 5, none⟩ = some (.slice p.SA x.sats.length p.sc) := hS2.cell 1 rfl 5 (by rw [HIC.out]; rfl)
  have a6 : w2.cell? ⟨ib, 6, none⟩ = some (.slice p.CA x.custs.length p.cc) := hS2.cell 1 rfl 6 (by rw [HIC.out]; rfl)
  have a7 : w2.cell? ⟨ib, 7, none⟩ = some (.slice p.KA x.cost.length p.kc) := hS2.cell 1 rfl 7 (by rw [HIC.out]; rfl)
  have a8 : w2.cell? ⟨ib, 8, none⟩ = some (.slice p.TA x.time.length p.tc) := hS2.cell 1 rfl 8 (by rw [HIC.out]; rfl)
  have ap0 : w2.cell? ⟨pb, 0, none⟩ = some (.slice TA q.trucks.length tc) := hS2.cell 0 rfl 0 (by rw [HPC.out]; rfl)
  have ap1 : w2.cell? ⟨pb, 1, none⟩ = some (.slice BA q.bikes.length bc) := hS2.cell 0 rfl 1 (by rw [HPC.out]; rfl)
  clear hS2
  by_cases g1 : 60 < x.custs.length
  case pos =>
    have g1b : (60 : Int) < (x.custs.length : Int) := by omega
    clear g1
    go_wp2_with fail
    go_ret
    exact ⟨rfl, HS2.out.below⟩
  case neg =>
  have g1b : ¬ (60 : Int) < (x.custs.length : Int) := by omega
  clear g1
  by_cases g2 : 30 < l.length
  case pos =>
    have g2b : (30 : Int) < (l.length : Int) := by omega
    clear g2
    go_wp2_with (go_at_call 15; (with_reducible refine (HLT.out _ HS2.out.below).mono ?_); rintro e w3 ⟨⟨b, rfl⟩, hb⟩
                 have HS3 := Lib.hid (HS2.out.call hb)
                 clear hb a0 a1 a2 a3 a4 a5 a6 a7 a8 ap0 ap1
                 cases b)
    · go_wp2_with fail
      go_ret
      exact ⟨rfl, HS3.out.below⟩
    · go_wp2_with fail
      go_ret
      exact ⟨rfl, HS3.out.below⟩
  case neg =>
  have g2b : ¬ (30 : Int) < (l.length : Int) := by omega
  have HLN := Lib.hid (show l.length ≤ 100000 by omega)
  clear g2
  go_wp2_with (go_at_call 15; (with_reducible refine (HLT.out _ HS2.out.below).mono ?_); rintro e w3 ⟨⟨b, rfl⟩, hb⟩
               have HS3 := Lib.hid (HS2.out.call hb)
               have hS3 := HS3.out
               have b0 : w3.cell? ⟨ib, 0, none⟩ = some (.int .i64 x.fin) := hS3.cell 1 rfl 0 (by rw [HIC.out]; rfl)
               have b1 : w3.cell? ⟨ib, 1, none⟩ = some (.int .i64 x.tm) := hS3.cell 1 rfl 1 (by rw [HIC.out]; rfl)
               have b2 : w3.cell? ⟨ib, 2, none⟩ = some (.int .i64 x.tr) := hS3.cell 1 rfl 2 (by rw [HIC.out]; rfl)
               have b3 : w3.cell? ⟨ib, 3, none⟩ = some (.int .i64 x.bm) := hS3.cell 1 rfl 3 (by rw [HIC.out]; rfl)
               have b4 : w3.cell? ⟨ib, 4, none⟩ = some (.int .i64 x.br) := hS3.cell 1 rfl 4 (by rw [HIC.out]; rfl)
               have b5 : w3.cell? ⟨ib, 5, none⟩ = some (.slice p.SA x.sats.length p.sc) := hS3.cell 1 rfl 5 (by rw [HIC.out]; rfl)
               have b6 : w3.cell? ⟨ib, 6, none⟩ = some (.slice p.CA x.custs.length p.cc) := hS3.cell 1 rfl 6 (by rw [HIC.out]; rfl)
               have b7 : w3.cell? ⟨ib, 7, none⟩ = some (.slice p.KA x.cost.length p.kc) := hS3.cell 1 rfl 7 (by rw [HIC.out]; rfl)
               have b8 : w3.cell? ⟨ib, 8, none⟩ = some (.slice p.TA x.time.length p.tc) := hS3.cell 1 rfl 8 (by rw [HIC.out]; rfl)
               have bp0 : w3.cell? ⟨pb, 0, none⟩ = some (.slice TA q.trucks.length tc) := hS3.cell 0 rfl 0 (by rw [HPC.out]; rfl)
               have bp1 : w3.cell? ⟨pb, 1, none⟩ = some (.slice BA q.bikes.length bc) := hS3.cell 0 rfl 1 (by rw [HPC.out]; rfl)
               clear hb hS3 HS2 a0 a1 a2 a3 a4 a5 a6 a7 a8 ap0 ap1
               cases b)
  · go_wp2_with fail
    go_ret
    exact ⟨rfl, HS3.out.below⟩
  by_cases hc : cd = 0
  case pos =>
    have hcb : (cd == 0) = true := by simpa using hc
    clear hc
    go_wp2_with (go_at_call 24; (with_reducible refine (HCK.out _ HS3.out.below).mono ?_); rintro e w4 ⟨rfl, hb⟩
                 have HS4 := Lib.hid (HS3.out.call hb)
                 clear hb)
    go_ret
    exact ⟨rfl, HS4.out.below⟩
  case neg =>
  have hcb : (cd == 0) = false := by simpa using hc
  have HCO2 := Lib.hid (HCO.out hc)
  have HPK2 := Lib.hid (HPK.out hc)
  have HWY2 := Lib.hid (HWY.out hc HLN.out)
  clear hc HCO HPK HWY
  go_upto_region 6 with (first
    | (go_at_call 24; (with_reducible refine (HCK.out _ HS3.out.below).mono ?_); rintro e w4 ⟨rfl, hb⟩
       have HS4 := Lib.hid (HS3.out.call hb)
       have hS4 := HS4.out
       have c0 : w4.cell? ⟨ib, 0, none⟩ = some (.int .i64 x.fin) := hS4.cell 1 rfl 0 (by rw [HIC.out]; rfl)
       have c1 : w4.cell? ⟨ib, 1, none⟩ = some (.int .i64 x.tm) := hS4.cell 1 rfl 1 (by rw [HIC.out]; rfl)
       have c2 : w4.cell? ⟨ib, 2, none⟩ = some (.int .i64 x.tr) := hS4.cell 1 rfl 2 (by rw [HIC.out]; rfl)
       have c3 : w4.cell? ⟨ib, 3, none⟩ = some (.int .i64 x.bm) := hS4.cell 1 rfl 3 (by rw [HIC.out]; rfl)
       have c4 : w4.cell? ⟨ib, 4, none⟩ = some (.int .i64 x.br) := hS4.cell 1 rfl 4 (by rw [HIC.out]; rfl)
       have c5 : w4.cell? ⟨ib, 5, none⟩ = some (.slice p.SA x.sats.length p.sc) := hS4.cell 1 rfl 5 (by rw [HIC.out]; rfl)
       have c6 : w4.cell? ⟨ib, 6, none⟩ = some (.slice p.CA x.custs.length p.cc) := hS4.cell 1 rfl 6 (by rw [HIC.out]; rfl)
       have c7 : w4.cell? ⟨ib, 7, none⟩ = some (.slice p.KA x.cost.length p.kc) := hS4.cell 1 rfl 7 (by rw [HIC.out]; rfl)
       have c8 : w4.cell? ⟨ib, 8, none⟩ = some (.slice p.TA x.time.length p.tc) := hS4.cell 1 rfl 8 (by rw [HIC.out]; rfl)
       have cp0 : w4.cell? ⟨pb, 0, none⟩ = some (.slice TA q.trucks.length tc) := hS4.cell 0 rfl 0 (by rw [HPC.out]; rfl)
       have cp1 : w4.cell? ⟨pb, 1, none⟩ = some (.slice BA q.bikes.length bc) := hS4.cell 0 rfl 1 (by rw [HPC.out]; rfl)
       clear hb hS4 b0 b1 b2 b3 b4 b5 b6 b7 b8 bp0 bp1)
    | (go_at_call 25; (with_reducible refine (HCO2.out _ HS4.out.below).mono ?_); rintro e w5 ⟨rfl, hb⟩
       have HS5 := Lib.hid (HS4.out.call hb)
       clear hb c0 c1 c2 c3 c4 c5 c6 c7 c8 cp0 cp1))
  clear HS4 HS3
  refine wp_region_sq _ HS5.out (by kernel_rfl) (by kernel_rfl) fun C cw _ hC hin => ?_
  have q0 : ∀ c, (cw c).cell? ⟨ib, 0, none⟩ = some (.int .i64 x.fin) := fun c => (hC c).cell 1 rfl 0 (by rw [HIC.out]; rfl)
  have q1 : ∀ c, (cw c).cell? ⟨ib, 1, none⟩ = some (.int .i64 x.tm) := fun c => (hC c).cell 1 rfl 1 (by rw [HIC.out]; rfl)
  have q2 : ∀ c, (cw c).cell? ⟨ib, 2, none⟩ = some (.int .i64 x.tr) := fun c => (hC c).cell 1 rfl 2 (by rw [HIC.out]; rfl)
  have q3 : ∀ c, (cw c).cell? ⟨ib, 3, none⟩ = some (.int .i64 x.bm) := fun c => (hC c).cell 1 rfl 3 (by rw [HIC.out]; rfl)
  have q4 : ∀ c, (cw c).cell? ⟨ib, 4, none⟩ = some (.int .i64 x.br) := fun c => (hC c).cell 1 rfl 4 (by rw [HIC.out]; rfl)
  have q5 : ∀ c, (cw c).cell? ⟨ib, 5, none⟩ = some (.slice p.SA x.sats.length p.sc) := fun c => (hC c).cell 1 rfl 5 (by rw [HIC.out]; rfl)
  have q6 : ∀ c, (cw c).cell? ⟨ib, 6, none⟩ = some (.slice p.CA x.custs.length p.cc) := fun c => (hC c).cell 1 rfl 6 (by rw [HIC.out]; rfl)
  have q7 : ∀ c, (cw c).cell? ⟨ib, 7, none⟩ = some (.slice p.KA x.cost.length p.kc) := fun c => (hC c).cell 1 rfl 7 (by rw [HIC.out]; rfl)
  have q8 : ∀ c, (cw c).cell? ⟨ib, 8, none⟩ = some (.slice p.TA x.time.length p.tc) := fun c => (hC c).cell 1 rfl 8 (by rw [HIC.out]; rfl)
  have qp0 : ∀ c, (cw c).cell? ⟨pb, 0, none⟩ = some (.slice TA q.trucks.length tc) := fun c => (hC c).cell 0 rfl 0 (by rw [HPC.out]; rfl)
  have qp1 : ∀ c, (cw c).cell? ⟨pb, 1, none⟩ = some (.slice BA q.bikes.length bc) := fun c => (hC c).cell 0 rfl 1 (by rw [HPC.out]; rfl)
  have HCKc : Hid (∀ c, Calls Try.prog 24 #[.agg #[.int .i64 x.fin, .int .i64 x.tm, .int .i64 x.tr, .int .i64 x.bm, .int .i64 x.br, .slice p.SA x.sats.length p.sc, .slice p.CA x.custs.length p.cc, .slice p.KA x.cost.length p.kc, .slice p.TA x.time.length p.tc]] (cw c) fun e w' => e = .returned (.int .i64 cd) ∧ ∃ c', w' = cw c') := Lib.hid (fun c => sq_call (hC c) hin (HCK.out _ (hC c).below))
  have HPKc : Hid (∀ c, Calls Try.prog 17 #[.agg #[.int .i64 x.fin, .int .i64 x.tm, .int .i64 x.tr, .int .i64 x.bm, .int .i64 x.br, .slice p.SA x.sats.length p.sc, .slice p.CA x.custs.length p.cc, .slice p.KA x.cost.length p.kc, .slice p.TA x.time.length p.tc], .agg #[.slice TA q.trucks.length tc, .slice BA q.bikes.length bc]] (cw c) fun e w' => e = .returned (.int .i64 cd) ∧ ∃ c', w' = cw c') := Lib.hid (fun c => sq_call (hC c) hin (HPK2.out _ (hC c).below))
  have HWYc : Hid (∀ c, Calls Try.prog 20 #[.agg #[.int .i64 x.fin, .int .i64 x.tm, .int .i64 x.tr, .int .i64 x.bm, .int .i64 x.br, .slice p.SA x.sats.length p.sc, .slice p.CA x.custs.length p.cc, .slice p.KA x.cost.length p.kc, .slice p.TA x.time.length p.tc], .slice LA l.length lc] (cw c) fun e w' => e = .returned (.int .i64 0) ∧ ∃ c', w' = cw c') := Lib.hid (fun c => sq_call (hC c) hin (HWY2.out _ (hC c).below))
  clear hC hin HCK HPK2 HWY2 HCO2
  repeat (any_goals (go_big_quiet_step (first | (go_at_call 24; with_reducible exact HCKc.out _) | (go_at_call 17; with_reducible exact HPKc.out _) | (go_at_call 20; with_reducible exact HWYc.out _))))
  refine wpQuiet_nil ?_
  intro w6 hS6
  have HB6 := Lib.hid hS6.below
  clear hS6
  go_wp2_with fail
  go_ret
  exact ⟨rfl, HB6.out⟩
set_option maxRecDepth 100000 in
theorem planNone_walk {H : Type} {enc : TypeId × Value → H} {base : Nat} (W : World) (v0 : Value) (d0 : DataW H) (p0 : List MemPlace) (o0 : Value.okWide Try.prog W .any base 39 v0) (k0 : DataW.Trod enc Try.prog W 0 (fun _ => true) true 39 v0 d0 p0)
    (v1 : Value) (d1 : DataW H) (p1 : List MemPlace) (o1 : Value.okWide Try.prog W .any base 30 v1) (k1 : DataW.Trod enc Try.prog W 0 (fun _ => true) true 30 v1 d1 p1)
    (A : Option Addr) (c : Nat) (l : List Int) (hr : Reads W W.heap.size 1 A l.length (l.map (.int .i64))) (hl : l.length ≤ maxLen) (hw : ∀ n ∈ l, (Lit.int .i64 n).wf = true) :
    Calls Try.prog 5 #[v0, v1, .slice A l.length c] W fun e w' => e = .returned (.bool true) ∧ Below W.heap.size W w' := by
  obtain ⟨q, x, rfl, hI, hx⟩ := inst_open o0 k0
  obtain ⟨TA, BA, tc, bc, pl, rfl, hP, h1, h2, _⟩ := plan_open o1 k1
  exact planNone0 x q TA BA tc bc pl A c l W hI hx hP h1.1 h2 hr hl
end Go.Proofs.Ytjpejclfppbboaa
