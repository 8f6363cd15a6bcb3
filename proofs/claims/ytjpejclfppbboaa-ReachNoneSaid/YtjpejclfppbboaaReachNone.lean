/- The walk of law ReachNone. (printed by gen/reachnone.py) -/
import Derived.Test.YtjpejclfppbboaaReachReadies
import Derived.Test.YtjpejclfppbboaaReachD
import Derived.Test.YtjpejclfppbboaaOpen17
import Derived.Deep.CutBlock
import Derived.Deep.CutRange
import Derived.Deep.DeepCutAuto
namespace Go.Proofs.Ytjpejclfppbboaa
open Go.ChangeShapes Go.WideShapes Go.ChangeAt Go.RowKit
set_option linter.unusedVariables false
set_option linter.unusedSimpArgs false
set_option maxRecDepth 100000 in
theorem ready_bad (x : InstV) (p : IAt) (w : World) (hI : InstIn w w.heap.size p x) (hl : InstL x) (hc : x.code ≠ 0) :
    Calls Try.prog 28 #[.agg (x.cells p)] w fun e w' => e = .returned (.slice none 0 0) ∧ Below w.heap.size w w' := by
  have HS0 := Lib.hid ((SL.start (Nat.le_refl w.heap.size)).alloc (x.cells p) 39)
  have HCK : Hid (∀ wx, Below w.heap.size w wx → Calls Try.prog 24 #[.agg #[.int .i64 x.fin, .int .i64 x.tm, .int .i64 x.tr, .int .i64 x.bm, .int .i64 x.br, .slice p.SA x.sats.length p.sc, .slice p.CA x.custs.length p.cc, .slice p.KA x.cost.length p.kc, .slice p.TA x.time.length p.tc]] wx fun e w' => e = .returned (.int .i64 x.code) ∧ Below wx.heap.size wx w') := Lib.hid (fun wx hb => check_any x p wx (hI.at_ hb) hl)
  obtain ⟨cd, hcd⟩ : ∃ cd, x.code = cd := ⟨_, rfl⟩
  rw [hcd] at HCK hc
  have hcb : (cd != 0) = true := by simpa using hc
  clear hI hl hcd hc
  unfold InstV.cells
  go_enter Try.func28, Try.ntmps28
  go_wp2_with (go_at_call 24; (with_reducible refine (HCK.out _ (by have h := HS0.out.below; unfold InstV.cells at h; exact h)).mono ?_); rintro e w2 ⟨rfl, hb⟩
               have HB2 := Lib.hid (by have h := HS0.out.call (by unfold InstV.cells; exact hb); exact h.below)
               clear hb)
  go_ret
  exact ⟨rfl, HB2.out⟩
set_option maxRecDepth 100000 in
theorem mays_bad (x : InstV) (p : IAt) (w : World) (hI : InstIn w w.heap.size p x) (hl : InstL x) (hc : x.code ≠ 0) :
    Calls Try.prog 33 #[.agg (x.cells p)] w fun e w' => e = .returned (.slice none 0 0) ∧ Below w.heap.size w w' := by
  have HS0 := Lib.hid ((SL.start (Nat.le_refl w.heap.size)).alloc (x.cells p) 39)
  have HCK : Hid (∀ wx, Below w.heap.size w wx → Calls Try.prog 24 #[.agg #[.int .i64 x.fin, .int .i64 x.tm, .int .i64 x.tr, .int .i64 x.bm, .int .i64 x.br, .slice p.SA x.sats.length p.sc, .slice p.CA x.custs.length p.cc, .slice p.KA x.cost.length p.kc, .slice p.TA x.time.length p.tc]] wx fun e w' => e = .returned (.int .i64 x.code) ∧ Below wx.heap.size wx w') := Lib.hid (fun wx hb => check_any x p wx (hI.at_ hb) hl)
  obtain ⟨cd, hcd⟩ : ∃ cd, x.code = cd := ⟨_, rfl⟩
  rw [hcd] at HCK hc
  have hcb : (cd != 0) = true := by simpa using hc
  clear hI hl hcd hc
  unfold InstV.cells
  go_enter Try.func33, Try.ntmps33
  go_wp2_with (go_at_call 24; (with_reducible refine (HCK.out _ (by have h := HS0.out.below; unfold InstV.cells at h; exact h)).mono ?_); rintro e w2 ⟨rfl, hb⟩
               have HB2 := Lib.hid (by have h := HS0.out.call (by unfold InstV.cells; exact hb); exact h.below)
               clear hb)
  go_ret
  exact ⟨rfl, HB2.out⟩
set_option maxRecDepth 100000 in
theorem out_none (x : InstV) (p : IAt) (s : Int) (w : World) (hI : InstIn w w.heap.size p x) (hl : InstL x) (hc : ¬ (x.code = 0 ∧ 0 ≤ s ∧ s < x.sats.length)) :
    Calls Try.prog 31 #[.agg (x.cells p), .int .i64 s] w fun e w' => e = .returned (.slice none 0 0) ∧ Below w.heap.size w w' := by
  have HS0 := Lib.hid ((SL.start (Nat.le_refl w.heap.size)).alloc (x.cells p) 39)
  have HTH : Hid (∀ wx, Below w.heap.size w wx → Calls Try.prog 60 #[.agg #[.int .i64 x.fin, .int .i64 x.tm, .int .i64 x.tr, .int .i64 x.bm, .int .i64 x.br, .slice p.SA x.sats.length p.sc, .slice p.CA x.custs.length p.cc, .slice p.KA x.cost.length p.kc, .slice p.TA x.time.length p.tc], .int .i64 s] wx fun e w' => e = .returned (.bool false) ∧ Below wx.heap.size wx w') := Lib.hid (fun wx hb => by
    have h := there_any x p s wx (hI.at_ hb) hl
    rw [decide_eq_false hc] at h
    exact h)
  clear hI hl hc
  unfold InstV.cells
  go_enter Try.func31, Try.ntmps31
  go_wp2_with (go_at_call 60; (with_reducible refine (HTH.out _ (by have h := HS0.out.below; unfold InstV.cells at h; exact h)).mono ?_); rintro e w2 ⟨rfl, hb⟩
               have HB2 := Lib.hid (by have h := HS0.out.call (by unfold InstV.cells; exact hb); exact h.below)
               clear hb)
  go_ret
  exact ⟨rfl, HB2.out⟩
set_option maxRecDepth 100000 in
theorem back_none (x : InstV) (p : IAt) (s : Int) (w : World) (hI : InstIn w w.heap.size p x) (hl : InstL x) (hc : ¬ (x.code = 0 ∧ 0 ≤ s ∧ s < x.sats.length)) :
    Calls Try.prog 32 #[.agg (x.cells p), .int .i64 s] w fun e w' => e = .returned (.slice none 0 0) ∧ Below w.heap.size w w' := by
  have HS0 := Lib.hid ((SL.start (Nat.le_refl w.heap.size)).alloc (x.cells p) 39)
  have HTH : Hid (∀ wx, Below w.heap.size w wx → Calls Try.prog 60 #[.agg #[.int .i64 x.fin, .int .i64 x.tm, .int .i64 x.tr, .int .i64 x.bm, .int .i64 x.br, .slice p.SA x.sats.length p.sc, .slice p.CA x.custs.length p.cc, .slice p.KA x.cost.length p.kc, .slice p.TA x.time.length p.tc], .int .i64 s] wx fun e w' => e = .returned (.bool false) ∧ Below wx.heap.size wx w') := Lib.hid (fun wx hb => by
    have h := there_any x p s wx (hI.at_ hb) hl
    rw [decide_eq_false hc] at h
    exact h)
  clear hI hl hc
  unfold InstV.cells
  go_enter Try.func32, Try.ntmps32
  go_wp2_with (go_at_call 60; (with_reducible refine (HTH.out _ (by have h := HS0.out.below; unfold InstV.cells at h; exact h)).mono ?_); rintro e w2 ⟨rfl, hb⟩
               have HB2 := Lib.hid (by have h := HS0.out.call (by unfold InstV.cells; exact hb); exact h.below)
               clear hb)
  go_ret
  exact ⟨rfl, HB2.out⟩
theorem i64_of_wf {a : Int} (h : (Lit.int .i64 a).wf = true) : -9223372036854775808 ≤ a ∧ a < 9223372036854775808 := by
  simp [Lit.wf, IntKind.min, IntKind.max, IntKind.signed, IntKind.bits] at h
  omega
set_option maxRecDepth 100000 in
set_option maxHeartbeats 8000000 in
theorem reachNone0 (x : InstV) (p : IAt) (s : SmallV) (sp : IAt) (a : Int) (w : World) (hI : InstIn w w.heap.size p x) (hL : InstL x) (hSI : SmallIn w w.heap.size sp s) (hl : SmallL s) (hok : s.ok) (ha : -9223372036854775808 ≤ a ∧ a < 9223372036854775808) :
    Calls Try.prog 8 #[.agg (x.cells p), .agg (s.vals sp), .int .i64 a] w fun e w' => e = .returned (.bool true) ∧ Below w.heap.size w w' := by
  have HX := Lib.hid (SmallV.small hok)
  have HMK : Hid (∀ wx, Below w.heap.size w wx → Calls Try.prog 16 #[.agg #[.int .u8 s.fin, .int .u8 s.trucks, .int .u8 s.troom, .int .u8 s.bikes, .int .u8 s.broom, .slice sp.SA s.sats.length sp.sc, .slice sp.CA s.custs.length sp.cc, .slice sp.KA s.cost.length sp.kc, .slice sp.TA s.time.length sp.tc, .bool s.tight, .bool s.loose]] wx (MakePost wx s.mk_)) := Lib.hid (fun wx hb => make_any s sp wx ((hSI.below hb).more hb.size) hl hok)
  have HCK : Hid (∀ wx, Below w.heap.size w wx → Calls Try.prog 24 #[.agg #[.int .i64 x.fin, .int .i64 x.tm, .int .i64 x.tr, .int .i64 x.bm, .int .i64 x.br, .slice p.SA x.sats.length p.sc, .slice p.CA x.custs.length p.cc, .slice p.KA x.cost.length p.kc, .slice p.TA x.time.length p.tc]] wx fun e w' => e = .returned (.int .i64 x.code) ∧ Below wx.heap.size wx w') := Lib.hid (fun wx hb => check_any x p wx (hI.at_ hb) hL)
  have HRD : Hid (x.code ≠ 0 → ∀ wx, Below w.heap.size w wx → Calls Try.prog 28 #[.agg #[.int .i64 x.fin, .int .i64 x.tm, .int .i64 x.tr, .int .i64 x.bm, .int .i64 x.br, .slice p.SA x.sats.length p.sc, .slice p.CA x.custs.length p.cc, .slice p.KA x.cost.length p.kc, .slice p.TA x.time.length p.tc]] wx fun e w' => e = .returned (.slice none 0 0) ∧ Below wx.heap.size wx w') := Lib.hid (fun h wx hb => ready_bad x p wx (hI.at_ hb) hL h)
  have HMY : Hid (x.code ≠ 0 → ∀ wx, Below w.heap.size w wx → Calls Try.prog 33 #[.agg #[.int .i64 x.fin, .int .i64 x.tm, .int .i64 x.tr, .int .i64 x.bm, .int .i64 x.br, .slice p.SA x.sats.length p.sc, .slice p.CA x.custs.length p.cc, .slice p.KA x.cost.length p.kc, .slice p.TA x.time.length p.tc]] wx fun e w' => e = .returned (.slice none 0 0) ∧ Below wx.heap.size wx w') := Lib.hid (fun h wx hb => mays_bad x p wx (hI.at_ hb) hL h)
  have HOU : Hid (x.code ≠ 0 → ∀ a wx, Below w.heap.size w wx → Calls Try.prog 31 #[.agg #[.int .i64 x.fin, .int .i64 x.tm, .int .i64 x.tr, .int .i64 x.bm, .int .i64 x.br, .slice p.SA x.sats.length p.sc, .slice p.CA x.custs.length p.cc, .slice p.KA x.cost.length p.kc, .slice p.TA x.time.length p.tc], .int .i64 a] wx fun e w' => e = .returned (.slice none 0 0) ∧ Below wx.heap.size wx w') := Lib.hid (fun h a wx hb => out_none x p a wx (hI.at_ hb) hL (fun h2 => h h2.1))
  have HBK : Hid (x.code ≠ 0 → ∀ a wx, Below w.heap.size w wx → Calls Try.prog 32 #[.agg #[.int .i64 x.fin, .int .i64 x.tm, .int .i64 x.tr, .int .i64 x.bm, .int .i64 x.br, .slice p.SA x.sats.length p.sc, .slice p.CA x.custs.length p.cc, .slice p.KA x.cost.length p.kc, .slice p.TA x.time.length p.tc], .int .i64 a] wx fun e w' => e = .returned (.slice none 0 0) ∧ Below wx.heap.size wx w') := Lib.hid (fun h a wx hb => back_none x p a wx (hI.at_ hb) hL (fun h2 => h h2.1))
  have hS := ((SL.start (W := w) (Nat.le_refl w.heap.size)).alloc (x.cells p) 39).alloc (s.vals sp) 26
  have hcl := hL.custs
  unfold maxLen at hcl
  obtain ⟨cd, hcd⟩ : ∃ cd, x.code = cd := ⟨_, rfl⟩
  rw [hcd] at HCK HRD HMY HOU HBK
  obtain ⟨a0, a1⟩ := ha
  clear hI hL hSI hl hok hcd
  unfold SmallV.vals InstV.cells at hS ⊢
  obtain ⟨y, hys⟩ : ∃ y, s.mk_ = y := ⟨_, rfl⟩
  rw [hys] at HX HMK
  clear hys
  simp only [alloc_size] at hS
  obtain ⟨xb, hxb⟩ : ∃ b, w.heap.size = b := ⟨_, rfl⟩
  obtain ⟨sb, hsb⟩ : ∃ b, xb + 1 = b := ⟨_, rfl⟩
  obtain ⟨w1, hw1⟩ : ∃ z, (w.alloc (.cells #[.int .i64 x.fin, .int .i64 x.tm, .int .i64 x.tr, .int .i64 x.bm, .int .i64 x.br, .slice p.SA x.sats.length p.sc, .slice p.CA x.custs.length p.cc, .slice p.KA x.cost.length p.kc, .slice p.TA x.time.length p.tc] 39)).alloc (.cells #[.int .u8 s.fin, .int .u8 s.trucks, .int .u8 s.troom, .int .u8 s.bikes, .int .u8 s.broom, .slice sp.SA s.sats.length sp.sc, .slice sp.CA s.custs.length sp.cc, .slice sp.KA s.cost.length sp.kc, .slice sp.TA s.time.length sp.tc, .bool s.tight, .bool s.loose] 26) = z := ⟨_, rfl⟩
  have HS1 : Hid (SL w w.heap.size [.blk sb #[.int .u8 s.fin, .int .u8 s.trucks, .int .u8 s.troom, .int .u8 s.bikes, .int .u8 s.broom, .slice sp.SA s.sats.length sp.sc, .slice sp.CA s.custs.length sp.cc, .slice sp.KA s.cost.length sp.kc, .slice sp.TA s.time.length sp.tc, .bool s.tight, .bool s.loose] 26, .blk xb #[.int .i64 x.fin, .int .i64 x.tm, .int .i64 x.tr, .int .i64 x.bm, .int .i64 x.br, .slice p.SA x.sats.length p.sc, .slice p.CA x.custs.length p.cc, .slice p.KA x.cost.length p.kc, .slice p.TA x.time.length p.tc] 39] w1) := Lib.hid (by rw [← hsb, ← hxb, ← hw1]; exact hS)
  have HW := Lib.hid (And.intro hxb (And.intro hsb hw1))
  clear hS hxb hsb hw1
  go_enter Try.func8, Try.ntmps8
  go_upto_region 1 with fail
  rw [HW.out.2.2, HW.out.1, HW.out.2.1]
  go_upto_region 3 with (go_at_call 26; (with_reducible refine (awake14 _).mono ?_); rintro e w2 ⟨rfl, hb⟩
                         have HS2 := Lib.hid (HS1.out.call hb)
                         clear hb)
  clear HS1 HW
  have hS2 := HS2.out
  have b0 : w2.cell? ⟨sb, 0, none⟩ = some (.int .u8 s.fin) := hS2.cell 0 rfl 0 rfl
  have b1 : w2.cell? ⟨sb, 1, none⟩ = some (.int .u8 s.trucks) := hS2.cell 0 rfl 1 rfl
  have b2 : w2.cell? ⟨sb, 2, none⟩ = some (.int .u8 s.troom) := hS2.cell 0 rfl 2 rfl
  have b3 : w2.cell? ⟨sb, 3, none⟩ = some (.int .u8 s.bikes) := hS2.cell 0 rfl 3 rfl
  have b4 : w2.cell? ⟨sb, 4, none⟩ = some (.int .u8 s.broom) := hS2.cell 0 rfl 4 rfl
  have b5 : w2.cell? ⟨sb, 5, none⟩ = some (.slice sp.SA s.sats.length sp.sc) := hS2.cell 0 rfl 5 rfl
  have b6 : w2.cell? ⟨sb, 6, none⟩ = some (.slice sp.CA s.custs.length sp.cc) := hS2.cell 0 rfl 6 rfl
  have b7 : w2.cell? ⟨sb, 7, none⟩ = some (.slice sp.KA s.cost.length sp.kc) := hS2.cell 0 rfl 7 rfl
  have b8 : w2.cell? ⟨sb, 8, none⟩ = some (.slice sp.TA s.time.length sp.tc) := hS2.cell 0 rfl 8 rfl
  have b9 : w2.cell? ⟨sb, 9, none⟩ = some (.bool s.tight) := hS2.cell 0 rfl 9 rfl
  have b10 : w2.cell? ⟨sb, 10, none⟩ = some (.bool s.loose) := hS2.cell 0 rfl 10 rfl
  clear hS2
  go_upto_region 4 with (go_at_call 16; (with_reducible refine (HMK.out _ HS2.out.below).mono ?_); rintro e w4 ⟨q, hk, ht, rfl, hl1, hl2, hq⟩
                         have HS4 := Lib.hid ((HS2.out.call hq.below).alloc (y.cells q) 39)
                         have HI4 := Lib.hid (made_in hl1 hl2 hq).1
                         clear hq hl1 hl2 b0 b1 b2 b3 b4 b5 b6 b7 b8 b9 b10
                         unfold InstV.cells)
  unfold InstV.cells at HS4
  obtain ⟨yb, hyb⟩ : ∃ b, w4.heap.size = b := ⟨_, rfl⟩
  have HI5 : Hid (InstIn (w4.alloc (.cells #[.int .i64 y.fin, .int .i64 y.tm, .int .i64 y.tr, .int .i64 y.bm, .int .i64 y.br, .slice q.SA y.sats.length q.sc, .slice q.CA y.custs.length q.cc, .slice q.KA y.cost.length q.kc, .slice q.TA y.time.length q.tc] 39)) (w4.alloc (.cells #[.int .i64 y.fin, .int .i64 y.tm, .int .i64 y.tr, .int .i64 y.bm, .int .i64 y.br, .slice q.SA y.sats.length q.sc, .slice q.CA y.custs.length q.cc, .slice q.KA y.cost.length q.kc, .slice q.TA y.time.length q.tc] 39)).heap.size q y) := Lib.hid (HI4.out.at_ ((Below.refl _ _).alloc (Nat.le_refl _) _))
  obtain ⟨w5, hw5⟩ : ∃ z, w4.alloc (.cells #[.int .i64 y.fin, .int .i64 y.tm, .int .i64 y.tr, .int .i64 y.bm, .int .i64 y.br, .slice q.SA y.sats.length q.sc, .slice q.CA y.custs.length q.cc, .slice q.KA y.cost.length q.kc, .slice q.TA y.time.length q.tc] 39) = z := ⟨_, rfl⟩
  rw [hyb, hw5] at HS4
  rw [hw5] at HI5
  rw [hyb, hw5]
  clear hyb hw5 HI4 HS2 HMK
  have hns := HX.out.sats
  have HNS := Lib.hid hns
  have HYO : Hid (∀ a : Int, ¬ (0 ≤ a ∧ a < y.sats.length) → ∀ wx, Below w5.heap.size w5 wx → Calls Try.prog 31 #[.agg #[.int .i64 y.fin, .int .i64 y.tm, .int .i64 y.tr, .int .i64 y.bm, .int .i64 y.br, .slice q.SA y.sats.length q.sc, .slice q.CA y.custs.length q.cc, .slice q.KA y.cost.length q.kc, .slice q.TA y.time.length q.tc], .int .i64 a] wx fun e w' => e = .returned (.slice none 0 0) ∧ Below wx.heap.size wx w') := Lib.hid (fun a h wx hb => out_none y q a wx (HI5.out.at_ hb) HX.out.lens (fun h2 => h h2.2))
  have HYB : Hid (∀ a : Int, ¬ (0 ≤ a ∧ a < y.sats.length) → ∀ wx, Below w5.heap.size w5 wx → Calls Try.prog 32 #[.agg #[.int .i64 y.fin, .int .i64 y.tm, .int .i64 y.tr, .int .i64 y.bm, .int .i64 y.br, .slice q.SA y.sats.length q.sc, .slice q.CA y.custs.length q.cc, .slice q.KA y.cost.length q.kc, .slice q.TA y.time.length q.tc], .int .i64 a] wx fun e w' => e = .returned (.slice none 0 0) ∧ Below wx.heap.size wx w') := Lib.hid (fun a h wx hb => back_none y q a wx (HI5.out.at_ hb) HX.out.lens (fun h2 => h h2.2))
  have HB5 := Lib.hid HS4.out.below
  have HLT := Lib.hid (HS4.out.lt 0 rfl).2
  go_cut [20] (fun v20 wx => v20 = .bool (decide (0 ≤ a ∧ a < (y.sats.length : Int))) ∧ wx = w5)
  case first =>
    have d5 : w5.cell? ⟨yb, 5, none⟩ = some (.slice q.SA y.sats.length q.sc) := HS4.out.cell 0 rfl 5 rfl
    by_cases h0 : 0 ≤ a
    · by_cases h1 : a < (y.sats.length : Int)
      · have hv : decide (0 ≤ a ∧ a < (y.sats.length : Int)) = true := decide_eq_true ⟨h0, h1⟩
        have HV := Lib.hid hv
        clear hv
        go_wp2_with fail
        go_meet
        exact ⟨by rw [HV.out], rfl⟩
      · have hv : decide (0 ≤ a ∧ a < (y.sats.length : Int)) = false := decide_eq_false (fun h => h1 h.2)
        have HV := Lib.hid hv
        clear hv
        go_wp2_with fail
        go_meet
        exact ⟨by rw [HV.out], rfl⟩
    · have hv : decide (0 ≤ a ∧ a < (y.sats.length : Int)) = false := decide_eq_false (fun h => h0 h.1)
      have HV := Lib.hid hv
      clear hv
      go_wp2_with fail
      go_meet
      exact ⟨by rw [HV.out], rfl⟩
  case rest =>
  obtain ⟨rfl, hww⟩ := hcut
  subst hww
  go_upto_if 20 with fail
  go_cut [2] (fun v2 wx => ∃ b : Int, v2 = .int .i64 b ∧ ¬ (0 ≤ b ∧ b < y.sats.length) ∧ SL w w.heap.size [.blk yb #[.int .i64 y.fin, .int .i64 y.tm, .int .i64 y.tr, .int .i64 y.bm, .int .i64 y.br, .slice q.SA y.sats.length q.sc, .slice q.CA y.custs.length q.cc, .slice q.KA y.cost.length q.kc, .slice q.TA y.time.length q.tc] 39, .blk sb #[.int .u8 s.fin, .int .u8 s.trucks, .int .u8 s.troom, .int .u8 s.bikes, .int .u8 s.broom, .slice sp.SA s.sats.length sp.sc, .slice sp.CA s.custs.length sp.cc, .slice sp.KA s.cost.length sp.kc, .slice sp.TA s.time.length sp.tc, .bool s.tight, .bool s.loose] 26, .blk xb #[.int .i64 x.fin, .int .i64 x.tm, .int .i64 x.tr, .int .i64 x.bm, .int .i64 x.br, .slice p.SA x.sats.length p.sc, .slice p.CA x.custs.length p.cc, .slice p.KA x.cost.length p.kc, .slice p.TA x.time.length p.tc] 39] wx ∧ wx = wc)
  case first =>
    have d5 : wc.cell? ⟨yb, 5, none⟩ = some (.slice q.SA y.sats.length q.sc) := HS4.out.cell 0 rfl 5 rfl
    by_cases h0 : 0 ≤ a ∧ a < (y.sats.length : Int)
    · rw [decide_eq_true h0]
      have hwr : IntKind.i64.wrap (a + (y.sats.length : Int)) = a + (y.sats.length : Int) := by rw [IntKind.wrap_i64]; omega
      go_wp2_with fail
      go_meet
      exact ⟨_, rfl, by omega, HS4.out, rfl⟩
    · rw [decide_eq_false h0]
      go_wp2_with fail
      go_meet
      exact ⟨_, rfl, h0, HS4.out, rfl⟩
  case rest =>
  obtain ⟨b, rfl, hb, hS5, rfl⟩ := hcut
  have HYO2 := Lib.hid (HYO.out b hb)
  have HYB2 := Lib.hid (HYB.out b hb)
  have hxblk := hS5.blk 2 rfl
  have hxlt := (hS5.lt 2 rfl).2
  have hyblk := hS5.blk 0 rfl
  have hylt := (hS5.lt 0 rfl).2
  have HBX : Hid (∀ wx, Below wc.heap.size wc wx → wx.heap[xb]? = some (.cells #[.int .i64 x.fin, .int .i64 x.tm, .int .i64 x.tr, .int .i64 x.bm, .int .i64 x.br, .slice p.SA x.sats.length p.sc, .slice p.CA x.custs.length p.cc, .slice p.KA x.cost.length p.kc, .slice p.TA x.time.length p.tc] 39 (0, 0))) := Lib.hid (fun wx hb => (hb.block xb hxlt).trans hxblk)
  have HBY : Hid (∀ wx, Below wc.heap.size wc wx → wx.heap[yb]? = some (.cells #[.int .i64 y.fin, .int .i64 y.tm, .int .i64 y.tr, .int .i64 y.bm, .int .i64 y.br, .slice q.SA y.sats.length q.sc, .slice q.CA y.custs.length q.cc, .slice q.KA y.cost.length q.kc, .slice q.TA y.time.length q.tc] 39 (0, 0))) := Lib.hid (fun wx hb => (hb.block yb hylt).trans hyblk)
  clear hxblk hxlt hyblk hylt hS5 HS4 HYO HYB HLT
  go_upto_region 6 with fail
  refine wp_region_sq [] (SL.start (W := wc) (Nat.le_refl _)) (by kernel_rfl) (by kernel_rfl) fun C cw _ hC hin => ?_
  have q0 : ∀ c, (cw c).cell? ⟨yb, 0, none⟩ = some (.int .i64 y.fin) := fun c => by rw [cell_of_row _ _ _ _ _ _ (HBY.out _ (hC c).below)]; rfl
  have q1 : ∀ c, (cw c).cell? ⟨yb, 1, none⟩ = some (.int .i64 y.tm) := fun c => by rw [cell_of_row _ _ _ _ _ _ (HBY.out _ (hC c).below)]; rfl
  have q2 : ∀ c, (cw c).cell? ⟨yb, 2, none⟩ = some (.int .i64 y.tr) := fun c => by rw [cell_of_row _ _ _ _ _ _ (HBY.out _ (hC c).below)]; rfl
  have q3 : ∀ c, (cw c).cell? ⟨yb, 3, none⟩ = some (.int .i64 y.bm) := fun c => by rw [cell_of_row _ _ _ _ _ _ (HBY.out _ (hC c).below)]; rfl
  have q4 : ∀ c, (cw c).cell? ⟨yb, 4, none⟩ = some (.int .i64 y.br) := fun c => by rw [cell_of_row _ _ _ _ _ _ (HBY.out _ (hC c).below)]; rfl
  have q5 : ∀ c, (cw c).cell? ⟨yb, 5, none⟩ = some (.slice q.SA y.sats.length q.sc) := fun c => by rw [cell_of_row _ _ _ _ _ _ (HBY.out _ (hC c).below)]; rfl
  have q6 : ∀ c, (cw c).cell? ⟨yb, 6, none⟩ = some (.slice q.CA y.custs.length q.cc) := fun c => by rw [cell_of_row _ _ _ _ _ _ (HBY.out _ (hC c).below)]; rfl
  have q7 : ∀ c, (cw c).cell? ⟨yb, 7, none⟩ = some (.slice q.KA y.cost.length q.kc) := fun c => by rw [cell_of_row _ _ _ _ _ _ (HBY.out _ (hC c).below)]; rfl
  have q8 : ∀ c, (cw c).cell? ⟨yb, 8, none⟩ = some (.slice q.TA y.time.length q.tc) := fun c => by rw [cell_of_row _ _ _ _ _ _ (HBY.out _ (hC c).below)]; rfl
  have HYOc : Hid (∀ c, Calls Try.prog 31 #[.agg #[.int .i64 y.fin, .int .i64 y.tm, .int .i64 y.tr, .int .i64 y.bm, .int .i64 y.br, .slice q.SA y.sats.length q.sc, .slice q.CA y.custs.length q.cc, .slice q.KA y.cost.length q.kc, .slice q.TA y.time.length q.tc], .int .i64 b] (cw c) fun e w' => e = .returned (.slice none 0 0) ∧ ∃ c', w' = cw c') := Lib.hid (fun c => sq_call (hC c) hin (HYO2.out _ (hC c).below))
  have HYBc : Hid (∀ c, Calls Try.prog 32 #[.agg #[.int .i64 y.fin, .int .i64 y.tm, .int .i64 y.tr, .int .i64 y.bm, .int .i64 y.br, .slice q.SA y.sats.length q.sc, .slice q.CA y.custs.length q.cc, .slice q.KA y.cost.length q.kc, .slice q.TA y.time.length q.tc], .int .i64 b] (cw c) fun e w' => e = .returned (.slice none 0 0) ∧ ∃ c', w' = cw c') := Lib.hid (fun c => sq_call (hC c) hin (HYB2.out _ (hC c).below))
  clear hC hin HYO2 HYB2
  repeat (any_goals (go_big_quiet_step (first | (go_at_call 31; with_reducible exact HYOc.out _) | (go_at_call 32; with_reducible exact HYBc.out _))))
  refine wpQuiet_nil ?_
  intro w6 hS6
  have HB6 := Lib.hid hS6.below
  have HW6 : Hid (∀ wx, Below wc.heap.size wc wx → Below w.heap.size w wx) := Lib.hid (fun wx hb => HB5.out.trans (hb.mono HB5.out.size))
  clear hS6 q0 q1 q2 q3 q4 q5 q6 q7 q8 HYOc HYBc
  have a6 : w6.cell? ⟨xb, 6, none⟩ = some (.slice p.CA x.custs.length p.cc) := by rw [cell_of_row _ _ _ _ _ _ (HBX.out _ HB6.out)]; rfl
  by_cases g1 : 60 < x.custs.length
  case pos =>
    have g1b : (60 : Int) < (x.custs.length : Int) := by omega
    clear g1
    go_wp2_with fail
    go_ret
    exact ⟨rfl, HW6.out _ HB6.out⟩
  case neg =>
  have g1b : ¬ (60 : Int) < (x.custs.length : Int) := by omega
  clear g1
  have a0 : w6.cell? ⟨xb, 0, none⟩ = some (.int .i64 x.fin) := by rw [cell_of_row _ _ _ _ _ _ (HBX.out _ HB6.out)]; rfl
  have a1 : w6.cell? ⟨xb, 1, none⟩ = some (.int .i64 x.tm) := by rw [cell_of_row _ _ _ _ _ _ (HBX.out _ HB6.out)]; rfl
  have a2 : w6.cell? ⟨xb, 2, none⟩ = some (.int .i64 x.tr) := by rw [cell_of_row _ _ _ _ _ _ (HBX.out _ HB6.out)]; rfl
  have a3 : w6.cell? ⟨xb, 3, none⟩ = some (.int .i64 x.bm) := by rw [cell_of_row _ _ _ _ _ _ (HBX.out _ HB6.out)]; rfl
  have a4 : w6.cell? ⟨xb, 4, none⟩ = some (.int .i64 x.br) := by rw [cell_of_row _ _ _ _ _ _ (HBX.out _ HB6.out)]; rfl
  have a5 : w6.cell? ⟨xb, 5, none⟩ = some (.slice p.SA x.sats.length p.sc) := by rw [cell_of_row _ _ _ _ _ _ (HBX.out _ HB6.out)]; rfl
  have a7 : w6.cell? ⟨xb, 7, none⟩ = some (.slice p.KA x.cost.length p.kc) := by rw [cell_of_row _ _ _ _ _ _ (HBX.out _ HB6.out)]; rfl
  have a8 : w6.cell? ⟨xb, 8, none⟩ = some (.slice p.TA x.time.length p.tc) := by rw [cell_of_row _ _ _ _ _ _ (HBX.out _ HB6.out)]; rfl
  by_cases hc : cd = 0
  case pos =>
    have hcb : (cd == 0) = true := by simpa using hc
    clear hc
    go_wp2_with (go_at_call 24; (with_reducible refine (HCK.out _ (HW6.out _ HB6.out)).mono ?_); rintro e w7 ⟨rfl, hb⟩
                 have HB7 := Lib.hid (HB6.out.trans (hb.mono HB6.out.size))
                 clear hb)
    go_ret
    exact ⟨rfl, HW6.out _ HB7.out⟩
  case neg =>
  have hcb : (cd == 0) = false := by simpa using hc
  have HRD2 := Lib.hid (HRD.out hc)
  have HMY2 := Lib.hid (HMY.out hc)
  have HOU2 := Lib.hid (HOU.out hc b)
  have HBK2 := Lib.hid (HBK.out hc b)
  clear hc HRD HMY HOU HBK
  go_upto_region 10 with (go_at_call 24; (with_reducible refine (HCK.out _ (HW6.out _ HB6.out)).mono ?_); rintro e w7 ⟨rfl, hb⟩
                          have HB7 := Lib.hid (HB6.out.trans (hb.mono HB6.out.size))
                          clear hb)
  clear a0 a1 a2 a3 a4 a5 a6 a7 a8
  have HS7 := Lib.hid ((SL.start (W := wc) (Nat.le_refl _)).call HB7.out)
  refine wp_region_sq [] HS7.out (by kernel_rfl) (by kernel_rfl) fun C cw _ hC hin => ?_
  have q0 : ∀ c, (cw c).cell? ⟨xb, 0, none⟩ = some (.int .i64 x.fin) := fun c => by rw [cell_of_row _ _ _ _ _ _ (HBX.out _ (hC c).below)]; rfl
  have q1 : ∀ c, (cw c).cell? ⟨xb, 1, none⟩ = some (.int .i64 x.tm) := fun c => by rw [cell_of_row _ _ _ _ _ _ (HBX.out _ (hC c).below)]; rfl
  have q2 : ∀ c, (cw c).cell? ⟨xb, 2, none⟩ = some (.int .i64 x.tr) := fun c => by rw [cell_of_row _ _ _ _ _ _ (HBX.out _ (hC c).below)]; rfl
  have q3 : ∀ c, (cw c).cell? ⟨xb, 3, none⟩ = some (.int .i64 x.bm) := fun c => by rw [cell_of_row _ _ _ _ _ _ (HBX.out _ (hC c).below)]; rfl
  have q4 : ∀ c, (cw c).cell? ⟨xb, 4, none⟩ = some (.int .i64 x.br) := fun c => by rw [cell_of_row _ _ _ _ _ _ (HBX.out _ (hC c).below)]; rfl
  have q5 : ∀ c, (cw c).cell? ⟨xb, 5, none⟩ = some (.slice p.SA x.sats.length p.sc) := fun c => by rw [cell_of_row _ _ _ _ _ _ (HBX.out _ (hC c).below)]; rfl
  have q6 : ∀ c, (cw c).cell? ⟨xb, 6, none⟩ = some (.slice p.CA x.custs.length p.cc) := fun c => by rw [cell_of_row _ _ _ _ _ _ (HBX.out _ (hC c).below)]; rfl
  have q7 : ∀ c, (cw c).cell? ⟨xb, 7, none⟩ = some (.slice p.KA x.cost.length p.kc) := fun c => by rw [cell_of_row _ _ _ _ _ _ (HBX.out _ (hC c).below)]; rfl
  have q8 : ∀ c, (cw c).cell? ⟨xb, 8, none⟩ = some (.slice p.TA x.time.length p.tc) := fun c => by rw [cell_of_row _ _ _ _ _ _ (HBX.out _ (hC c).below)]; rfl
  have HC1 : Hid (∀ c, Calls Try.prog 28 #[.agg #[.int .i64 x.fin, .int .i64 x.tm, .int .i64 x.tr, .int .i64 x.bm, .int .i64 x.br, .slice p.SA x.sats.length p.sc, .slice p.CA x.custs.length p.cc, .slice p.KA x.cost.length p.kc, .slice p.TA x.time.length p.tc]] (cw c) fun e w' => e = .returned (.slice none 0 0) ∧ ∃ c', w' = cw c') := Lib.hid (fun c => sq_call (hC c) hin (HRD2.out _ (HW6.out _ (hC c).below)))
  have HC2 : Hid (∀ c, Calls Try.prog 33 #[.agg #[.int .i64 x.fin, .int .i64 x.tm, .int .i64 x.tr, .int .i64 x.bm, .int .i64 x.br, .slice p.SA x.sats.length p.sc, .slice p.CA x.custs.length p.cc, .slice p.KA x.cost.length p.kc, .slice p.TA x.time.length p.tc]] (cw c) fun e w' => e = .returned (.slice none 0 0) ∧ ∃ c', w' = cw c') := Lib.hid (fun c => sq_call (hC c) hin (HMY2.out _ (HW6.out _ (hC c).below)))
  have HC3 : Hid (∀ c, Calls Try.prog 31 #[.agg #[.int .i64 x.fin, .int .i64 x.tm, .int .i64 x.tr, .int .i64 x.bm, .int .i64 x.br, .slice p.SA x.sats.length p.sc, .slice p.CA x.custs.length p.cc, .slice p.KA x.cost.length p.kc, .slice p.TA x.time.length p.tc], .int .i64 b] (cw c) fun e w' => e = .returned (.slice none 0 0) ∧ ∃ c', w' = cw c') := Lib.hid (fun c => sq_call (hC c) hin (HOU2.out _ (HW6.out _ (hC c).below)))
  have HC4 : Hid (∀ c, Calls Try.prog 32 #[.agg #[.int .i64 x.fin, .int .i64 x.tm, .int .i64 x.tr, .int .i64 x.bm, .int .i64 x.br, .slice p.SA x.sats.length p.sc, .slice p.CA x.custs.length p.cc, .slice p.KA x.cost.length p.kc, .slice p.TA x.time.length p.tc], .int .i64 b] (cw c) fun e w' => e = .returned (.slice none 0 0) ∧ ∃ c', w' = cw c') := Lib.hid (fun c => sq_call (hC c) hin (HBK2.out _ (HW6.out _ (hC c).below)))
  clear hC hin HRD2 HMY2 HOU2 HBK2
  repeat (any_goals (go_big_quiet_step (first | (go_at_call 28; with_reducible exact HC1.out _) | (go_at_call 33; with_reducible exact HC2.out _) | (go_at_call 31; with_reducible exact HC3.out _) | (go_at_call 32; with_reducible exact HC4.out _))))
  refine wpQuiet_nil ?_
  intro w8 hS8
  have HB8 := Lib.hid (HW6.out _ hS8.below)
  clear hS8
  go_wp2_with fail
  go_ret
  exact ⟨rfl, HB8.out⟩
open Go.Deep Go.Joins in
set_option maxRecDepth 100000 in
theorem reachNone_walk {H : Type} {enc : TypeId × Value → H} {base : Nat} (W : World) (v0 : Value) (d0 : DataW H) (p0 : List MemPlace) (o0 : Value.okWide Try.prog W .any base 39 v0) (k0 : DataW.Trod enc Try.prog W 0 (fun _ => true) true 39 v0 d0 p0)
    (v1 : Value) (d1 : DataW H) (p1 : List MemPlace) (o1 : Value.okWide Try.prog W .any base 26 v1) (k1 : DataW.Trod enc Try.prog W 0 (fun _ => true) true 26 v1 d1 p1) (a : Int) (ha : (Lit.int .i64 a).wf = true) :
    Calls Try.prog 8 #[v0, v1, .int .i64 a] W fun e w' => e = .returned (.bool true) ∧ Below W.heap.size W w' := by
  obtain ⟨q, x, rfl, hI, hx⟩ := inst_open o0 k0
  obtain ⟨sp, s, rfl, hSI, hl, hok⟩ := small_open o1 k1
  exact reachNone0 x q s sp a W hI hx hSI hl hok (i64_of_wf ha)
end Go.Proofs.Ytjpejclfppbboaa
