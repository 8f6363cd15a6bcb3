/- The walk of law ReachWays. (printed by gen/reachways.py) -/
import Derived.Test.YtjpejclfppbboaaReachReadies
import Derived.Test.YtjpejclfppbboaaReachF
import Derived.Test.YtjpejclfppbboaaReachD
import Derived.Deep.CutBlock
import Derived.Deep.CutRange
import Derived.Deep.DeepCutAuto
namespace Go.Proofs.Ytjpejclfppbboaa
open Go.ChangeShapes Go.WideShapes Go.ChangeAt Go.RowKit
set_option linter.unusedVariables false
set_option linter.unusedSimpArgs false
set_option maxRecDepth 100000 in
set_option maxHeartbeats 4000000 in
theorem reachWays0 (s : SmallV) (sp : IAt) (a : Int) (w : World) (hI : SmallIn w w.heap.size sp s) (hl : SmallL s) (hok : s.ok) (ha : isU8 a) :
    Calls Try.prog 7 #[.agg (s.vals sp), .int .u8 a] w fun e w' => e = .returned (.bool true) ∧ Below w.heap.size w w' := by
  have HX := Lib.hid (SmallV.small hok)
  have HMK : Hid (∀ wx, Below w.heap.size w wx → Calls Try.prog 16 #[.agg #[.int .u8 s.fin, .int .u8 s.trucks, .int .u8 s.troom, .int .u8 s.bikes, .int .u8 s.broom, .slice sp.SA s.sats.length sp.sc, .slice sp.CA s.custs.length sp.cc, .slice sp.KA s.cost.length sp.kc, .slice sp.TA s.time.length sp.tc, .bool s.tight, .bool s.loose]] wx (MakePost wx s.mk_)) := Lib.hid (fun wx hb => make_any s sp wx ((hI.below hb).more hb.size) hl hok)
  have hS := (SL.start (W := w) (Nat.le_refl w.heap.size)).alloc (s.vals sp) 26
  obtain ⟨u0, u1⟩ := ha
  clear hI hl hok
  unfold SmallV.vals at hS ⊢
  obtain ⟨x, hxs⟩ : ∃ x, s.mk_ = x := ⟨_, rfl⟩
  rw [hxs] at HX HMK
  clear hxs
  obtain ⟨sb, hsb⟩ : ∃ b, w.heap.size = b := ⟨_, rfl⟩
  obtain ⟨w1, hw1⟩ : ∃ y, w.alloc (.cells #[.int .u8 s.fin, .int .u8 s.trucks, .int .u8 s.troom, .int .u8 s.bikes, .int .u8 s.broom, .slice sp.SA s.sats.length sp.sc, .slice sp.CA s.custs.length sp.cc, .slice sp.KA s.cost.length sp.kc, .slice sp.TA s.time.length sp.tc, .bool s.tight, .bool s.loose] 26) = y := ⟨_, rfl⟩
  have HS1 : Hid (SL w w.heap.size [.blk sb #[.int .u8 s.fin, .int .u8 s.trucks, .int .u8 s.troom, .int .u8 s.bikes, .int .u8 s.broom, .slice sp.SA s.sats.length sp.sc, .slice sp.CA s.custs.length sp.cc, .slice sp.KA s.cost.length sp.kc, .slice sp.TA s.time.length sp.tc, .bool s.tight, .bool s.loose] 26] w1) := Lib.hid (by rw [← hsb, ← hw1]; exact hS)
  have HW := Lib.hid (And.intro hsb hw1)
  clear hS hsb hw1
  go_enter Try.func7, Try.ntmps7
  go_upto_region 1 with fail
  rw [HW.out.2, HW.out.1]
  go_upto_region 3 with (go_at_call 26; (with_reducible refine (awake14 _).mono ?_); rintro e w2 ⟨rfl, hb⟩
                         have HS2 := Lib.hid (HS1.out.call hb)
                         clear hb)
  clear HS1 HW
  have hS2 := HS2.out
  have b0 : w2.cell? ⟨sb, 0, none⟩ = some (.int .u8 s.fin) := hS2.cell 0 rfl 0 rfl
  have b1 : w2.cell? ⟨sb, 1, none⟩ = some (.int .u8 s.trucks) := hS2.cell 0 rfl 1 rfl
  have b2 : w2.cell? ⟨sb, 2, none⟩ = some (.int .u8 s.troom) := hS2.cell 0 rfl 2 rfl
  have b3 : w2.cell? ⟨sb, 3, none⟩ = some (.int .u8 s.bikes) := hS2.cell 0 rfl 3 rfl
  have b4 : w2.cell? ⟨sb, 4, none⟩ = some (.int .u8 s.broom) := hS2.cell 0 rfl 4 rfl
  have b5 : w2.cell? ⟨sb, 5, none⟩ = some (.slice sp.SA s.sats.length sp.sc) := hS2.cell 0 rfl 5 rfl
  have b6 : w2.cell? ⟨sb, 6, none⟩ = some (.slice sp.CA s.custs.length sp.cc) := hS2.cell 0 rfl 6 rfl
  have b7 : w2.cell? ⟨sb, 7, none⟩ = some (.slice sp.KA s.cost.length sp.kc) := hS2.cell 0 rfl 7 rfl
  have b8 : w2.cell? ⟨sb, 8, none⟩ = some (.slice sp.TA s.time.length sp.tc) := hS2.cell 0 rfl 8 rfl
  have b9 : w2.cell? ⟨sb, 9, none⟩ = some (.bool s.tight) := hS2.cell 0 rfl 9 rfl
  have b10 : w2.cell? ⟨sb, 10, none⟩ = some (.bool s.loose) := hS2.cell 0 rfl 10 rfl
  clear hS2
  go_upto_region 4 with (go_at_call 16; (with_reducible refine (HMK.out _ HS2.out.below).mono ?_); rintro e w4 ⟨p, hk, ht, rfl, hl1, hl2, hq⟩
                         have HS4 := Lib.hid ((HS2.out.call hq.below).alloc (x.cells p) 39)
                         have HI4 := Lib.hid (made_in hl1 hl2 hq).1
                         clear hq hl1 hl2 b0 b1 b2 b3 b4 b5 b6 b7 b8 b9 b10
                         unfold InstV.cells)
  unfold InstV.cells at HS4
  obtain ⟨xb, hxb⟩ : ∃ b, w4.heap.size = b := ⟨_, rfl⟩
  have HI5 : Hid (InstIn (w4.alloc (.cells #[.int .i64 x.fin, .int .i64 x.tm, .int .i64 x.tr, .int .i64 x.bm, .int .i64 x.br, .slice p.SA x.sats.length p.sc, .slice p.CA x.custs.length p.cc, .slice p.KA x.cost.length p.kc, .slice p.TA x.time.length p.tc] 39)) (w4.alloc (.cells #[.int .i64 x.fin, .int .i64 x.tm, .int .i64 x.tr, .int .i64 x.bm, .int .i64 x.br, .slice p.SA x.sats.length p.sc, .slice p.CA x.custs.length p.cc, .slice p.KA x.cost.length p.kc, .slice p.TA x.time.length p.tc] 39)).heap.size p x) := Lib.hid (HI4.out.at_ ((Below.refl _ _).alloc (Nat.le_refl _) _))
  obtain ⟨w5, hw5⟩ : ∃ y, w4.alloc (.cells #[.int .i64 x.fin, .int .i64 x.tm, .int .i64 x.tr, .int .i64 x.bm, .int .i64 x.br, .slice p.SA x.sats.length p.sc, .slice p.CA x.custs.length p.cc, .slice p.KA x.cost.length p.kc, .slice p.TA x.time.length p.tc] 39) = y := ⟨_, rfl⟩
  rw [hxb, hw5] at HS4
  rw [hw5] at HI5
  rw [hxb, hw5]
  clear hxb hw5 HI4 HS2 HMK
  have HBW := Lib.hid HS4.out.below
  have HXF : Hid (∀ wx, Below w5.heap.size w5 wx → wx.cell? ⟨xb, 0, none⟩ = some (.int .i64 x.fin) ∧ wx.cell? ⟨xb, 1, none⟩ = some (.int .i64 x.tm) ∧ wx.cell? ⟨xb, 2, none⟩ = some (.int .i64 x.tr) ∧ wx.cell? ⟨xb, 3, none⟩ = some (.int .i64 x.bm) ∧ wx.cell? ⟨xb, 4, none⟩ = some (.int .i64 x.br) ∧ wx.cell? ⟨xb, 5, none⟩ = some (.slice p.SA x.sats.length p.sc) ∧ wx.cell? ⟨xb, 6, none⟩ = some (.slice p.CA x.custs.length p.cc) ∧ wx.cell? ⟨xb, 7, none⟩ = some (.slice p.KA x.cost.length p.kc) ∧ wx.cell? ⟨xb, 8, none⟩ = some (.slice p.TA x.time.length p.tc)) := Lib.hid (fun wx hb => by
    have hx := (hb.block xb (HS4.out.lt 0 rfl).2).trans (HS4.out.blk 0 rfl)
    have hc : ∀ j v, (#[.int .i64 x.fin, .int .i64 x.tm, .int .i64 x.tr, .int .i64 x.bm, .int .i64 x.br, .slice p.SA x.sats.length p.sc, .slice p.CA x.custs.length p.cc, .slice p.KA x.cost.length p.kc, .slice p.TA x.time.length p.tc] : Array Value)[j]? = some v → wx.cell? ⟨xb, j, none⟩ = some v := fun j v hj => by rw [cell_of_row _ _ _ _ _ _ hx]; exact hj
    exact ⟨hc 0 _ rfl, hc 1 _ rfl, hc 2 _ rfl, hc 3 _ rfl, hc 4 _ rfl, hc 5 _ rfl, hc 6 _ rfl, hc 7 _ rfl, hc 8 _ rfl⟩)
  have hns := HX.out.sats
  have HNS := Lib.hid hns
  obtain ⟨k, hk⟩ : ∃ k : Nat, a % (x.sats.length : Int) = (k : Int) := ⟨(a % (x.sats.length : Int)).toNat, by have := Int.emod_nonneg a (show (x.sats.length : Int) ≠ 0 by omega); omega⟩
  have hks : k < x.sats.length := by have := Int.emod_lt_of_pos a (show (0 : Int) < (x.sats.length : Int) by omega); omega
  have hm1 : a.tmod (x.sats.length : Int) = (k : Int) := by rw [Int.tmod_eq_emod_of_nonneg u0, hk]
  have hne : ¬ (x.sats.length : Int) = 0 := by omega
  have HWY : Hid (∀ wx, Below w5.heap.size w5 wx → Calls Try.prog 30 #[.agg #[.int .i64 x.fin, .int .i64 x.tm, .int .i64 x.tr, .int .i64 x.bm, .int .i64 x.br, .slice p.SA x.sats.length p.sc, .slice p.CA x.custs.length p.cc, .slice p.KA x.cost.length p.kc, .slice p.TA x.time.length p.tc], .int .i64 (k : Int)] wx (WaysR wx (outM x k) (backM x k))) := Lib.hid (fun wx hb => lawWays_any x p k wx (HI5.out.at_ hb) (small_fit HX.out) hks)
  have HOU : Hid (∀ wx, Below w5.heap.size w5 wx → Calls Try.prog 31 #[.agg #[.int .i64 x.fin, .int .i64 x.tm, .int .i64 x.tr, .int .i64 x.bm, .int .i64 x.br, .slice p.SA x.sats.length p.sc, .slice p.CA x.custs.length p.cc, .slice p.KA x.cost.length p.kc, .slice p.TA x.time.length p.tc], .int .i64 (k : Int)] wx (ReadyR wx (outM x k))) := Lib.hid (fun wx hb => out_r x p k wx (HI5.out.at_ hb) (small_fit HX.out) hks)
  have HBK : Hid (∀ wx, Below w5.heap.size w5 wx → Calls Try.prog 32 #[.agg #[.int .i64 x.fin, .int .i64 x.tm, .int .i64 x.tr, .int .i64 x.bm, .int .i64 x.br, .slice p.SA x.sats.length p.sc, .slice p.CA x.custs.length p.cc, .slice p.KA x.cost.length p.kc, .slice p.TA x.time.length p.tc], .int .i64 (k : Int)] wx (ReadyR wx (backM x k))) := Lib.hid (fun wx hb => back_r x p k wx (HI5.out.at_ hb) (small_fit HX.out) hks)
  have HLO : Hid ((outM x k).length ≤ maxLen) := Lib.hid (by rw [out_len]; have := HX.out.custs; unfold maxLen; omega)
  have HLK : Hid ((backM x k).length ≤ maxLen) := Lib.hid (by rw [back_len]; have := HX.out.custs; unfold maxLen; omega)
  have HEQ : Hid (∀ (A A' : Option Addr) (c c' : Nat) (R : List Int) (wx : World), IntsAt wx wx.heap.size A R → IntsAt wx wx.heap.size A' R → R.length ≤ maxLen → Calls Try.prog 27 #[.slice A R.length c, .slice A' R.length c'] wx fun e w' => e = .returned (.bool true) ∧ Below wx.heap.size wx w') := Lib.hid (fun A A' c c' R wx h1 h2 h3 => by
    have h := equalA_int64s A A' c c' R R wx h1 h2 h3 h3
    rw [decide_eq_true rfl] at h
    exact h)
  obtain ⟨O, hO⟩ : ∃ R, outM x k = R := ⟨_, rfl⟩
  obtain ⟨K, hK⟩ : ∃ R, backM x k = R := ⟨_, rfl⟩
  rw [hO] at HWY HOU HLO
  rw [hK] at HWY HBK HLK
  have HB5 := Lib.hid (Below.refl w5.heap.size w5)
  clear hO hK hk HS4 hns HI5
  obtain ⟨d0, d1, d2, d3, d4, d5, d6, d7, d8⟩ := HXF.out w5 HB5.out
  clear d0 d1 d2 d3 d4 d6 d7 d8
  go_upto_region 5 with fail
  clear d5
  obtain ⟨d0, d1, d2, d3, d4, d5, d6, d7, d8⟩ := HXF.out w5 HB5.out
  go_upto_region 6 with (go_at_call 30; (with_reducible refine (HWY.out _ HB5.out).mono ?_); rintro e w6 ⟨A, c, A2, c2, rfl, h1, h2, hb⟩
                         have HB6 := Lib.hid hb
                         have H1 := Lib.hid h1
                         have H2 := Lib.hid h2
                         clear h1 h2 hb)
  clear d0 d1 d2 d3 d4 d5 d6 d7 d8 HWY
  obtain ⟨d0, d1, d2, d3, d4, d5, d6, d7, d8⟩ := HXF.out w6 HB6.out
  go_wp2_with (first
    | (go_at_call 31; (with_reducible refine (HOU.out _ HB6.out).mono ?_); rintro e w7 ⟨A3, c3, rfl, h3, hb⟩
       have HB7 := Lib.hid (HB6.out.trans (hb.mono HB6.out.size))
       have HE1 := Lib.hid (HEQ.out A3 A c3 c O w7 h3 (reads_more (Reads.below H1.out hb) hb.size) HLO.out)
       have H27 := Lib.hid (reads_more (Reads.below H2.out hb) hb.size)
       clear h3 hb HOU d0 d1 d2 d3 d4 d5 d6 d7 d8)
    | (go_at_call 27; (with_reducible refine HE1.out.mono ?_); rintro e w8 ⟨rfl, hb⟩
       have HB8 := Lib.hid (HB7.out.trans (hb.mono HB7.out.size))
       have H28 := Lib.hid (reads_more (Reads.below H27.out hb) hb.size)
       obtain ⟨d0, d1, d2, d3, d4, d5, d6, d7, d8⟩ := HXF.out w8 HB8.out
       clear hb HE1)
    | (go_at_call 32; (with_reducible refine (HBK.out _ HB8.out).mono ?_); rintro e w9 ⟨A4, c4, rfl, h4, hb⟩
       have HB9 := Lib.hid (HB8.out.trans (hb.mono HB8.out.size))
       have HE2 := Lib.hid (HEQ.out A4 A2 c4 c2 K w9 h4 (reads_more (Reads.below H28.out hb) hb.size) HLK.out)
       clear h4 hb HBK d0 d1 d2 d3 d4 d5 d6 d7 d8)
    | (go_at_call 27; (with_reducible refine HE2.out.mono ?_); rintro e w10 ⟨rfl, hb⟩
       have HB10 := Lib.hid (HB9.out.trans (hb.mono HB9.out.size))
       clear hb HE2))
  go_ret
  exact ⟨rfl, HBW.out.trans (HB10.out.mono HBW.out.size)⟩
open Go.Deep Go.Joins in
set_option maxRecDepth 100000 in
theorem reachWays_walk {H : Type} {enc : TypeId × Value → H} {base : Nat} (W : World) (v0 : Value) (d0 : DataW H) (p0 : List MemPlace) (o0 : Value.okWide Try.prog W .any base 26 v0) (k0 : DataW.Trod enc Try.prog W 0 (fun _ => true) true 26 v0 d0 p0) (a : Int) (ha : (Lit.int .u8 a).wf = true) :
    Calls Try.prog 7 #[v0, .int .u8 a] W fun e w' => e = .returned (.bool true) ∧ Below W.heap.size W w' := by
  obtain ⟨sp, s, rfl, hI, hl, hok⟩ := small_open o0 k0
  exact reachWays0 s sp a W hI hl hok (isU8_of ha)
end Go.Proofs.Ytjpejclfppbboaa
