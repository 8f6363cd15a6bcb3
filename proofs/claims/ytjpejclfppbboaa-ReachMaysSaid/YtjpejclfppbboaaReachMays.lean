/- The walk of law ReachMays. (printed by gen/reachmays.py) -/
import Derived.Test.YtjpejclfppbboaaReachReadies
import Derived.Test.YtjpejclfppbboaaReachH
import Derived.Test.YtjpejclfppbboaaReachG
import Derived.Deep.CutBlock
import Derived.Deep.CutRange
import Derived.Deep.DeepCutAuto
namespace Go.Proofs.Ytjpejclfppbboaa
open Go.ChangeShapes Go.WideShapes Go.ChangeAt Go.RowKit
set_option linter.unusedVariables false
set_option linter.unusedSimpArgs false
theorem setWith_bitk (m c k : Nat) (hc : c < 64) : bitv (setWith m (c : Int)) k = (bitv m k || decide (c = k)) := by
 unfold setWith bitv
 rw [if_pos (by omega), Nat.testBit_or, Int.toNat_natCast, Nat.testBit_two_pow]
theorem mays_bit (x : InstV) (s k : Nat) : ∀ m, m ≤ 64 → bitv (maysN x s m) k = (decide (k < m) && mayM x s k)
 | 0, _ => by unfold maysN bitv; simp
 | m + 1, h => by
   unfold maysN
   have ih := mays_bit x s k m (by omega)
   by_cases e : mayM x s m = true
   · rw [if_pos e, setWith_bitk _ _ _ (by omega), ih]
     by_cases e2 : m = k
     · subst e2; simp [e]
     · by_cases e3 : k < m
       · simp [e2, e3, show k < m + 1 by omega]
       · simp [e2, e3, show ¬ k < m + 1 by omega]
   · rw [if_neg e, ih]
     by_cases e2 : m = k
     · subst e2; simp [Bool.eq_false_iff.2 e]
     · by_cases e3 : k < m
       · simp [e3, show k < m + 1 by omega]
       · simp [e3, show ¬ k < m + 1 by omega]
theorem has_mays (x : InstV) (s m c : Nat) (hm : m ≤ 64) (hc : c < 64) : (decide (0 ≤ (c : Int) ∧ (c : Int) < 64) && bitv (maysN x s m) (c : Int).toNat) = (decide (c < m) && mayM x s c) := by
 rw [Int.toNat_natCast, mays_bit x s c m hm, decide_eq_true (show 0 ≤ (c : Int) ∧ (c : Int) < 64 by omega), Bool.true_and]
theorem mays_read {W w : World} {B c : Nat} {x : InstV} {A : Option Addr} {ps : List (List Bool × Value)} (h : ps.map (·.1) = (List.range x.sats.length).map (rowMB x)) (hS : SL W B ((boolN 80 4).own (.slice A x.sats.length c) ps) w) (h1 : 0 < x.sats.length) (h2 : 0 < x.custs.length) :
 ∃ g o, A = some ⟨g, o, none⟩ ∧ ∀ s, s < x.sats.length → ∃ b2 o2 c2, w.cell? ⟨g, o + s, none⟩ = some (.slice (some ⟨b2, o2, none⟩) x.custs.length c2) ∧ ∀ k, k < x.custs.length → w.cell? ⟨b2, o2 + k, none⟩ = some (.bool (mayM x s k)) := by
 have hpl : ps.length = x.sats.length := by have e := congrArg List.length h; simpa using e
 have h0 : OwnsQ w 0 80 1 (.slice A x.sats.length c) ps.length ((boolN 80 4).heads ps) := own_outer hS (fun r hr => hr)
 rw [hpl] at h0
 obtain ⟨sa, hsa⟩ := own_slices hS (v := .slice A x.sats.length c) (ps := ps) (fun r hr => hr)
 obtain ⟨g, o, e, _, hc⟩ := reads_plain h0.reads h1 Nat.one_pos
 refine ⟨g, o, e, fun s hs => ?_⟩
 have hs' : s < ps.length := by omega
 have hr : ps[s].1 = rowMB x s := by
  have e1 : (ps.map (·.1))[s]? = ((List.range x.sats.length).map (rowMB x))[s]? := by rw [h]
  rw [List.getElem?_map, List.getElem?_map, List.getElem?_range hs, List.getElem?_eq_getElem hs'] at e1
  simpa using e1
 obtain ⟨hv, _, hrd⟩ := hsa s hs'
 have hl : (boolN 80 4).len ps[s].1 = x.custs.length := by rw [hr]; exact rowMB_len x s
 rw [hl] at hv hrd
 obtain ⟨b2, o2, e2, _, hc2⟩ := reads_plain hrd h2 Nat.one_pos
 refine ⟨b2, o2, (sa s).c, ?_, fun k hk => ?_⟩
 · have hh := gn_heads (boolN_ok 80 4) ps s 0 hs' Nat.one_pos
   rw [show s * (boolN 80 4).S + 0 = s from by show s * 1 + 0 = s; omega] at hh
   refine hc s _ ?_
   rw [hh]
   show some ps[s].2 = _
   rw [hv, e2]
 · refine hc2 k _ ?_
   rw [hr]
   show ((rowMB x s).map Value.bool)[k]? = _
   unfold rowMB
   rw [List.getElem?_map, List.getElem?_map, List.getElem?_range hk]
   rfl
set_option maxRecDepth 100000 in
set_option maxHeartbeats 4000000 in
theorem reachMays0 (s : SmallV) (sp : IAt) (w : World) (hI : SmallIn w w.heap.size sp s) (hl : SmallL s) (hok : s.ok) :
 Calls Try.prog 10 #[.agg (s.vals sp)] w fun e w' => e = .returned (.bool true) ∧ Below w.heap.size w w' := by
 have HX := Lib.hid (SmallV.small hok)
 have HMK : Hid (∀ wx, Below w.heap.size w wx → Calls Try.prog 16 #[.agg #[.int .u8 s.fin, .int .u8 s.trucks, .int .u8 s.troom, .int .u8 s.bikes, .int .u8 s.broom, .slice sp.SA s.sats.length sp.sc, .slice sp.CA s.custs.length sp.cc, .slice sp.KA s.cost.length sp.kc, .slice sp.TA s.time.length sp.tc, .bool s.tight, .bool s.loose]] wx (MakePost wx s.mk_)) := Lib.hid (fun wx hb => make_any s sp wx ((hI.below hb).more hb.size) hl hok)
 have hS := (SL.start (W := w) (Nat.le_refl w.heap.size)).alloc (s.vals sp) 26
 clear hI hl hok
 unfold SmallV.vals at hS ⊢
 obtain ⟨x, hxs⟩ : ∃ x, s.mk_ = x := ⟨_, rfl⟩
 rw [hxs] at HX HMK
 clear hxs
 obtain ⟨sb, hsb⟩ : ∃ b, w.heap.size = b := ⟨_, rfl⟩
 obtain ⟨w1, hw1⟩ : ∃ y, w.alloc (.cells #[.int .u8 s.fin, .int .u8 s.trucks, .int .u8 s.troom, .int .u8 s.bikes, .int .u8 s.broom, .slice sp.SA s.sats.length sp.sc, .slice sp.CA s.custs.length sp.cc, .slice sp.KA s.cost.length sp.kc, .slice sp.TA s.time.length sp.tc, .bool s.tight, .bool s.loose] 26) = y := ⟨_, rfl⟩
 have HS1 : Hid (SL w w.heap.size [.blk sb #[.int .u8 s.fin, .int .u8 s.trucks, .int .u8 s.troom, .int .u8 s.bikes, .int .u8 s.broom, .slice sp.SA s.sats.length sp.sc, .slice sp.CA s.custs.length sp.cc, .slice sp.KA s.cost.length sp.kc, .slice sp.TA s.time.length sp.tc, .bool s.tight, .bool s.loose] 26] w1) := Lib.hid (by rw [← hsb, ← hw1]; exact hS)
 have HW := Lib.hid (And.intro hsb hw1)
 clear hS hsb hw1
 go_enter Try.func10, Try.ntmps10
 go_upto_region 1 with fail
 rw [HW.out.2, HW.out.1]
 go_upto_region 3 with (go_at_call 26; (with_reducible refine (awake14 _).mono ?_); rintro e w2 ⟨rfl, hb⟩
                        have HS2 := Lib.hid (HS1.out.call hb)
                        clear hb)
 clear HS1 HW
 have hS2 := HS2.out
 have b0 : w2.cell? ⟨sb, 0, none⟩ = some (.int .u8 s.fin) := hS2.cell 0 rfl 0 rfl
 have b1 : w2.cell? ⟨sb, 1, none⟩ = some (.int .u8 s.trucks) := hS2.cell 0 rfl 1 rfl
 have b2 : w2.cell? ⟨sb, 2, none⟩ = some (.int .u8 s.troom) := hS2.cell 0 rfl 2 rfl
 have b3 : w2.cell? ⟨sb, 3, none⟩ = some (.int .u8 s.bikes) := hS2.cell 0 rfl 3 rfl
 have b4 : w2.cell? ⟨sb, 4, none⟩ = some (.int .u8 s.broom) := hS2.cell 0 rfl 4 rfl
 have b5 : w2.cell? ⟨sb, 5, none⟩ = some (.slice sp.SA s.sats.length sp.sc) := hS2.cell 0 rfl 5 rfl
 have b6 : w2.cell? ⟨sb, 6, none⟩ = some (.slice sp.CA s.custs.length sp.cc) := hS2.cell 0 rfl 6 rfl
 have b7 : w2.cell? ⟨sb, 7, none⟩ = some (.slice sp.KA s.cost.length sp.kc) := hS2.cell 0 rfl 7 rfl
 have b8 : w2.cell? ⟨sb, 8, none⟩ = some (.slice sp.TA s.time.length sp.tc) := hS2.cell 0 rfl 8 rfl
 have b9 : w2.cell? ⟨sb, 9, none⟩ = some (.bool s.tight) := hS2.cell 0 rfl 9 rfl
 have b10 : w2.cell? ⟨sb, 10, none⟩ = some (.bool s.loose) := hS2.cell 0 rfl 10 rfl
 clear hS2
 go_upto_region 4 with (go_at_call 16; (with_reducible refine (HMK.out _ HS2.out.below).mono ?_); rintro e w4 ⟨p, hk, ht, rfl, hl1, hl2, hq⟩
                        have HS4 := Lib.hid ((HS2.out.call hq.below).alloc (x.cells p) 39)
                        have HI4 := Lib.hid (made_in hl1 hl2 hq).1
                        clear hq hl1 hl2 b0 b1 b2 b3 b4 b5 b6 b7 b8 b9 b10
                        unfold InstV.cells)
 unfold InstV.cells at HS4
 obtain ⟨xb, hxb⟩ : ∃ b, w4.heap.size = b := ⟨_, rfl⟩
 have HI5 : Hid (InstIn (w4.alloc (.cells #[.int .i64 x.fin, .int .i64 x.tm, .int .i64 x.tr, .int .i64 x.bm, .int .i64 x.br, .slice p.SA x.sats.length p.sc, .slice p.CA x.custs.length p.cc, .slice p.KA x.cost.length p.kc, .slice p.TA x.time.length p.tc] 39)) (w4.alloc (.cells #[.int .i64 x.fin, .int .i64 x.tm, .int .i64 x.tr, .int .i64 x.bm, .int .i64 x.br, .slice p.SA x.sats.length p.sc, .slice p.CA x.custs.length p.cc, .slice p.KA x.cost.length p.kc, .slice p.TA x.time.length p.tc] 39)).heap.size p x) := Lib.hid (HI4.out.at_ ((Below.refl _ _).alloc (Nat.le_refl _) _))
 obtain ⟨w5, hw5⟩ : ∃ y, w4.alloc (.cells #[.int .i64 x.fin, .int .i64 x.tm, .int .i64 x.tr, .int .i64 x.bm, .int .i64 x.br, .slice p.SA x.sats.length p.sc, .slice p.CA x.custs.length p.cc, .slice p.KA x.cost.length p.kc, .slice p.TA x.time.length p.tc] 39) = y := ⟨_, rfl⟩
 rw [hxb, hw5] at HS4
 rw [hw5] at HI5
 rw [hxb, hw5]
 clear hxb hw5 HI4 HS2 HMK
 have HBW := Lib.hid HS4.out.below
 have HXF : Hid (∀ wx, Below w5.heap.size w5 wx → wx.cell? ⟨xb, 0, none⟩ = some (.int .i64 x.fin) ∧ wx.cell? ⟨xb, 1, none⟩ = some (.int .i64 x.tm) ∧ wx.cell? ⟨xb, 2, none⟩ = some (.int .i64 x.tr) ∧ wx.cell? ⟨xb, 3, none⟩ = some (.int .i64 x.bm) ∧ wx.cell? ⟨xb, 4, none⟩ = some (.int .i64 x.br) ∧ wx.cell? ⟨xb, 5, none⟩ = some (.slice p.SA x.sats.length p.sc) ∧ wx.cell? ⟨xb, 6, none⟩ = some (.slice p.CA x.custs.length p.cc) ∧ wx.cell? ⟨xb, 7, none⟩ = some (.slice p.KA x.cost.length p.kc) ∧ wx.cell? ⟨xb, 8, none⟩ = some (.slice p.TA x.time.length p.tc)) := Lib.hid (fun wx hb => by
  have hx := (hb.block xb (HS4.out.lt 0 rfl).2).trans (HS4.out.blk 0 rfl)
  have hc : ∀ j v, (#[.int .i64 x.fin, .int .i64 x.tm, .int .i64 x.tr, .int .i64 x.bm, .int .i64 x.br, .slice p.SA x.sats.length p.sc, .slice p.CA x.custs.length p.cc, .slice p.KA x.cost.length p.kc, .slice p.TA x.time.length p.tc] : Array Value)[j]? = some v → wx.cell? ⟨xb, j, none⟩ = some v := fun j v hj => by rw [cell_of_row _ _ _ _ _ _ hx]; exact hj
  exact ⟨hc 0 _ rfl, hc 1 _ rfl, hc 2 _ rfl, hc 3 _ rfl, hc 4 _ rfl, hc 5 _ rfl, hc 6 _ rfl, hc 7 _ rfl, hc 8 _ rfl⟩)
 have hn3 := HX.out.sats
 have hn6 := HX.out.custs
 have HMY : Hid (∀ wx, Below w5.heap.size w5 wx → Calls Try.prog 33 #[.agg #[.int .i64 x.fin, .int .i64 x.tm, .int .i64 x.tr, .int .i64 x.bm, .int .i64 x.br, .slice p.SA x.sats.length p.sc, .slice p.CA x.custs.length p.cc, .slice p.KA x.cost.length p.kc, .slice p.TA x.time.length p.tc]] wx (MaysR wx x)) := Lib.hid (fun wx hb => mays_any x p wx (HI5.out.at_ hb) (small_fit HX.out))
 have HLM : Hid (∀ wx, Below w5.heap.size w5 wx → Calls Try.prog 35 #[.agg #[.int .i64 x.fin, .int .i64 x.tm, .int .i64 x.tr, .int .i64 x.bm, .int .i64 x.br, .slice p.SA x.sats.length p.sc, .slice p.CA x.custs.length p.cc, .slice p.KA x.cost.length p.kc, .slice p.TA x.time.length p.tc]] wx (MaysB wx x)) := Lib.hid (fun wx hb => lawMays_any x p wx (HI5.out.at_ hb) (small_fit HX.out))
 have HB5 := Lib.hid (Below.refl w5.heap.size w5)
 clear HS4 HI5
 obtain ⟨d0, d1, d2, d3, d4, d5, d6, d7, d8⟩ := HXF.out w5 HB5.out
 go_upto_region 5 with (go_at_call 33; (with_reducible refine (HMY.out _ HB5.out).mono ?_); rintro e w6 ⟨A, c, rfl, h1, hb⟩
                        have HB6 := Lib.hid hb
                        have H1 := Lib.hid h1
                        clear h1 hb)
 clear d0 d1 d2 d3 d4 d5 d6 d7 d8 HMY
 obtain ⟨d0, d1, d2, d3, d4, d5, d6, d7, d8⟩ := HXF.out w6 HB6.out
 go_upto_region 6 with (go_at_call 35; (with_reducible refine (HLM.out _ HB6.out).mono ?_); rintro e w7 ⟨A2, c2, ps, rfl, hps, hq⟩
                        have HB7 := Lib.hid (HB6.out.trans (hq.below.mono HB6.out.size))
                        have H17 := Lib.hid (Reads.below H1.out hq.below)
                        have HRD := Lib.hid (mays_read hps hq (by omega) (by omega))
                        clear hq hps)
 clear d0 d1 d2 d3 d4 d5 d6 d7 d8 HLM H1 HB6 HB5 HXF
 obtain ⟨ns, hns⟩ : ∃ n, x.sats.length = n := ⟨_, rfl⟩
 obtain ⟨nc, hnc⟩ : ∃ n, x.custs.length = n := ⟨_, rfl⟩
 rw [hns] at H17 HRD hn3 ⊢
 rw [hnc] at HRD hn6
 have HNC := Lib.hid hnc
 obtain ⟨lb, lo, hA, _, hl0⟩ := reads_plain H17.out (by omega) Nat.one_pos
 obtain ⟨g, o, hA2, hg⟩ := HRD.out
 subst hA hA2
 have HL : Hid (∀ s, s < ns → w7.cell? ⟨lb, lo + s, none⟩ = some (.int .u64 (maysN x s nc : Nat))) := Lib.hid (fun s hs => hl0 s _ (by
  unfold maysV
  rw [List.getElem?_map, List.getElem?_range (by omega), hnc]
  rfl))
 have HG := Lib.hid hg
 have HHS : Hid (∀ (s c : Nat), c < 64 → Calls Try.prog 36 #[.int .u64 (maysN x s nc : Nat), .int .i64 (c : Int)] w7 fun e w' => e = .returned (.bool (decide (c < nc) && mayM x s c)) ∧ w7 = w') := Lib.hid (fun s c hc => by
  have h := has_any (maysN x s nc) (c : Int) w7 (maysN_lt x s nc)
  rw [has_mays x s nc c (by omega) hc] at h
  exact h)
 clear hl0 hg H17 HRD hns hnc
 go_upto_region 9 with fail
 go_loopw [24] (fun iv wr => ∃ i : Nat, i ≤ ns ∧ iv = .int .i64 i ∧ wr = w7) (fun iv _ => ns - (intOf iv).toNat)
 case atStart => exact ⟨0, by omega, rfl, rfl⟩
 case round =>
  obtain ⟨i, hi, rfl, rfl⟩ := hrel
  by_cases hlt : i < ns
  · have d0 := HL.out i hlt
    obtain ⟨b2, o2, k2, d1, hrow⟩ := HG.out i hlt
    have HROW := Lib.hid hrow
    have HH := Lib.hid (fun c hc => HHS.out i c hc)
    obtain ⟨m, hm⟩ : ∃ v, maysN x i nc = v := ⟨_, rfl⟩
    rw [hm] at d0 HH
    clear hrow hm
    go_upto_region 12 with fail
    go_loopw [29] (fun cv wx => ∃ c : Nat, c ≤ 64 ∧ cv = .int .i64 c ∧ wx = wr) (fun cv _ => 64 - (intOf cv).toNat)
    case atStart => exact ⟨0, by omega, rfl, rfl⟩
    case round =>
     obtain ⟨c, hc, rfl, rfl⟩ := hrel
     by_cases hcl : c < 64
     · have HC := Lib.hid (HH.out c hcl)
       by_cases hcn : c < nc
       · as_aux_lemma =>
         have d2 := HROW.out c hcn
         have HC2 : Hid (Calls Try.prog 36 #[.int .u64 (m : Nat), .int .i64 (c : Int)] wr fun e w' => e = .returned (.bool (mayM x i c)) ∧ wr = w') := Lib.hid (by
          have h := HC.out
          rw [decide_eq_true hcn, Bool.true_and] at h
          exact h)
         obtain ⟨mv, hmv⟩ : ∃ v, mayM x i c = v := ⟨_, rfl⟩
         rw [hmv] at d2 HC2
         clear HC hmv
         go_wp2_with (go_at_call 36; (with_reducible refine HC2.out.mono ?_); rintro e w8 ⟨rfl, rfl⟩)
         go_roundw
         case rel => exact ⟨c + 1, by omega, by go_num, (by first | rfl | trivial)⟩
         case measure => simp [intOf]; omega
       · as_aux_lemma =>
         have HC2 : Hid (Calls Try.prog 36 #[.int .u64 (m : Nat), .int .i64 (c : Int)] wr fun e w' => e = .returned (.bool false) ∧ wr = w') := Lib.hid (by
          have h := HC.out
          rw [decide_eq_false hcn, Bool.false_and] at h
          exact h)
         clear HC
         go_wp2_with (go_at_call 36; (with_reducible refine HC2.out.mono ?_); rintro e w8 ⟨rfl, rfl⟩)
         go_roundw
         case rel => exact ⟨c + 1, by omega, by go_num, (by first | rfl | trivial)⟩
         case measure => simp [intOf]; omega
     · obtain rfl : c = 64 := by omega
       clear d0 d1 hcl
       go_wp2_with fail
       go_roundw
       case rel => exact ⟨i + 1, by omega, by go_num, (by first | rfl | trivial)⟩
       case measure => simp [intOf]; omega
  · obtain rfl : ns = i := by omega
    go_wp2_with fail
    go_ret
    exact ⟨rfl, HBW.out.trans (HB7.out.mono HBW.out.size)⟩
open Go.Deep Go.Joins in
set_option maxRecDepth 100000 in
theorem reachMays_walk {H : Type} {enc : TypeId × Value → H} {base : Nat} (W : World) (v0 : Value) (d0 : DataW H) (p0 : List MemPlace) (o0 : Value.okWide Try.prog W .any base 26 v0) (k0 : DataW.Trod enc Try.prog W 0 (fun _ => true) true 26 v0 d0 p0) :
 Calls Try.prog 10 #[v0] W fun e w' => e = .returned (.bool true) ∧ Below W.heap.size W w' := by
 obtain ⟨sp, s, rfl, hI, hl, hok⟩ := small_open o0 k0
 exact reachMays0 s sp W hI hl hok
end Go.Proofs.Ytjpejclfppbboaa
