/- The walk of law ReachReadies. (printed by gen/reachreadies.py) -/
import Derived.Test.YtjpejclfppbboaaAwake14
import Derived.Test.YtjpejclfppbboaaReachE
import Derived.Test.YtjpejclfppbboaaEqualAny
import Derived.Test.YtjpejclfppbboaaSmallOpen
import Derived.Deep.CutBlock
import Derived.Deep.CutRange
import Derived.Deep.DeepCutAuto
namespace Go.Proofs.Ytjpejclfppbboaa
open Go.ChangeShapes Go.WideShapes Go.ChangeAt Go.RowKit
set_option linter.unusedVariables false
set_option linter.unusedSimpArgs false
theorem small_fit {x : InstV} (h : x.Small) : x.Fit := by
  have h1 := h.fin
  have h2 := h.br
  refine ⟨h.code, h.lens, h.sats, h.custs, by omega, by omega, fun s hs => ?_, fun c hc => ?_, h.timeLen, fun i hi j hj => ?_⟩
  · have := h.satsIn s hs; omega
  · have := h.custsIn c hc; omega
  · have := h.timeIn i hi j hj; omega
theorem readyM_len {x : InstV} (h : x.Small) : (readyM x).length ≤ maxLen := by rw [ready_len]; have := h.sats; unfold maxLen; omega
set_option maxRecDepth 100000 in
set_option maxHeartbeats 4000000 in
theorem reachReadies0 (s : SmallV) (sp : IAt) (w : World) (hI : SmallIn w w.heap.size sp s) (hl : SmallL s) (hok : s.ok) :
    Calls Try.prog 6 #[.agg (s.vals sp)] w fun e w' => e = .returned (.bool true) ∧ Below w.heap.size w w' := by
  have HX := Lib.hid (SmallV.small hok)
  have HMK : Hid (∀ wx, Below w.heap.size w wx → Calls Try.prog 16 #[.agg #[.int .u8 s.fin, .int .u8 s.trucks, .int .u8 s.troom, .int .u8 s.bikes, .int .u8 s.broom, .slice sp.SA s.sats.length sp.sc, .slice sp.CA s.custs.length sp.cc, .slice sp.KA s.cost.length sp.kc, .slice sp.TA s.time.length sp.tc, .bool s.tight, .bool s.loose]] wx (MakePost wx s.mk_)) := Lib.hid (fun wx hb => make_any s sp wx ((hI.below hb).more hb.size) hl hok)
  have hS := (SL.start (W := w) (Nat.le_refl w.heap.size)).alloc (s.vals sp) 26
  clear hI hl hok
  unfold SmallV.vals at hS ⊢
  obtain ⟨x, hxs⟩ : ∃ x, s.mk_ = x := ⟨_, rfl⟩
  rw [hxs] at HX HMK
  clear hxs
  obtain ⟨sb, hsb⟩ : ∃ b, w.heap.size = b := ⟨_, rfl⟩
  obtain ⟨w1, hw1⟩ : ∃ y, w.alloc (.cells #[.int .u8 s.fin, .int .u8 s.trucks, .int .u8 s.troom, .int .u8 s.bikes, .int .u8 s.broom, .slice sp.SA s.sats.length sp.sc, .slice sp.CA s.custs.length sp.cc, .slice sp.KA s.cost.length sp.kc, .slice sp.TA s.time.length sp.tc, .bool s.tight, .bool s.loose] 26) = y := ⟨_, rfl⟩
  have HS1 : Hid (SL w w.heap.size [.blk sb #[.int .u8 s.fin, .int .u8 s.trucks, .int .u8 s.troom, .int .u8 s.bikes, .int .u8 s.broom, .slice sp.SA s.sats.length sp.sc, .slice sp.CA s.custs.length sp.cc, .slice sp.KA s.cost.length sp.kc, .slice sp.TA s.time.length sp.tc, .bool s.tight, .bool s.loose] 26] w1) := Lib.hid (by rw [← hsb, ← hw1]; exact hS)
  have HW := Lib.hid (And.intro hsb hw1)
  clear hS hsb hw1
  go_enter Try.func6, Try.ntmps6
  go_upto_region 1 with fail
  rw [HW.out.2, HW.out.1]
  go_upto_region 3 with (go_at_call 26; (with_reducible refine (awake14 _).mono ?_); rintro e w2 ⟨rfl, hb⟩
                         have HS2 := Lib.hid (HS1.out.call hb)
                         clear hb)
  clear HS1 HW
  have hS2 := HS2.out
  have b0 : w2.cell? ⟨sb, 0, none⟩ = some (.int .u8 s.fin) := hS2.cell 0 rfl 0 rfl
  have b1 : w2.cell? ⟨sb, 1, none⟩ = some (.int .u8 s.trucks) := hS2.cell 0 rfl 1 rfl
  have b2 : w2.cell? ⟨sb, 2, none⟩ = some (.int .u8 s.troom) := hS2.cell 0 rfl 2 rfl
  have b3 : w2.cell? ⟨sb, 3, none⟩ = some (.int .u8 s.bikes) := hS2.cell 0 rfl 3 rfl
  have b4 : w2.cell? ⟨sb, 4, none⟩ = some (.int .u8 s.broom) := hS2.cell 0 rfl 4 rfl
  have b5 : w2.cell? ⟨sb, 5, none⟩ = some (.slice sp.SA s.sats.length sp.sc) := hS2.cell 0 rfl 5 rfl
  have b6 : w2.cell? ⟨sb, 6, none⟩ = some (.slice sp.CA s.custs.length sp.cc) := hS2.cell 0 rfl 6 rfl
  have b7 : w2.cell? ⟨sb, 7, none⟩ = some (.slice sp.KA s.cost.length sp.kc) := hS2.cell 0 rfl 7 rfl
  have b8 : w2.cell? ⟨sb, 8, none⟩ = some (.slice sp.TA s.time.length sp.tc) := hS2.cell 0 rfl 8 rfl
  have b9 : w2.cell? ⟨sb, 9, none⟩ = some (.bool s.tight) := hS2.cell 0 rfl 9 rfl
  have b10 : w2.cell? ⟨sb, 10, none⟩ = some (.bool s.loose) := hS2.cell 0 rfl 10 rfl
  clear hS2
  go_upto_region 4 with (go_at_call 16; (with_reducible refine (HMK.out _ HS2.out.below).mono ?_); rintro e w4 ⟨p, hk, ht, rfl, hl1, hl2, hq⟩
                         have HS4 := Lib.hid ((HS2.out.call hq.below).alloc (x.cells p) 39)
                         have HI4 := Lib.hid (made_in hl1 hl2 hq).1
                         clear hq hl1 hl2 b0 b1 b2 b3 b4 b5 b6 b7 b8 b9 b10
                         unfold InstV.cells)
  unfold InstV.cells at HS4
  obtain ⟨xb, hxb⟩ : ∃ b, w4.heap.size = b := ⟨_, rfl⟩
  have HI5 : Hid (InstIn (w4.alloc (.cells #[.int .i64 x.fin, .int .i64 x.tm, .int .i64 x.tr, .int .i64 x.bm, .int .i64 x.br, .slice p.SA x.sats.length p.sc, .slice p.CA x.custs.length p.cc, .slice p.KA x.cost.length p.kc, .slice p.TA x.time.length p.tc] 39)) (w4.alloc (.cells #[.int .i64 x.fin, .int .i64 x.tm, .int .i64 x.tr, .int .i64 x.bm, .int .i64 x.br, .slice p.SA x.sats.length p.sc, .slice p.CA x.custs.length p.cc, .slice p.KA x.cost.length p.kc, .slice p.TA x.time.length p.tc] 39)).heap.size p x) := Lib.hid (HI4.out.at_ ((Below.refl _ _).alloc (Nat.le_refl _) _))
  obtain ⟨w5, hw5⟩ : ∃ y, w4.alloc (.cells #[.int .i64 x.fin, .int .i64 x.tm, .int .i64 x.tr, .int .i64 x.bm, .int .i64 x.br, .slice p.SA x.sats.length p.sc, .slice p.CA x.custs.length p.cc, .slice p.KA x.cost.length p.kc, .slice p.TA x.time.length p.tc] 39) = y := ⟨_, rfl⟩
  rw [hxb, hw5] at HS4
  rw [hw5] at HI5
  rw [hxb, hw5]
  clear hxb hw5 HI4 HS2 HMK
  have HBW := Lib.hid HS4.out.below
  have HRD : Hid (∀ wx, Below w5.heap.size w5 wx → Calls Try.prog 28 #[.agg #[.int .i64 x.fin, .int .i64 x.tm, .int .i64 x.tr, .int .i64 x.bm, .int .i64 x.br, .slice p.SA x.sats.length p.sc, .slice p.CA x.custs.length p.cc, .slice p.KA x.cost.length p.kc, .slice p.TA x.time.length p.tc]] wx (ReadyR wx (readyM x))) := Lib.hid (fun wx hb => ready_any x p wx (HI5.out.at_ hb) (small_fit HX.out))
  have HLR : Hid (∀ wx, Below w5.heap.size w5 wx → Calls Try.prog 29 #[.agg #[.int .i64 x.fin, .int .i64 x.tm, .int .i64 x.tr, .int .i64 x.bm, .int .i64 x.br, .slice p.SA x.sats.length p.sc, .slice p.CA x.custs.length p.cc, .slice p.KA x.cost.length p.kc, .slice p.TA x.time.length p.tc]] wx (ReadyR wx (readyM x))) := Lib.hid (fun wx hb => readies_any x p wx (HI5.out.at_ hb) (small_fit HX.out))
  have HLN := Lib.hid (readyM_len HX.out)
  obtain ⟨R, hR⟩ : ∃ R, readyM x = R := ⟨_, rfl⟩
  rw [hR] at HRD HLR HLN
  clear hR
  have hxlt := (HS4.out.lt 0 rfl).2
  have hxblk := HS4.out.blk 0 rfl
  refine wp_region_sl [0,2] [1,3,4] [5] [] (SL.start (W := w5) (Nat.le_refl _)) (List.Sublist.refl _) (by kernel_rfl) (by kernel_rfl) (.cons rfl .nil) (fun C cw _ hC => ?_)
  have HB : Hid (∀ d, (cw d).heap[xb]? = some (.cells #[.int .i64 x.fin, .int .i64 x.tm, .int .i64 x.tr, .int .i64 x.bm, .int .i64 x.br, .slice p.SA x.sats.length p.sc, .slice p.CA x.custs.length p.cc, .slice p.KA x.cost.length p.kc, .slice p.TA x.time.length p.tc] 39 (0, 0))) := Lib.hid (fun d => ((hC d).below.block xb hxlt).trans hxblk)
  have q0 : ∀ d, (cw d).cell? ⟨xb, 0, none⟩ = some (.int .i64 x.fin) := fun d => by rw [cell_of_row _ _ _ _ _ _ (HB.out d)]; rfl
  have q1 : ∀ d, (cw d).cell? ⟨xb, 1, none⟩ = some (.int .i64 x.tm) := fun d => by rw [cell_of_row _ _ _ _ _ _ (HB.out d)]; rfl
  have q2 : ∀ d, (cw d).cell? ⟨xb, 2, none⟩ = some (.int .i64 x.tr) := fun d => by rw [cell_of_row _ _ _ _ _ _ (HB.out d)]; rfl
  have q3 : ∀ d, (cw d).cell? ⟨xb, 3, none⟩ = some (.int .i64 x.bm) := fun d => by rw [cell_of_row _ _ _ _ _ _ (HB.out d)]; rfl
  have q4 : ∀ d, (cw d).cell? ⟨xb, 4, none⟩ = some (.int .i64 x.br) := fun d => by rw [cell_of_row _ _ _ _ _ _ (HB.out d)]; rfl
  have q5 : ∀ d, (cw d).cell? ⟨xb, 5, none⟩ = some (.slice p.SA x.sats.length p.sc) := fun d => by rw [cell_of_row _ _ _ _ _ _ (HB.out d)]; rfl
  have q6 : ∀ d, (cw d).cell? ⟨xb, 6, none⟩ = some (.slice p.CA x.custs.length p.cc) := fun d => by rw [cell_of_row _ _ _ _ _ _ (HB.out d)]; rfl
  have q7 : ∀ d, (cw d).cell? ⟨xb, 7, none⟩ = some (.slice p.KA x.cost.length p.kc) := fun d => by rw [cell_of_row _ _ _ _ _ _ (HB.out d)]; rfl
  have q8 : ∀ d, (cw d).cell? ⟨xb, 8, none⟩ = some (.slice p.TA x.time.length p.tc) := fun d => by rw [cell_of_row _ _ _ _ _ _ (HB.out d)]; rfl
  repeat (refine pl_look rfl rfl rfl (fun Kv hK => ?_); go_big_quiet_op; refine hK _ ?_; clear hK Kv)
  clear q0 q1 q2 q3 q4 q5 q6 q7 q8 hC HB hxlt hxblk HS4
  refine pl_end ?_
  intro w6 hS6
  refine pm_eff rfl rfl fun Kv hK => ?_
  go_simp
  refine eff_call (HRD.out w6 hS6.below) (fun e w7 h => ?_)
  obtain ⟨A, c, rfl, h1, hb⟩ := h
  have hS7 := hS6.call hb
  refine .inl ⟨_, rfl, hS7, hK _ _ ?_⟩
  clear hK Kv hb hS6
  refine pm_eff rfl rfl fun Kv hK => ?_
  go_simp
  refine eff_call (HLR.out w7 hS7.below) (fun e w8 h => ?_)
  obtain ⟨A2, c2, rfl, h2, hb⟩ := h
  have hS8 := hS7.call hb
  have h1' : IntsAt w8 w8.heap.size A R := reads_more (Reads.below h1 hb) hb.size
  refine .inl ⟨_, rfl, hS8, hK _ _ ?_⟩
  clear hK Kv hb hS7 h1
  refine pm_eff rfl rfl fun Kv hK => ?_
  go_simp
  refine eff_call (equalA_int64s A A2 c c2 R R w8 h1' h2 HLN.out HLN.out) (fun e w9 h => ?_)
  obtain ⟨rfl, hb⟩ := h
  rw [decide_eq_true rfl]
  have hS9 := hS8.call hb
  refine .inl ⟨_, rfl, hS9, hK _ _ ?_⟩
  clear hK Kv hb hS8 h1' h2
  refine pm_end ?_
  have HB9 := Lib.hid (HBW.out.trans (hS9.below.mono HBW.out.size))
  clear hS9
  go_wp2_with fail
  go_ret
  exact ⟨rfl, HB9.out⟩
open Go.Deep Go.Joins in
set_option maxRecDepth 100000 in
theorem reachReadies_walk {H : Type} {enc : TypeId × Value → H} {base : Nat} (W : World) (v0 : Value) (d0 : DataW H) (p0 : List MemPlace) (o0 : Value.okWide Try.prog W .any base 26 v0) (k0 : DataW.Trod enc Try.prog W 0 (fun _ => true) true 26 v0 d0 p0) :
    Calls Try.prog 6 #[v0] W fun e w' => e = .returned (.bool true) ∧ Below W.heap.size W w' := by
  obtain ⟨sp, s, rfl, hI, hl, hok⟩ := small_open o0 k0
  exact reachReadies0 s sp W hI hl hok
end Go.Proofs.Ytjpejclfppbboaa
