/- reach.Mays, of an instance that may be. (printed by gen/reachg.py) -/
import Derived.Test.YtjpejclfppbboaaMaysM
import Derived.Test.YtjpejclfppbboaaReachD
import Derived.Test.YtjpejclfppbboaaSetB
import Derived.Deep.CutBlock
import Derived.Deep.CutRange
import Derived.Deep.DeepCutAuto
namespace Go.Proofs.Ytjpejclfppbboaa
open Go.ChangeShapes Go.WideShapes Go.ChangeAt Go.RowKit
set_option linter.unusedVariables false
set_option linter.unusedSimpArgs false
def maysN (x : InstV) (s : Nat) : Nat → Nat
 | 0 => 0
 | c + 1 => if mayM x s c = true then setWith (maysN x s c) c else maysN x s c
theorem maysN_lt (x : InstV) (s : Nat) : ∀ c, maysN x s c < 2 ^ 64
 | 0 => by unfold maysN; decide
 | c + 1 => by
   unfold maysN
   split
   · exact setWith_lt _ _ (maysN_lt x s c)
   · exact maysN_lt x s c
def maysV (x : InstV) (m : Nat) : List Value := (List.range m).map fun s => .int .u64 (maysN x s x.custs.length : Nat)
theorem maysV_succ (x : InstV) (m : Nat) : maysV x (m + 1) = maysV x m ++ [.int .u64 (maysN x m x.custs.length : Nat)] := by
 unfold maysV
 rw [List.range_succ, List.map_append]
 rfl
def MaysR (W : World) (x : InstV) (e : Ending) (w' : World) : Prop := ∃ A c, e = .returned (.slice A x.sats.length c) ∧ Reads w' w'.heap.size 1 A x.sats.length (maysV x x.sats.length) ∧ Below W.heap.size W w'
section
variable {P : Program} {lo : List Oper} {i : Nat} {o : Oper} {a : Act} {K : World → Prop} {Lq : Act → Prop} {rest : List Nat}
theorem pl_max14 (x y : Operand) (ts : Array TypeId) (k k' : IntKind) (X Y z : Int) (hi : lo[i]? = some o) (hw : Region.wanted o (yielded lo.toArray a.tmps) = true) (ho : o.op = .call { callee := .builtin .max, args := #[x, y], argTypes := ts }) (hx : a.eval x = .int k X) (hy : a.eval y = .int k' Y) (hz : (if X < Y then Y else X) = z)
 (hk : ∀ Kv : Act → Prop, (∀ a, wpPlanL P lo.toArray K Lq rest a → Kv a) → Kv (a.put o.dst (.int k z))) : wpPlanL P lo.toArray K Lq (i :: rest) a :=
 pl_told (.int k z) hi hw (fun w _ => by
  unfold execOp
  simp only [ho, resolve, invoke, builtin, Sem.run_bind, Sem.run_pure, Result.andThen_ok, List.map_toArray, List.map_cons, List.map_nil, hx, hy, run_max_int2, gt_iff_lt, hz]) hk
end
theorem info_set14 : (Try.prog.info? 75).map (fun i => (i.zero, i.size, i.bytes)) = some (some (.int .u64 0), 1, 8) := by kernel_rfl
set_option maxRecDepth 100000 in
set_option maxHeartbeats 8000000 in
theorem mays_any (x : InstV) (p : IAt) (w : World) (hI : InstIn w w.heap.size p x) (hF : x.Fit) :
 Calls Try.prog 33 #[.agg (x.cells p)] w (MaysR w x) := by
 obtain ⟨sqb, sqo, hSA⟩ : ∃ b o, p.SA = some ⟨b, o, none⟩ := by
  obtain ⟨b, o, h, _⟩ := sats_at hI.sats (k := 0) (by have := hF.sats; omega)
  exact ⟨b, o, h⟩
 obtain ⟨cqb, cqo, hCA⟩ : ∃ b o, p.CA = some ⟨b, o, none⟩ := by
  obtain ⟨b, o, h, _⟩ := custs_at hI.custs (k := 0) (by have := hF.custs; omega)
  exact ⟨b, o, h⟩
 have HCK : Hid (∀ wx, Below w.heap.size w wx → Calls Try.prog 24 #[.agg (x.cells p)] wx fun e w' => e = .returned (.int .i64 0) ∧ Below wx.heap.size wx w') := Lib.hid (fun wx hb => by rw [← hF.code]; exact check_any x p wx (hI.at_ hb) hF.lens)
 have HRD : Hid (∀ wx, Below w.heap.size w wx → Calls Try.prog 28 #[.agg (x.cells p)] wx (ReadyR wx (readyM x))) := Lib.hid (fun wx hb => ready_any x p wx (hI.at_ hb) hF)
 have HOU : Hid (∀ (s : Nat) wx, s < x.sats.length → Below w.heap.size w wx → Calls Try.prog 31 #[.agg (x.cells p), .int .i64 (s : Int)] wx (ReadyR wx (outM x s))) := Lib.hid (fun s wx hs hb => out_r x p s wx (hI.at_ hb) hF hs)
 have HBK : Hid (∀ (s : Nat) wx, s < x.sats.length → Below w.heap.size w wx → Calls Try.prog 32 #[.agg (x.cells p), .int .i64 (s : Int)] wx (ReadyR wx (backM x s))) := Lib.hid (fun s wx hs hb => back_r x p s wx (hI.at_ hb) hF hs)
 obtain ⟨SA, sc, CA, cc, KA, kc, TA, tc⟩ := p
 simp only at hSA hCA
 subst hSA hCA
 have HI := Lib.hid hI
 have HF := Lib.hid hF
 obtain ⟨i0, hi0, hz0, hz1, hz2⟩ := info_parts info_set14
 have HII := Lib.hid (And.intro hi0 (And.intro hz0 (And.intro hz1 hz2)))
 have HRL := Lib.hid (ready_len x)
 have HOL := Lib.hid (fun s => out_len x s)
 have HBL := Lib.hid (fun s => back_len x s)
 obtain ⟨ns, hns⟩ : ∃ n, x.sats.length = n := ⟨_, rfl⟩
 obtain ⟨nc, hnc⟩ : ∃ n, x.custs.length = n := ⟨_, rfl⟩
 have HNS := Lib.hid hns
 have HNC := Lib.hid hnc
 have hn3 : 1 ≤ ns ∧ ns ≤ 3 := by have := hF.sats; omega
 have hn6 : 1 ≤ nc ∧ nc ≤ 6 := by have := hF.custs; omega
 unfold InstV.cells at HCK HRD HOU HBK ⊢
 simp only at HCK HRD HOU HBK ⊢
 rw [hns, hnc] at HCK HRD HOU HBK
 rw [hns, hnc]
 have hS := (SL.start (W := w) (Nat.le_refl w.heap.size)).alloc #[.int .i64 x.fin, .int .i64 x.tm, .int .i64 x.tr, .int .i64 x.bm, .int .i64 x.br, .slice (some ⟨sqb, sqo, none⟩) ns sc, .slice (some ⟨cqb, cqo, none⟩) nc cc, .slice KA x.cost.length kc, .slice TA x.time.length tc] 39
 obtain ⟨xb, hxb⟩ : ∃ b, w.heap.size = b := ⟨_, rfl⟩
 obtain ⟨w0, hw0⟩ : ∃ y, w.alloc (.cells #[.int .i64 x.fin, .int .i64 x.tm, .int .i64 x.tr, .int .i64 x.bm, .int .i64 x.br, .slice (some ⟨sqb, sqo, none⟩) ns sc, .slice (some ⟨cqb, cqo, none⟩) nc cc, .slice KA x.cost.length kc, .slice TA x.time.length tc] 39) = y := ⟨_, rfl⟩
 have HS0 : Hid (SL w w.heap.size [.blk xb #[.int .i64 x.fin, .int .i64 x.tm, .int .i64 x.tr, .int .i64 x.bm, .int .i64 x.br, .slice (some ⟨sqb, sqo, none⟩) ns sc, .slice (some ⟨cqb, cqo, none⟩) nc cc, .slice KA x.cost.length kc, .slice TA x.time.length tc] 39] w0) := Lib.hid (by rw [← hxb, ← hw0]; exact hS)
 have HW := Lib.hid (And.intro hxb hw0)
 have HXF : Hid (∀ wx, Below w0.heap.size w0 wx → wx.cell? ⟨xb, 0, none⟩ = some (.int .i64 x.fin) ∧ wx.cell? ⟨xb, 1, none⟩ = some (.int .i64 x.tm) ∧ wx.cell? ⟨xb, 2, none⟩ = some (.int .i64 x.tr) ∧ wx.cell? ⟨xb, 3, none⟩ = some (.int .i64 x.bm) ∧ wx.cell? ⟨xb, 4, none⟩ = some (.int .i64 x.br) ∧ wx.cell? ⟨xb, 5, none⟩ = some (.slice (some ⟨sqb, sqo, none⟩) ns sc) ∧ wx.cell? ⟨xb, 6, none⟩ = some (.slice (some ⟨cqb, cqo, none⟩) nc cc) ∧ wx.cell? ⟨xb, 7, none⟩ = some (.slice KA x.cost.length kc) ∧ wx.cell? ⟨xb, 8, none⟩ = some (.slice TA x.time.length tc)) := Lib.hid (fun wx hb => by
  have hx := (hb.block xb (HS0.out.lt 0 rfl).2).trans (HS0.out.blk 0 rfl)
  have hc : ∀ j v, (#[.int .i64 x.fin, .int .i64 x.tm, .int .i64 x.tr, .int .i64 x.bm, .int .i64 x.br, .slice (some ⟨sqb, sqo, none⟩) ns sc, .slice (some ⟨cqb, cqo, none⟩) nc cc, .slice KA x.cost.length kc, .slice TA x.time.length tc] : Array Value)[j]? = some v → wx.cell? ⟨xb, j, none⟩ = some v := fun j v hj => by rw [cell_of_row _ _ _ _ _ _ hx]; exact hj
  exact ⟨hc 0 _ rfl, hc 1 _ rfl, hc 2 _ rfl, hc 3 _ rfl, hc 4 _ rfl, hc 5 _ rfl, hc 6 _ rfl, hc 7 _ rfl, hc 8 _ rfl⟩)
 have HW0 : Hid (∀ wx, Below w0.heap.size w0 wx → Below w.heap.size w wx) := Lib.hid (fun wx hb => HS0.out.below.trans (hb.mono HS0.out.size))
 have HB0 := Lib.hid (Below.refl w0.heap.size w0)
 clear hS hxb hw0 hI hF hi0 hz0 hz1 hz2 hns hnc HS0
 go_enter Try.func33, Try.ntmps33
 go_upto_region 1 with fail
 rw [HW.out.2, HW.out.1]
 clear HW
 obtain ⟨d0, d1, d2, d3, d4, d5, d6, d7, d8⟩ := HXF.out w0 HB0.out
 go_upto_region 3 with (go_at_call 24; (with_reducible refine (HCK.out _ (HW0.out _ HB0.out)).mono ?_); rintro e w1 ⟨rfl, hb⟩
                        have HB1 := Lib.hid (HB0.out.trans (hb.mono HB0.out.size))
                        clear hb)
 clear d0 d1 d2 d3 d4 d5 d6 d7 d8 HCK
 obtain ⟨d0, d1, d2, d3, d4, d5, d6, d7, d8⟩ := HXF.out w1 HB1.out
 go_upto_region 4 with (go_at_call 28; (with_reducible refine (HRD.out _ (HW0.out _ HB1.out)).mono ?_); rintro e w2 ⟨RA, rc, rfl, hr, hb⟩
                        have HB2 := Lib.hid (HB1.out.trans (hb.mono HB1.out.size))
                        have HR := Lib.hid hr
                        clear hb hr)
 clear d0 d1 d2 d3 d4 d5 d6 d7 d8 HRD
 obtain ⟨rb, ro, hRA, _, _⟩ := ints_at HR.out (k := 0) (by rw [HRL.out, HNS.out]; omega)
 subst hRA
 have HX2 : Hid (∀ wx, Below w2.heap.size w2 wx → Below w0.heap.size w0 wx) := Lib.hid (fun wx hb => HB2.out.trans (hb.mono HB2.out.size))
 have HRF : Hid (∀ s, s < ns → rb < w2.heap.size ∧ ∀ wx, Below w2.heap.size w2 wx → wx.cell? ⟨rb, ro + s, none⟩ = some (.int .i64 ((readyM x).getD s 0))) := Lib.hid (fun s hs => by
  have hs' : s < (readyM x).length := by rw [HRL.out, HNS.out]; exact hs
  obtain ⟨b, o, hA, hb, hc⟩ := ints_at HR.out hs'
  obtain ⟨rfl, rfl⟩ : rb = b ∧ ro = o := by simpa using hA
  refine ⟨hb, fun wx hbx => (hbx.cell (p := ⟨rb, ro + s, none⟩) hb).trans ?_⟩
  rw [hc]
  simp [hs'])
 have HRN : Hid ((readyM x).length = ns) := Lib.hid (by rw [HRL.out, HNS.out])
 rw [HRN.out]
 have d5 : w2.cell? ⟨xb, 5, none⟩ = some (.slice (some ⟨sqb, sqo, none⟩) ns sc) := (HXF.out w2 HB2.out).2.2.2.2.2.1
 have HS2 := Lib.hid ((SL.start (W := w2) (Nat.le_refl _)).nil 75 1)
 go_upto_region 6 with fail
 clear d5
 go_loopw [21, 4] (fun iv v4 wr => ∃ i : Nat, i ≤ ns ∧ iv = .int .i64 i ∧ SL w2 w2.heap.size [.row 75 1 v4 i (maysV x i)] wr) (fun iv _ _ => ns - (intOf iv).toNat)
 case atStart => exact ⟨0, by omega, rfl, HS2.out⟩
 case round =>
  clear HS2
  obtain ⟨i, hi, rfl, hS⟩ := hrel
  obtain ⟨A4, c4, rfl, _, _⟩ := (hS.row 0 rfl).slice_
  by_cases hlt : i < ns
  · have his : i < x.sats.length := by rw [HNS.out]; exact hlt
    obtain ⟨b, o, hA, hbB, e0, e1⟩ := sats_at HI.out.sats his
    obtain ⟨rfl, rfl⟩ : sqb = b ∧ sqo = o := by simpa using hA
    obtain ⟨hd, hhd⟩ : ∃ v, (x.sats[i]'his).hold = v := ⟨_, rfl⟩
    obtain ⟨rm, hrm⟩ : ∃ v, (x.sats[i]'his).room = v := ⟨_, rfl⟩
    have HRM : Hid ((x.sats.getD i noSat).room = rm) := Lib.hid (by rw [← hrm]; simp [his])
    rw [hhd] at e1
    rw [hrm] at e0
    have hwb := HW0.out _ (HX2.out _ hS.below)
    have d0 := (hwb.cell (p := ⟨sqb, sqo + i * 2, none⟩) hbB).trans e0
    have d1 := (hwb.cell (p := ⟨sqb, sqo + i * 2 + 1, none⟩) hbB).trans e1
    have hz1 : sqb < wr.heap.size := Nat.lt_of_lt_of_le hbB hwb.size
    have hS2 := hS.alloc #[.int .i64 rm, .int .i64 hd] 97
    clear hS hA hhd hrm e0 e1 hwb
    go_upto_region 9 with fail
    obtain ⟨ar, har⟩ : ∃ ar, wr.heap.size = ar := ⟨_, rfl⟩
    obtain ⟨w9, hw9⟩ : ∃ y, wr.alloc (.cells #[.int .i64 rm, .int .i64 hd] 97) = y := ⟨_, rfl⟩
    rw [har, hw9] at hS2 ⊢
    clear har hw9 d0 d1 hz1
    have HS2 := Lib.hid hS2
    have HX9 : Hid (∀ wx, Below w9.heap.size w9 wx → Below w2.heap.size w2 wx) := Lib.hid (fun wx hb => HS2.out.below.trans (hb.mono HS2.out.size))
    have HW9 : Hid (∀ wx, Below w9.heap.size w9 wx → Below w.heap.size w wx) := Lib.hid (fun wx hb => HW0.out _ (HX2.out _ (HX9.out _ hb)))
    have HOU9 := Lib.hid (fun wx hb => HOU.out i wx hlt (HW9.out wx hb))
    have HBK9 := Lib.hid (fun wx hb => HBK.out i wx hlt (HW9.out wx hb))
    clear hS2
    refine wp_region_sl [0,1,3,4] [2,5] [6,7] [] (SL.start (W := w9) (Nat.le_refl _)) (List.Sublist.refl _) (by kernel_rfl) (by kernel_rfl) (.cons rfl (.cons rfl .nil)) (fun C cw _ hC => ?_)
    have HQ : Hid (∀ d, _) := Lib.hid (fun d => HXF.out (cw d) (HX2.out _ (HX9.out _ (hC d).below)))
    have q0 : ∀ d, (cw d).cell? ⟨xb, 0, none⟩ = some (.int .i64 x.fin) := fun d => (HQ.out d).1
    have q1 : ∀ d, (cw d).cell? ⟨xb, 1, none⟩ = some (.int .i64 x.tm) := fun d => (HQ.out d).2.1
    have q2 : ∀ d, (cw d).cell? ⟨xb, 2, none⟩ = some (.int .i64 x.tr) := fun d => (HQ.out d).2.2.1
    have q3 : ∀ d, (cw d).cell? ⟨xb, 3, none⟩ = some (.int .i64 x.bm) := fun d => (HQ.out d).2.2.2.1
    have q4 : ∀ d, (cw d).cell? ⟨xb, 4, none⟩ = some (.int .i64 x.br) := fun d => (HQ.out d).2.2.2.2.1
    have q5 : ∀ d, (cw d).cell? ⟨xb, 5, none⟩ = some (.slice (some ⟨sqb, sqo, none⟩) ns sc) := fun d => (HQ.out d).2.2.2.2.2.1
    have q6 : ∀ d, (cw d).cell? ⟨xb, 6, none⟩ = some (.slice (some ⟨cqb, cqo, none⟩) nc cc) := fun d => (HQ.out d).2.2.2.2.2.2.1
    have q7 : ∀ d, (cw d).cell? ⟨xb, 7, none⟩ = some (.slice KA x.cost.length kc) := fun d => (HQ.out d).2.2.2.2.2.2.2.1
    have q8 : ∀ d, (cw d).cell? ⟨xb, 8, none⟩ = some (.slice TA x.time.length tc) := fun d => (HQ.out d).2.2.2.2.2.2.2.2
    repeat (refine pl_look rfl rfl rfl (fun Kv hK => ?_); go_big_quiet_op; refine hK _ ?_; clear hK Kv)
    clear q0 q1 q2 q3 q4 q5 q6 q7 q8 HQ hC
    refine pl_end ?_
    intro w10 hS10
    refine pm_eff rfl rfl fun Kv hK => ?_
    go_simp
    refine eff_call (HOU9.out w10 hS10.below) (fun e w11 h => ?_)
    obtain ⟨OA, oc, rfl, ho, hb⟩ := h
    have hS11 := hS10.call hb
    refine .inl ⟨_, rfl, hS11, hK _ _ ?_⟩
    clear hK Kv hb hS10
    refine pm_eff rfl rfl fun Kv hK => ?_
    go_simp
    refine eff_call (HBK9.out w11 hS11.below) (fun e w12 h => ?_)
    obtain ⟨KA2, kc2, rfl, hk, hb⟩ := h
    have hS12 := hS11.call hb
    have ho' : IntsAt w12 w12.heap.size OA (outM x i) := reads_more (Reads.below ho hb) hb.size
    refine .inl ⟨_, rfl, hS12, hK _ _ ?_⟩
    clear hK Kv hb hS11 ho
    refine pm_end ?_
    have HSM := Lib.hid (HS2.out.call hS12.below)
    have HX12 : Hid (∀ wx, Below w12.heap.size w12 wx → Below w2.heap.size w2 wx) := Lib.hid (fun wx hb => HSM.out.below.trans (hb.mono HSM.out.size))
    have HLO := Lib.hid (show (outM x i).length = nc by rw [HOL.out, HNC.out])
    have HLK := Lib.hid (show (backM x i).length = nc by rw [HBL.out, HNC.out])
    obtain ⟨ob, oo, hOA, _, _⟩ := ints_at ho' (k := 0) (by rw [HLO.out]; omega)
    obtain ⟨kb, ko, hKA, _, _⟩ := ints_at hk (k := 0) (by rw [HLK.out]; omega)
    subst hOA hKA
    have HOF : Hid (∀ c, c < nc → ∀ wx, Below w12.heap.size w12 wx → wx.cell? ⟨ob, oo + c, none⟩ = some (.int .i64 ((outM x i).getD c 0))) := Lib.hid (fun c hc wx hbx => by
     have hs' : c < (outM x i).length := by rw [HLO.out]; exact hc
     obtain ⟨b, o, hA, hb, hc⟩ := ints_at ho' hs'
     obtain ⟨rfl, rfl⟩ : ob = b ∧ oo = o := by simpa using hA
     refine (hbx.cell (p := ⟨ob, oo + c, none⟩) hb).trans ?_
     rw [hc]
     simp [hs'])
    have HKF : Hid (∀ c, c < nc → ∀ wx, Below w12.heap.size w12 wx → wx.cell? ⟨kb, ko + c, none⟩ = some (.int .i64 ((backM x i).getD c 0))) := Lib.hid (fun c hc wx hbx => by
     have hs' : c < (backM x i).length := by rw [HLK.out]; exact hc
     obtain ⟨b, o, hA, hb, hc⟩ := ints_at hk hs'
     obtain ⟨rfl, rfl⟩ : kb = b ∧ ko = o := by simpa using hA
     refine (hbx.cell (p := ⟨kb, ko + c, none⟩) hb).trans ?_
     rw [hc]
     simp [hs'])
    have HARF : Hid (∀ wx, Below w12.heap.size w12 wx → wx.cell? ⟨ar, 0, none⟩ = some (.int .i64 rm)) := Lib.hid (fun wx hb => by
     rw [cell_of_row _ _ _ _ _ _ ((hb.block ar (HSM.out.lt 0 rfl).2).trans (HSM.out.blk 0 rfl))]
     rfl)
    rw [HLO.out, HLK.out]
    have d6 : w12.cell? ⟨xb, 6, none⟩ = some (.slice (some ⟨cqb, cqo, none⟩) nc cc) := (HXF.out w12 (HX2.out _ HSM.out.below)).2.2.2.2.2.2.1
    have HB12 := Lib.hid (Below.refl w12.heap.size w12)
    clear hS12 ho' hk HS2 HX9 HW9 HOU9 HBK9
    go_upto_region 11 with fail
    clear d6
    go_loopw [35, 7] (fun cv v7 wr => ∃ c : Nat, c ≤ nc ∧ cv = .int .i64 c ∧ v7 = .int .u64 (maysN x i c : Nat) ∧ SL w12 w12.heap.size [] wr) (fun cv _ _ => nc - (intOf cv).toNat)
    case atStart => exact ⟨0, by omega, rfl, rfl, SL.start (Nat.le_refl _)⟩
    case round =>
     clear HB12
     obtain ⟨c, hc, rfl, rfl, hS⟩ := hrel
     by_cases hcl : c < nc
     · have hcx : c < x.custs.length := by rw [HNC.out]; exact hcl
       obtain ⟨b, o, hA, hbB, e0, e1, e2, e3⟩ := custs_at HI.out.custs hcx
       obtain ⟨rfl, rfl⟩ : cqb = b ∧ cqo = o := by simpa using hA
       obtain ⟨⟨hr0, hr1⟩, ho0, ho1⟩ := And.intro (ready_get HF.out his) (out_get HF.out his hcx)
       obtain ⟨hk0, hk1⟩ := back_get HF.out his hcx
       obtain ⟨hat0, hat1⟩ := at_get HF.out his hcx
       have hmx := show atM x i c = max ((readyM x).getD i 0 + (outM x i).getD c 0) (x.custs.getD c noCust).opn from rfl
       have hmy := show mayM x i c = (decide ((x.custs.getD c noCust).load ≤ (x.sats.getD i noSat).room) && (decide ((x.custs.getD c noCust).load ≤ x.br) && (decide (atM x i c ≤ (x.custs.getD c noCust).cls) && decide (atM x i c + (backM x i).getD c 0 ≤ x.fin)))) from rfl
       have hms := show maysN x i (c + 1) = if mayM x i c = true then setWith (maysN x i c) c else maysN x i c from rfl
       have hml := maysN_lt x i c
       have hofa := HOF.out c hcl
       have hkfa := HKF.out c hcl
       have hrfa := (HRF.out i hlt).2
       rw [HRM.out, show x.custs.getD c noCust = x.custs[c]'hcx by simp [hcx]] at hmy
       rw [show x.custs.getD c noCust = x.custs[c]'hcx by simp [hcx]] at hmx
       obtain ⟨rv, hrv⟩ : ∃ v, (readyM x).getD i 0 = v := ⟨_, rfl⟩
       obtain ⟨ov, hov⟩ : ∃ v, (outM x i).getD c 0 = v := ⟨_, rfl⟩
       obtain ⟨kv, hkv⟩ : ∃ v, (backM x i).getD c 0 = v := ⟨_, rfl⟩
       obtain ⟨tv, htv⟩ : ∃ v, atM x i c = v := ⟨_, rfl⟩
       obtain ⟨mv, hmv⟩ : ∃ v, mayM x i c = v := ⟨_, rfl⟩
       obtain ⟨m, hm⟩ : ∃ v, maysN x i c = v := ⟨_, rfl⟩
       obtain ⟨m2, hm2⟩ : ∃ v, maysN x i (c + 1) = v := ⟨_, rfl⟩
       have HM2 := Lib.hid hm2
       rw [hrv, hov, htv] at hmx
       rw [hmv, htv, hkv] at hmy
       rw [hmv, hm, hm2] at hms
       rw [hm] at hml
       rw [hrv] at hr0 hr1 hrfa
       rw [hov] at ho0 ho1 hofa
       rw [hkv] at hk0 hk1 hkfa
       rw [htv] at hat0 hat1
       rw [hm]
       obtain ⟨sv, hsv⟩ : ∃ v, (x.custs[c]'hcx).stay = v := ⟨_, rfl⟩
       obtain ⟨ld, hld⟩ : ∃ v, (x.custs[c]'hcx).load = v := ⟨_, rfl⟩
       obtain ⟨op, hop⟩ : ∃ v, (x.custs[c]'hcx).opn = v := ⟨_, rfl⟩
       obtain ⟨cl, hcl2⟩ : ∃ v, (x.custs[c]'hcx).cls = v := ⟨_, rfl⟩
       rw [hsv] at e3
       rw [hld] at e0 hmy
       rw [hop] at e1 hmx
       rw [hcl2] at e2 hmy
       have hwb := HW0.out _ (HX2.out _ (HX12.out _ hS.below))
       have d0 := (hwb.cell (p := ⟨cqb, cqo + c * 4, none⟩) hbB).trans e0
       have d1 := (hwb.cell (p := ⟨cqb, cqo + c * 4 + 1, none⟩) hbB).trans e1
       have d2 := (hwb.cell (p := ⟨cqb, cqo + c * 4 + 2, none⟩) hbB).trans e2
       have d3 := (hwb.cell (p := ⟨cqb, cqo + c * 4 + 3, none⟩) hbB).trans e3
       have hz1 : cqb < wr.heap.size := Nat.lt_of_lt_of_le hbB hwb.size
       have hS2 := hS.alloc #[.int .i64 ld, .int .i64 op, .int .i64 cl, .int .i64 sv] 73
       have hmz : (if rv + ov < op then op else rv + ov) = tv := by
        rw [hmx]; omega
       have hwr1 : IntKind.i64.wrap (rv + ov) = rv + ov := by rw [IntKind.wrap_i64]; omega
       have HWI := Lib.hid (fun wx => with_any m (c : Int) wx hml)
       have HML := Lib.hid hml
       have HMS := Lib.hid hms
       have HMY := Lib.hid hmy
       have HMX := Lib.hid hmx
       have HRFA := Lib.hid hrfa
       have HOFA := Lib.hid hofa
       have HKFA := Lib.hid hkfa
       have HHX : Hid (∀ wx, Below w12.heap.size w12 wx → Below w2.heap.size w2 wx) := HX12
       clear hS hA e0 e1 e2 e3 hwb hrv hov hkv htv hmv hm hm2 hsv hld hop hcl2 hml hms hmy hmx hrfa hofa hkfa hbB
       go_upto_region 13 with fail
       obtain ⟨cr, hcr⟩ : ∃ cr, wr.heap.size = cr := ⟨_, rfl⟩
       obtain ⟨w13, hw13⟩ : ∃ y, wr.alloc (.cells #[.int .i64 ld, .int .i64 op, .int .i64 cl, .int .i64 sv] 73) = y := ⟨_, rfl⟩
       rw [hcr, hw13] at hS2 ⊢
       clear hcr hw13 d0 d1 d2 d3 hz1
       refine wp_region_sl [0,1,2,3,4,5,6,7,8,9,10,11] [] [12] _ hS2 (List.Sublist.refl _) (by kernel_rfl) (by kernel_rfl) (.cons rfl .nil) (fun C cw _ hC => ?_)
       have qa : ∀ d, (cw d).cell? ⟨rb, ro + i, none⟩ = some (.int .i64 rv) := fun d => HRFA.out (cw d) (HHX.out _ (hC d).below)
       have qb : ∀ d, (cw d).cell? ⟨ob, oo + c, none⟩ = some (.int .i64 ov) := fun d => HOFA.out (cw d) (hC d).below
       have qc : ∀ d, (cw d).cell? ⟨cr, 1, none⟩ = some (.int .i64 op) := fun d => (hC d).cell 0 rfl 1 rfl
       repeat (first | (refine pl_look rfl rfl rfl (fun Kv hK => ?_); go_big_quiet_op; refine hK _ ?_; clear hK Kv) | (refine pl_max14 _ _ _ _ _ _ _ _ rfl rfl rfl rfl rfl hmz (fun Kv hK => ?_); go_simp; refine hK _ ?_; clear hK Kv))
       clear qa qb qc hC hmz
       refine pl_end ?_
       intro w14 hS14
       refine pm_end ?_
       clear hS2
       have HS14 := Lib.hid hS14
       clear hS14
       go_upto_region 14 with fail
       have hwr2 : IntKind.i64.wrap (tv + kv) = tv + kv := by rw [IntKind.wrap_i64]; omega
       by_cases t1 : tv ≤ cl
       case neg =>
        as_aux_lemma =>
        have hq15 : ∀ wx, SL w12 w12.heap.size [.blk cr #[.int .i64 ld, .int .i64 op, .int .i64 cl, .int .i64 sv] 73] wx → wx.cell? ⟨cr, 2, none⟩ = some (.int .i64 cl) ∧ wx.cell? ⟨cr, 0, none⟩ = some (.int .i64 ld) := fun wx h => ⟨h.cell 0 rfl 2 rfl, h.cell 0 rfl 0 rfl⟩
        refine wp_region_sq [.blk cr #[.int .i64 ld, .int .i64 op, .int .i64 cl, .int .i64 sv] 73] HS14.out (by kernel_rfl) (by kernel_rfl) fun C cw _ hC hin => ?_
        have q1 : ∀ d, (cw d).cell? ⟨cr, 2, none⟩ = some (.int .i64 cl) := fun d => (hC d).cell 0 rfl 2 rfl
        have q2 : ∀ d, (cw d).cell? ⟨cr, 0, none⟩ = some (.int .i64 ld) := fun d => (hC d).cell 0 rfl 0 rfl
        have q3 : ∀ d, (cw d).cell? ⟨kb, ko + c, none⟩ = some (.int .i64 kv) := fun d => HKFA.out (cw d) (hC d).below
        have q4 : ∀ d, (cw d).cell? ⟨xb, 0, none⟩ = some (.int .i64 x.fin) := fun d => (HXF.out (cw d) (HX2.out _ (HHX.out _ (hC d).below))).1
        have q5 : ∀ d, (cw d).cell? ⟨xb, 4, none⟩ = some (.int .i64 x.br) := fun d => (HXF.out (cw d) (HX2.out _ (HHX.out _ (hC d).below))).2.2.2.2.1
        have q6 : ∀ d, (cw d).cell? ⟨ar, 0, none⟩ = some (.int .i64 rm) := fun d => HARF.out (cw d) (hC d).below
        clear hC hin hq15
        repeat (any_goals (go_big_quiet_step (fail)))
        refine wpQuiet_nil ?_
        intro w15 hS15
        have HS15 := Lib.hid hS15.tail
        clear hS15 q1 q2 q3 q4 q5 q6 HS14
        have HM3 : Hid (m2 = m) := Lib.hid (by rw [HMS.out, HMY.out]; simp [t1])
        go_wp2_with fail
        go_roundw
        case rel => exact ⟨c + 1, by omega, by go_num, by rw [HM2.out, HM3.out], HS15.out⟩
        case measure => simp [intOf]; omega
       case pos =>
       by_cases t2 : tv + kv ≤ x.fin
       case neg =>
        as_aux_lemma =>
        have hq15 : ∀ wx, SL w12 w12.heap.size [.blk cr #[.int .i64 ld, .int .i64 op, .int .i64 cl, .int .i64 sv] 73] wx → wx.cell? ⟨cr, 2, none⟩ = some (.int .i64 cl) ∧ wx.cell? ⟨cr, 0, none⟩ = some (.int .i64 ld) := fun wx h => ⟨h.cell 0 rfl 2 rfl, h.cell 0 rfl 0 rfl⟩
        refine wp_region_sq [.blk cr #[.int .i64 ld, .int .i64 op, .int .i64 cl, .int .i64 sv] 73] HS14.out (by kernel_rfl) (by kernel_rfl) fun C cw _ hC hin => ?_
        have q1 : ∀ d, (cw d).cell? ⟨cr, 2, none⟩ = some (.int .i64 cl) := fun d => (hC d).cell 0 rfl 2 rfl
        have q2 : ∀ d, (cw d).cell? ⟨cr, 0, none⟩ = some (.int .i64 ld) := fun d => (hC d).cell 0 rfl 0 rfl
        have q3 : ∀ d, (cw d).cell? ⟨kb, ko + c, none⟩ = some (.int .i64 kv) := fun d => HKFA.out (cw d) (hC d).below
        have q4 : ∀ d, (cw d).cell? ⟨xb, 0, none⟩ = some (.int .i64 x.fin) := fun d => (HXF.out (cw d) (HX2.out _ (HHX.out _ (hC d).below))).1
        have q5 : ∀ d, (cw d).cell? ⟨xb, 4, none⟩ = some (.int .i64 x.br) := fun d => (HXF.out (cw d) (HX2.out _ (HHX.out _ (hC d).below))).2.2.2.2.1
        have q6 : ∀ d, (cw d).cell? ⟨ar, 0, none⟩ = some (.int .i64 rm) := fun d => HARF.out (cw d) (hC d).below
        clear hC hin hq15
        repeat (any_goals (go_big_quiet_step (fail)))
        refine wpQuiet_nil ?_
        intro w15 hS15
        have HS15 := Lib.hid hS15.tail
        clear hS15 q1 q2 q3 q4 q5 q6 HS14
        have HM3 : Hid (m2 = m) := Lib.hid (by rw [HMS.out, HMY.out]; simp [t1, t2])
        go_wp2_with fail
        go_roundw
        case rel => exact ⟨c + 1, by omega, by go_num, by rw [HM2.out, HM3.out], HS15.out⟩
        case measure => simp [intOf]; omega
       case pos =>
       by_cases t3 : ld ≤ rm
       case neg =>
        as_aux_lemma =>
        have hq15 : ∀ wx, SL w12 w12.heap.size [.blk cr #[.int .i64 ld, .int .i64 op, .int .i64 cl, .int .i64 sv] 73] wx → wx.cell? ⟨cr, 2, none⟩ = some (.int .i64 cl) ∧ wx.cell? ⟨cr, 0, none⟩ = some (.int .i64 ld) := fun wx h => ⟨h.cell 0 rfl 2 rfl, h.cell 0 rfl 0 rfl⟩
        refine wp_region_sq [.blk cr #[.int .i64 ld, .int .i64 op, .int .i64 cl, .int .i64 sv] 73] HS14.out (by kernel_rfl) (by kernel_rfl) fun C cw _ hC hin => ?_
        have q1 : ∀ d, (cw d).cell? ⟨cr, 2, none⟩ = some (.int .i64 cl) := fun d => (hC d).cell 0 rfl 2 rfl
        have q2 : ∀ d, (cw d).cell? ⟨cr, 0, none⟩ = some (.int .i64 ld) := fun d => (hC d).cell 0 rfl 0 rfl
        have q3 : ∀ d, (cw d).cell? ⟨kb, ko + c, none⟩ = some (.int .i64 kv) := fun d => HKFA.out (cw d) (hC d).below
        have q4 : ∀ d, (cw d).cell? ⟨xb, 0, none⟩ = some (.int .i64 x.fin) := fun d => (HXF.out (cw d) (HX2.out _ (HHX.out _ (hC d).below))).1
        have q5 : ∀ d, (cw d).cell? ⟨xb, 4, none⟩ = some (.int .i64 x.br) := fun d => (HXF.out (cw d) (HX2.out _ (HHX.out _ (hC d).below))).2.2.2.2.1
        have q6 : ∀ d, (cw d).cell? ⟨ar, 0, none⟩ = some (.int .i64 rm) := fun d => HARF.out (cw d) (hC d).below
        clear hC hin hq15
        repeat (any_goals (go_big_quiet_step (fail)))
        refine wpQuiet_nil ?_
        intro w15 hS15
        have HS15 := Lib.hid hS15.tail
        clear hS15 q1 q2 q3 q4 q5 q6 HS14
        have HM3 : Hid (m2 = m) := Lib.hid (by rw [HMS.out, HMY.out]; simp [t1, t2, t3])
        go_wp2_with fail
        go_roundw
        case rel => exact ⟨c + 1, by omega, by go_num, by rw [HM2.out, HM3.out], HS15.out⟩
        case measure => simp [intOf]; omega
       case pos =>
       by_cases t4 : ld ≤ x.br
       case neg =>
        as_aux_lemma =>
        have hq15 : ∀ wx, SL w12 w12.heap.size [.blk cr #[.int .i64 ld, .int .i64 op, .int .i64 cl, .int .i64 sv] 73] wx → wx.cell? ⟨cr, 2, none⟩ = some (.int .i64 cl) ∧ wx.cell? ⟨cr, 0, none⟩ = some (.int .i64 ld) := fun wx h => ⟨h.cell 0 rfl 2 rfl, h.cell 0 rfl 0 rfl⟩
        refine wp_region_sq [.blk cr #[.int .i64 ld, .int .i64 op, .int .i64 cl, .int .i64 sv] 73] HS14.out (by kernel_rfl) (by kernel_rfl) fun C cw _ hC hin => ?_
        have q1 : ∀ d, (cw d).cell? ⟨cr, 2, none⟩ = some (.int .i64 cl) := fun d => (hC d).cell 0 rfl 2 rfl
        have q2 : ∀ d, (cw d).cell? ⟨cr, 0, none⟩ = some (.int .i64 ld) := fun d => (hC d).cell 0 rfl 0 rfl
        have q3 : ∀ d, (cw d).cell? ⟨kb, ko + c, none⟩ = some (.int .i64 kv) := fun d => HKFA.out (cw d) (hC d).below
        have q4 : ∀ d, (cw d).cell? ⟨xb, 0, none⟩ = some (.int .i64 x.fin) := fun d => (HXF.out (cw d) (HX2.out _ (HHX.out _ (hC d).below))).1
        have q5 : ∀ d, (cw d).cell? ⟨xb, 4, none⟩ = some (.int .i64 x.br) := fun d => (HXF.out (cw d) (HX2.out _ (HHX.out _ (hC d).below))).2.2.2.2.1
        have q6 : ∀ d, (cw d).cell? ⟨ar, 0, none⟩ = some (.int .i64 rm) := fun d => HARF.out (cw d) (hC d).below
        clear hC hin hq15
        repeat (any_goals (go_big_quiet_step (fail)))
        refine wpQuiet_nil ?_
        intro w15 hS15
        have HS15 := Lib.hid hS15.tail
        clear hS15 q1 q2 q3 q4 q5 q6 HS14
        have HM3 : Hid (m2 = m) := Lib.hid (by rw [HMS.out, HMY.out]; simp [t1, t2, t3, t4])
        go_wp2_with fail
        go_roundw
        case rel => exact ⟨c + 1, by omega, by go_num, by rw [HM2.out, HM3.out], HS15.out⟩
        case measure => simp [intOf]; omega
       case pos =>
       have hq15 : ∀ wx, SL w12 w12.heap.size [.blk cr #[.int .i64 ld, .int .i64 op, .int .i64 cl, .int .i64 sv] 73] wx → wx.cell? ⟨cr, 2, none⟩ = some (.int .i64 cl) ∧ wx.cell? ⟨cr, 0, none⟩ = some (.int .i64 ld) := fun wx h => ⟨h.cell 0 rfl 2 rfl, h.cell 0 rfl 0 rfl⟩
       refine wp_region_sq [.blk cr #[.int .i64 ld, .int .i64 op, .int .i64 cl, .int .i64 sv] 73] HS14.out (by kernel_rfl) (by kernel_rfl) fun C cw _ hC hin => ?_
       have q1 : ∀ d, (cw d).cell? ⟨cr, 2, none⟩ = some (.int .i64 cl) := fun d => (hC d).cell 0 rfl 2 rfl
       have q2 : ∀ d, (cw d).cell? ⟨cr, 0, none⟩ = some (.int .i64 ld) := fun d => (hC d).cell 0 rfl 0 rfl
       have q3 : ∀ d, (cw d).cell? ⟨kb, ko + c, none⟩ = some (.int .i64 kv) := fun d => HKFA.out (cw d) (hC d).below
       have q4 : ∀ d, (cw d).cell? ⟨xb, 0, none⟩ = some (.int .i64 x.fin) := fun d => (HXF.out (cw d) (HX2.out _ (HHX.out _ (hC d).below))).1
       have q5 : ∀ d, (cw d).cell? ⟨xb, 4, none⟩ = some (.int .i64 x.br) := fun d => (HXF.out (cw d) (HX2.out _ (HHX.out _ (hC d).below))).2.2.2.2.1
       have q6 : ∀ d, (cw d).cell? ⟨ar, 0, none⟩ = some (.int .i64 rm) := fun d => HARF.out (cw d) (hC d).below
       clear hC hin hq15
       repeat (any_goals (go_big_quiet_step (fail)))
       refine wpQuiet_nil ?_
       intro w15 hS15
       have HS15 := Lib.hid hS15.tail
       clear hS15 q1 q2 q3 q4 q5 q6 HS14
       have HM3 : Hid (m2 = setWith m c) := Lib.hid (by rw [HMS.out, HMY.out]; simp [t1, t2, t3, t4])
       go_wp2_with (go_at_call 63; (with_reducible refine (HWI.out _).mono ?_); rintro e w16 ⟨rfl, rfl⟩)
       go_roundw
       case rel => exact ⟨c + 1, by omega, by go_num, by rw [HM2.out, HM3.out], HS15.out⟩
       case measure => simp [intOf]; omega
     · obtain rfl : nc = c := by omega
       have HS := Lib.hid (HSM.out.call hS.below)
       have HMV := Lib.hid (maysV_succ x i)
       have hcx2 := HNC.out
       rw [hcx2] at HMV
       clear hS hcl hcx2
       obtain ⟨m, hm⟩ : ∃ v, maysN x i nc = v := ⟨_, rfl⟩
       rw [hm] at HMV ⊢
       clear hm
       go_wp2_with (at_builtin; refine stopHere ?_)
       show wpList _ _ _ _ _ _
       refine wpList_append_sl rfl _ _ 69 rfl HS.out 1 i0 (.int .u64 0) 1 8 Try.underlying69 HII.out.1 HII.out.2.1 HII.out.2.2.1 HII.out.2.2.2 rfl (by decide) _ _ 1 _ rfl rfl _ rfl rfl (by decide) rfl (by simp [Value.oneCell']) (by omega) (by decide) ?_
       intro v' w6 hS6 hz6
       have HS6 := Lib.hid hS6.tail
       clear HS hS6 hz6
       go_wp2_with fail
       go_roundw
       case rel =>
        refine ⟨i + 1, by omega, by go_num, ?_⟩
        rw [HMV.out]
        exact HS6.out
       case measure => simp [intOf]; omega
  · obtain rfl : ns = i := by omega
    have HS := Lib.hid (HB2.out.trans (hS.below.mono HB2.out.size))
    have HR2 := Lib.hid (hS.reads 0 rfl)
    clear hS hlt
    go_wp2_with fail
    go_ret
    exact ⟨A4, c4, by rw [HNS.out]; rfl, by rw [HNS.out]; exact HR2.out, HW0.out _ HS.out⟩
end Go.Proofs.Ytjpejclfppbboaa
