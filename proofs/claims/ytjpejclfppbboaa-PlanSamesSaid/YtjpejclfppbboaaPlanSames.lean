/- The walk of law PlanSames. (printed by gen/plansames.py) -/
import Derived.Test.YtjpejclfppbboaaDrawn
import Derived.Test.YtjpejclfppbboaaAwake17
import Derived.Test.YtjpejclfppbboaaPlanNone
import Derived.Test.YtjpejclfppbboaaPSame
import Derived.Test.YtjpejclfppbboaaPlanClone
import Derived.Test.YtjpejclfppbboaaPhase
import Derived.Test.YtjpejclfppbboaaOpenD17
import Derived.Test.YtjpejclfppbboaaSmallOpen
import Derived.Deep.CutBlock
import Derived.Deep.CutRange
import Derived.Deep.DeepCutAuto
namespace Go.Proofs.Ytjpejclfppbboaa
open Go.ChangeShapes Go.WideShapes Go.ChangeAt Go.RowKit
set_option linter.unusedVariables false
set_option linter.unusedSimpArgs false
theorem gn_put {α : Type} {N : Nest α} {W w : World} {B : Nat} {P R : List Rs} {ps : List (α × Value)} (hN : N.Ok) {k j L ck gk ok : Nat} (hk : k < ps.length) {v : Value} (hv : ps[k].2 = .slice (some ⟨gk, ok, none⟩) L ck) (hL : N.len ps[k].1 = L) (hj : j < L * N.s) (a' : α) (u : Value) (hp : N.pre a' = N.pre ps[k].1) (hl : N.len a' = L) (hc : N.cells a' = (N.cells ps[k].1).set j u)
    (hS : SL W B (P ++ (N.own v ps ++ R)) w) : SL W B (P ++ (N.own v (ps.set k (a', ps[k].2)) ++ R)) (w.setCell ⟨gk, ok + j, none⟩ u) := by
  have hr := gn_row (N := N) hk (v := v) P R hv
  rw [hL] at hr
  have h := hS.setRowCell _ hr j hj u
  rw [← gn_same hN hk v a' hp P R, hv, hl, hc]
  exact h
theorem PlanL.x {q : PlanV} (h : PlanL q) : PlanX q := by
  refine ⟨⟨by have := h.trucks; unfold maxLen; omega, fun t ht => ?_⟩, ⟨by have := h.bikes; unfold maxLen; omega, fun b hb => ?_⟩⟩
  · obtain ⟨i, hi, rfl⟩ := List.getElem_of_mem ht
    have := flatten_le hi
    have := h.stops
    unfold maxLen; omega
  · obtain ⟨i, hi, rfl⟩ := List.getElem_of_mem hb
    have := stops_le hi
    have := h.custs
    unfold maxLen; omega
theorem planIn_more {w wx : World} {TA BA : Option Addr} {q : PlanV} (h : PlanIn w w.heap.size TA BA q) (hb : Below w.heap.size w wx) : PlanIn wx wx.heap.size TA BA q := (h.below hb).more hb.size
theorem fin_plan {W w : World} {B ab : Nat} {z : Array Value} {L : List Rs} {vt vb : Value} {ts : List (List StopV × Value)} {ps : List (BikeV × Value)} {q : PlanV} (h : SL W B (.blk ab z 30 :: (((truckN 49 54).own vt ts ++ (bikeN 46 3).own vb ps) ++ L)) w) (e1 : ts.map (·.1) = q.trucks) (e2 : ps.map (·.1) = q.bikes) :
    ∃ TA tc BA bc, vt = .slice TA q.trucks.length tc ∧ vb = .slice BA q.bikes.length bc ∧ ∀ w', Only ab w w' → w'.heap[ab]? = some (.cells #[.slice TA q.trucks.length tc, .slice BA q.bikes.length bc] 30 (0, 0)) →
      SL W B (.blk ab #[.slice TA q.trucks.length tc, .slice BA q.bikes.length bc] 30 :: L) w' ∧ PlanIn w' w'.heap.size TA BA q ∧ TrucksC w' w'.heap.size TA q.trucks := by
  have l1 : ts.length = q.trucks.length := by rw [← e1, List.length_map]
  have l2 : ps.length = q.bikes.length := by rw [← e2, List.length_map]
  have m1 : ∀ r ∈ (truckN 49 54).own vt ts, r ∈ Rs.blk ab z 30 :: (((truckN 49 54).own vt ts ++ (bikeN 46 3).own vb ps) ++ L) := fun r hr => List.mem_cons_of_mem _ (List.mem_append_left _ (List.mem_append_left _ hr))
  have m2 : ∀ r ∈ (bikeN 46 3).own vb ps, r ∈ Rs.blk ab z 30 :: (((truckN 49 54).own vt ts ++ (bikeN 46 3).own vb ps) ++ L) := fun r hr => List.mem_cons_of_mem _ (List.mem_append_left _ (List.mem_append_right _ hr))
  obtain ⟨TA, tc, rfl, _, _⟩ := (own_outer h m1).slice_
  obtain ⟨BA, bc, rfl, _, _⟩ := (own_outer h m2).slice_
  refine ⟨TA, tc, BA, bc, by rw [l1], by rw [l2], fun w' ho hh => ?_⟩
  have h2 := h.only 0 rfl ho hh
  have h3 := trucks_own (T := 49) (t := 54) (A := TA) (c := tc) (ps := ts) h2 (fun r hr => List.mem_cons_of_mem _ (List.mem_append_left _ (List.mem_append_left _ hr)))
  have h4 := bikes_own (T := 46) (t := 3) (A := BA) (c := bc) (ps := ps) h2 (fun r hr => List.mem_cons_of_mem _ (List.mem_append_left _ (List.mem_append_right _ hr)))
  rw [e1] at h3
  rw [e2] at h4
  exact ⟨h2.sub (.cons_cons _ (List.sublist_append_right _ _)), ⟨h3.plain, h4⟩, h3⟩
set_option maxRecDepth 100000 in
set_option maxHeartbeats 16000000 in
theorem planSames_any (T1 B1 T2 B2 : Option Addr) (tc1 bc1 tc2 bc2 : Nat) (q1 q2 : PlanV) (sp : IAt) (s : SmallV) (a : WishAt) (u : WishV) (what at_ by_ : Int) (w : World) (hP1 : PlanIn w w.heap.size T1 B1 q1) (hP2 : PlanIn w w.heap.size T2 B2 q2) (x1 : PlanX q1) (x2 : PlanX q2) (hI0 : SmallIn w w.heap.size sp s) (hL0 : SmallL s) (hok : s.ok) (hW : WishIn w w.heap.size a u) (hu : u.ok) (hl : u.L) (hw : 0 ≤ what ∧ what ≤ 255) (ha : 0 ≤ at_ ∧ at_ ≤ 255) (hb : -128 ≤ by_ ∧ by_ ≤ 127) :
    Calls Try.prog 13 #[.agg #[.slice T1 q1.trucks.length tc1, .slice B1 q1.bikes.length bc1], .agg #[.slice T2 q2.trucks.length tc2, .slice B2 q2.bikes.length bc2], .agg (s.vals sp), .agg (u.vals a), .int .u8 what, .int .u8 at_, .int .i8 by_] w fun e w' => e = .returned (.bool true) ∧ Below w.heap.size w w' := by
  have hx := SmallV.small hok
  have HX := Lib.hid hx
  have HI0 := Lib.hid hI0
  have HW := Lib.hid (And.intro hW (And.intro hu hl))
  have HNUM := Lib.hid (And.intro hw (And.intro ha hb))
  have HPS : Hid ((Try.prog.info? 30).map (·.size) = some 2) := Lib.hid (by kernel_rfl)
  have HLT1 := Lib.hid (fun (wx : World) (hb : Below w.heap.size w wx) => light_some T1 B1 tc1 bc1 q1 wx (planIn_more hP1 hb) x1.trucks.1 x1.bikes.1)
  have HLT2 := Lib.hid (fun (wx : World) (hb : Below w.heap.size w wx) => light_some T2 B2 tc2 bc2 q2 wx (planIn_more hP2 hb) x2.trucks.1 x2.bikes.1)
  have HSP := Lib.hid (fun (wx : World) (hb : Below w.heap.size w wx) => psame_any T1 B1 T2 B2 tc1 bc1 tc2 bc2 q1 q2 wx (planIn_more hP1 hb) (planIn_more hP2 hb) x1 x2)
  have HSL := Lib.hid (fun (wx : World) (hb : Below w.heap.size w wx) => lsame_any T1 B1 T2 B2 tc1 bc1 tc2 bc2 q1 q2 wx (planIn_more hP1 hb) (planIn_more hP2 hb) x1 x2)
  have HMK : Hid (∀ wx, Below w.heap.size w wx → Calls Try.prog 16 #[.agg (s.vals sp)] wx (MakePost wx s.mk_)) := Lib.hid (fun wx hb => make_any s sp wx ((hI0.below hb).more hb.size) hL0 hok)
  obtain ⟨sv12, hsv⟩ : ∃ v, sameV q1 q2 = v := ⟨_, rfl⟩
  rw [hsv] at HSP HSL
  obtain ⟨n1, hn1⟩ : ∃ n, q1.trucks.length = n := ⟨_, rfl⟩
  obtain ⟨m1, hm1⟩ : ∃ n, q1.bikes.length = n := ⟨_, rfl⟩
  obtain ⟨n2, hn2⟩ : ∃ n, q2.trucks.length = n := ⟨_, rfl⟩
  obtain ⟨m2, hm2⟩ : ∃ n, q2.bikes.length = n := ⟨_, rfl⟩
  rw [hn1, hm1] at HLT1
  rw [hn2, hm2] at HLT2
  rw [hn1, hm1, hn2, hm2] at HSP HSL
  rw [hn1, hm1, hn2, hm2]
  unfold SmallV.vals at HMK
  unfold SmallV.vals WishV.vals
  have hS := ((((SL.start (W := w) (Nat.le_refl w.heap.size)).alloc #[.slice T1 n1 tc1, .slice B1 m1 bc1] 30).alloc #[.slice T2 n2 tc2, .slice B2 m2 bc2] 30).alloc #[.int .u8 s.fin, .int .u8 s.trucks, .int .u8 s.troom, .int .u8 s.bikes, .int .u8 s.broom, .slice sp.SA s.sats.length sp.sc, .slice sp.CA s.custs.length sp.cc, .slice sp.KA s.cost.length sp.kc, .slice sp.TA s.time.length sp.tc, .bool s.tight, .bool s.loose] 26).alloc #[.slice a.SA u.sats.length a.sc, .slice a.OA u.order.length a.oc, .slice a.CA u.cuts.length a.cc] 83
  simp only [size_alloc'] at hS
  obtain ⟨pb, hpb⟩ : ∃ b, w.heap.size = b := ⟨_, rfl⟩
  obtain ⟨qb, hqb⟩ : ∃ b, pb + 1 = b := ⟨_, rfl⟩
  obtain ⟨sb, hsb⟩ : ∃ b, qb + 1 = b := ⟨_, rfl⟩
  obtain ⟨wb, hwb⟩ : ∃ b, sb + 1 = b := ⟨_, rfl⟩
  obtain ⟨w1, hw1⟩ : ∃ w1, ((((w.alloc (.cells #[.slice T1 n1 tc1, .slice B1 m1 bc1] 30)).alloc (.cells #[.slice T2 n2 tc2, .slice B2 m2 bc2] 30)).alloc (.cells #[.int .u8 s.fin, .int .u8 s.trucks, .int .u8 s.troom, .int .u8 s.bikes, .int .u8 s.broom, .slice sp.SA s.sats.length sp.sc, .slice sp.CA s.custs.length sp.cc, .slice sp.KA s.cost.length sp.kc, .slice sp.TA s.time.length sp.tc, .bool s.tight, .bool s.loose] 26)).alloc (.cells #[.slice a.SA u.sats.length a.sc, .slice a.OA u.order.length a.oc, .slice a.CA u.cuts.length a.cc] 83)) = w1 := ⟨_, rfl⟩
  have HS1 : Hid (SL w w.heap.size [.blk wb #[.slice a.SA u.sats.length a.sc, .slice a.OA u.order.length a.oc, .slice a.CA u.cuts.length a.cc] 83, .blk sb #[.int .u8 s.fin, .int .u8 s.trucks, .int .u8 s.troom, .int .u8 s.bikes, .int .u8 s.broom, .slice sp.SA s.sats.length sp.sc, .slice sp.CA s.custs.length sp.cc, .slice sp.KA s.cost.length sp.kc, .slice sp.TA s.time.length sp.tc, .bool s.tight, .bool s.loose] 26, .blk qb #[.slice T2 n2 tc2, .slice B2 m2 bc2] 30, .blk pb #[.slice T1 n1 tc1, .slice B1 m1 bc1] 30] w1) := Lib.hid (by rw [← hwb, ← hsb, ← hqb, ← hpb, ← hw1]; exact hS)
  have HBL := Lib.hid (And.intro (And.intro hpb hqb) (And.intro hsb (And.intro hwb hw1)))
  clear hx hI0 hL0 hok hW hu hl hw ha hb hS hpb hqb hsb hwb hw1 hsv hn1 hm1 hn2 hm2 hP1 hP2 x1 x2
  go_enter Try.func13, Try.ntmps13
  go_upto_region 1 with fail
  rw [HBL.out.2.2.2, HBL.out.1.1, HBL.out.1.2, HBL.out.2.1, HBL.out.2.2.1]
  go_upto_region 3 with (go_at_call 14; (with_reducible refine (awake17 _).mono ?_); rintro e w2 ⟨rfl, hb2⟩
                         have HS2 := Lib.hid (HS1.out.call hb2)
                         clear hb2 HS1)
  go_wp2_with first
    | (refine wpList_load_row rfl 30 _ rfl pb rfl _ #[.slice T1 n1 tc1, .slice B1 m1 bc1] _ _ (HS2.out.blk 3 rfl) Try.underlying30 rfl HPS.out ?_)
    | (go_at_call 15; (with_reducible refine (HLT1.out _ HS2.out.below).mono ?_); rintro e w3 ⟨⟨b1, rfl⟩, hb3⟩
       have HS3 := Lib.hid (HS2.out.call hb3)
       have y0 : w3.cell? ⟨qb, 0, none⟩ = some (.slice T2 n2 tc2) := HS3.out.cell 2 rfl 0 rfl
       have y1 : w3.cell? ⟨qb, 1, none⟩ = some (.slice B2 m2 bc2) := HS3.out.cell 2 rfl 1 rfl
       clear hb3 HLT1 HS2
       cases b1)
  · go_wp2_with fail
    go_ret
    exact ⟨rfl, HS3.out.below⟩
  go_wp2_with (go_at_call 15; (with_reducible refine (HLT2.out _ HS3.out.below).mono ?_); rintro e w4 ⟨⟨b2, rfl⟩, hb4⟩
               have HS4 := Lib.hid (HS3.out.call hb4)
               clear hb4 HLT2 HS3 y0 y1
               cases b2)
  · go_wp2_with fail
    go_ret
    exact ⟨rfl, HS4.out.below⟩

  have HXM := HMK
  obtain ⟨q0, hq0⟩ : ∃ q0, draftM s.mk_ u = q0 := ⟨_, rfl⟩
  have HQ0 : Hid (PlanS q0) := Lib.hid (by rw [← hq0]; exact draft_S HX.out)
  have HDR : Hid (∀ (p : IAt) (wx : World), Below w.heap.size w wx → InstIn wx wx.heap.size p s.mk_ → Calls Try.prog 38 #[.agg (s.mk_.cells p), .agg #[.slice a.SA u.sats.length a.sc, .slice a.OA u.order.length a.oc, .slice a.CA u.cuts.length a.cc]] wx (ClonePost wx q0)) := Lib.hid (fun p wx hb hI => by
    have h := draft_any s.mk_ p u a wx hI (wishIn_more (HW.out.1.below hb) hb.size) HX.out HW.out.2.1 HW.out.2.2
    rw [hq0] at h; exact h)
  clear hq0 HMK
  obtain ⟨x, hxq⟩ : ∃ x, s.mk_ = x := ⟨_, rfl⟩
  rw [hxq] at HXM HDR
  clear hxq HX
  go_upto_region 5 with fail
  go_cut [15] (fun v wx => ∃ ab TA tc BA bc, v = .pointer (some ⟨ab, 0, none⟩) ∧ SL w w.heap.size [.blk ab #[.slice TA q0.trucks.length tc, .slice BA q0.bikes.length bc] 30, .blk wb #[.slice a.SA u.sats.length a.sc, .slice a.OA u.order.length a.oc, .slice a.CA u.cuts.length a.cc] 83, .blk sb #[.int .u8 s.fin, .int .u8 s.trucks, .int .u8 s.troom, .int .u8 s.bikes, .int .u8 s.broom, .slice sp.SA s.sats.length sp.sc, .slice sp.CA s.custs.length sp.cc, .slice sp.KA s.cost.length sp.kc, .slice sp.TA s.time.length sp.tc, .bool s.tight, .bool s.loose] 26, .blk qb #[.slice T2 n2 tc2, .slice B2 m2 bc2] 30, .blk pb #[.slice T1 n1 tc1, .slice B1 m1 bc1] 30] wx ∧ PlanIn wx wx.heap.size TA BA q0 ∧ TrucksC wx wx.heap.size TA q0.trucks)
  case first =>
    have hls := (HS4.out.lt 1 rfl).2
    have hlw := (HS4.out.lt 0 rfl).2
    refine wp_region_ph [0, 1, 2, 3, 4] [5] [] (SL.start (W := w4) (Nat.le_refl _)) (List.Sublist.refl _) (by kernel_rfl) (by kernel_rfl) (.cons rfl .nil) (fun C cw _ hC w5 hS5 => ?_)
    have qs0 : ∀ c, (cw c).cell? ⟨sb, 0, none⟩ = some (.int .u8 s.fin) := fun c => ((hC c).below.cell (p := ⟨sb, 0, none⟩) hls).trans (HS4.out.cell 1 rfl 0 rfl)
    have qs1 : ∀ c, (cw c).cell? ⟨sb, 1, none⟩ = some (.int .u8 s.trucks) := fun c => ((hC c).below.cell (p := ⟨sb, 1, none⟩) hls).trans (HS4.out.cell 1 rfl 1 rfl)
    have qs2 : ∀ c, (cw c).cell? ⟨sb, 2, none⟩ = some (.int .u8 s.troom) := fun c => ((hC c).below.cell (p := ⟨sb, 2, none⟩) hls).trans (HS4.out.cell 1 rfl 2 rfl)
    have qs3 : ∀ c, (cw c).cell? ⟨sb, 3, none⟩ = some (.int .u8 s.bikes) := fun c => ((hC c).below.cell (p := ⟨sb, 3, none⟩) hls).trans (HS4.out.cell 1 rfl 3 rfl)
    have qs4 : ∀ c, (cw c).cell? ⟨sb, 4, none⟩ = some (.int .u8 s.broom) := fun c => ((hC c).below.cell (p := ⟨sb, 4, none⟩) hls).trans (HS4.out.cell 1 rfl 4 rfl)
    have qs5 : ∀ c, (cw c).cell? ⟨sb, 5, none⟩ = some (.slice sp.SA s.sats.length sp.sc) := fun c => ((hC c).below.cell (p := ⟨sb, 5, none⟩) hls).trans (HS4.out.cell 1 rfl 5 rfl)
    have qs6 : ∀ c, (cw c).cell? ⟨sb, 6, none⟩ = some (.slice sp.CA s.custs.length sp.cc) := fun c => ((hC c).below.cell (p := ⟨sb, 6, none⟩) hls).trans (HS4.out.cell 1 rfl 6 rfl)
    have qs7 : ∀ c, (cw c).cell? ⟨sb, 7, none⟩ = some (.slice sp.KA s.cost.length sp.kc) := fun c => ((hC c).below.cell (p := ⟨sb, 7, none⟩) hls).trans (HS4.out.cell 1 rfl 7 rfl)
    have qs8 : ∀ c, (cw c).cell? ⟨sb, 8, none⟩ = some (.slice sp.TA s.time.length sp.tc) := fun c => ((hC c).below.cell (p := ⟨sb, 8, none⟩) hls).trans (HS4.out.cell 1 rfl 8 rfl)
    have qs9 : ∀ c, (cw c).cell? ⟨sb, 9, none⟩ = some (.bool s.tight) := fun c => ((hC c).below.cell (p := ⟨sb, 9, none⟩) hls).trans (HS4.out.cell 1 rfl 9 rfl)
    have qs10 : ∀ c, (cw c).cell? ⟨sb, 10, none⟩ = some (.bool s.loose) := fun c => ((hC c).below.cell (p := ⟨sb, 10, none⟩) hls).trans (HS4.out.cell 1 rfl 10 rfl)
    have qw0 : ∀ c, (cw c).cell? ⟨wb, 0, none⟩ = some (.slice a.SA u.sats.length a.sc) := fun c => ((hC c).below.cell (p := ⟨wb, 0, none⟩) hlw).trans (HS4.out.cell 0 rfl 0 rfl)
    have qw1 : ∀ c, (cw c).cell? ⟨wb, 1, none⟩ = some (.slice a.OA u.order.length a.oc) := fun c => ((hC c).below.cell (p := ⟨wb, 1, none⟩) hlw).trans (HS4.out.cell 0 rfl 1 rfl)
    have qw2 : ∀ c, (cw c).cell? ⟨wb, 2, none⟩ = some (.slice a.CA u.cuts.length a.cc) := fun c => ((hC c).below.cell (p := ⟨wb, 2, none⟩) hlw).trans (HS4.out.cell 0 rfl 2 rfl)
    refine ph_look 0 rfl (by kernel_rfl) rfl (by kernel_rfl) rfl rfl (fun Kv hK => ?_); go_big_quiet_op; refine hK _ ?_; clear hK Kv
    refine ph_look 2 rfl (by kernel_rfl) rfl (by kernel_rfl) rfl rfl (fun Kv hK => ?_); go_big_quiet_op; refine hK _ ?_; clear hK Kv

    refine ph_two 1 4 (by kernel_rfl) rfl rfl ?armM ?armA
    case armM =>
      have hk := hS5
      have hS := HS4.out.call hS5.below
      refine ph_op rfl rfl (fun Kv hK => ?_)
      go_simp
      refine eff_call (HXM.out _ hS.below) (fun e w6 h => ?_)
      obtain ⟨p, hk0, ht0, rfl, hl1, hl2, hq⟩ := h
      have hk := hk.call hq.below
      have hS := hS.call hq.below
      have hI := (made_in hl1 hl2 hq).1
      refine .inl ⟨_, rfl, hk, hK _ _ ?_⟩
      clear hK Kv hq hl1 hl2 hk0 ht0
      unfold InstV.cells
      refine ph_two 3 4 (by kernel_rfl) rfl rfl ?armD ?armB
      case armD =>
        refine ph_op rfl rfl (fun Kv hK => ?_)
        go_simp
        refine eff_call (HDR.out p _ hS.below hI) (fun e w7 h => ?_)
        obtain ⟨vt, vb, ts, ps, rfl, e1, e2, h3⟩ := h
        have hk := hk.call h3.below
        have hS := hS.join h3
        refine .inl ⟨_, rfl, hk, hK _ _ ?_⟩
        clear hK Kv h3 hI
        refine ph_eff 4 rfl (by kernel_rfl) rfl rfl (fun Kv hK => ?_)
        go_simp
        refine ⟨(hk.alloc _ _).tail, hK _ _ ?_⟩
        clear hK Kv
        have hk := (hk.alloc #[.slice none 0 0, .slice none 0 0] 30).tail
        have hS := hS.alloc #[.slice none 0 0, .slice none 0 0] 30
        skip
        refine ph_end (by kernel_rfl) ?_
        obtain ⟨TA, tc, BA, bc, rfl, rfl, hF⟩ := fin_plan hS e1 e2
        have HS5 := Lib.hid hS
        have HF := Lib.hid hF
        clear hS hF hk qs0 qs1 qs2 qs3 qs4 qs5 qs6 qs7 qs8 qs9 qs10 qw0 qw1 qw2 hC
        go_wp2_with (refine wpList_store_abs rfl 30 (.tmp 15) (.tmp 38) rfl rfl _ #[.slice TA q0.trucks.length tc, .slice BA q0.bikes.length bc] rfl rfl _ _ (HS5.out.blk 0 rfl) HPS.out rfl (by simp [Value.oneCell']) (fun w9 ho9 hg9 => ?_))
        go_meet
        obtain ⟨g1, g2, g3⟩ := HF.out w9 ho9 hg9
        exact ⟨_, TA, tc, BA, bc, rfl, g1, g2, g3⟩
      case armB =>
        refine ph_op rfl rfl (fun Kv hK => ?_)
        go_simp
        refine ⟨(hk.alloc _ _).tail, hK _ _ ?_⟩
        clear hK Kv
        have hk := (hk.alloc #[.slice none 0 0, .slice none 0 0] 30).tail
        have hS := hS.alloc #[.slice none 0 0, .slice none 0 0] 30
        have hI := hI.at_ ((Below.refl _ _).alloc (Nat.le_refl _) (.cells #[.slice none 0 0, .slice none 0 0] 30))
        skip
        refine ph_eff 3 rfl (by kernel_rfl) rfl rfl (fun Kv hK => ?_)
        go_simp
        refine eff_call (HDR.out p _ hS.below hI) (fun e w7 h => ?_)
        obtain ⟨vt, vb, ts, ps, rfl, e1, e2, h3⟩ := h
        have hk := hk.call h3.below
        have hS := hS.join h3
        refine .inl ⟨_, rfl, hk, hK _ _ ?_⟩
        clear hK Kv h3 hI
        refine ph_end (by kernel_rfl) ?_
        have hS := hS.perm List.perm_middle
        obtain ⟨TA, tc, BA, bc, rfl, rfl, hF⟩ := fin_plan hS e1 e2
        have HS5 := Lib.hid hS
        have HF := Lib.hid hF
        clear hS hF hk qs0 qs1 qs2 qs3 qs4 qs5 qs6 qs7 qs8 qs9 qs10 qw0 qw1 qw2 hC
        go_wp2_with (refine wpList_store_abs rfl 30 (.tmp 15) (.tmp 38) rfl rfl _ #[.slice TA q0.trucks.length tc, .slice BA q0.bikes.length bc] rfl rfl _ _ (HS5.out.blk 0 rfl) HPS.out rfl (by simp [Value.oneCell']) (fun w9 ho9 hg9 => ?_))
        go_meet
        obtain ⟨g1, g2, g3⟩ := HF.out w9 ho9 hg9
        exact ⟨_, TA, tc, BA, bc, rfl, g1, g2, g3⟩
    case armA =>
      have hk := hS5
      have hS := HS4.out.call hS5.below
      refine ph_op rfl rfl (fun Kv hK => ?_)
      go_simp
      refine ⟨(hk.alloc _ _).tail, hK _ _ ?_⟩
      clear hK Kv
      have hk := (hk.alloc #[.slice none 0 0, .slice none 0 0] 30).tail
      have hS := hS.alloc #[.slice none 0 0, .slice none 0 0] 30
      skip
      refine ph_eff 1 rfl (by kernel_rfl) rfl rfl (fun Kv hK => ?_)
      go_simp
      refine eff_call (HXM.out _ hS.below) (fun e w6 h => ?_)
      obtain ⟨p, hk0, ht0, rfl, hl1, hl2, hq⟩ := h
      have hk := hk.call hq.below
      have hS := hS.call hq.below
      have hI := (made_in hl1 hl2 hq).1
      refine .inl ⟨_, rfl, hk, hK _ _ ?_⟩
      clear hK Kv hq hl1 hl2 hk0 ht0
      unfold InstV.cells
      refine ph_eff 3 rfl (by kernel_rfl) rfl rfl (fun Kv hK => ?_)
      go_simp
      refine eff_call (HDR.out p _ hS.below hI) (fun e w7 h => ?_)
      obtain ⟨vt, vb, ts, ps, rfl, e1, e2, h3⟩ := h
      have hk := hk.call h3.below
      have hS := hS.join h3
      refine .inl ⟨_, rfl, hk, hK _ _ ?_⟩
      clear hK Kv h3 hI
      refine ph_end (by kernel_rfl) ?_
      have hS := hS.perm List.perm_middle
      obtain ⟨TA, tc, BA, bc, rfl, rfl, hF⟩ := fin_plan hS e1 e2
      have HS5 := Lib.hid hS
      have HF := Lib.hid hF
      clear hS hF hk qs0 qs1 qs2 qs3 qs4 qs5 qs6 qs7 qs8 qs9 qs10 qw0 qw1 qw2 hC
      go_wp2_with (refine wpList_store_abs rfl 30 (.tmp 15) (.tmp 38) rfl rfl _ #[.slice TA q0.trucks.length tc, .slice BA q0.bikes.length bc] rfl rfl _ _ (HS5.out.blk 0 rfl) HPS.out rfl (by simp [Value.oneCell']) (fun w9 ho9 hg9 => ?_))
      go_meet
      obtain ⟨g1, g2, g3⟩ := HF.out w9 ho9 hg9
      exact ⟨_, TA, tc, BA, bc, rfl, g1, g2, g3⟩
  case rest =>
    obtain ⟨ab, TA, tc, BA, bc, rfl, hS5, hP5, hT5⟩ := hcut
    have HS5 := Lib.hid hS5
    have HP5 := Lib.hid hP5
    clear hS5 hP5 hT5 HS4
    go_upto_region 7 with first
      | (refine wpList_load_row rfl 30 _ rfl ab rfl _ #[.slice TA q0.trucks.length tc, .slice BA q0.bikes.length bc] _ _ (HS5.out.blk 0 rfl) Try.underlying30 rfl HPS.out ?_)
      | (go_at_call 37; (with_reducible refine (drawn_spoilt _ _ _ _ q0 _ _ _ _ HP5.out HQ0.out HNUM.out.1 HNUM.out.2.1 HNUM.out.2.2).mono ?_); rintro e w6 ⟨q, hQL, TB, td, BB, bd, rfl, hP6, hT6, hB6⟩
         have HP6 := Lib.hid hP6
         have HQL := Lib.hid hQL
         have HS6 := Lib.hid (HS5.out.call hB6)
         have HA6 := Lib.hid (planIn_more HP5.out hB6)
         clear hP6 hT6 hB6 hQL HS5 HP5)
    have hS7 := HS6.out.alloc #[.slice TB q.trucks.length td, .slice BB q.bikes.length bd] 30
    have hB7 : Below w6.heap.size w6 (w6.alloc (.cells #[.slice TB q.trucks.length td, .slice BB q.bikes.length bd] 30)) := (Below.refl _ _).alloc (Nat.le_refl _) _
    have HA7 := Lib.hid (planIn_more HA6.out hB7)
    have HB7 := Lib.hid (planIn_more HP6.out hB7)
    obtain ⟨bb, hbb⟩ : ∃ b, w6.heap.size = b := ⟨_, rfl⟩
    rw [hbb] at hS7 ⊢
    have HS7 := Lib.hid hS7
    clear hS7 hB7 hbb HS6 HA6 HP6 HNUM
    obtain ⟨w7, hw7⟩ : ∃ w7, (w6.alloc (.cells #[.slice TB q.trucks.length td, .slice BB q.bikes.length bd] 30)) = w7 := ⟨_, rfl⟩
    rw [hw7] at HS7 HA7 HB7 ⊢
    clear hw7
    have HXQ : Hid (PlanX q0 ∧ PlanX q) := Lib.hid ⟨PlanL.x (PlanS.L HQ0.out), PlanL.x HQL.out⟩
    have HCL := Lib.hid (planClone_any TA BA tc bc q0 w7 HA7.out (PlanS.L HQ0.out))
    clear HQL
    go_upto_region 8 with first
      | (refine wpList_load_row rfl 30 _ rfl ab rfl _ #[.slice TA q0.trucks.length tc, .slice BA q0.bikes.length bc] _ _ (HS7.out.blk 1 rfl) Try.underlying30 rfl HPS.out ?_)
      | (go_at_call 41; (with_reducible refine HCL.out.mono ?_); rintro e w8 ⟨vt, vb, ts, ps, rfl, e1, e2, h8⟩
         obtain ⟨TC, c1, hvt, _, _⟩ := (own_outer h8 (fun r hr => List.mem_append_left _ hr)).slice_
         obtain ⟨BC, c2, hvb, _, _⟩ := (own_outer h8 (fun r hr => List.mem_append_right _ hr)).slice_
         obtain ⟨nT, hnT⟩ : ∃ n, ts.length = n := ⟨_, rfl⟩
         obtain ⟨nB, hnB⟩ : ∃ n, ps.length = n := ⟨_, rfl⟩
         rw [hnT] at hvt
         rw [hnB] at hvb
         subst hvt hvb
         have H8 := Lib.hid h8
         have HE8 := Lib.hid (And.intro (And.intro e1 e2) (And.intro hnT hnB))
         clear h8 e1 e2 hnT hnB HCL)
    have hS9 := (H8.out.alloc #[.slice TC nT c1, .slice BC nB c2] 30).perm (l' := [.blk w8.heap.size #[.slice TC nT c1, .slice BC nB c2] 30] ++ ((bikeN 46 3).own (.slice BC nB c2) ps ++ (truckN 49 54).own (.slice TC nT c1) ts)) (List.Perm.cons _ List.perm_append_comm)
    obtain ⟨cb, hcb⟩ : ∃ b, w8.heap.size = b := ⟨_, rfl⟩
    rw [hcb] at hS9 ⊢
    have HS9 := Lib.hid hS9
    obtain ⟨w9, hw9⟩ : ∃ w9, (w8.alloc (.cells #[.slice TC nT c1, .slice BC nB c2] 30)) = w9 := ⟨_, rfl⟩
    rw [hw9] at HS9 ⊢
    clear hS9 hcb H8 hw9
    have HXA : Hid (∀ wx, Below w7.heap.size w7 wx → wx.heap[ab]? = some (.cells #[.slice TA q0.trucks.length tc, .slice BA q0.bikes.length bc] 30 (0, 0))) := Lib.hid (fun wx hb => (hb.block ab (HS7.out.lt 1 rfl).2).trans (HS7.out.blk 1 rfl))
    have HXB : Hid (∀ wx, Below w7.heap.size w7 wx → wx.heap[bb]? = some (.cells #[.slice TB q.trucks.length td, .slice BB q.bikes.length bd] 30 (0, 0))) := Lib.hid (fun wx hb => (hb.block bb (HS7.out.lt 0 rfl).2).trans (HS7.out.blk 0 rfl))
    have HXW : Hid (∀ wx, Below w7.heap.size w7 wx → wx.heap[wb]? = some (.cells #[.slice a.SA u.sats.length a.sc, .slice a.OA u.order.length a.oc, .slice a.CA u.cuts.length a.cc] 83 (0, 0))) := Lib.hid (fun wx hb => (hb.block wb (HS7.out.lt 2 rfl).2).trans (HS7.out.blk 2 rfl))
    have HXS : Hid (∀ wx, Below w7.heap.size w7 wx → wx.heap[sb]? = some (.cells #[.int .u8 s.fin, .int .u8 s.trucks, .int .u8 s.troom, .int .u8 s.bikes, .int .u8 s.broom, .slice sp.SA s.sats.length sp.sc, .slice sp.CA s.custs.length sp.cc, .slice sp.KA s.cost.length sp.kc, .slice sp.TA s.time.length sp.tc, .bool s.tight, .bool s.loose] 26 (0, 0))) := Lib.hid (fun wx hb => (hb.block sb (HS7.out.lt 3 rfl).2).trans (HS7.out.blk 3 rfl))
    have HXQB : Hid (∀ wx, Below w7.heap.size w7 wx → wx.heap[qb]? = some (.cells #[.slice T2 n2 tc2, .slice B2 m2 bc2] 30 (0, 0))) := Lib.hid (fun wx hb => (hb.block qb (HS7.out.lt 4 rfl).2).trans (HS7.out.blk 4 rfl))
    have HXPB : Hid (∀ wx, Below w7.heap.size w7 wx → wx.heap[pb]? = some (.cells #[.slice T1 n1 tc1, .slice B1 m1 bc1] 30 (0, 0))) := Lib.hid (fun wx hb => (hb.block pb (HS7.out.lt 5 rfl).2).trans (HS7.out.blk 5 rfl))
    have HB0 : Hid (Below w.heap.size w w7) := Lib.hid HS7.out.below
    clear HS7
    have HC9 : Hid (PlanIn w9 w9.heap.size TC BC q0) := Lib.hid (by
      have h3 := trucks_own (T := 49) (t := 54) (A := TC) (c := c1) (ps := ts) HS9.out (fun r hr => by rw [HE8.out.2.1] at hr; exact List.mem_append_right _ (List.mem_append_right _ hr))
      have h4 := bikes_own (T := 46) (t := 3) (A := BC) (c := c2) (ps := ps) HS9.out (fun r hr => by rw [HE8.out.2.2] at hr; exact List.mem_append_right _ (List.mem_append_left _ hr))
      rw [HE8.out.1.1] at h3
      rw [HE8.out.1.2] at h4
      exact ⟨h3.plain, h4⟩)
    have HLQ : Hid (q0.trucks.length = nT ∧ q0.bikes.length = nB) := Lib.hid ⟨by rw [← HE8.out.1.1, List.length_map]; exact HE8.out.2.1, by rw [← HE8.out.1.2, List.length_map]; exact HE8.out.2.2⟩
    have HPC : Hid (∀ wx, Below w9.heap.size w9 wx → Calls Try.prog 42 #[.agg #[.slice TA q0.trucks.length tc, .slice BA q0.bikes.length bc], .agg #[.slice TC nT c1, .slice BC nB c2]] wx fun e w' => e = .returned (.bool true) ∧ Below wx.heap.size wx w') := Lib.hid (fun wx hb => by
      have h := psame_any TA BA TC BC tc bc c1 c2 q0 q0 wx (planIn_more (planIn_more HA7.out HS9.out.below) (hb.mono (Nat.le_refl _))) (planIn_more HC9.out hb) HXQ.out.1 HXQ.out.1
      rw [sameV_true rfl] at h
      rw [HLQ.out.1, HLQ.out.2] at h ⊢
      exact h)
    have HLC : Hid (∀ wx, Below w9.heap.size w9 wx → Calls Try.prog 43 #[.agg #[.slice TA q0.trucks.length tc, .slice BA q0.bikes.length bc], .agg #[.slice TC nT c1, .slice BC nB c2]] wx fun e w' => e = .returned (.bool true) ∧ Below wx.heap.size wx w') := Lib.hid (fun wx hb => by
      have h := lsame_any TA BA TC BC tc bc c1 c2 q0 q0 wx (planIn_more (planIn_more HA7.out HS9.out.below) (hb.mono (Nat.le_refl _))) (planIn_more HC9.out hb) HXQ.out.1 HXQ.out.1
      rw [sameV_true rfl] at h
      rw [HLQ.out.1, HLQ.out.2] at h ⊢
      exact h)
    clear HLQ HC9
    go_upto_region 10 with first
      | (refine wpList_load_row rfl 30 _ rfl ab rfl _ #[.slice TA q0.trucks.length tc, .slice BA q0.bikes.length bc] _ _ (HXA.out _ HS9.out.below) Try.underlying30 rfl HPS.out ?_)
      | (refine wpList_load_row rfl 30 _ rfl cb rfl _ #[.slice TC nT c1, .slice BC nB c2] _ _ (HS9.out.blk 0 rfl) Try.underlying30 rfl HPS.out ?_)
      | (go_at_call 42; (with_reducible refine (HPC.out _ (Below.refl _ _)).mono ?_); rintro e w10 ⟨rfl, hb10⟩
         have HB10 := Lib.hid hb10
         have HS10 := Lib.hid (HS9.out.call hb10)
         have ya := HXA.out _ HS10.out.below
         have ya0 : w10.cell? ⟨ab, 0, none⟩ = some (.slice TA q0.trucks.length tc) := by rw [cell_of_row _ _ _ _ _ _ ya]; rfl
         have ya1 : w10.cell? ⟨ab, 1, none⟩ = some (.slice BA q0.bikes.length bc) := by rw [cell_of_row _ _ _ _ _ _ ya]; rfl
         have yc0 : w10.cell? ⟨cb, 0, none⟩ = some (.slice TC nT c1) := HS10.out.cell 0 rfl 0 rfl
         have yc1 : w10.cell? ⟨cb, 1, none⟩ = some (.slice BC nB c2) := HS10.out.cell 0 rfl 1 rfl
         clear hb10 ya HPC)
      | (go_at_call 43; (with_reducible refine (HLC.out _ HB10.out).mono ?_); rintro e w11 ⟨rfl, hb11⟩
         have HS11 := Lib.hid (HS10.out.call hb11)
         have yd1 : w11.cell? ⟨cb, 1, none⟩ = some (.slice BC nB c2) := HS11.out.cell 0 rfl 1 rfl
         clear hb11 HLC HB10 HS10 HS9 ya0 ya1 yc0 yc1)
    clear yd1
    have HQ9 : Hid (ps.length = nB ∧ ts.length = nT) := Lib.hid ⟨HE8.out.2.2, HE8.out.2.1⟩
    have hnB : nB ≤ 100000 := by
      have h1 := HE8.out.2.2
      have h2 := congrArg List.length HE8.out.1.2
      rw [List.length_map, h1] at h2
      have h3 := (PlanS.L HQ0.out).bikes
      omega
    have hnT : nT ≤ 100000 := by
      have h1 := HE8.out.2.1
      have h2 := congrArg List.length HE8.out.1.1
      rw [List.length_map, h1] at h2
      have h3 := (PlanS.L HQ0.out).trucks
      omega
    have HLB : Hid (∀ p ∈ ps, p.1.stops.length ≤ 100000) := Lib.hid (fun p hp => by
      have h1 : p.1 ∈ q0.bikes := by rw [← HE8.out.1.2]; exact List.mem_map_of_mem hp
      obtain ⟨j, hj, e⟩ := List.getElem_of_mem h1
      have h2 := stops_le hj
      rw [e] at h2
      have h3 := (PlanS.L HQ0.out).custs
      omega)
    have HLT : Hid (∀ p ∈ ts, p.1.length ≤ 100000) := Lib.hid (fun p hp => by
      have h1 : p.1 ∈ q0.trucks := by rw [← HE8.out.1.1]; exact List.mem_map_of_mem hp
      obtain ⟨j, hj, e⟩ := List.getElem_of_mem h1
      have h2 := flatten_le hj
      rw [e] at h2
      have h3 := (PlanS.L HQ0.out).stops
      omega)
    clear HE8
    go_loopw [57] (fun iv wr => ∃ (k : Nat) (qs : List (BikeV × Value)), k ≤ nB ∧ iv = .int .i64 k ∧ Hid (qs.length = nB ∧ ∀ p ∈ qs, p.1.stops.length ≤ 100000) ∧ SL w7 w7.heap.size ([.blk cb #[.slice TC nT c1, .slice BC nB c2] 30] ++ ((bikeN 46 3).own (.slice BC nB c2) qs ++ (truckN 49 54).own (.slice TC nT c1) ts)) wr) (fun iv _ => nB - (intOf iv).toNat)
    case atStart => exact ⟨0, ps, by omega, rfl, Lib.hid ⟨HQ9.out.1, HLB.out⟩, HS11.out⟩
    case round =>
      clear HS11 HLB
      obtain ⟨k, qs, hk, rfl, HQL, hS⟩ := hrel
      by_cases hlt : k < nB
      · as_aux_lemma =>
        have hkq : k < qs.length := by rw [HQL.out.1]; exact hlt
        obtain ⟨g, off, rfl⟩ := gn_addr hS HQL.out.1 (by omega)
        obtain ⟨a0, c0, hv0, _⟩ := gn_val hkq hS
        have d0 : wr.cell? ⟨g, off + k * 2, none⟩ = some (.int .i64 qs[k].1.sat) := gn_head (j := 0) (bikeN_ok _ _) HQL.out.1 hkq (by decide) rfl hS
        have d1 : wr.cell? ⟨g, off + k * 2 + 1, none⟩ = some qs[k].2 := gn_sl (bikeN_ok _ _) HQL.out.1 hkq hS
        rw [hv0] at d1
        have HV0 : Hid (qs[k].2 = .slice a0 (qs[k].1.stops.length) c0) := Lib.hid hv0
        have hLL := HQL.out.2 _ (List.getElem_mem hkq)
        replace d1 : wr.cell? ⟨g, off + k * 2 + 1, none⟩ = some (.slice a0 (qs[k].1.stops.length) c0) := d1
        obtain ⟨L, hL⟩ : ∃ n, qs[k].1.stops.length = n := ⟨_, rfl⟩
        obtain ⟨st, hst⟩ : ∃ n, qs[k].1.sat = n := ⟨_, rfl⟩
        rw [hL] at d1 HV0 hLL
        rw [hst] at d0
        have hS2 := hS.alloc #[.int .i64 st, .slice a0 L c0] 46
        have HS2 := Lib.hid hS2
        have HI : Hid (qs.length = nB ∧ (∀ p ∈ qs, p.1.stops.length ≤ 100000) ∧ ∀ h : k < qs.length, qs[k].2 = .slice a0 L c0 ∧ qs[k].1.stops.length = L) := Lib.hid ⟨HQL.out.1, HQL.out.2, fun _ => ⟨HV0.out, hL⟩⟩
        clear hS hS2 hv0 hL hst HV0 HQL
        go_upto_region 12 with fail
        obtain ⟨xb, hxb⟩ : ∃ b, wr.heap.size = b := ⟨_, rfl⟩
        rw [hxb] at HS2 ⊢
        obtain ⟨w2, hw2⟩ : ∃ w2, (wr.alloc (.cells #[.int .i64 st, .slice a0 L c0] 46)) = w2 := ⟨_, rfl⟩
        rw [hw2] at HS2 ⊢
        clear hw2 hxb d0 d1
        have y1 : w2.cell? ⟨xb, 1, none⟩ = some (.slice a0 L c0) := HS2.out.cell 0 rfl 1 rfl
        go_upto_region 13 with fail
        clear y1
        go_loopw [64] (fun iv wi => ∃ (j : Nat) (rs : List (BikeV × Value)), j ≤ L ∧ iv = .int .i64 j ∧ Hid (rs.length = nB ∧ (∀ p ∈ rs, p.1.stops.length ≤ 100000) ∧ ∀ h : k < rs.length, rs[k].2 = .slice a0 L c0 ∧ rs[k].1.stops.length = L) ∧ SL w7 w7.heap.size ([.blk xb #[.int .i64 st, .slice a0 L c0] 46, .blk cb #[.slice TC nT c1, .slice (some ⟨g, off, none⟩) nB c2] 30] ++ ((bikeN 46 3).own (.slice (some ⟨g, off, none⟩) nB c2) rs ++ (truckN 49 54).own (.slice TC nT c1) ts)) wi) (fun iv _ => L - (intOf iv).toNat)
        case atStart => exact ⟨0, qs, by omega, rfl, HI, HS2.out⟩
        case round =>
          clear HS2 HI
          obtain ⟨j, rs, hj, rfl, HI, hS⟩ := hrel
          by_cases hltj : j < L
          · have hkr : k < rs.length := by rw [HI.out.1]; exact hlt
            obtain ⟨gk, ok, rfl⟩ := gn_vaddr hkr hS (HI.out.2.2 hkr).1 (by show 0 < rs[k].1.stops.length; rw [(HI.out.2.2 hkr).2]; omega)
            have hrow := gn_row (N := (bikeN 46 3)) hkr (v := .slice (some ⟨g, off, none⟩) nB c2) [.blk xb #[.int .i64 st, .slice (some ⟨gk, ok, none⟩) L c0] 46, .blk cb #[.slice TC nT c1, .slice (some ⟨g, off, none⟩) nB c2] 30] ((truckN 49 54).own (.slice TC nT c1) ts) (HI.out.2.2 hkr).1
            change _ = some (Rs.row _ 1 _ rs[k].1.stops.length (rs[k].1.stops.map (.int .i64))) at hrow
            rw [(HI.out.2.2 hkr).2] at hrow
            have hjs : j < rs[k].1.stops.length := by rw [(HI.out.2.2 hkr).2]; exact hltj
            have e1 : wr.cell? ⟨gk, ok + j, none⟩ = some (.int .i64 rs[k].1.stops[j]) := hS.rowCell _ hrow j (by rw [List.getElem?_map, List.getElem?_eq_getElem hjs]; rfl)
            have e2 : wr.frozen? ⟨gk, ok + j, none⟩ = false := hS.rowFree _ hrow _ (by omega)
            have HS3 := Lib.hid (gn_put (bikeN_ok _ _) hkr (HI.out.2.2 hkr).1 (HI.out.2.2 hkr).2 (j := j) (by show j < L * 1; omega) (⟨rs[k].1.sat, rs[k].1.stops.set j 77⟩ : BikeV) (.int .i64 77) rfl (by show (rs[k].1.stops.set j 77).length = L; rw [List.length_set]; exact (HI.out.2.2 hkr).2) (by show (rs[k].1.stops.set j 77).map _ = (rs[k].1.stops.map _).set j _; rw [List.map_set]) hS)
            have HI2 : Hid ((rs.set k (⟨rs[k].1.sat, rs[k].1.stops.set j 77⟩, rs[k].2)).length = nB ∧ (∀ p ∈ rs.set k (⟨rs[k].1.sat, rs[k].1.stops.set j 77⟩, rs[k].2), p.1.stops.length ≤ 100000) ∧ ∀ h : k < (rs.set k (⟨rs[k].1.sat, rs[k].1.stops.set j 77⟩, rs[k].2)).length, (rs.set k (⟨rs[k].1.sat, rs[k].1.stops.set j 77⟩, rs[k].2))[k].2 = .slice (some ⟨gk, ok, none⟩) L c0 ∧ (rs.set k (⟨rs[k].1.sat, rs[k].1.stops.set j 77⟩, rs[k].2))[k].1.stops.length = L) := Lib.hid (by
              refine ⟨by rw [List.length_set]; exact HI.out.1, fun p hp => ?_, fun h => ?_⟩
              · rcases List.mem_or_eq_of_mem_set hp with hp | rfl
                · exact HI.out.2.1 p hp
                · show (rs[k].1.stops.set j 77).length ≤ 100000
                  rw [List.length_set]; exact HI.out.2.1 _ (List.getElem_mem hkr)
              · simp only [List.getElem_set_self, List.length_set]
                exact ⟨(HI.out.2.2 hkr).1, (HI.out.2.2 hkr).2⟩)
            have yx : wr.cell? ⟨xb, 1, none⟩ = some (.slice (some ⟨gk, ok, none⟩) L c0) := hS.cell 0 rfl 1 rfl
            clear hrow hS HI
            go_wp2_with fail
            go_roundw
            case rel => exact ⟨j + 1, _, by omega, by go_num, HI2, HS3.out⟩
            case measure => simp [intOf]; omega
          · obtain rfl : j = L := by omega
            have HS4 := Lib.hid hS.tail
            have HI4 : Hid (rs.length = nB ∧ ∀ p ∈ rs, p.1.stops.length ≤ 100000) := Lib.hid ⟨HI.out.1, HI.out.2.1⟩
            clear hS hltj HI
            go_wp2_with fail
            go_roundw
            case rel => exact ⟨k + 1, rs, by omega, by go_num, HI4, HS4.out⟩
            case measure => simp [intOf]; omega
      · obtain rfl : k = nB := by omega
        have HS12 : Hid (SL w7 w7.heap.size ([.blk cb #[.slice TC nT c1, .slice BC k c2] 30] ++ ((truckN 49 54).own (.slice TC nT c1) ts ++ [])) wr) := Lib.hid (by
          rw [List.append_nil]
          exact hS.sub (.cons_cons _ (List.sublist_append_right _ _)))
        clear hS hlt HQL
        have yd1 : wr.cell? ⟨cb, 0, none⟩ = some (.slice TC nT c1) := HS12.out.cell 0 rfl 0 rfl
        go_upto_region 19 with fail
        clear yd1
        obtain ⟨wo, rfl⟩ : ∃ wo : World, wo = wr := ⟨_, rfl⟩
        go_loopw [76] (fun iv wr => ∃ (i : Nat) (qs : List (List StopV × Value)), i ≤ nT ∧ iv = .int .i64 i ∧ Hid (qs.length = nT ∧ ∀ p ∈ qs, p.1.length ≤ 100000) ∧ SL w7 w7.heap.size ([.blk cb #[.slice TC nT c1, .slice BC k c2] 30] ++ ((truckN 49 54).own (.slice TC nT c1) qs ++ [])) wr) (fun iv _ => nT - (intOf iv).toNat)
        case atStart => exact ⟨0, ts, by omega, rfl, Lib.hid ⟨HQ9.out.2, HLT.out⟩, HS12.out⟩
        case round =>
          clear HS12 HLT
          obtain ⟨i, qs, hi, rfl, HQL, hS⟩ := hrel
          by_cases hlt : i < nT
          · as_aux_lemma =>
            have hkq : i < qs.length := by rw [HQL.out.1]; exact hlt
            obtain ⟨g, off, rfl⟩ := gn_addr hS HQL.out.1 (by omega)
            obtain ⟨a0, c0, hv0, _⟩ := gn_val hkq hS
            have d1 : wr.cell? ⟨g, off + i, none⟩ = some qs[i].2 := by
              have h := gn_sl (truckN_ok _ _) HQL.out.1 hkq hS
              change wr.cell? ⟨g, off + (i * 1 + 0), none⟩ = _ at h
              rw [Nat.mul_one, Nat.add_zero] at h
              exact h
            rw [hv0] at d1
            have HV0 : Hid (qs[i].2 = .slice a0 (qs[i].1.length) c0) := Lib.hid hv0
            have hLL := HQL.out.2 _ (List.getElem_mem hkq)
            replace d1 : wr.cell? ⟨g, off + i, none⟩ = some (.slice a0 (qs[i].1.length) c0) := d1
            obtain ⟨L, hL⟩ : ∃ n, qs[i].1.length = n := ⟨_, rfl⟩
            rw [hL] at d1 HV0 hLL
            have hS2 := hS.alloc #[.slice a0 L c0] 49
            have HS2 := Lib.hid hS2
            have HI : Hid (qs.length = nT ∧ (∀ p ∈ qs, p.1.length ≤ 100000) ∧ ∀ h : i < qs.length, qs[i].2 = .slice a0 L c0 ∧ qs[i].1.length = L) := Lib.hid ⟨HQL.out.1, HQL.out.2, fun _ => ⟨HV0.out, hL⟩⟩
            clear hS hS2 hv0 hL HV0 HQL
            go_upto_region 21 with fail
            obtain ⟨xb, hxb⟩ : ∃ b, wr.heap.size = b := ⟨_, rfl⟩
            rw [hxb] at HS2 ⊢
            obtain ⟨w2, hw2⟩ : ∃ w2, (wr.alloc (.cells #[.slice a0 L c0] 49)) = w2 := ⟨_, rfl⟩
            rw [hw2] at HS2 ⊢
            clear hw2 hxb d1
            have y1 : w2.cell? ⟨xb, 0, none⟩ = some (.slice a0 L c0) := HS2.out.cell 0 rfl 0 rfl
            go_upto_region 22 with fail
            clear y1
            go_loopw [83] (fun iv wi => ∃ (j : Nat) (rs : List (List StopV × Value)), j ≤ L ∧ iv = .int .i64 j ∧ Hid (rs.length = nT ∧ (∀ p ∈ rs, p.1.length ≤ 100000) ∧ ∀ h : i < rs.length, rs[i].2 = .slice a0 L c0 ∧ rs[i].1.length = L) ∧ SL w7 w7.heap.size ([.blk xb #[.slice a0 L c0] 49, .blk cb #[.slice (some ⟨g, off, none⟩) nT c1, .slice BC k c2] 30] ++ ((truckN 49 54).own (.slice (some ⟨g, off, none⟩) nT c1) rs ++ [])) wi) (fun iv _ => L - (intOf iv).toNat)
            case atStart => exact ⟨0, qs, by omega, rfl, HI, HS2.out⟩
            case round =>
              clear HS2 HI
              obtain ⟨j, rs, hj, rfl, HI, hS⟩ := hrel
              by_cases hltj : j < L
              · have hkr : i < rs.length := by rw [HI.out.1]; exact hlt
                obtain ⟨gk, ok, rfl⟩ := gn_vaddr hkr hS (HI.out.2.2 hkr).1 (by show 0 < rs[i].1.length; rw [(HI.out.2.2 hkr).2]; omega)
                have hrow := gn_row (N := (truckN 49 54)) hkr (v := .slice (some ⟨g, off, none⟩) nT c1) [.blk xb #[.slice (some ⟨gk, ok, none⟩) L c0] 49, .blk cb #[.slice (some ⟨g, off, none⟩) nT c1, .slice BC k c2] 30] [] (HI.out.2.2 hkr).1
                change _ = some (Rs.row _ 2 _ rs[i].1.length (rs[i].1.flatMap StopV.cells)) at hrow
                rw [(HI.out.2.2 hkr).2] at hrow
                have hjs : j < rs[i].1.length := by rw [(HI.out.2.2 hkr).2]; exact hltj
                have e1 : wr.cell? ⟨gk, ok + j * 2 + 1, none⟩ = some (.int .i64 rs[i].1[j].load) := hS.rowCell _ hrow (j * 2 + 1) (by rw [flat_get StopV.cells 2 StopV.cells_len _ j 1 hjs (by decide)]; rfl)
                have e2 : wr.frozen? ⟨gk, ok + j * 2 + 1, none⟩ = false := hS.rowFree _ hrow _ (by omega)
                have hlen : (rs[i].1.set j ⟨rs[i].1[j].sat, 77⟩).length = L := by rw [List.length_set]; exact (HI.out.2.2 hkr).2
                have HS3 := Lib.hid (gn_put (truckN_ok _ _) hkr (HI.out.2.2 hkr).1 (HI.out.2.2 hkr).2 (j := j * 2 + 1) (by show j * 2 + 1 < L * 2; omega) (rs[i].1.set j ⟨rs[i].1[j].sat, 77⟩) (.int .i64 77) rfl hlen (by show (rs[i].1.set j _).flatMap _ = (rs[i].1.flatMap _).set (j * 2 + 1) _; exact flat_set StopV.cells 2 StopV.cells_len rs[i].1 j 1 hjs ⟨rs[i].1[j].sat, 77⟩ (.int .i64 77) (by decide) rfl) hS)
                have HI2 : Hid ((rs.set i ((rs[i].1.set j ⟨rs[i].1[j].sat, 77⟩), rs[i].2)).length = nT ∧ (∀ p ∈ rs.set i ((rs[i].1.set j ⟨rs[i].1[j].sat, 77⟩), rs[i].2), p.1.length ≤ 100000) ∧ ∀ h : i < (rs.set i ((rs[i].1.set j ⟨rs[i].1[j].sat, 77⟩), rs[i].2)).length, (rs.set i ((rs[i].1.set j ⟨rs[i].1[j].sat, 77⟩), rs[i].2))[i].2 = .slice (some ⟨gk, ok, none⟩) L c0 ∧ (rs.set i ((rs[i].1.set j ⟨rs[i].1[j].sat, 77⟩), rs[i].2))[i].1.length = L) := Lib.hid (by
                  refine ⟨by rw [List.length_set]; exact HI.out.1, fun p hp => ?_, fun h => ?_⟩
                  · rcases List.mem_or_eq_of_mem_set hp with hp | rfl
                    · exact HI.out.2.1 p hp
                    · show (rs[i].1.set j ⟨rs[i].1[j].sat, 77⟩).length ≤ 100000
                      rw [List.length_set]; exact HI.out.2.1 _ (List.getElem_mem hkr)
                  · simp only [List.getElem_set_self, List.length_set]
                    exact ⟨(HI.out.2.2 hkr).1, (HI.out.2.2 hkr).2⟩)
                have yx : wr.cell? ⟨xb, 0, none⟩ = some (.slice (some ⟨gk, ok, none⟩) L c0) := hS.cell 0 rfl 0 rfl
                clear hrow hS HI hlen
                go_wp2_with fail
                go_roundw
                case rel => exact ⟨j + 1, _, by omega, by go_num, HI2, HS3.out⟩
                case measure => simp [intOf]; omega
              · obtain rfl : j = L := by omega
                have HS4 := Lib.hid hS.tail
                have HI4 : Hid (rs.length = nT ∧ ∀ p ∈ rs, p.1.length ≤ 100000) := Lib.hid ⟨HI.out.1, HI.out.2.1⟩
                clear hS hltj HI
                go_wp2_with fail
                go_roundw
                case rel => exact ⟨i + 1, rs, by omega, by go_num, HI4, HS4.out⟩
                case measure => simp [intOf]; omega
          · obtain rfl : i = nT := by omega
            have HBR := Lib.hid hS.below
            clear hS hlt HQL
            obtain ⟨sab, hsab⟩ : ∃ v, sameV q0 q = v := ⟨_, rfl⟩
            have HSA : Hid (∀ wx, Below w7.heap.size w7 wx → Calls Try.prog 42 #[.agg #[.slice TA q0.trucks.length tc, .slice BA q0.bikes.length bc], .agg #[.slice TB q.trucks.length td, .slice BB q.bikes.length bd]] wx fun e w' => e = .returned (.bool sab) ∧ Below wx.heap.size wx w') := Lib.hid (fun wx hb => by
              have h := psame_any TA BA TB BB tc bc td bd q0 q wx (planIn_more HA7.out hb) (planIn_more HB7.out hb) HXQ.out.1 HXQ.out.2
              rw [hsab] at h; exact h)
            have HSB : Hid (∀ wx, Below w7.heap.size w7 wx → Calls Try.prog 43 #[.agg #[.slice TA q0.trucks.length tc, .slice BA q0.bikes.length bc], .agg #[.slice TB q.trucks.length td, .slice BB q.bikes.length bd]] wx fun e w' => e = .returned (.bool sab) ∧ Below wx.heap.size wx w') := Lib.hid (fun wx hb => by
              have h := lsame_any TA BA TB BB tc bc td bd q0 q wx (planIn_more HA7.out hb) (planIn_more HB7.out hb) HXQ.out.1 HXQ.out.2
              rw [hsab] at h; exact h)
            clear hsab
            go_upto_region 27 with fail
            have hbr := HBR.out
            refine wp_region_ph [0, 1, 2, 3, 5, 4, 6, 7, 8, 9, 10, 11, 13, 14, 12, 15, 16, 17, 18, 19, 20, 22, 23, 21, 24, 25, 26] [27] [] (SL.start (W := wr) (Nat.le_refl _)) (List.Sublist.refl _) (by kernel_rfl) (by kernel_rfl) (.cons rfl .nil) (fun C cw _ hC w12 hS12 => ?_)
            have hbc : ∀ c, Below w7.heap.size w7 (cw c) := fun c => hbr.trans ((hC c).below.mono hbr.size)
            have qa0 : ∀ c, (cw c).cell? ⟨ab, 0, none⟩ = some (.slice TA q0.trucks.length tc) := fun c => by rw [cell_of_row _ _ _ _ _ _ (HXA.out _ (hbc c))]; rfl
            have qa1 : ∀ c, (cw c).cell? ⟨ab, 1, none⟩ = some (.slice BA q0.bikes.length bc) := fun c => by rw [cell_of_row _ _ _ _ _ _ (HXA.out _ (hbc c))]; rfl
            have qb0 : ∀ c, (cw c).cell? ⟨bb, 0, none⟩ = some (.slice TB q.trucks.length td) := fun c => by rw [cell_of_row _ _ _ _ _ _ (HXB.out _ (hbc c))]; rfl
            have qb1 : ∀ c, (cw c).cell? ⟨bb, 1, none⟩ = some (.slice BB q.bikes.length bd) := fun c => by rw [cell_of_row _ _ _ _ _ _ (HXB.out _ (hbc c))]; rfl
            have qp0 : ∀ c, (cw c).cell? ⟨pb, 0, none⟩ = some (.slice T1 n1 tc1) := fun c => by rw [cell_of_row _ _ _ _ _ _ (HXPB.out _ (hbc c))]; rfl
            have qp1 : ∀ c, (cw c).cell? ⟨pb, 1, none⟩ = some (.slice B1 m1 bc1) := fun c => by rw [cell_of_row _ _ _ _ _ _ (HXPB.out _ (hbc c))]; rfl
            have qq0 : ∀ c, (cw c).cell? ⟨qb, 0, none⟩ = some (.slice T2 n2 tc2) := fun c => by rw [cell_of_row _ _ _ _ _ _ (HXQB.out _ (hbc c))]; rfl
            have qq1 : ∀ c, (cw c).cell? ⟨qb, 1, none⟩ = some (.slice B2 m2 bc2) := fun c => by rw [cell_of_row _ _ _ _ _ _ (HXQB.out _ (hbc c))]; rfl
            have qw0 : ∀ c, (cw c).cell? ⟨wb, 0, none⟩ = some (.slice a.SA u.sats.length a.sc) := fun c => by rw [cell_of_row _ _ _ _ _ _ (HXW.out _ (hbc c))]; rfl
            have qw1 : ∀ c, (cw c).cell? ⟨wb, 1, none⟩ = some (.slice a.OA u.order.length a.oc) := fun c => by rw [cell_of_row _ _ _ _ _ _ (HXW.out _ (hbc c))]; rfl
            have qw2 : ∀ c, (cw c).cell? ⟨wb, 2, none⟩ = some (.slice a.CA u.cuts.length a.cc) := fun c => by rw [cell_of_row _ _ _ _ _ _ (HXW.out _ (hbc c))]; rfl
            have qs0 : ∀ c, (cw c).cell? ⟨sb, 0, none⟩ = some (.int .u8 s.fin) := fun c => by rw [cell_of_row _ _ _ _ _ _ (HXS.out _ (hbc c))]; rfl
            have qs1 : ∀ c, (cw c).cell? ⟨sb, 1, none⟩ = some (.int .u8 s.trucks) := fun c => by rw [cell_of_row _ _ _ _ _ _ (HXS.out _ (hbc c))]; rfl
            have qs2 : ∀ c, (cw c).cell? ⟨sb, 2, none⟩ = some (.int .u8 s.troom) := fun c => by rw [cell_of_row _ _ _ _ _ _ (HXS.out _ (hbc c))]; rfl
            have qs3 : ∀ c, (cw c).cell? ⟨sb, 3, none⟩ = some (.int .u8 s.bikes) := fun c => by rw [cell_of_row _ _ _ _ _ _ (HXS.out _ (hbc c))]; rfl
            have qs4 : ∀ c, (cw c).cell? ⟨sb, 4, none⟩ = some (.int .u8 s.broom) := fun c => by rw [cell_of_row _ _ _ _ _ _ (HXS.out _ (hbc c))]; rfl
            have qs5 : ∀ c, (cw c).cell? ⟨sb, 5, none⟩ = some (.slice sp.SA s.sats.length sp.sc) := fun c => by rw [cell_of_row _ _ _ _ _ _ (HXS.out _ (hbc c))]; rfl
            have qs6 : ∀ c, (cw c).cell? ⟨sb, 6, none⟩ = some (.slice sp.CA s.custs.length sp.cc) := fun c => by rw [cell_of_row _ _ _ _ _ _ (HXS.out _ (hbc c))]; rfl
            have qs7 : ∀ c, (cw c).cell? ⟨sb, 7, none⟩ = some (.slice sp.KA s.cost.length sp.kc) := fun c => by rw [cell_of_row _ _ _ _ _ _ (HXS.out _ (hbc c))]; rfl
            have qs8 : ∀ c, (cw c).cell? ⟨sb, 8, none⟩ = some (.slice sp.TA s.time.length sp.tc) := fun c => by rw [cell_of_row _ _ _ _ _ _ (HXS.out _ (hbc c))]; rfl
            have qs9 : ∀ c, (cw c).cell? ⟨sb, 9, none⟩ = some (.bool s.tight) := fun c => by rw [cell_of_row _ _ _ _ _ _ (HXS.out _ (hbc c))]; rfl
            have qs10 : ∀ c, (cw c).cell? ⟨sb, 10, none⟩ = some (.bool s.loose) := fun c => by rw [cell_of_row _ _ _ _ _ _ (HXS.out _ (hbc c))]; rfl
            have hk := hS12
            have hb := hbr.trans (hS12.below.mono hbr.size)
            refine ph_look 0 rfl (by kernel_rfl) rfl (by kernel_rfl) rfl rfl (fun Kv hK => ?_); go_big_quiet_op; refine hK _ ?_; clear hK Kv
            refine ph_look 1 rfl (by kernel_rfl) rfl (by kernel_rfl) rfl rfl (fun Kv hK => ?_); go_big_quiet_op; refine hK _ ?_; clear hK Kv
            refine ph_look 2 rfl (by kernel_rfl) rfl (by kernel_rfl) rfl rfl (fun Kv hK => ?_); go_big_quiet_op; refine hK _ ?_; clear hK Kv
            refine ph_look 3 rfl (by kernel_rfl) rfl (by kernel_rfl) rfl rfl (fun Kv hK => ?_); go_big_quiet_op; refine hK _ ?_; clear hK Kv
            refine ph_look 5 rfl (by kernel_rfl) rfl (by kernel_rfl) rfl rfl (fun Kv hK => ?_); go_big_quiet_op; refine hK _ ?_; clear hK Kv
            refine ph_eff 4 rfl (by kernel_rfl) rfl rfl (fun Kv hK => ?_)
            go_simp
            refine eff_call (HXM.out _ (HB0.out.trans (hb.mono HB0.out.size))) (fun e w13 h => ?_)
            obtain ⟨p, hk0, ht0, rfl, hl1, hl2, hq⟩ := h
            have hk := hk.call hq.below
            have hI := (made_in hl1 hl2 hq).1
            have hb := hb.trans (hq.below.mono (hb.size))
            refine .inl ⟨_, rfl, hk, hK _ _ ?_⟩
            clear hK Kv
            unfold InstV.cells
            refine ph_eff 6 rfl (by kernel_rfl) rfl rfl (fun Kv hK => ?_)
            go_simp
            refine eff_call (HDR.out p _ (HB0.out.trans (hb.mono HB0.out.size)) hI) (fun e w14 h => ?_)
            have h2 := draft_read h
            obtain ⟨TD, td2, BD, bd2, rfl, hP14, hT14, hb14⟩ := h2
            have hk := hk.call hb14
            have hb := hb.trans (hb14.mono (hb.size))
            clear h
            refine .inl ⟨_, rfl, hk, hK _ _ ?_⟩
            clear hK Kv
            have HL14 := lsame_any TA BA TD BD tc bc td2 bd2 q0 q0 w14 (planIn_more HA7.out hb) hP14 HXQ.out.1 HXQ.out.1
            rw [sameV_true rfl] at HL14
            refine ph_eff 7 rfl (by kernel_rfl) rfl rfl (fun Kv hK => ?_)
            go_simp
            refine eff_call (HL14) (fun e w15 h => ?_)
            obtain ⟨rfl, hb15⟩ := h
            have hk := hk.call hb15
            have hb := hb.trans (hb15.mono (hb.size))
            refine .inl ⟨_, rfl, hk, hK _ _ ?_⟩
            clear hK Kv
            refine ph_look 8 rfl (by kernel_rfl) rfl (by kernel_rfl) rfl rfl (fun Kv hK => ?_); go_big_quiet_op; refine hK _ ?_; clear hK Kv
            refine ph_look 9 rfl (by kernel_rfl) rfl (by kernel_rfl) rfl rfl (fun Kv hK => ?_); go_big_quiet_op; refine hK _ ?_; clear hK Kv
            refine ph_look 10 rfl (by kernel_rfl) rfl (by kernel_rfl) rfl rfl (fun Kv hK => ?_); go_big_quiet_op; refine hK _ ?_; clear hK Kv
            refine ph_look 11 rfl (by kernel_rfl) rfl (by kernel_rfl) rfl rfl (fun Kv hK => ?_); go_big_quiet_op; refine hK _ ?_; clear hK Kv
            refine ph_look 13 rfl (by kernel_rfl) rfl (by kernel_rfl) rfl rfl (fun Kv hK => ?_); go_big_quiet_op; refine hK _ ?_; clear hK Kv
            refine ph_look 14 rfl (by kernel_rfl) rfl (by kernel_rfl) rfl rfl (fun Kv hK => ?_); go_big_quiet_op; refine hK _ ?_; clear hK Kv
            refine ph_eff 12 rfl (by kernel_rfl) rfl rfl (fun Kv hK => ?_)
            go_simp
            refine eff_call (HSP.out _ (HB0.out.trans (hb.mono HB0.out.size))) (fun e w16 h => ?_)
            obtain ⟨rfl, hb16⟩ := h
            have hk := hk.call hb16
            have hb := hb.trans (hb16.mono (hb.size))
            refine .inl ⟨_, rfl, hk, hK _ _ ?_⟩
            clear hK Kv
            refine ph_eff 15 rfl (by kernel_rfl) rfl rfl (fun Kv hK => ?_)
            go_simp
            refine eff_call (HSL.out _ (HB0.out.trans (hb.mono HB0.out.size))) (fun e w17 h => ?_)
            obtain ⟨rfl, hb17⟩ := h
            have hk := hk.call hb17
            have hb := hb.trans (hb17.mono (hb.size))
            refine .inl ⟨_, rfl, hk, hK _ _ ?_⟩
            clear hK Kv
            refine ph_look 16 rfl (by kernel_rfl) rfl (by kernel_rfl) rfl rfl (fun Kv hK => ?_); go_big_quiet_op; refine hK _ ?_; clear hK Kv
            refine ph_look 17 rfl (by kernel_rfl) rfl (by kernel_rfl) rfl rfl (fun Kv hK => ?_); go_big_quiet_op; refine hK _ ?_; clear hK Kv
            refine ph_look 18 rfl (by kernel_rfl) rfl (by kernel_rfl) rfl rfl (fun Kv hK => ?_); go_big_quiet_op; refine hK _ ?_; clear hK Kv
            refine ph_look 19 rfl (by kernel_rfl) rfl (by kernel_rfl) rfl rfl (fun Kv hK => ?_); go_big_quiet_op; refine hK _ ?_; clear hK Kv
            refine ph_look 20 rfl (by kernel_rfl) rfl (by kernel_rfl) rfl rfl (fun Kv hK => ?_); go_big_quiet_op; refine hK _ ?_; clear hK Kv
            refine ph_look 22 rfl (by kernel_rfl) rfl (by kernel_rfl) rfl rfl (fun Kv hK => ?_); go_big_quiet_op; refine hK _ ?_; clear hK Kv
            refine ph_look 23 rfl (by kernel_rfl) rfl (by kernel_rfl) rfl rfl (fun Kv hK => ?_); go_big_quiet_op; refine hK _ ?_; clear hK Kv
            refine ph_eff 21 rfl (by kernel_rfl) rfl rfl (fun Kv hK => ?_)
            go_simp
            refine eff_call (HSA.out _ hb) (fun e w18 h => ?_)
            obtain ⟨rfl, hb18⟩ := h
            have hk := hk.call hb18
            have hb := hb.trans (hb18.mono (hb.size))
            refine .inl ⟨_, rfl, hk, hK _ _ ?_⟩
            clear hK Kv
            refine ph_eff 24 rfl (by kernel_rfl) rfl rfl (fun Kv hK => ?_)
            go_simp
            refine eff_call (HSB.out _ hb) (fun e w19 h => ?_)
            obtain ⟨rfl, hb19⟩ := h
            have hk := hk.call hb19
            have hb := hb.trans (hb19.mono (hb.size))
            refine .inl ⟨_, rfl, hk, hK _ _ ?_⟩
            clear hK Kv
            refine ph_look 25 rfl (by kernel_rfl) rfl (by kernel_rfl) rfl rfl (fun Kv hK => ?_); go_big_quiet_op; refine hK _ ?_; clear hK Kv
            refine ph_look 26 rfl (by kernel_rfl) rfl (by kernel_rfl) rfl rfl (fun Kv hK => ?_); go_big_quiet_op; refine hK _ ?_; clear hK Kv
            refine ph_end (by kernel_rfl) ?_
            have HBZ := Lib.hid (HB0.out.trans (hb.mono HB0.out.size))
            clear hb hk hC hbc
            go_wp2_with fail
            go_ret
            exact ⟨retBool (by simp), HBZ.out⟩
theorem u8_wf9 {n : Int} (h : (Lit.int .u8 n).wf = true) : 0 ≤ n ∧ n ≤ 255 := by
  simp [Lit.wf, IntKind.min, IntKind.max, IntKind.signed, IntKind.bits] at h; omega
theorem i8_wf9 {n : Int} (h : (Lit.int .i8 n).wf = true) : -128 ≤ n ∧ n ≤ 127 := by
  simp [Lit.wf, IntKind.min, IntKind.max, IntKind.signed, IntKind.bits] at h; omega
set_option maxRecDepth 100000 in
theorem planSames_walk {H : Type} {enc : TypeId × Value → H} {base : Nat} (W : World) (v0 : Value) (d0 : DataW H) (p0 : List MemPlace) (o0 : Value.okWide Try.prog W .any base 30 v0) (k0 : DataW.Trod enc Try.prog W 0 (fun _ => true) true 30 v0 d0 p0)
    (v1 : Value) (d1 : DataW H) (p1 : List MemPlace) (o1 : Value.okWide Try.prog W .any base 30 v1) (k1 : DataW.Trod enc Try.prog W 0 (fun _ => true) true 30 v1 d1 p1)
    (v2 : Value) (d2 : DataW H) (p2 : List MemPlace) (o2 : Value.okWide Try.prog W .any base 26 v2) (k2 : DataW.Trod enc Try.prog W 0 (fun _ => true) true 26 v2 d2 p2)
    (v3 : Value) (d3 : DataW H) (p3 : List MemPlace) (o3 : Value.okWide Try.prog W .any base 83 v3) (k3 : DataW.Trod enc Try.prog W 0 (fun _ => true) true 83 v3 d3 p3) (what : Int) (hw : (Lit.int .u8 what).wf = true) (at_ : Int) (ha : (Lit.int .u8 at_).wf = true) (by_ : Int) (hb : (Lit.int .i8 by_).wf = true) :
    Calls Try.prog 13 #[v0, v1, v2, v3, .int .u8 what, .int .u8 at_, .int .i8 by_] W fun e w' => e = .returned (.bool true) ∧ Below W.heap.size W w' := by
  obtain ⟨T1, B1, tc1, bc1, q1, rfl, hT1, hB1, hl1, hl2, _⟩ := plan_openD o0 k0
  obtain ⟨T2, B2, tc2, bc2, q2, rfl, hT2, hB2, hl3, hl4, _⟩ := plan_openD o1 k1
  obtain ⟨sp, s, rfl, hI, hl, hok⟩ := small_open o2 k2
  obtain ⟨a, u, rfl, hW, hu, hul⟩ := wish_open o3 k3
  exact planSames_any T1 B1 T2 B2 tc1 bc1 tc2 bc2 q1 q2 sp s a u what at_ by_ W ⟨hT1.plain, hB1.plain⟩ ⟨hT2.plain, hB2.plain⟩ ⟨hl1, hl2⟩ ⟨hl3, hl4⟩ hI hl hok hW hu hul (u8_wf9 hw) (u8_wf9 ha) (i8_wf9 hb)
end Go.Proofs.Ytjpejclfppbboaa
