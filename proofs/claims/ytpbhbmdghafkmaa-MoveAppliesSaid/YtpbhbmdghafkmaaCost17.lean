/- The walk of plan.Cost. (printed by gen/cost17.py) -/
import Derived.Test.YtpbhbmdghafkmaaNodes17
namespace Go.Proofs.Ytpbhbmdghafkmaa
open Go.ChangeShapes Go.WideShapes Go.ChangeAt Go.RowKit
set_option linter.unusedVariables false
def costT (x : InstV) (ts : List (List StopV)) (k : Nat) : Int := ((ts.take k).map fun t => wayOf x (truckNodes t t.length)).sum
def costB (x : InstV) (bs : List BikeV) (k : Nat) : Int := ((bs.take k).map fun b => wayOf x (bikeNodes x.sats.length b b.stops.length)).sum
def planCost (x : InstV) (q : PlanV) : Int := costT x q.trucks q.trucks.length + costB x q.bikes q.bikes.length
theorem wayOf_in {x : InstV} (h : x.Small) {l : List Int} (hl : l.length ≤ 100001) : 0 ≤ wayOf x l ∧ wayOf x l ≤ 3000030 := by
  unfold wayOf
  split
  · have := stepsK_in h l l.length; omega
  · omega
theorem costT_succ {x : InstV} {ts : List (List StopV)} {k : Nat} (h : k < ts.length) : costT x ts (k + 1) = costT x ts k + wayOf x (truckNodes ts[k] ts[k].length) := by
  unfold costT
  rw [List.take_succ_eq_append_getElem h, List.map_append, List.sum_append]
  simp
theorem costB_succ {x : InstV} {bs : List BikeV} {k : Nat} (h : k < bs.length) : costB x bs (k + 1) = costB x bs k + wayOf x (bikeNodes x.sats.length bs[k] bs[k].stops.length) := by
  unfold costB
  rw [List.take_succ_eq_append_getElem h, List.map_append, List.sum_append]
  simp
theorem costT_in {x : InstV} (hx : x.Small) {ts : List (List StopV)} (hl : ts.flatten.length ≤ 100000) {k : Nat} (h : k ≤ ts.length) : 0 ≤ costT x ts k ∧ costT x ts k ≤ 3000030 * k := by
  induction k with
  | zero => simp [costT]
  | succ k ih =>
    rw [costT_succ (by omega)]
    have h1 := ih (by omega)
    have h2 := flatten_le (ts := ts) (k := k) (by omega)
    have h3 := wayOf_in hx (l := truckNodes ts[k] ts[k].length) (by simp [truckNodes]; omega)
    omega
theorem costB_in {x : InstV} (hx : x.Small) {bs : List BikeV} (hl : (allStops bs).length ≤ 100000) {k : Nat} (h : k ≤ bs.length) : 0 ≤ costB x bs k ∧ costB x bs k ≤ 3000030 * k := by
  induction k with
  | zero => simp [costB]
  | succ k ih =>
    rw [costB_succ (by omega)]
    have h1 := ih (by omega)
    have h2 := stops_le (bs := bs) (k := k) (by omega)
    have h3 := wayOf_in hx (l := bikeNodes x.sats.length bs[k] bs[k].stops.length) (by simp [bikeNodes]; omega)
    omega
def CostPost (w : World) (x : InstV) (q : PlanV) (e : Ending) (w' : World) : Prop :=
  e = .returned (.tuple #[.int .i64 (if planCode x q = 0 then planCost x q else 0), .int .i64 (planCode x q)]) ∧ Below w.heap.size w w'
set_option maxRecDepth 100000 in
set_option maxHeartbeats 8000000 in
theorem planCost_any (x : InstV) (p : IAt) (TA BA : Option Addr) (tc bc : Nat) (q : PlanV) (w : World) (hI : InstIn w w.heap.size p x) (hP : PlanIn w w.heap.size TA BA q) (hx : x.Small) (hL : PlanL q) :
    Calls Try.prog 27 #[.agg (x.cells p), .agg #[.slice TA q.trucks.length tc, .slice BA q.bikes.length bc]] w (CostPost w x q) := by
  have HP := Lib.hid hP
  have HX := Lib.hid hx
  have HL := Lib.hid hL
  have hlt := hL.trucks
  have hlb := hL.bikes
  obtain ⟨cd, hcd⟩ : ∃ cd, planCode x q = cd := ⟨_, rfl⟩
  have HCK : Hid (∀ wx, Below w.heap.size w wx → Calls Try.prog 55 #[.agg #[.int .i64 x.fin, .int .i64 x.tm, .int .i64 x.tr, .int .i64 x.bm, .int .i64 x.br, .slice p.SA x.sats.length p.sc, .slice p.CA x.custs.length p.cc, .slice p.KA x.cost.length p.kc, .slice p.TA x.time.length p.tc], .agg #[.slice TA q.trucks.length tc, .slice BA q.bikes.length bc]] wx fun e w' => e = .returned (.int .i64 cd) ∧ Below wx.heap.size wx w') := Lib.hid (fun wx hb => by
    rw [← hcd]
    exact planCheck_any x p TA BA tc bc q wx (hI.at_ hb) ⟨hP.trucks.at_ hb, hP.bikes.at_ hb⟩ hx hL)
  have HWY : Hid (∀ A c l wx, Below w.heap.size w wx → IntsAt wx wx.heap.size A l → l.length ≤ 100001 → Calls Try.prog 48 #[.agg #[.int .i64 x.fin, .int .i64 x.tm, .int .i64 x.tr, .int .i64 x.bm, .int .i64 x.br, .slice p.SA x.sats.length p.sc, .slice p.CA x.custs.length p.cc, .slice p.KA x.cost.length p.kc, .slice p.TA x.time.length p.tc], .slice A l.length c] wx fun e w' => e = .returned (.int .i64 (wayOf x l)) ∧ Below wx.heap.size wx w') := Lib.hid (fun A c l wx hb hr hl => way_any x p A c l wx (hI.at_ hb) hx hr hl)
  have HTN : Hid (∀ A c t wx, Stops wx wx.heap.size A t → t.length ≤ 100000 → Calls Try.prog 56 #[.agg #[.slice A t.length c], .agg #[.int .i64 x.fin, .int .i64 x.tm, .int .i64 x.tr, .int .i64 x.bm, .int .i64 x.br, .slice p.SA x.sats.length p.sc, .slice p.CA x.custs.length p.cc, .slice p.KA x.cost.length p.kc, .slice p.TA x.time.length p.tc]] wx (ListPost wx (truckNodes t t.length))) := Lib.hid (fun A c t wx hr hl => truckNodes_any x p A c t wx hx hr hl)
  have HBN : Hid (∀ A c (b : BikeV) wx, IntsAt wx wx.heap.size A b.stops → b.stops.length ≤ 100000 → Calls Try.prog 49 #[.agg #[.int .i64 b.sat, .slice A b.stops.length c], .agg #[.int .i64 x.fin, .int .i64 x.tm, .int .i64 x.tr, .int .i64 x.bm, .int .i64 x.br, .slice p.SA x.sats.length p.sc, .slice p.CA x.custs.length p.cc, .slice p.KA x.cost.length p.kc, .slice p.TA x.time.length p.tc]] wx (ListPost wx (bikeNodes x.sats.length b b.stops.length))) := Lib.hid (fun A c b wx hr hl => bikeNodes_any x p A c b wx hx hr hl)
  have hS0 := ((SL.start (Nat.le_refl w.heap.size)).alloc (x.cells p) 58).alloc #[.slice TA q.trucks.length tc, .slice BA q.bikes.length bc] 39
  have HS0 := Lib.hid hS0
  have HCD := Lib.hid hcd
  unfold CostPost
  rw [hcd]
  have HPCO : Hid (planCost x q = costT x q.trucks q.trucks.length + costB x q.bikes q.bikes.length) := Lib.hid rfl
  obtain ⟨pco, hpco⟩ : ∃ pco, planCost x q = pco := ⟨_, rfl⟩
  rw [hpco] at HPCO ⊢
  clear hI hP hx hL hS0 hcd hpco
  unfold InstV.cells
  by_cases hc0 : cd = 0
  case neg =>
    have hcb : (cd != 0) = true := by simpa using hc0
    have HIF : Hid ((if cd = 0 then pco else 0) = 0) := Lib.hid (if_neg hc0)
    obtain ⟨rv, hrv⟩ : ∃ rv, (if cd = 0 then pco else 0) = rv := ⟨_, rfl⟩
    rw [hrv] at HIF ⊢
    clear hc0 hrv
    go_enter Try.func27, Try.ntmps27
    go_wp2_with (go_at_call 55; (with_reducible refine (HCK.out _ (by have h := HS0.out.below; unfold InstV.cells at h; exact h)).mono ?_); rintro e w2 ⟨rfl, hb⟩
                 have HB2 := Lib.hid (by have h := HS0.out.call (by unfold InstV.cells; exact hb); exact h.below)
                 clear hb)
    go_ret2
    exact ⟨by rw [HIF.out]; rfl, HB2.out⟩
  case pos =>
  subst hc0
  rw [if_pos rfl]
  go_enter Try.func27, Try.ntmps27
  go_upto_region 1 with fail
  obtain ⟨ib, hib⟩ : ∃ ib, ib = w.heap.size := ⟨_, rfl⟩
  obtain ⟨pb, hpb⟩ : ∃ pb, pb = w.heap.size + 1 := ⟨_, rfl⟩
  obtain ⟨pc, hpc⟩ : ∃ pc : Array Value, pc = #[.slice TA q.trucks.length tc, .slice BA q.bikes.length bc] := ⟨_, rfl⟩
  obtain ⟨ic, hic⟩ : ∃ ic : Array Value, ic = #[.int .i64 x.fin, .int .i64 x.tm, .int .i64 x.tr, .int .i64 x.bm, .int .i64 x.br, .slice p.SA x.sats.length p.sc, .slice p.CA x.custs.length p.cc, .slice p.KA x.cost.length p.kc, .slice p.TA x.time.length p.tc] := ⟨_, rfl⟩
  have HPC := Lib.hid hpc
  have HIC := Lib.hid hic
  have HS1 : Hid (SL w w.heap.size [.blk pb pc 39, .blk ib ic 58] ((w.alloc (.cells #[.int .i64 x.fin, .int .i64 x.tm, .int .i64 x.tr, .int .i64 x.bm, .int .i64 x.br, .slice p.SA x.sats.length p.sc, .slice p.CA x.custs.length p.cc, .slice p.KA x.cost.length p.kc, .slice p.TA x.time.length p.tc] 58)).alloc (.cells #[.slice TA q.trucks.length tc, .slice BA q.bikes.length bc] 39))) := Lib.hid (by
    have h := HS0.out
    unfold InstV.cells at h
    rw [hib, hpb, hpc, hic]
    simpa using h)
  rw [← hpb, ← hib]
  clear hpb hib HS0 hpc hic
  generalize ((w.alloc (.cells #[.int .i64 x.fin, .int .i64 x.tm, .int .i64 x.tr, .int .i64 x.bm, .int .i64 x.br, .slice p.SA x.sats.length p.sc, .slice p.CA x.custs.length p.cc, .slice p.KA x.cost.length p.kc, .slice p.TA x.time.length p.tc] 58)).alloc (.cells #[.slice TA q.trucks.length tc, .slice BA q.bikes.length bc] 39)) = w1 at *
  have hS1 := HS1.out
  have a0 : w1.cell? ⟨ib, 0, none⟩ = some (.int .i64 x.fin) := hS1.cell 1 rfl 0 (by rw [HIC.out]; rfl)
  have a1 : w1.cell? ⟨ib, 1, none⟩ = some (.int .i64 x.tm) := hS1.cell 1 rfl 1 (by rw [HIC.out]; rfl)
  have a2 : w1.cell? ⟨ib, 2, none⟩ = some (.int .i64 x.tr) := hS1.cell 1 rfl 2 (by rw [HIC.out]; rfl)
  have a3 : w1.cell? ⟨ib, 3, none⟩ = some (.int .i64 x.bm) := hS1.cell 1 rfl 3 (by rw [HIC.out]; rfl)
  have a4 : w1.cell? ⟨ib, 4, none⟩ = some (.int .i64 x.br) := hS1.cell 1 rfl 4 (by rw [HIC.out]; rfl)
  have a5 : w1.cell? ⟨ib, 5, none⟩ = some (.slice p.SA x.sats.length p.sc) := hS1.cell 1 rfl 5 (by rw [HIC.out]; rfl)
  have a6 : w1.cell? ⟨ib, 6, none⟩ = some (.slice p.CA x.custs.length p.cc) := hS1.cell 1 rfl 6 (by rw [HIC.out]; rfl)
  have a7 : w1.cell? ⟨ib, 7, none⟩ = some (.slice p.KA x.cost.length p.kc) := hS1.cell 1 rfl 7 (by rw [HIC.out]; rfl)
  have a8 : w1.cell? ⟨ib, 8, none⟩ = some (.slice p.TA x.time.length p.tc) := hS1.cell 1 rfl 8 (by rw [HIC.out]; rfl)
  have ap0 : w1.cell? ⟨pb, 0, none⟩ = some (.slice TA q.trucks.length tc) := hS1.cell 0 rfl 0 (by rw [HPC.out]; rfl)
  have ap1 : w1.cell? ⟨pb, 1, none⟩ = some (.slice BA q.bikes.length bc) := hS1.cell 0 rfl 1 (by rw [HPC.out]; rfl)
  clear hS1
  go_upto_region 5 with (go_at_call 55; (with_reducible refine (HCK.out _ HS1.out.below).mono ?_); rintro e w2 ⟨rfl, hb⟩
                         have HS2 := Lib.hid (HS1.out.call hb)
                         clear hb a0 a1 a2 a3 a4 a5 a6 a7 a8 ap0 ap1)
  clear HS1 HCK HCD
  have bp0 : w2.cell? ⟨pb, 0, none⟩ = some (.slice TA q.trucks.length tc) := HS2.out.cell 0 rfl 0 (by rw [HPC.out]; rfl)
  go_wp2_with fail
  clear bp0
  go_loopw [21, 7] (fun i v7 wr => ∃ k : Nat, k ≤ q.trucks.length ∧ i = .int .i64 k ∧ v7 = .int .i64 (costT x q.trucks k) ∧ SL w w.heap.size [.blk pb pc 39, .blk ib ic 58] wr) (fun i _ _ => q.trucks.length - (intOf i).toNat)
  case atStart => exact ⟨0, by omega, rfl, rfl, HS2.out⟩
  case round =>
    clear HS2
    obtain ⟨k, hk, rfl, rfl, hS⟩ := hrel
    by_cases hlt2 : k < q.trucks.length
    · obtain ⟨b, o, a, c, hTA, hb, d00, hst⟩ := trucks_at HP.out.trucks hlt2
      have d0 := (hS.below.cell (p := ⟨b, o + k, none⟩) hb).trans d00
      have htl : q.trucks[k].length ≤ 100000 := by have := flatten_le hlt2; have := HL.out.stops; omega
      have HCS := Lib.hid (costT_succ (x := x) hlt2)
      have hcb := costT_in HX.out HL.out.stops hk
      have hwb := wayOf_in HX.out (l := truckNodes q.trucks[k] q.trucks[k].length) (by simp [truckNodes]; omega)
      obtain ⟨t, ht⟩ : ∃ t, q.trucks[k] = t := ⟨_, rfl⟩
      rw [ht] at d0 hst htl HCS hwb
      obtain ⟨wv, hwv⟩ : ∃ wv, wayOf x (truckNodes t t.length) = wv := ⟨_, rfl⟩
      have HWV := Lib.hid hwv
      rw [hwv] at HCS hwb
      obtain ⟨ct, hct⟩ : ∃ ct, costT x q.trucks k = ct := ⟨_, rfl⟩
      rw [hct] at HCS hcb ⊢
      obtain ⟨cb0, cb1⟩ := hcb
      obtain ⟨wb0, wb1⟩ := hwb
      have hS2 := hS.alloc #[.slice a t.length c] 88
      have HST := Lib.hid hst
      have HS2 := Lib.hid hS2
      rw [hTA]
      clear ht hst hS hS2 hTA d00 hwv hct
      go_upto_region 8 with fail
      obtain ⟨tb, htb⟩ : ∃ tb, tb = wr.heap.size := ⟨_, rfl⟩
      generalize (wr.alloc (.cells #[.slice a t.length c] 88)) = w3 at *
      rw [← htb] at HS2 ⊢
      clear htb d0 hb
      refine wp_region_sl [0,1,2,3] [4,5] [6,7] _ HS2.out (List.Sublist.refl _) (by kernel_rfl) (by kernel_rfl) (.cons rfl (.cons rfl .nil)) (fun C cw _ hC => ?_)
      have q0 : ∀ c, (cw c).cell? ⟨ib, 0, none⟩ = some (.int .i64 x.fin) := fun c => (hC c).cell 2 rfl 0 (by rw [HIC.out]; rfl)
      have q1 : ∀ c, (cw c).cell? ⟨ib, 1, none⟩ = some (.int .i64 x.tm) := fun c => (hC c).cell 2 rfl 1 (by rw [HIC.out]; rfl)
      have q2 : ∀ c, (cw c).cell? ⟨ib, 2, none⟩ = some (.int .i64 x.tr) := fun c => (hC c).cell 2 rfl 2 (by rw [HIC.out]; rfl)
      have q3 : ∀ c, (cw c).cell? ⟨ib, 3, none⟩ = some (.int .i64 x.bm) := fun c => (hC c).cell 2 rfl 3 (by rw [HIC.out]; rfl)
      have q4 : ∀ c, (cw c).cell? ⟨ib, 4, none⟩ = some (.int .i64 x.br) := fun c => (hC c).cell 2 rfl 4 (by rw [HIC.out]; rfl)
      have q5 : ∀ c, (cw c).cell? ⟨ib, 5, none⟩ = some (.slice p.SA x.sats.length p.sc) := fun c => (hC c).cell 2 rfl 5 (by rw [HIC.out]; rfl)
      have q6 : ∀ c, (cw c).cell? ⟨ib, 6, none⟩ = some (.slice p.CA x.custs.length p.cc) := fun c => (hC c).cell 2 rfl 6 (by rw [HIC.out]; rfl)
      have q7 : ∀ c, (cw c).cell? ⟨ib, 7, none⟩ = some (.slice p.KA x.cost.length p.kc) := fun c => (hC c).cell 2 rfl 7 (by rw [HIC.out]; rfl)
      have q8 : ∀ c, (cw c).cell? ⟨ib, 8, none⟩ = some (.slice p.TA x.time.length p.tc) := fun c => (hC c).cell 2 rfl 8 (by rw [HIC.out]; rfl)
      have qt : ∀ d, (cw d).cell? ⟨tb, 0, none⟩ = some (.slice a t.length c) := fun d => (hC d).cell 0 rfl 0 rfl
      repeat (refine pl_look rfl rfl rfl (fun Kv hK => ?_); go_big_quiet_op; refine hK _ ?_; clear hK Kv)
      clear q0 q1 q2 q3 q4 q5 q6 q7 q8 qt hC HS2
      refine pl_end ?_
      intro w4 hS4
      refine pm_eff rfl rfl fun Kv hK => ?_
      go_simp
      refine eff_call (HTN.out a c t w4 (reads_more (Reads.below HST.out hS4.below) hS4.size) htl) (fun e w5 h => ?_)
      obtain ⟨v, rfl, hq⟩ := h
      obtain ⟨NA, nc, rfl, _, _⟩ := (hq.row 0 rfl).slice_
      have hS5 := hS4.join hq
      clear hq
      left
      refine ⟨_, rfl, hS5.tail, hK _ _ ?_⟩
      clear hK Kv hS4
      refine pm_eff rfl rfl fun Kv hK => ?_
      go_simp
      refine eff_call (HWY.out NA nc (truckNodes t t.length) w5 hS5.below (hS5.reads 0 rfl) (by simp [truckNodes]; omega)) (fun e w6 h => ?_)
      obtain ⟨rfl, hb6⟩ := h
      have HS6 := Lib.hid (hS5.call hb6)
      clear hb6 hS5
      left
      refine ⟨_, rfl, HS6.out.tail, hK _ _ ?_⟩
      clear hK Kv
      refine pm_end ?_
      rw [HWV.out]
      go_wp2_with fail
      go_roundw
      case rel => exact ⟨k + 1, by omega, by go_num, by rw [HCS.out], HS6.out.tail.tail⟩
      case measure => simp [intOf]; omega
    · obtain rfl : k = q.trucks.length := by omega
      have hcb := costT_in HX.out HL.out.stops (Nat.le_refl _)
      obtain ⟨ct, hct⟩ : ∃ ct, costT x q.trucks q.trucks.length = ct := ⟨_, rfl⟩
      rw [hct] at HPCO hcb ⊢
      obtain ⟨cb0, cb1⟩ := hcb
      have bp1 : wr.cell? ⟨pb, 1, none⟩ = some (.slice BA q.bikes.length bc) := hS.cell 0 rfl 1 (by rw [HPC.out]; rfl)
      have HS := Lib.hid hS
      clear hS hct hlt2
      go_wp2_with fail
      clear bp1
      obtain ⟨wo, rfl⟩ : ∃ wo : World, wo = wr := ⟨_, rfl⟩
      go_loopw [36, 7] (fun i v7 wr => ∃ k : Nat, k ≤ q.bikes.length ∧ i = .int .i64 k ∧ v7 = .int .i64 (ct + costB x q.bikes k) ∧ SL w w.heap.size [.blk pb pc 39, .blk ib ic 58] wr) (fun i _ _ => q.bikes.length - (intOf i).toNat)
      case atStart => exact ⟨0, by omega, rfl, by simp [costB], HS.out⟩
      case round =>
        clear HS
        obtain ⟨k, hk, rfl, rfl, hS⟩ := hrel
        by_cases hlt2 : k < q.bikes.length
        · obtain ⟨b, o, a, c, hBA, hb, d00, d01, hst⟩ := bikes_at HP.out.bikes hlt2
          have d0 := (hS.below.cell (p := ⟨b, o + k * 2, none⟩) hb).trans d00
          have d1 := (hS.below.cell (p := ⟨b, o + k * 2 + 1, none⟩) hb).trans d01
          have htl : q.bikes[k].stops.length ≤ 100000 := by have := stops_le hlt2; have := HL.out.custs; omega
          have HCS := Lib.hid (costB_succ (x := x) hlt2)
          have hcb := costB_in HX.out HL.out.custs hk
          have hwb := wayOf_in HX.out (l := bikeNodes x.sats.length q.bikes[k] q.bikes[k].stops.length) (by simp [bikeNodes]; omega)
          obtain ⟨t, ht⟩ : ∃ t, q.bikes[k] = t := ⟨_, rfl⟩
          rw [ht] at d0 d1 hst htl HCS hwb
          obtain ⟨wv, hwv⟩ : ∃ wv, wayOf x (bikeNodes x.sats.length t t.stops.length) = wv := ⟨_, rfl⟩
          have HWV := Lib.hid hwv
          rw [hwv] at HCS hwb
          obtain ⟨cb, hcb2⟩ : ∃ cb, costB x q.bikes k = cb := ⟨_, rfl⟩
          rw [hcb2] at HCS hcb ⊢
          obtain ⟨cc0, cc1⟩ := hcb
          obtain ⟨wb0, wb1⟩ := hwb
          have hS2 := hS.alloc #[.int .i64 t.sat, .slice a t.stops.length c] 44
          have HST := Lib.hid hst
          have HS2 := Lib.hid hS2
          rw [hBA]
          clear ht hst hS hS2 hBA d00 d01 hwv hcb2
          go_upto_region 13 with fail
          obtain ⟨tb, htb⟩ : ∃ tb, tb = wr.heap.size := ⟨_, rfl⟩
          generalize (wr.alloc (.cells #[.int .i64 t.sat, .slice a t.stops.length c] 44)) = w3 at *
          rw [← htb] at HS2 ⊢
          clear htb d0 d1 hb
          refine wp_region_sl [0,1,2,3] [4,5] [6,7] _ HS2.out (List.Sublist.refl _) (by kernel_rfl) (by kernel_rfl) (.cons rfl (.cons rfl .nil)) (fun C cw _ hC => ?_)
          have q0 : ∀ c, (cw c).cell? ⟨ib, 0, none⟩ = some (.int .i64 x.fin) := fun c => (hC c).cell 2 rfl 0 (by rw [HIC.out]; rfl)
          have q1 : ∀ c, (cw c).cell? ⟨ib, 1, none⟩ = some (.int .i64 x.tm) := fun c => (hC c).cell 2 rfl 1 (by rw [HIC.out]; rfl)
          have q2 : ∀ c, (cw c).cell? ⟨ib, 2, none⟩ = some (.int .i64 x.tr) := fun c => (hC c).cell 2 rfl 2 (by rw [HIC.out]; rfl)
          have q3 : ∀ c, (cw c).cell? ⟨ib, 3, none⟩ = some (.int .i64 x.bm) := fun c => (hC c).cell 2 rfl 3 (by rw [HIC.out]; rfl)
          have q4 : ∀ c, (cw c).cell? ⟨ib, 4, none⟩ = some (.int .i64 x.br) := fun c => (hC c).cell 2 rfl 4 (by rw [HIC.out]; rfl)
          have q5 : ∀ c, (cw c).cell? ⟨ib, 5, none⟩ = some (.slice p.SA x.sats.length p.sc) := fun c => (hC c).cell 2 rfl 5 (by rw [HIC.out]; rfl)
          have q6 : ∀ c, (cw c).cell? ⟨ib, 6, none⟩ = some (.slice p.CA x.custs.length p.cc) := fun c => (hC c).cell 2 rfl 6 (by rw [HIC.out]; rfl)
          have q7 : ∀ c, (cw c).cell? ⟨ib, 7, none⟩ = some (.slice p.KA x.cost.length p.kc) := fun c => (hC c).cell 2 rfl 7 (by rw [HIC.out]; rfl)
          have q8 : ∀ c, (cw c).cell? ⟨ib, 8, none⟩ = some (.slice p.TA x.time.length p.tc) := fun c => (hC c).cell 2 rfl 8 (by rw [HIC.out]; rfl)
          have qt : ∀ d, (cw d).cell? ⟨tb, 0, none⟩ = some (.int .i64 t.sat) := fun d => (hC d).cell 0 rfl 0 rfl
          have qs : ∀ d, (cw d).cell? ⟨tb, 1, none⟩ = some (.slice a t.stops.length c) := fun d => (hC d).cell 0 rfl 1 rfl
          repeat (refine pl_look rfl rfl rfl (fun Kv hK => ?_); go_big_quiet_op; refine hK _ ?_; clear hK Kv)
          clear q0 q1 q2 q3 q4 q5 q6 q7 q8 qt qs hC HS2
          refine pl_end ?_
          intro w4 hS4
          refine pm_eff rfl rfl fun Kv hK => ?_
          go_simp
          refine eff_call (HBN.out a c t w4 (reads_more (Reads.below HST.out hS4.below) hS4.size) htl) (fun e w5 h => ?_)
          obtain ⟨v, rfl, hq⟩ := h
          obtain ⟨NA, nc, rfl, _, _⟩ := (hq.row 0 rfl).slice_
          have hS5 := hS4.join hq
          clear hq
          left
          refine ⟨_, rfl, hS5.tail, hK _ _ ?_⟩
          clear hK Kv hS4
          refine pm_eff rfl rfl fun Kv hK => ?_
          go_simp
          refine eff_call (HWY.out NA nc (bikeNodes x.sats.length t t.stops.length) w5 hS5.below (hS5.reads 0 rfl) (by simp [bikeNodes]; omega)) (fun e w6 h => ?_)
          obtain ⟨rfl, hb6⟩ := h
          have HS6 := Lib.hid (hS5.call hb6)
          clear hb6 hS5
          left
          refine ⟨_, rfl, HS6.out.tail, hK _ _ ?_⟩
          clear hK Kv
          refine pm_end ?_
          rw [HWV.out]
          go_wp2_with fail
          go_roundw
          case rel => exact ⟨k + 1, by omega, by go_num, by rw [HCS.out]; go_num, HS6.out.tail.tail⟩
          case measure => simp [intOf]; omega
        · obtain rfl : k = q.bikes.length := by omega
          have HS := Lib.hid hS
          rw [← HPCO.out]
          clear hS hlt2
          go_wp2_with fail
          go_ret2
          exact ⟨rfl, HS.out.below⟩
end Go.Proofs.Ytpbhbmdghafkmaa
