/- law17.Cost of a plan that may be. (printed by gen/lawcost.py) -/
import Derived.Test.YtjpejclfppbboaaCost17
namespace Go.Proofs.Ytjpejclfppbboaa
open Go.ChangeShapes Go.WideShapes Go.ChangeAt Go.RowKit
set_option linter.unusedVariables false
set_option linter.unusedSimpArgs false
/-- A plan whose numbers are there. -/
structure PlanN (x : InstV) (q : PlanV) : Prop where
  trucks : ∀ t ∈ q.trucks, ∀ s ∈ t, 0 ≤ s.sat ∧ s.sat < x.sats.length
  sats : ∀ b ∈ q.bikes, 0 ≤ b.sat ∧ b.sat < x.sats.length
  custs : ∀ b ∈ q.bikes, ∀ c ∈ b.stops, 0 ≤ c ∧ c < x.custs.length
theorem planNum_code {x : InstV} {q : PlanV} (h : planCode x q = 0) : PlanN x q := by
  have hr : routesB x q = true := by
    cases hr : routesB x q with
    | true => rfl
    | false =>
      exfalso
      unfold planCode at h
      rw [hr] at h
      split at h <;> simp at h
  unfold routesB at hr
  rw [Bool.and_eq_true] at hr
  obtain ⟨h1, h2⟩ := hr
  refine ⟨fun t ht s hs => ?_, fun b hb => ?_, fun b hb c hc => routeB_in h2 c (by unfold allStops; exact List.mem_flatMap.2 ⟨b, hb, hc⟩)⟩
  · unfold routeT at h1
    have h3 := List.all_eq_true.1 h1 t ht
    unfold truckB at h3
    rw [Bool.and_eq_true] at h3
    have h4 := h3.1
    unfold goodT goodK at h4
    obtain ⟨k, hk, rfl⟩ := List.getElem_of_mem hs
    have h5 := List.all_eq_true.1 h4 k (by simpa using hk)
    simp only [List.getD_eq_getElem?_getD, List.getElem?_eq_getElem hk, Option.getD_some] at h5
    unfold stopB at h5
    simp only [Bool.and_eq_true, decide_eq_true_eq] at h5
    exact h5.1.1
  · obtain ⟨k, hk, rfl⟩ := List.getElem_of_mem hb
    unfold routeB bikesK at h2
    have h3 := List.all_eq_true.1 h2 k (by simpa using hk)
    simp only [List.getD_eq_getElem?_getD, List.getElem?_eq_getElem hk, Option.getD_some] at h3
    unfold bikeB bikeHB at h3
    simp only [Bool.and_eq_true, decide_eq_true_eq] at h3
    exact h3.1.1
theorem wrap_small {n : Int} (h0 : -1000000 ≤ n) (h1 : n ≤ 1000000) : wrap64 n = n := IntWalk.wrap64_in n ⟨by omega, by omega⟩
/-- Of a truck that may be: its nodes, as they are. -/
theorem truckNd {x : InstV} (hx : x.Small) {t : List StopV} (h : ∀ s ∈ t, 0 ≤ s.sat ∧ s.sat < x.sats.length) : truckNodes t t.length = 0 :: t.map (fun s => 1 + s.sat) := by
  unfold truckNodes
  rw [List.take_length]
  congr 1
  apply List.map_congr_left
  intro s hs
  have := h s hs
  have := hx.sats
  exact wrap_small (by omega) (by omega)
theorem bikeNd {x : InstV} (hx : x.Small) {b : BikeV} (h1 : 0 ≤ b.sat ∧ b.sat < x.sats.length) (h : ∀ c ∈ b.stops, 0 ≤ c ∧ c < x.custs.length) : bikeNodes x.sats.length b b.stops.length = (1 + b.sat) :: b.stops.map (fun c => 1 + x.sats.length + c) := by
  have hs := hx.sats
  have hc := hx.custs
  unfold bikeNodes
  rw [List.take_length, wrap_small (by omega) (by omega)]
  congr 1
  apply List.map_congr_left
  intro c hcm
  have := h c hcm
  exact wrap_small (by omega) (by omega)
/-- A way round: step by step, then back. -/
theorem way_round {x : InstV} {a : Int} {l : List Int} (h : ∀ n ∈ a :: l, 0 ≤ n ∧ n < (x.n : Int)) : wayOf x (a :: l) = stepsK x.cost (a :: l) l.length + cellOf x.cost ((a :: l).getD l.length 0) a := by
  have hall : (a :: l).all (nodeB x) = true := by
    rw [List.all_eq_true]
    intro n hn
    unfold nodeB
    exact decide_eq_true (h n hn)
  unfold wayOf
  rw [if_pos hall, List.length_cons, stepsK_succ]
  congr 2
  unfold nextOf
  simp
theorem next_of {a : Int} {l : List Int} {j : Nat} (h : j < l.length) : nextOf (a :: l) j = l[j] := by
  unfold nextOf
  rw [List.length_cons, Nat.mod_eq_of_lt (by omega)]
  simp [h]
theorem cost_at {x : InstV} (hx : x.Small) {p : IAt} {w : World} {B : Nat} (hI : InstIn w B p x) {a b : Nat} (ha : a < x.n) (hb : b < x.n) :
    ∃ g o ra rc gr or, p.KA = some ⟨g, o, none⟩ ∧ g < B ∧ w.cell? ⟨g, o + a, none⟩ = some (.slice ra x.n rc) ∧ ra = some ⟨gr, or, none⟩ ∧ gr < B ∧ w.cell? ⟨gr, or + b, none⟩ = some (.int .i64 (cellOf x.cost (a : Int) (b : Int))) := by
  have hl := hx.costLen
  have ha' : a < x.cost.length := by omega
  obtain ⟨g, o, ra, rc, e, hg, hc, hr⟩ := mat_at hI.cost ha'
  have hrl : x.cost[a].length = x.n := hl.2 _ (List.getElem_mem ha')
  obtain ⟨gr, or, e2, hgr, hc2⟩ := ints_at hr (by rw [hrl]; exact hb)
  refine ⟨g, o, ra, rc, gr, or, e, hg, by rw [← hrl]; exact hc, e2, hgr, ?_⟩
  rw [hc2]
  unfold cellOf
  simp [ha', show b < x.cost[a].length by omega]
theorem at11_any (x : InstV) (p : IAt) (c : Int) (w : World) (h1 : x.sats.length ≤ 1000) : Calls Try.prog 59 #[.agg (x.cells p), .int .i64 c] w fun e w' => e = .returned (.int .i64 (wrap64 (1 + x.sats.length + c))) ∧ Below w.heap.size w w' := by
  unfold InstV.cells
  go_enter Try.func59, Try.ntmps59
  go_wp2
  go_ret
  exact ⟨rfl, (Below.refl _ _).alloc (Nat.le_refl _) _⟩
set_option maxRecDepth 100000 in
set_option maxHeartbeats 8000000 in
theorem lawCost_any (x : InstV) (p : IAt) (TA BA : Option Addr) (tc bc : Nat) (q : PlanV) (w : World) (hI : InstIn w w.heap.size p x) (hP : PlanIn w w.heap.size TA BA q) (hx : x.Small) (hL : PlanL q) (hN : PlanN x q) :
    Calls Try.prog 39 #[.agg (x.cells p), .agg #[.slice TA q.trucks.length tc, .slice BA q.bikes.length bc]] w fun e w' => e = .returned (.int .i64 (planCost x q)) ∧ Below w.heap.size w w' := by
  have HI := Lib.hid hI
  have HT := Lib.hid hP.trucks
  have HB := Lib.hid hP.bikes
  have HX := Lib.hid hx
  have HN := Lib.hid hN
  obtain ⟨hns0, hns1⟩ := hx.sats
  obtain ⟨hnc0, hnc1⟩ := hx.custs
  have hn1 : x.n ≤ 1 + x.sats.length + x.custs.length := Nat.le_refl _
  have hn2 : 1 + x.sats.length + x.custs.length ≤ x.n := Nat.le_refl _
  have hkl1 : x.cost.length ≤ x.n := Nat.le_of_eq hx.costLen.1
  have hkl2 : x.n ≤ x.cost.length := Nat.le_of_eq hx.costLen.1.symm
  have HAT : Hid (∀ c wx, Calls Try.prog 59 #[.agg (x.cells p), .int .i64 c] wx fun e w' => e = .returned (.int .i64 (wrap64 (1 + x.sats.length + c))) ∧ Below wx.heap.size wx w') := Lib.hid (fun c wx => at11_any x p c wx (by omega))
  obtain ⟨ts, hts⟩ : ∃ ts, q.trucks = ts := ⟨_, rfl⟩
  obtain ⟨bs, hbs⟩ : ∃ bs, q.bikes = bs := ⟨_, rfl⟩
  have HCO : Hid (planCost x q = costT x ts ts.length + costB x bs bs.length) := Lib.hid (by unfold planCost; rw [hts, hbs])
  have HLT : Hid (ts.flatten.length ≤ 100000 ∧ (allStops bs).length ≤ 100000) := Lib.hid (by rw [← hts, ← hbs]; exact ⟨hL.stops, hL.custs⟩)
  have hl1 := hL.trucks
  have hl2 := hL.bikes
  rw [hts] at HT hl1
  rw [hbs] at HB hl2
  have HNT : Hid (∀ t ∈ ts, ∀ s ∈ t, 0 ≤ s.sat ∧ s.sat < x.sats.length) := Lib.hid (by rw [← hts]; exact hN.trucks)
  have HNB : Hid (∀ b ∈ bs, (0 ≤ b.sat ∧ b.sat < x.sats.length) ∧ ∀ c ∈ b.stops, 0 ≤ c ∧ c < x.custs.length) := Lib.hid (by rw [← hbs]; exact fun b hb => ⟨hN.sats b hb, hN.custs b hb⟩)
  rw [hts, hbs]
  clear hts hbs hI hP hx hL hN HN
  obtain ⟨nt, hnt⟩ : ∃ n, ts.length = n := ⟨_, rfl⟩
  obtain ⟨nb, hnb⟩ : ∃ n, bs.length = n := ⟨_, rfl⟩
  have HNN := Lib.hid (And.intro hnt hnb)
  rw [hnt] at hl1 HCO ⊢
  rw [hnb] at hl2 HCO ⊢
  obtain ⟨res, hres⟩ : ∃ r, planCost x q = r := ⟨_, rfl⟩
  rw [hres] at HCO ⊢
  obtain ⟨XC, hXC⟩ : ∃ XC : Array Value, x.cells p = XC := ⟨_, rfl⟩
  obtain ⟨PC, hPC⟩ : ∃ PC : Array Value, #[.slice TA nt tc, .slice BA nb bc] = PC := ⟨_, rfl⟩
  have HXC := Lib.hid hXC
  have HPC := Lib.hid hPC
  have HIS : Hid ((Try.prog.info? 39).map (·.size) = some XC.size) := Lib.hid (by rw [← hXC]; kernel_rfl)
  have hS := ((SL.start (W := w) (Nat.le_refl w.heap.size)).alloc XC 39).alloc PC 30
  obtain ⟨ib, hib⟩ : ∃ ib, w.heap.size = ib := ⟨_, rfl⟩
  obtain ⟨pb, hpb⟩ : ∃ pb, ib + 1 = pb := ⟨_, rfl⟩
  obtain ⟨w1, hw1⟩ : ∃ w1, ((w.alloc (.cells XC 39)).alloc (.cells PC 30)) = w1 := ⟨_, rfl⟩
  have HS1 : Hid (SL w w.heap.size [.blk pb PC 30, .blk ib XC 39] w1) := Lib.hid (by
    have e : (w.alloc (.cells XC 39)).heap.size = w.heap.size + 1 := Array.size_push _
    rw [e] at hS
    rw [← hpb, ← hib, ← hw1]; exact hS)
  have HBL := Lib.hid (And.intro hib (And.intro hpb hw1))
  rw [hXC, hPC]
  rw [hXC] at HAT
  clear hnt hnb hres hXC hPC hS hib hpb hw1
  go_enter Try.func39, Try.ntmps39
  go_upto_region 1 with fail
  rw [HBL.out.2.2, HBL.out.1, HBL.out.2.1]
  have y0 : w1.cell? ⟨pb, 0, none⟩ = some (.slice TA nt tc) := HS1.out.cell 0 rfl 0 (by rw [← HPC.out]; rfl)
  go_upto_region 3 with fail
  clear y0
  go_loopw [5, 19] (fun sv iv wr => ∃ k : Nat, k ≤ nt ∧ iv = .int .i64 k ∧ sv = .int .i64 (costT x ts k) ∧ SL w w.heap.size [.blk pb PC 30, .blk ib XC 39] wr) (fun _ iv _ => nt - (intOf iv).toNat)
  case atStart => exact ⟨0, by omega, rfl, by simp [costT], HS1.out⟩
  case round =>
    clear HS1
    obtain ⟨wr0, rfl⟩ : ∃ wr0 : World, wr0 = wr := ⟨_, rfl⟩
    obtain ⟨k, hk, rfl, rfl, hS⟩ := hrel
    by_cases hlt : k < nt
    · as_aux_lemma =>
      have hkt : k < ts.length := by rw [HNN.out.1]; exact hlt
      obtain ⟨b, o, a1, c, hA, hb, d00, hst⟩ := trucks_at HT.out hkt
      have d0 := (hS.below.cell (p := ⟨b, o + k, none⟩) hb).trans d00
      have hfl := flatten_le hkt
      have hcb := costT_in HX.out HLT.out.1 (k := k) (by omega)
      have HNR := Lib.hid (HNT.out _ (List.getElem_mem hkt))
      have HCS := Lib.hid (costT_succ (x := x) hkt)
      have htl2 : ts[k].length ≤ 100000 := by have := HLT.out.1; omega
      obtain ⟨t, ht⟩ : ∃ t, ts[k] = t := ⟨_, rfl⟩
      rw [ht] at d0 hst HNR HCS htl2
      have HTN := Lib.hid (truckNd HX.out HNR.out)
      rw [HTN.out] at HCS
      obtain ⟨nd, hnd⟩ : ∃ nd, t.map (fun s : StopV => 1 + s.sat) = nd := ⟨_, rfl⟩
      rw [hnd] at HCS
      have HND : Hid (nd.length = t.length ∧ (∀ n ∈ nd, 1 ≤ n ∧ n < 1 + (x.sats.length : Int)) ∧ ∀ j (h : j < t.length), nd.getD j 0 = 1 + t[j].sat) := Lib.hid ⟨by rw [← hnd, List.length_map], by
        rw [← hnd]; intro n hn
        obtain ⟨s, hs, rfl⟩ := List.mem_map.1 hn
        have := HNR.out s hs; omega, fun j h => by rw [← hnd]; simp [h]⟩
      have HWY : Hid (wayOf x (0 :: nd) = stepsK x.cost (0 :: nd) nd.length + cellOf x.cost ((0 :: nd).getD nd.length 0) 0) := Lib.hid (way_round (fun n hn => by
        rcases List.mem_cons.1 hn with rfl | hn
        · omega
        · have := HND.out.2.1 n hn; omega))
      obtain ⟨ck, hck⟩ : ∃ ck, costT x ts k = ck := ⟨_, rfl⟩
      rw [hck] at hcb HCS ⊢
      have HST := Lib.hid hst
      have hS2 := hS.alloc #[.slice a1 t.length c] 49
      have HS2 := Lib.hid hS2
      rw [hA]
      clear ht hst hS hS2 hA hck hnd d00 hfl hkt HNR HTN
      go_upto_region 6 with fail
      obtain ⟨tb, htb⟩ : ∃ tb, wr0.heap.size = tb := ⟨_, rfl⟩
      rw [htb] at HS2 ⊢
      generalize (wr0.alloc (.cells #[.slice a1 t.length c] 49)) = w2 at *
      have y1 : w2.cell? ⟨tb, 0, none⟩ = some (.slice a1 t.length c) := HS2.out.cell 0 rfl 0 rfl
      have HS3 := Lib.hid HS2.out.tail
      clear htb d0 hb HS2
      go_upto_region 7 with fail
      clear y1
      go_loopw [5, 8, 26] (fun sv lv iv wi => ∃ j : Nat, j ≤ t.length ∧ iv = .int .i64 j ∧ lv = .int .i64 ((0 :: nd).getD j 0) ∧ sv = .int .i64 (ck + stepsK x.cost (0 :: nd) j) ∧ SL w w.heap.size [.blk pb PC 30, .blk ib XC 39] wi) (fun _ _ iv _ => t.length - (intOf iv).toNat)
      case atStart => exact ⟨0, by omega, rfl, rfl, by simp [stepsK], HS3.out⟩
      case round =>
        clear HS3
        obtain ⟨wr1, rfl⟩ : ∃ wr1 : World, wr1 = wr := ⟨_, rfl⟩
        obtain ⟨j, hj, rfl, rfl, rfl, hS⟩ := hrel
        have hgin : 0 ≤ (0 :: nd).getD j 0 ∧ (0 :: nd).getD j 0 < x.n := by
          cases j with
          | zero => simp; omega
          | succ j =>
            have h1 := HND.out.2.2 j (by omega)
            have h2 : (0 :: nd).getD (j + 1) 0 = nd.getD j 0 := by simp
            have h3 := HND.out.2.1 (nd.getD j 0) (by rw [List.getD_eq_getElem?_getD, List.getElem?_eq_getElem (by rw [HND.out.1]; omega)]; exact List.getElem_mem _)
            rw [h2]; omega
        obtain ⟨la, hla⟩ : ∃ la : Nat, (0 :: nd).getD j 0 = (la : Int) := ⟨((0 :: nd).getD j 0).toNat, by omega⟩
        have hsb := stepsK_in HX.out (0 :: nd) j
        by_cases hltj : j < t.length
        · obtain ⟨b2, o2, ha, hb2, e00, e01⟩ := stops_at HST.out hltj
          have e0 := (hS.below.cell (p := ⟨b2, o2 + j * 2, none⟩) hb2).trans e00
          have e1 := (hS.below.cell (p := ⟨b2, o2 + j * 2 + 1, none⟩) hb2).trans e01
          have hnx := HND.out.2.2 j hltj
          have hjn : j < nd.length := by rw [HND.out.1]; exact hltj
          have hnin := HND.out.2.1 _ (List.getElem_mem hjn)
          have hnv : nd[j] = 1 + t[j].sat := by rw [← hnx]; simp [hjn]
          have HLN : Hid ((0 :: nd).getD (j + 1) 0 = 1 + t[j].sat) := Lib.hid (by rw [← hnx]; simp)
          have HSTP : Hid (stepsK x.cost (0 :: nd) (j + 1) = stepsK x.cost (0 :: nd) j + cellOf x.cost (la : Int) (1 + t[j].sat)) := Lib.hid (by rw [stepsK_succ, next_of hjn, hla, hnv])
          obtain ⟨sj, hsj⟩ : ∃ s : Nat, t[j].sat = s := ⟨(t[j].sat).toNat, by omega⟩
          obtain ⟨ldj, hldj⟩ : ∃ l, t[j].load = l := ⟨_, rfl⟩
          rw [hsj] at e0 HLN HSTP hnv
          rw [hldj] at e1
          have hsn : sj < x.sats.length := by omega
          have HC1 : Hid (cellOf x.cost (la : Int) (1 + (sj : Int)) = cellOf x.cost (la : Int) ((1 + sj : Nat) : Int)) := Lib.hid (by congr 1)
          rw [HC1.out] at HSTP
          have hcin := cellOf_in HX.out (la : Int) ((1 + sj : Nat) : Int)
          rw [hla] at hgin ⊢
          obtain ⟨sk, hsk⟩ : ∃ sk, stepsK x.cost (0 :: nd) j = sk := ⟨_, rfl⟩
          rw [hsk] at hsb HSTP ⊢
          have hlan : la < x.n := by omega
          clear hla hsk hnx hnin hnv hsj hldj e00 e01
          obtain ⟨gk, ok, ra, rc, gr, or_, hKA, hgk, f1, hra, hgr, f2⟩ := cost_at HX.out HI.out (a := la) (b := (1 + sj)) (by omega) (by omega)
          have HK := Lib.hid (And.intro hKA (And.intro hgk (And.intro f1 (And.intro hgr f2))))
          subst hra
          clear hKA hgk f1 hgr f2
          obtain ⟨cst, hcst⟩ : ∃ cst, cellOf x.cost (la : Int) ((1 + sj : Nat) : Int) = cst := ⟨_, rfl⟩
          rw [hcst] at hcin HSTP HK
          have hS4 := hS.alloc #[.int .i64 sj, .int .i64 ldj] 54
          rw [ha]
          clear hcst hS ha
          go_upto_region 9 with fail
          obtain ⟨sb, hsb2⟩ : ∃ sb, wr1.heap.size = sb := ⟨_, rfl⟩
          rw [hsb2] at hS4 ⊢
          generalize (wr1.alloc (.cells #[.int .i64 sj, .int .i64 ldj] 54)) = w4 at *
          clear e0 e1 hsb2
          have hla1 : (la : Int) < (x.cost.length : Int) := by omega
          have hsj1 : (1 : Int) + (sj : Int) < (x.n : Int) := by omega
          refine wp_region_sq _ hS4 (by kernel_rfl) (by kernel_rfl) fun C cw _ hC hin => ?_
          have q9 : ∀ d, (cw d).cell? ⟨sb, 0, none⟩ = some (.int .i64 sj) := fun d => (hC d).cell 0 rfl 0 rfl
          have q1 : ∀ d, (cw d).cell? ⟨ib, 7, none⟩ = some (.slice (some ⟨gk, ok, none⟩) x.cost.length p.kc) := fun d => (hC d).cell 2 rfl 7 (by rw [← HXC.out, ← HK.out.1]; rfl)
          have q2 : ∀ d, (cw d).cell? ⟨gk, ok + la, none⟩ = some (.slice (some ⟨gr, or_, none⟩) x.n rc) := fun d => ((hC d).below.cell (p := ⟨gk, ok + la, none⟩) HK.out.2.1).trans HK.out.2.2.1
          have q3 : ∀ d, (cw d).cell? ⟨gr, or_ + (1 + sj), none⟩ = some (.int .i64 cst) := fun d => ((hC d).below.cell (p := ⟨gr, or_ + (1 + sj), none⟩) HK.out.2.2.2.1).trans HK.out.2.2.2.2
          clear hC hin hS4
          repeat (go_big_quiet_step (fail))
          refine wpQuiet_nil ?_
          intro w5 hS5
          have y9 : w5.cell? ⟨sb, 0, none⟩ = some (.int .i64 sj) := hS5.cell 0 rfl 0 rfl
          have HS5 := Lib.hid hS5.tail
          clear q1 q2 q3 q9 hS5
          go_wp2_with fail
          go_roundw
          case rel => exact ⟨j + 1, by omega, by go_num, by rw [HLN.out], by rw [HSTP.out, Int.add_assoc], HS5.out⟩
          case measure => simp [intOf]; omega
        · obtain rfl : j = t.length := by omega
          have HWY2 : Hid (wayOf x (0 :: nd) = stepsK x.cost (0 :: nd) t.length + cellOf x.cost (la : Int) ((0 : Nat) : Int)) := Lib.hid (by
            have h := HWY.out
            rw [HND.out.1, hla] at h
            exact h)
          have hcin := cellOf_in HX.out (la : Int) ((0 : Nat) : Int)
          rw [hla] at hgin ⊢
          obtain ⟨sk, hsk⟩ : ∃ sk, stepsK x.cost (0 :: nd) t.length = sk := ⟨_, rfl⟩
          rw [hsk] at hsb HWY2 ⊢
          have hlan : la < x.n := by omega
          clear hla hsk hltj
          obtain ⟨gk, ok, ra, rc, gr, or_, hKA, hgk, f1, hra, hgr, f2⟩ := cost_at HX.out HI.out (a := la) (b := 0) (by omega) (by omega)
          have HK := Lib.hid (And.intro hKA (And.intro hgk (And.intro f1 (And.intro hgr f2))))
          subst hra
          clear hKA hgk f1 hgr f2
          obtain ⟨cst, hcst⟩ : ∃ cst, cellOf x.cost (la : Int) ((0 : Nat) : Int) = cst := ⟨_, rfl⟩
          rw [hcst] at hcin HWY2 HK
          have hla1 : (la : Int) < (x.cost.length : Int) := by omega
          have hn1 : (0 : Int) < (x.n : Int) := by omega
          have q1 : wr1.cell? ⟨ib, 7, none⟩ = some (.slice (some ⟨gk, ok, none⟩) x.cost.length p.kc) := hS.cell 1 rfl 7 (by rw [← HXC.out, ← HK.out.1]; rfl)
          have q2 : wr1.cell? ⟨gk, ok + la, none⟩ = some (.slice (some ⟨gr, or_, none⟩) x.n rc) := (hS.below.cell (p := ⟨gk, ok + la, none⟩) HK.out.2.1).trans HK.out.2.2.1
          have q3 : wr1.cell? ⟨gr, or_, none⟩ = some (.int .i64 cst) := (hS.below.cell (p := ⟨gr, or_, none⟩) HK.out.2.2.2.1).trans HK.out.2.2.2.2
          have HS5 := Lib.hid hS
          clear hcst hS
          go_wp2_with fail
          go_roundw
          case rel => exact ⟨k + 1, by omega, by go_num, by rw [HCS.out, HWY2.out, Int.add_assoc], HS5.out⟩
          case measure => simp [intOf]; omega
    · obtain rfl : k = nt := by omega
      have y1 : wr0.cell? ⟨pb, 1, none⟩ = some (.slice BA nb bc) := hS.cell 0 rfl 1 (by rw [← HPC.out]; rfl)
      have HS := Lib.hid hS
      have hct := costT_in HX.out HLT.out.1 (k := k) (by rw [HNN.out.1]; exact Nat.le_refl _)
      obtain ⟨ct, hctq⟩ : ∃ ct, costT x ts k = ct := ⟨_, rfl⟩
      rw [hctq] at hct HCO ⊢
      clear hS hlt hctq
      go_upto_region 15 with fail
      clear y1
      go_loopw [5, 59] (fun sv iv wr => ∃ k : Nat, k ≤ nb ∧ iv = .int .i64 k ∧ sv = .int .i64 (ct + costB x bs k) ∧ SL w w.heap.size [.blk pb PC 30, .blk ib XC 39] wr) (fun _ iv _ => nb - (intOf iv).toNat)
      case atStart => exact ⟨0, by omega, rfl, by simp [costB], HS.out⟩
      case round =>
        clear HS
        obtain ⟨wr1, rfl⟩ : ∃ wr1 : World, wr1 = wr := ⟨_, rfl⟩
        obtain ⟨z, hz, rfl, rfl, hS⟩ := hrel
        by_cases hlt : z < nb
        · as_aux_lemma =>
          have hzb : z < bs.length := by rw [HNN.out.2]; exact hlt
          obtain ⟨b, o, a1, c, hA, hb, d00, d01, hst⟩ := bikes_at HB.out hzb
          have d0 := (hS.below.cell (p := ⟨b, o + z * 2, none⟩) hb).trans d00
          have d1 := (hS.below.cell (p := ⟨b, o + z * 2 + 1, none⟩) hb).trans d01
          have hfl := stops_le hzb
          have hcb := costB_in HX.out HLT.out.2 (k := z) (by omega)
          have HNR := Lib.hid (HNB.out _ (List.getElem_mem hzb))
          have HCS := Lib.hid (costB_succ (x := x) hzb)
          have htl2 : bs[z].stops.length ≤ 100000 := by have := HLT.out.2; omega
          obtain ⟨t, ht⟩ : ∃ t, bs[z] = t := ⟨_, rfl⟩
          rw [ht] at d0 d1 hst HNR HCS htl2
          obtain ⟨hsat0, hsat1⟩ := HNR.out.1
          have HTN := Lib.hid (bikeNd HX.out HNR.out.1 HNR.out.2)
          rw [HTN.out] at HCS
          obtain ⟨nd, hnd⟩ : ∃ nd, t.stops.map (fun c : Int => 1 + (x.sats.length : Int) + c) = nd := ⟨_, rfl⟩
          rw [hnd] at HCS
          have HND : Hid (nd.length = t.stops.length ∧ (∀ n ∈ nd, 1 ≤ n ∧ n < (x.n : Int)) ∧ ∀ j (h : j < t.stops.length), nd.getD j 0 = 1 + (x.sats.length : Int) + t.stops[j]) := Lib.hid ⟨by rw [← hnd, List.length_map], by
            rw [← hnd]; intro n hn
            obtain ⟨s, hs, rfl⟩ := List.mem_map.1 hn
            have := HNR.out.2 s hs; omega, fun j h => by rw [← hnd]; simp [h]⟩
          obtain ⟨st, hstq⟩ : ∃ st : Nat, t.sat = st := ⟨t.sat.toNat, by omega⟩
          rw [hstq] at d0 HCS hsat0 hsat1
          have HSTQ := Lib.hid hstq
          have hstn : st < x.sats.length := by omega
          have HWY : Hid (wayOf x ((1 + (st : Int)) :: nd) = stepsK x.cost ((1 + (st : Int)) :: nd) nd.length + cellOf x.cost (((1 + (st : Int)) :: nd).getD nd.length 0) (1 + (st : Int))) := Lib.hid (way_round (fun n hn => by
            rcases List.mem_cons.1 hn with rfl | hn
            · omega
            · have := HND.out.2.1 n hn; omega))
          obtain ⟨ck, hck⟩ : ∃ ck, costB x bs z = ck := ⟨_, rfl⟩
          rw [hck] at hcb HCS ⊢
          have HST := Lib.hid hst
          have HNC := Lib.hid HNR.out.2
          have HS2 := Lib.hid (hS.alloc #[.int .i64 (st : Int), .slice a1 t.stops.length c] 46)
          rw [hA]
          clear ht hst hS hA hck hnd d00 d01 hfl hzb HNR HTN hstq
          go_upto_region 17 with fail
          obtain ⟨tb, htb⟩ : ∃ tb, wr1.heap.size = tb := ⟨_, rfl⟩
          rw [htb] at HS2 ⊢
          generalize (wr1.alloc (.cells #[.int .i64 (st : Int), .slice a1 t.stops.length c] 46)) = w2 at *
          have y1 : w2.cell? ⟨tb, 1, none⟩ = some (.slice a1 t.stops.length c) := HS2.out.cell 0 rfl 1 rfl
          have y0 : w2.cell? ⟨tb, 0, none⟩ = some (.int .i64 (st : Int)) := HS2.out.cell 0 rfl 0 rfl
          obtain ⟨tv, htv⟩ : ∃ tv : Array Value, #[.int .i64 (st : Int), .slice a1 t.stops.length c] = tv := ⟨_, rfl⟩
          rw [htv] at HS2
          have HTV := Lib.hid htv
          clear htb d0 d1 hb htv
          go_upto_region 19 with fail
          clear y0 y1
          go_loopw [5, 13, 69] (fun sv lv iv wi => ∃ j : Nat, j ≤ t.stops.length ∧ iv = .int .i64 j ∧ lv = .int .i64 (((1 + (st : Int)) :: nd).getD j 0) ∧ sv = .int .i64 (ct + ck + stepsK x.cost ((1 + (st : Int)) :: nd) j) ∧ SL w w.heap.size [.blk tb tv 46, .blk pb PC 30, .blk ib XC 39] wi) (fun _ _ iv _ => t.stops.length - (intOf iv).toNat)
          case atStart => exact ⟨0, by omega, rfl, rfl, by simp [stepsK], HS2.out⟩
          case round =>
            clear HS2
            obtain ⟨wr2, rfl⟩ : ∃ wr2 : World, wr2 = wr := ⟨_, rfl⟩
            obtain ⟨j, hj, rfl, rfl, rfl, hS⟩ := hrel
            have hgin : 0 ≤ ((1 + (st : Int)) :: nd).getD j 0 ∧ ((1 + (st : Int)) :: nd).getD j 0 < x.n := by
              cases j with
              | zero => simp; omega
              | succ j =>
                have h1 := HND.out.2.2 j (by omega)
                have h2 : ((1 + (st : Int)) :: nd).getD (j + 1) 0 = nd.getD j 0 := by simp
                have h3 := HND.out.2.1 (nd.getD j 0) (by rw [List.getD_eq_getElem?_getD, List.getElem?_eq_getElem (by rw [HND.out.1]; omega)]; exact List.getElem_mem _)
                rw [h2]; omega
            obtain ⟨la, hla⟩ : ∃ la : Nat, ((1 + (st : Int)) :: nd).getD j 0 = (la : Int) := ⟨(((1 + (st : Int)) :: nd).getD j 0).toNat, by omega⟩
            have hsb := stepsK_in HX.out ((1 + (st : Int)) :: nd) j
            by_cases hltj : j < t.stops.length
            · obtain ⟨b2, o2, ha, hb2, e00⟩ := ints_at HST.out hltj
              have e0 := (hS.below.cell (p := ⟨b2, o2 + j, none⟩) hb2).trans e00
              have hnx := HND.out.2.2 j hltj
              have hjn : j < nd.length := by rw [HND.out.1]; exact hltj
              have hcc := HNC.out _ (List.getElem_mem hltj)
              have hnv : nd[j] = 1 + (x.sats.length : Int) + t.stops[j] := by rw [← hnx]; simp [hjn]
              have HLN : Hid (((1 + (st : Int)) :: nd).getD (j + 1) 0 = 1 + (x.sats.length : Int) + t.stops[j]) := Lib.hid (by rw [← hnx]; simp)
              have HSTP : Hid (stepsK x.cost ((1 + (st : Int)) :: nd) (j + 1) = stepsK x.cost ((1 + (st : Int)) :: nd) j + cellOf x.cost (la : Int) (1 + (x.sats.length : Int) + t.stops[j])) := Lib.hid (by rw [stepsK_succ, next_of hjn, hla, hnv])
              obtain ⟨cj, hcj⟩ : ∃ s : Nat, t.stops[j] = s := ⟨(t.stops[j]).toNat, by omega⟩
              rw [hcj] at e0 HLN HSTP hcc
              have hcn : cj < x.custs.length := by omega
              obtain ⟨nx, hnxq⟩ : ∃ nx : Nat, 1 + x.sats.length + cj = nx := ⟨_, rfl⟩
              have HNX : Hid (1 + (x.sats.length : Int) + (cj : Int) = (nx : Int)) := Lib.hid (by omega)
              rw [HNX.out] at HSTP HLN
              have hnxn : nx < x.n := by omega
              have HA1 : Hid (∀ wx, Calls Try.prog 59 #[.agg XC, .int .i64 (cj : Int)] wx fun e w' => e = .returned (.int .i64 (nx : Int)) ∧ Below wx.heap.size wx w') := Lib.hid (fun wx => by
                have h := HAT.out (cj : Int) wx
                rw [HNX.out, wrap_small (by omega) (by omega)] at h
                exact h)
              have hcin := cellOf_in HX.out (la : Int) (nx : Int)
              rw [hla] at hgin ⊢
              obtain ⟨sk, hsk⟩ : ∃ sk, stepsK x.cost ((1 + (st : Int)) :: nd) j = sk := ⟨_, rfl⟩
              rw [hsk] at hsb HSTP ⊢
              have hlan : la < x.n := by omega
              clear hla hsk hnx hnv hcj e00 hnxq
              obtain ⟨gk, ok, ra, rc, gr, or_, hKA, hgk, f1, hra, hgr, f2⟩ := cost_at HX.out HI.out (a := la) (b := nx) (by omega) (by omega)
              have HK := Lib.hid (And.intro hKA (And.intro hgk (And.intro f1 (And.intro hgr f2))))
              subst hra
              clear hKA hgk f1 hgr f2
              obtain ⟨cst, hcst⟩ : ∃ cst, cellOf x.cost (la : Int) (nx : Int) = cst := ⟨_, rfl⟩
              rw [hcst] at hcin HSTP HK
              rw [ha]
              clear hcst ha
              go_upto_region 21 with fail
              have hla1 : (la : Int) < (x.cost.length : Int) := by omega
              have hsj1 : (nx : Int) < (x.n : Int) := by omega
              refine wp_region_sq _ hS (by kernel_rfl) (by kernel_rfl) fun C cw _ hC hin => ?_
              have HAc : Hid (∀ d, Calls Try.prog 59 #[.agg #[.int .i64 x.fin, .int .i64 x.tm, .int .i64 x.tr, .int .i64 x.bm, .int .i64 x.br, .slice p.SA x.sats.length p.sc, .slice p.CA x.custs.length p.cc, .slice (some ⟨gk, ok, none⟩) x.cost.length p.kc, .slice p.TA x.time.length p.tc], .int .i64 (cj : Int)] (cw d) fun e w' => e = .returned (.int .i64 (nx : Int)) ∧ ∃ c', w' = cw c') := Lib.hid (fun d => by
                have h := sq_call (hC d) hin (HA1.out (cw d))
                rw [← HXC.out] at h
                unfold InstV.cells at h
                rw [HK.out.1] at h
                exact h)
              have q7 : ∀ d, (cw d).cell? ⟨ib, 7, none⟩ = some (.slice (some ⟨gk, ok, none⟩) x.cost.length p.kc) := fun d => (hC d).cell 2 rfl 7 (by rw [← HXC.out, ← HK.out.1]; rfl)
              have q0 : ∀ d, (cw d).cell? ⟨ib, 0, none⟩ = some (.int .i64 x.fin) := fun d => (hC d).cell 2 rfl 0 (by rw [← HXC.out]; rfl)
              have q1 : ∀ d, (cw d).cell? ⟨ib, 1, none⟩ = some (.int .i64 x.tm) := fun d => (hC d).cell 2 rfl 1 (by rw [← HXC.out]; rfl)
              have q2 : ∀ d, (cw d).cell? ⟨ib, 2, none⟩ = some (.int .i64 x.tr) := fun d => (hC d).cell 2 rfl 2 (by rw [← HXC.out]; rfl)
              have q3 : ∀ d, (cw d).cell? ⟨ib, 3, none⟩ = some (.int .i64 x.bm) := fun d => (hC d).cell 2 rfl 3 (by rw [← HXC.out]; rfl)
              have q4 : ∀ d, (cw d).cell? ⟨ib, 4, none⟩ = some (.int .i64 x.br) := fun d => (hC d).cell 2 rfl 4 (by rw [← HXC.out]; rfl)
              have q5 : ∀ d, (cw d).cell? ⟨ib, 5, none⟩ = some (.slice p.SA x.sats.length p.sc) := fun d => (hC d).cell 2 rfl 5 (by rw [← HXC.out]; rfl)
              have q6 : ∀ d, (cw d).cell? ⟨ib, 6, none⟩ = some (.slice p.CA x.custs.length p.cc) := fun d => (hC d).cell 2 rfl 6 (by rw [← HXC.out]; rfl)
              have q8 : ∀ d, (cw d).cell? ⟨ib, 8, none⟩ = some (.slice p.TA x.time.length p.tc) := fun d => (hC d).cell 2 rfl 8 (by rw [← HXC.out]; rfl)
              have qr : ∀ d, (cw d).cell? ⟨gk, ok + la, none⟩ = some (.slice (some ⟨gr, or_, none⟩) x.n rc) := fun d => ((hC d).below.cell (p := ⟨gk, ok + la, none⟩) HK.out.2.1).trans HK.out.2.2.1
              have qs : ∀ d, (cw d).cell? ⟨gr, or_ + nx, none⟩ = some (.int .i64 cst) := fun d => ((hC d).below.cell (p := ⟨gr, or_ + nx, none⟩) HK.out.2.2.2.1).trans HK.out.2.2.2.2
              clear hin hS e0 hb2 hC
              repeat (any_goals (go_big_quiet_step (first | (go_at_call 59; with_reducible exact HAc.out _))))
              refine wpQuiet_nil ?_
              intro w5 hS5
              have HS5 := Lib.hid hS5
              clear q0 q1 q2 q3 q4 q5 q6 q7 q8 qr qs hS5 HAc
              go_wp2_with first
                | (refine wpList_load_row rfl 39 _ rfl ib rfl _ XC _ _ (HS5.out.blk 2 rfl) Try.underlying39 rfl HIS.out ?_)
                | (go_at_call 59; (with_reducible refine (HA1.out _).mono ?_); rintro e w6 ⟨rfl, hb6⟩
                   have HS6 := Lib.hid (HS5.out.call hb6)
                   clear hb6)
              go_roundw
              case rel => exact ⟨j + 1, by omega, by go_num, by rw [HLN.out], by rw [HSTP.out, Int.add_assoc], HS6.out⟩
              case measure => simp [intOf]; omega
            · obtain rfl : j = t.stops.length := by omega
              have HWY2 : Hid (wayOf x ((1 + (st : Int)) :: nd) = stepsK x.cost ((1 + (st : Int)) :: nd) t.stops.length + cellOf x.cost (la : Int) ((1 + st : Nat) : Int)) := Lib.hid (by
                have h := HWY.out
                rw [HND.out.1, hla] at h
                rw [h]; congr 2)
              have hcin := cellOf_in HX.out (la : Int) ((1 + st : Nat) : Int)
              rw [hla] at hgin ⊢
              obtain ⟨sk, hsk⟩ : ∃ sk, stepsK x.cost ((1 + (st : Int)) :: nd) t.stops.length = sk := ⟨_, rfl⟩
              rw [hsk] at hsb HWY2 ⊢
              have hlan : la < x.n := by omega
              clear hla hsk hltj
              obtain ⟨gk, ok, ra, rc, gr, or_, hKA, hgk, f1, hra, hgr, f2⟩ := cost_at HX.out HI.out (a := la) (b := (1 + st)) (by omega) (by omega)
              have HK := Lib.hid (And.intro hKA (And.intro hgk (And.intro f1 (And.intro hgr f2))))
              subst hra
              clear hKA hgk f1 hgr f2
              obtain ⟨cst, hcst⟩ : ∃ cst, cellOf x.cost (la : Int) ((1 + st : Nat) : Int) = cst := ⟨_, rfl⟩
              rw [hcst] at hcin HWY2 HK
              clear hcst
              have hla1 : (la : Int) < (x.cost.length : Int) := by omega
              have hsj1 : (1 : Int) + (st : Int) < (x.n : Int) := by omega
              go_upto_region 24 with fail
              refine wp_region_sq _ hS (by kernel_rfl) (by kernel_rfl) fun C cw _ hC hin => ?_
              have q9 : ∀ d, (cw d).cell? ⟨tb, 0, none⟩ = some (.int .i64 (st : Int)) := fun d => (hC d).cell 0 rfl 0 (by rw [← HTV.out]; rfl)
              have q1 : ∀ d, (cw d).cell? ⟨ib, 7, none⟩ = some (.slice (some ⟨gk, ok, none⟩) x.cost.length p.kc) := fun d => (hC d).cell 2 rfl 7 (by rw [← HXC.out, ← HK.out.1]; rfl)
              have q2 : ∀ d, (cw d).cell? ⟨gk, ok + la, none⟩ = some (.slice (some ⟨gr, or_, none⟩) x.n rc) := fun d => ((hC d).below.cell (p := ⟨gk, ok + la, none⟩) HK.out.2.1).trans HK.out.2.2.1
              have q3 : ∀ d, (cw d).cell? ⟨gr, or_ + (1 + st), none⟩ = some (.int .i64 cst) := fun d => ((hC d).below.cell (p := ⟨gr, or_ + (1 + st), none⟩) HK.out.2.2.2.1).trans HK.out.2.2.2.2
              clear hC hin hS
              repeat (go_big_quiet_step (fail))
              refine wpQuiet_nil ?_
              intro w5 hS5
              have HS5 := Lib.hid hS5.tail
              clear q1 q2 q3 q9 hS5
              go_wp2_with fail
              go_roundw
              case rel => exact ⟨z + 1, by omega, by go_num, by rw [HCS.out, HWY2.out]; simp only [Int.add_assoc], HS5.out⟩
              case measure => simp [intOf]; omega
        · obtain rfl : z = nb := by omega
          have HBF := Lib.hid hS.below
          clear hS hlt
          go_wp2_with fail
          go_ret
          exact ⟨by rw [HCO.out]; rfl, HBF.out⟩
end Go.Proofs.Ytjpejclfppbboaa
