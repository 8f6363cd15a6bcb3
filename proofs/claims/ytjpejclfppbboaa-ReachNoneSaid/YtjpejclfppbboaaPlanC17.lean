/- The walk of plan.Check. (printed by gen/plancheck.py) -/
import Derived.Test.YtjpejclfppbboaaPlanK2
import Derived.Test.YtjpejclfppbboaaLoads
import Derived.Test.YtjpejclfppbboaaInstK
import Derived.Test.YtjpejclfppbboaaEqualAny
namespace Go.Proofs.Ytjpejclfppbboaa
open Go.ChangeShapes Go.WideShapes Go.ChangeAt Go.RowKit
set_option linter.unusedVariables false
theorem reads_row {w : World} {g n : Nat} {f : Nat → Int} {t : TypeId} (h : w.heap[g]? = some (.cells (iarr f n) t (0, 0))) : Reads w w.heap.size 1 (some ⟨g, 0, none⟩) ((List.range n).map f).length (((List.range n).map f).map (.int .i64)) := reads_iarr h
theorem same_rows {f g : Nat → Int} {n : Nat} : decide ((List.range n).map f = (List.range n).map g) = (List.range n).all fun s => decide (f s = g s) := by
  rw [Bool.eq_iff_iff, decide_eq_true_eq, List.all_eq_true]
  constructor
  · intro h s hs
    have hs' : s < n := by simpa using hs
    have := congrArg (fun l => l[s]?) h
    simp [hs'] at this
    simpa using this
  · intro h
    exact List.map_congr_left fun s hs => by simpa using h s hs
theorem rooms_no {x : InstV} {q : PlanV} {s : Nat} (h : s < x.sats.length) (hs : x.sats[s].room < loadsOf x q.bikes s) : roomsB x q = false := by
  unfold roomsB
  cases hc : (List.range x.sats.length).all fun s => decide (loadsOf x q.bikes s ≤ (x.sats.getD s ⟨0, 0⟩).room)
  · rfl
  · have := List.all_eq_true.1 hc s (by simpa using h)
    simp [h] at this
    omega
theorem rooms_yes {x : InstV} {q : PlanV} (h : ∀ s (hs : s < x.sats.length), loadsOf x q.bikes s ≤ x.sats[s].room) : roomsB x q = true := by
  unfold roomsB
  rw [List.all_eq_true]
  intro s hs
  have hs' : s < x.sats.length := by simpa using hs
  have := h s hs'
  simpa [hs'] using this
theorem InstIn.at_ {w wx : World} {p : IAt} {x : InstV} (h : InstIn w w.heap.size p x) (hb : Below w.heap.size w wx) : InstIn wx wx.heap.size p x := (h.below hb).more hb.size
theorem Trucks.at_ {w wx : World} {A : Option Addr} {l : List (List StopV)} (h : Trucks w w.heap.size A l) (hb : Below w.heap.size w wx) : Trucks wx wx.heap.size A l := trucks_more (h.below hb) hb.size
theorem Bikes.at_ {w wx : World} {A : Option Addr} {l : List BikeV} (h : Bikes w w.heap.size A l) (hb : Below w.heap.size w wx) : Bikes wx wx.heap.size A l := bikes_more (h.below hb) hb.size
set_option maxRecDepth 100000 in
set_option maxHeartbeats 8000000 in
theorem planCheck_any (x : InstV) (p : IAt) (TA BA : Option Addr) (tc bc : Nat) (q : PlanV) (w : World) (hI : InstIn w w.heap.size p x) (hP : PlanIn w w.heap.size TA BA q) (hx : x.Small) (hL : PlanL q) :
    Calls Try.prog 17 #[.agg (x.cells p), .agg #[.slice TA q.trucks.length tc, .slice BA q.bikes.length bc]] w fun e w' => e = .returned (.int .i64 (planCode x q)) ∧ Below w.heap.size w w' := by
  have HI := Lib.hid hI
  have HP := Lib.hid hP
  have HX := Lib.hid hx
  have HL := Lib.hid hL
  have hns := hx.sats
  obtain ⟨hns0, hns1⟩ := hns
  have hlt := hL.trucks
  have hlb := hL.bikes
  have HCK : Hid (∀ wx, Below w.heap.size w wx → Calls Try.prog 24 #[.agg #[.int .i64 x.fin, .int .i64 x.tm, .int .i64 x.tr, .int .i64 x.bm, .int .i64 x.br, .slice p.SA x.sats.length p.sc, .slice p.CA x.custs.length p.cc, .slice p.KA x.cost.length p.kc, .slice p.TA x.time.length p.tc]] wx fun e w' => e = .returned (.int .i64 0) ∧ Below wx.heap.size wx w') := Lib.hid (fun wx hb => by
    have h := check_any x p wx (hI.at_ hb) hx.lens
    rw [hx.code] at h
    exact h)
  have HTR : Hid (∀ wx, Below w.heap.size w wx → Calls Try.prog 46 #[.agg #[.slice TA q.trucks.length tc, .slice BA q.bikes.length bc], .agg #[.int .i64 x.fin, .int .i64 x.tm, .int .i64 x.tr, .int .i64 x.bm, .int .i64 x.br, .slice p.SA x.sats.length p.sc, .slice p.CA x.custs.length p.cc, .slice p.KA x.cost.length p.kc, .slice p.TA x.time.length p.tc]] wx (TrucksPost wx x q.trucks)) := Lib.hid (fun wx hb => trucks_any x p TA BA tc bc q.bikes.length q.trucks wx (hP.trucks.at_ hb) hx hL.trucks hL.stops)
  have HBK : Hid (∀ wx, Below w.heap.size w wx → Calls Try.prog 47 #[.agg #[.slice TA q.trucks.length tc, .slice BA q.bikes.length bc], .agg #[.int .i64 x.fin, .int .i64 x.tm, .int .i64 x.tr, .int .i64 x.bm, .int .i64 x.br, .slice p.SA x.sats.length p.sc, .slice p.CA x.custs.length p.cc, .slice p.KA x.cost.length p.kc, .slice p.TA x.time.length p.tc]] wx (BikesPost wx x q.bikes)) := Lib.hid (fun wx hb => bikes_any x p TA BA tc bc q.trucks.length q.bikes wx (hP.bikes.at_ hb) (hI.at_ hb) hx hL.bikes hL.custs)
  have HLD : Hid (∀ wx, Below w.heap.size w wx → Calls Try.prog 40 #[.agg #[.int .i64 x.fin, .int .i64 x.tm, .int .i64 x.tr, .int .i64 x.bm, .int .i64 x.br, .slice p.SA x.sats.length p.sc, .slice p.CA x.custs.length p.cc, .slice p.KA x.cost.length p.kc, .slice p.TA x.time.length p.tc], .slice BA q.bikes.length bc] wx (RowPost wx x.sats.length (loadsOf x q.bikes))) := Lib.hid (fun wx hb => loads_any x p BA bc q.bikes wx (hP.bikes.at_ hb) (hI.at_ hb) hx hL.bikes hL.custs)
  have HDR : Hid (∀ wx, Below w.heap.size w wx → routeT x.sats.length q.trucks = true → Calls Try.prog 48 #[.agg #[.slice TA q.trucks.length tc, .slice BA q.bikes.length bc], .agg #[.int .i64 x.fin, .int .i64 x.tm, .int .i64 x.tr, .int .i64 x.bm, .int .i64 x.br, .slice p.SA x.sats.length p.sc, .slice p.CA x.custs.length p.cc, .slice p.KA x.cost.length p.kc, .slice p.TA x.time.length p.tc]] wx (RowPost wx x.sats.length (dropsOf q.trucks))) := Lib.hid (fun wx hb hr => drops_any x p TA BA tc bc q.bikes.length q.trucks wx (hP.trucks.at_ hb) hx hL.trucks hL.stops hr)
  have HSM := Lib.hid hx.satsIn
  have HTM := Lib.hid (And.intro hx.tm hx.bm)
  have hS0 := ((SL.start (Nat.le_refl w.heap.size)).alloc (x.cells p) 39).alloc #[.slice TA q.trucks.length tc, .slice BA q.bikes.length bc] 30
  have HS0 := Lib.hid hS0
  clear hI hP hx hL hS0
  unfold InstV.cells
  go_enter Try.func17, Try.ntmps17
  go_upto_region 1 with fail
  obtain ⟨ib, hib⟩ : ∃ ib, ib = w.heap.size := ⟨_, rfl⟩
  obtain ⟨pb, hpb⟩ : ∃ pb, pb = w.heap.size + 1 := ⟨_, rfl⟩
  obtain ⟨pc, hpc⟩ : ∃ pc : Array Value, pc = #[.slice TA q.trucks.length tc, .slice BA q.bikes.length bc] := ⟨_, rfl⟩
  obtain ⟨ic, hic⟩ : ∃ ic : Array Value, ic = #[.int .i64 x.fin, .int .i64 x.tm, .int .i64 x.tr, .int .i64 x.bm, .int .i64 x.br, .slice p.SA x.sats.length p.sc, .slice p.CA x.custs.length p.cc, .slice p.KA x.cost.length p.kc, .slice p.TA x.time.length p.tc] := ⟨_, rfl⟩
  have HPC := Lib.hid hpc
  have HIC := Lib.hid hic
  have HS1 : Hid (SL w w.heap.size [.blk pb pc 30, .blk ib ic 39] ((w.alloc (.cells #[.int .i64 x.fin, .int .i64 x.tm, .int .i64 x.tr, .int .i64 x.bm, .int .i64 x.br, .slice p.SA x.sats.length p.sc, .slice p.CA x.custs.length p.cc, .slice p.KA x.cost.length p.kc, .slice p.TA x.time.length p.tc] 39)).alloc (.cells #[.slice TA q.trucks.length tc, .slice BA q.bikes.length bc] 30))) := Lib.hid (by
    have h := HS0.out
    unfold InstV.cells at h
    rw [hib, hpb, hpc, hic]
    simpa using h)
  rw [← hpb, ← hib]
  clear hpb hib HS0 hpc hic
  generalize ((w.alloc (.cells #[.int .i64 x.fin, .int .i64 x.tm, .int .i64 x.tr, .int .i64 x.bm, .int .i64 x.br, .slice p.SA x.sats.length p.sc, .slice p.CA x.custs.length p.cc, .slice p.KA x.cost.length p.kc, .slice p.TA x.time.length p.tc] 39)).alloc (.cells #[.slice TA q.trucks.length tc, .slice BA q.bikes.length bc] 30)) = w1 at *
  have hS1 := HS1.out
  have a0 : w1.cell? ⟨ib, 0, none⟩ = some (.int .i64 x.fin) := hS1.cell 1 rfl 0 (by rw [HIC.out]; rfl)
  have a1 : w1.cell? ⟨ib, 1, none⟩ = some (.int .i64 x.tm) := hS1.cell 1 rfl 1 (by rw [HIC.out]; rfl)
  have a2 : w1.cell? ⟨ib, 2, none⟩ = some (.int .i64 x.tr) := hS1.cell 1 rfl 2 (by rw [HIC.out]; rfl)
  have a3 : w1.cell? ⟨ib, 3, none⟩ = some (.int .i64 x.bm) := hS1.cell 1 rfl 3 (by rw [HIC.out]; rfl)
  have a4 : w1.cell? ⟨ib, 4, none⟩ = some (.int .i64 x.br) := hS1.cell 1 rfl 4 (by rw [HIC.out]; rfl)
  have a5 : w1.cell? ⟨ib, 5, none⟩ = some (.slice p.SA x.sats.length p.sc) := hS1.cell 1 rfl 5 (by rw [HIC.out]; rfl)
  have a6 : w1.cell? ⟨ib, 6, none⟩ = some (.slice p.CA x.custs.length p.cc) := hS1.cell 1 rfl 6 (by rw [HIC.out]; rfl)
  have a7 : w1.cell? ⟨ib, 7, none⟩ = some (.slice p.KA x.cost.length p.kc) := hS1.cell 1 rfl 7 (by rw [HIC.out]; rfl)
  have a8 : w1.cell? ⟨ib, 8, none⟩ = some (.slice p.TA x.time.length p.tc) := hS1.cell 1 rfl 8 (by rw [HIC.out]; rfl)
  have ap0 : w1.cell? ⟨pb, 0, none⟩ = some (.slice TA q.trucks.length tc) := hS1.cell 0 rfl 0 (by rw [HPC.out]; rfl)
  have ap1 : w1.cell? ⟨pb, 1, none⟩ = some (.slice BA q.bikes.length bc) := hS1.cell 0 rfl 1 (by rw [HPC.out]; rfl)
  clear hS1
  go_upto_region 4 with (go_at_call 24; (with_reducible refine (HCK.out _ HS1.out.below).mono ?_); rintro e w2 ⟨rfl, hb⟩
                         have HS2 := Lib.hid (HS1.out.call hb)
                         clear hb a0 a1 a2 a3 a4 a5 a6 a7 a8 ap0 ap1)
  have hS2 := HS2.out
  have b0 : w2.cell? ⟨ib, 0, none⟩ = some (.int .i64 x.fin) := hS2.cell 1 rfl 0 (by rw [HIC.out]; rfl)
  have b1 : w2.cell? ⟨ib, 1, none⟩ = some (.int .i64 x.tm) := hS2.cell 1 rfl 1 (by rw [HIC.out]; rfl)
  have b2 : w2.cell? ⟨ib, 2, none⟩ = some (.int .i64 x.tr) := hS2.cell 1 rfl 2 (by rw [HIC.out]; rfl)
  have b3 : w2.cell? ⟨ib, 3, none⟩ = some (.int .i64 x.bm) := hS2.cell 1 rfl 3 (by rw [HIC.out]; rfl)
  have b4 : w2.cell? ⟨ib, 4, none⟩ = some (.int .i64 x.br) := hS2.cell 1 rfl 4 (by rw [HIC.out]; rfl)
  have b5 : w2.cell? ⟨ib, 5, none⟩ = some (.slice p.SA x.sats.length p.sc) := hS2.cell 1 rfl 5 (by rw [HIC.out]; rfl)
  have b6 : w2.cell? ⟨ib, 6, none⟩ = some (.slice p.CA x.custs.length p.cc) := hS2.cell 1 rfl 6 (by rw [HIC.out]; rfl)
  have b7 : w2.cell? ⟨ib, 7, none⟩ = some (.slice p.KA x.cost.length p.kc) := hS2.cell 1 rfl 7 (by rw [HIC.out]; rfl)
  have b8 : w2.cell? ⟨ib, 8, none⟩ = some (.slice p.TA x.time.length p.tc) := hS2.cell 1 rfl 8 (by rw [HIC.out]; rfl)
  have bp0 : w2.cell? ⟨pb, 0, none⟩ = some (.slice TA q.trucks.length tc) := hS2.cell 0 rfl 0 (by rw [HPC.out]; rfl)
  have bp1 : w2.cell? ⟨pb, 1, none⟩ = some (.slice BA q.bikes.length bc) := hS2.cell 0 rfl 1 (by rw [HPC.out]; rfl)
  clear hS2 HS1 HCK
  by_cases f1 : (q.trucks.length : Int) ≤ x.tm
  case neg =>
    have HV : Hid (planCode x q = 11) := Lib.hid (by unfold planCode fleetB; rw [decide_eq_false f1]; rfl)
    have f1b : x.tm < (q.trucks.length : Int) := by omega
    clear f1
    go_wp2_with fail
    go_ret
    exact ⟨retInt HV.out.symm, HS2.out.below⟩
  case pos =>
  by_cases f2 : (q.bikes.length : Int) ≤ x.bm
  case neg =>
    have HV : Hid (planCode x q = 11) := Lib.hid (by unfold planCode fleetB; rw [decide_eq_true f1, decide_eq_false f2]; rfl)
    have f2b : x.bm < (q.bikes.length : Int) := by omega
    clear f2
    go_wp2_with fail
    go_ret
    exact ⟨retInt HV.out.symm, HS2.out.below⟩
  case pos =>
  have HFL : Hid (fleetB x q = true) := Lib.hid (by unfold fleetB; rw [decide_eq_true f1, decide_eq_true f2]; rfl)
  go_upto_region 8 with (first
    | (go_at_call 46; (with_reducible refine (HTR.out _ HS2.out.below).mono ?_); rintro e w3 ⟨r1, l1, rfl, hr1, hl1, hb⟩
       have HR1 := Lib.hid (And.intro hr1 hl1)
       have HS3 := Lib.hid (HS2.out.call hb)
       have hS3 := HS3.out
       have c0 : w3.cell? ⟨ib, 0, none⟩ = some (.int .i64 x.fin) := hS3.cell 1 rfl 0 (by rw [HIC.out]; rfl)
       have c1 : w3.cell? ⟨ib, 1, none⟩ = some (.int .i64 x.tm) := hS3.cell 1 rfl 1 (by rw [HIC.out]; rfl)
       have c2 : w3.cell? ⟨ib, 2, none⟩ = some (.int .i64 x.tr) := hS3.cell 1 rfl 2 (by rw [HIC.out]; rfl)
       have c3 : w3.cell? ⟨ib, 3, none⟩ = some (.int .i64 x.bm) := hS3.cell 1 rfl 3 (by rw [HIC.out]; rfl)
       have c4 : w3.cell? ⟨ib, 4, none⟩ = some (.int .i64 x.br) := hS3.cell 1 rfl 4 (by rw [HIC.out]; rfl)
       have c5 : w3.cell? ⟨ib, 5, none⟩ = some (.slice p.SA x.sats.length p.sc) := hS3.cell 1 rfl 5 (by rw [HIC.out]; rfl)
       have c6 : w3.cell? ⟨ib, 6, none⟩ = some (.slice p.CA x.custs.length p.cc) := hS3.cell 1 rfl 6 (by rw [HIC.out]; rfl)
       have c7 : w3.cell? ⟨ib, 7, none⟩ = some (.slice p.KA x.cost.length p.kc) := hS3.cell 1 rfl 7 (by rw [HIC.out]; rfl)
       have c8 : w3.cell? ⟨ib, 8, none⟩ = some (.slice p.TA x.time.length p.tc) := hS3.cell 1 rfl 8 (by rw [HIC.out]; rfl)
       have cp0 : w3.cell? ⟨pb, 0, none⟩ = some (.slice TA q.trucks.length tc) := hS3.cell 0 rfl 0 (by rw [HPC.out]; rfl)
       have cp1 : w3.cell? ⟨pb, 1, none⟩ = some (.slice BA q.bikes.length bc) := hS3.cell 0 rfl 1 (by rw [HPC.out]; rfl)
       clear hb hr1 hl1 hS3 b0 b1 b2 b3 b4 b5 b6 b7 b8 bp0 bp1)
    | (go_at_call 47; (with_reducible refine (HBK.out _ HS3.out.below).mono ?_); rintro e w4 ⟨r2, a2, l2, rfl, hr2, hl2, hb⟩
       have HR2 := Lib.hid (And.intro hr2 hl2)
       have HS4 := Lib.hid (HS3.out.call hb)
       have hS4 := HS4.out
       have d0 : w4.cell? ⟨ib, 0, none⟩ = some (.int .i64 x.fin) := hS4.cell 1 rfl 0 (by rw [HIC.out]; rfl)
       have d1 : w4.cell? ⟨ib, 1, none⟩ = some (.int .i64 x.tm) := hS4.cell 1 rfl 1 (by rw [HIC.out]; rfl)
       have d2 : w4.cell? ⟨ib, 2, none⟩ = some (.int .i64 x.tr) := hS4.cell 1 rfl 2 (by rw [HIC.out]; rfl)
       have d3 : w4.cell? ⟨ib, 3, none⟩ = some (.int .i64 x.bm) := hS4.cell 1 rfl 3 (by rw [HIC.out]; rfl)
       have d4 : w4.cell? ⟨ib, 4, none⟩ = some (.int .i64 x.br) := hS4.cell 1 rfl 4 (by rw [HIC.out]; rfl)
       have d5 : w4.cell? ⟨ib, 5, none⟩ = some (.slice p.SA x.sats.length p.sc) := hS4.cell 1 rfl 5 (by rw [HIC.out]; rfl)
       have d6 : w4.cell? ⟨ib, 6, none⟩ = some (.slice p.CA x.custs.length p.cc) := hS4.cell 1 rfl 6 (by rw [HIC.out]; rfl)
       have d7 : w4.cell? ⟨ib, 7, none⟩ = some (.slice p.KA x.cost.length p.kc) := hS4.cell 1 rfl 7 (by rw [HIC.out]; rfl)
       have d8 : w4.cell? ⟨ib, 8, none⟩ = some (.slice p.TA x.time.length p.tc) := hS4.cell 1 rfl 8 (by rw [HIC.out]; rfl)
       have dp0 : w4.cell? ⟨pb, 0, none⟩ = some (.slice TA q.trucks.length tc) := hS4.cell 0 rfl 0 (by rw [HPC.out]; rfl)
       have dp1 : w4.cell? ⟨pb, 1, none⟩ = some (.slice BA q.bikes.length bc) := hS4.cell 0 rfl 1 (by rw [HPC.out]; rfl)
       clear hb hr2 hl2 hS4 c0 c1 c2 c3 c4 c5 c6 c7 c8 cp0 cp1))
  clear f1 f2 HTR HBK HS2 HS3
  cases r1
  case false =>
    have HV : Hid (planCode x q = 15) := Lib.hid (by
      have h1 := HR1.out.1
      unfold planCode routesB
      rw [HFL.out, ← h1]
      rfl)
    go_wp2_with fail
    go_ret
    exact ⟨retInt HV.out.symm, HS4.out.below⟩
  case true =>
  cases r2
  case false =>
    have HV : Hid (planCode x q = 15) := Lib.hid (by
      have h1 := HR1.out.1
      have h2 := HR2.out.1
      unfold planCode routesB
      rw [HFL.out, ← h1, ← h2]
      rfl)
    go_wp2_with fail
    go_ret
    exact ⟨retInt HV.out.symm, HS4.out.below⟩
  case true =>
  have HRO : Hid (routesB x q = true) := Lib.hid (by unfold routesB; rw [← HR1.out.1, ← HR2.out.1]; rfl)
  cases a2
  case false =>
    have HV : Hid (planCode x q = 8) := Lib.hid (by
      have h1 := (HR2.out.2 rfl).1
      unfold planCode
      rw [HFL.out, HRO.out, ← h1]
      rfl)
    go_wp2_with fail
    go_ret
    exact ⟨retInt HV.out.symm, HS4.out.below⟩
  case true =>
  cases l1
  case false =>
    have HV : Hid (planCode x q = 10) := Lib.hid (by
      have h0 := (HR2.out.2 rfl).1
      have h1 := HR1.out.2 rfl
      unfold planCode loadsB
      rw [HFL.out, HRO.out, ← h0, ← h1]
      rfl)
    go_wp2_with fail
    go_ret
    exact ⟨retInt HV.out.symm, HS4.out.below⟩
  case true =>
  cases l2
  case false =>
    have HV : Hid (planCode x q = 10) := Lib.hid (by
      have h0 := (HR2.out.2 rfl).1
      have h1 := HR1.out.2 rfl
      have h2 := (HR2.out.2 rfl).2
      unfold planCode loadsB
      rw [HFL.out, HRO.out, ← h0, ← h1, ← h2]
      rfl)
    go_wp2_with fail
    go_ret
    exact ⟨retInt HV.out.symm, HS4.out.below⟩
  case true =>
  have HLO : Hid (loadsB x q = true) := Lib.hid (by unfold loadsB; rw [← HR1.out.2 rfl, ← (HR2.out.2 rfl).2]; rfl)
  have HAL : Hid (allB x.custs.length q.bikes = true) := Lib.hid (HR2.out.2 rfl).1.symm
  have HRT : Hid (routeT x.sats.length q.trucks = true) := Lib.hid HR1.out.1.symm
  clear HR1 HR2
  go_upto_region 16 with (go_at_call 40; (with_reducible refine (HLD.out _ HS4.out.below).mono ?_); rintro e w5 ⟨g, rfl, hq⟩
                          have HS5 := Lib.hid (HS4.out.join hq)
                          clear hq d0 d1 d2 d3 d4 d5 d6 d7 d8 dp0 dp1)
  clear HS4 HLD
  obtain ⟨ns, hns⟩ : ∃ ns, x.sats.length = ns := ⟨_, rfl⟩
  have HNS := Lib.hid hns
  obtain ⟨LF, hLF⟩ : ∃ LF, loadsOf x q.bikes = LF := ⟨_, rfl⟩
  have HLF := Lib.hid hLF
  have HS5 : Hid (SL w w.heap.size [.blk g (iarr LF x.sats.length) 2, .blk pb pc 30, .blk ib ic 39] w5) := Lib.hid (by rw [← hLF]; exact HS5.out)
  have hS5 := HS5.out
  clear hns hLF
  have e0 : w5.cell? ⟨ib, 0, none⟩ = some (.int .i64 x.fin) := hS5.cell 2 rfl 0 (by rw [HIC.out]; rfl)
  have e1 : w5.cell? ⟨ib, 1, none⟩ = some (.int .i64 x.tm) := hS5.cell 2 rfl 1 (by rw [HIC.out]; rfl)
  have e2 : w5.cell? ⟨ib, 2, none⟩ = some (.int .i64 x.tr) := hS5.cell 2 rfl 2 (by rw [HIC.out]; rfl)
  have e3 : w5.cell? ⟨ib, 3, none⟩ = some (.int .i64 x.bm) := hS5.cell 2 rfl 3 (by rw [HIC.out]; rfl)
  have e4 : w5.cell? ⟨ib, 4, none⟩ = some (.int .i64 x.br) := hS5.cell 2 rfl 4 (by rw [HIC.out]; rfl)
  have e5 : w5.cell? ⟨ib, 5, none⟩ = some (.slice p.SA x.sats.length p.sc) := hS5.cell 2 rfl 5 (by rw [HIC.out]; rfl)
  have e6 : w5.cell? ⟨ib, 6, none⟩ = some (.slice p.CA x.custs.length p.cc) := hS5.cell 2 rfl 6 (by rw [HIC.out]; rfl)
  have e7 : w5.cell? ⟨ib, 7, none⟩ = some (.slice p.KA x.cost.length p.kc) := hS5.cell 2 rfl 7 (by rw [HIC.out]; rfl)
  have e8 : w5.cell? ⟨ib, 8, none⟩ = some (.slice p.TA x.time.length p.tc) := hS5.cell 2 rfl 8 (by rw [HIC.out]; rfl)
  have ep0 : w5.cell? ⟨pb, 0, none⟩ = some (.slice TA q.trucks.length tc) := hS5.cell 1 rfl 0 (by rw [HPC.out]; rfl)
  have ep1 : w5.cell? ⟨pb, 1, none⟩ = some (.slice BA q.bikes.length bc) := hS5.cell 1 rfl 1 (by rw [HPC.out]; rfl)
  clear hS5
  go_loop [71] (fun i => ∃ k : Nat, k ≤ x.sats.length ∧ i = .int .i64 k ∧ Hid (∀ s (hs : s < x.sats.length), s < k → LF s ≤ x.sats[s].room)) (fun i => x.sats.length - (intOf i).toNat)
  case atStart => exact ⟨0, by omega, rfl, Lib.hid (fun s hs h => absurd h (by omega))⟩
  case round =>
    obtain ⟨k, hk, rfl, HK⟩ := hrel
    by_cases hlt : k < x.sats.length
    · obtain ⟨b, o, hSA, hb, d0, d1⟩ := sats_at (Reads.below HI.out.sats HS5.out.below) hlt
      have HRN := Lib.hid (rooms_no (q := q) hlt)
      have g0 : w5.cell? ⟨g, k, none⟩ = some (.int .i64 (LF k)) := HS5.out.cell 0 rfl k (iarr_get _ _ _ hlt)
      rw [HLF.out] at HRN
      obtain ⟨rm, hrm⟩ : ∃ rm, x.sats[k].room = rm := ⟨_, rfl⟩
      have HRM := Lib.hid hrm
      rw [hrm] at d0 HRN
      obtain ⟨lk, hlk⟩ : ∃ lk, LF k = lk := ⟨_, rfl⟩
      have HLK := Lib.hid hlk
      rw [hlk] at g0 HRN
      rw [hSA] at e5
      clear hrm hlk hSA
      by_cases hgt : rm < lk
      · have HV : Hid (planCode x q = 10) := Lib.hid (by unfold planCode; rw [HFL.out, HRO.out, HAL.out, HLO.out, HRN.out hgt]; rfl)
        go_wp2_with fail
        go_ret
        exact ⟨retInt HV.out.symm, HS5.out.below⟩
      · have hgt2 : lk ≤ rm := by omega
        have HN : Hid (∀ s (hs : s < x.sats.length), s < k + 1 → LF s ≤ x.sats[s].room) := Lib.hid (fun s hs h => by
          by_cases e : s = k
          · subst e; rw [HLK.out, HRM.out]; exact hgt2
          · exact HK.out s hs (by omega))
        go_wp2_with fail
        go_round
        case rel => exact ⟨k + 1, by omega, by go_num, HN⟩
        case measure => simp [intOf]; omega
    · obtain rfl : k = x.sats.length := by omega
      have HRY : Hid (roomsB x q = true) := Lib.hid (rooms_yes (fun s hs => by rw [HLF.out]; exact HK.out s hs hs))
      clear hlt
      go_wp2_with (first
        | (go_at_call 48; (with_reducible refine (HDR.out _ HS5.out.below HRT.out).mono ?_); rintro e w6 ⟨g2, rfl, hq2⟩
           have hS6 := HS5.out.join hq2
           have HEQ := Lib.hid (equalA_int64s (some ⟨g, 0, none⟩) (some ⟨g2, 0, none⟩) x.sats.length x.sats.length ((List.range x.sats.length).map LF) ((List.range x.sats.length).map (dropsOf q.trucks)) w6 (reads_row (hS6.blk 1 rfl)) (reads_row (hS6.blk 0 rfl)) (by unfold maxLen; simp; omega) (by unfold maxLen; simp; omega))
           rw [List.length_map, List.length_range, List.length_map, List.length_range, same_rows] at HEQ
           have HSAME : Hid (sameB x q = (List.range x.sats.length).all fun s => decide (LF s = dropsOf q.trucks s)) := Lib.hid (by unfold sameB; rw [HLF.out])
           obtain ⟨sb, hsb⟩ : ∃ sb, ((List.range x.sats.length).all fun s => decide (LF s = dropsOf q.trucks s)) = sb := ⟨_, rfl⟩
           rw [hsb] at HEQ HSAME
           have HB6 := Lib.hid hS6
           clear hq2 hS6 hsb e0 e1 e2 e3 e4 e5 e6 e7 e8 ep0 ep1)
        | (go_at_call 27; (with_reducible refine HEQ.out.mono ?_); rintro e w7 ⟨rfl, hb⟩
           have HB7 := Lib.hid (HB6.out.call hb).below
           clear hb
           cases sb))
      · have HV : Hid (planCode x q = 13) := Lib.hid (by unfold planCode; rw [HFL.out, HRO.out, HAL.out, HLO.out, HRY.out, HSAME.out]; rfl)
        go_wp2_with fail
        go_ret
        exact ⟨retInt HV.out.symm, HB7.out⟩
      · have HV : Hid (planCode x q = 0) := Lib.hid (by unfold planCode; rw [HFL.out, HRO.out, HAL.out, HLO.out, HRY.out, HSAME.out]; rfl)
        go_wp2_with fail
        go_ret
        exact ⟨retInt HV.out.symm, HB7.out⟩
end Go.Proofs.Ytjpejclfppbboaa
