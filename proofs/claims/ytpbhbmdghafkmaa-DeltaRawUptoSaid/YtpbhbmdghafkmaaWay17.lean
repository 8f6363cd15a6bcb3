/- The walks of plan.Way, Bike.Nodes and Truck.Nodes. (printed by gen/way17.py) -/
import Derived.Test.YtpbhbmdghafkmaaPlanC17J
namespace Go.Proofs.Ytpbhbmdghafkmaa
open Go.ChangeShapes Go.WideShapes Go.ChangeAt Go.RowKit
set_option linter.unusedVariables false
def nodeB (x : InstV) (a : Int) : Bool := decide (0 ≤ a ∧ a < (x.n : Int))
def cellOf (m : List (List Int)) (a b : Int) : Int := (m.getD a.toNat []).getD b.toNat 0
def nextOf (l : List Int) (i : Nat) : Int := l.getD ((i + 1) % l.length) 0
def stepsK (m : List (List Int)) (l : List Int) (k : Nat) : Int := ((List.range k).map fun i => cellOf m (l.getD i 0) (nextOf l i)).sum
def wayOf (x : InstV) (l : List Int) : Int := if l.all (nodeB x) then stepsK x.cost l l.length else 0
theorem stepsK_succ (m : List (List Int)) (l : List Int) (k : Nat) : stepsK m l (k + 1) = stepsK m l k + cellOf m (l.getD k 0) (nextOf l k) := by
 unfold stepsK
 rw [List.range_succ, List.map_append, List.sum_append]
 simp
theorem cellOf_in {x : InstV} (h : x.Small) (a b : Int) : 0 ≤ cellOf x.cost a b ∧ cellOf x.cost a b ≤ 30 := by
 unfold cellOf
 by_cases ha : a.toNat < x.cost.length
 · rw [List.getD_eq_getElem?_getD (l := x.cost), List.getElem?_eq_getElem ha, Option.getD_some]
   by_cases hb : b.toNat < x.cost[a.toNat].length
   · rw [List.getD_eq_getElem?_getD, List.getElem?_eq_getElem hb, Option.getD_some]
     have := h.costIn _ ha _ hb
     omega
   · rw [List.getD_eq_getElem?_getD, List.getElem?_eq_none (by omega)]; simp
 · rw [List.getD_eq_getElem?_getD (l := x.cost), List.getElem?_eq_none (by omega)]; simp
theorem stepsK_in {x : InstV} (h : x.Small) (l : List Int) (k : Nat) : 0 ≤ stepsK x.cost l k ∧ stepsK x.cost l k ≤ 30 * k := by
 induction k with
 | zero => simp [stepsK]
 | succ k ih =>
   rw [stepsK_succ]
   have := cellOf_in h (l.getD k 0) (nextOf l k)
   omega
theorem wayOf_no {x : InstV} {l : List Int} {a : Int} (h : a ∈ l) (hb : ¬ (0 ≤ a ∧ a < (x.n : Int))) : wayOf x l = 0 := by
 unfold wayOf
 cases hc : l.all (nodeB x)
 · rfl
 · have := List.all_eq_true.1 hc a h
   unfold nodeB at this
   exact absurd (of_decide_eq_true this) hb
theorem sat_any (x : InstV) (p : IAt) (s : Int) (w : World) : Calls Try.prog 66 #[.agg (x.cells p), .int .i64 s] w fun e w' => e = .returned (.int .i64 (wrap64 (1 + s))) ∧ Below w.heap.size w w' := by
 unfold InstV.cells
 go_enter Try.func66, Try.ntmps66
 go_wp2
 go_ret
 exact ⟨rfl, (Below.refl _ _).alloc (Nat.le_refl _) _⟩
theorem customer_any (x : InstV) (p : IAt) (c : Int) (w : World) (h1 : x.sats.length ≤ 1000) : Calls Try.prog 67 #[.agg (x.cells p), .int .i64 c] w fun e w' => e = .returned (.int .i64 (wrap64 (1 + x.sats.length + c))) ∧ Below w.heap.size w w' := by
 unfold InstV.cells
 go_enter Try.func67, Try.ntmps67
 go_wp2
 go_ret
 exact ⟨rfl, (Below.refl _ _).alloc (Nat.le_refl _) _⟩
def bikeNodes (ns : Nat) (b : BikeV) (k : Nat) : List Int := wrap64 (1 + b.sat) :: (b.stops.take k).map fun c => wrap64 (1 + ns + c)
theorem bikeNodes_succ {ns : Nat} {b : BikeV} {k : Nat} (h : k < b.stops.length) : bikeNodes ns b (k + 1) = bikeNodes ns b k ++ [wrap64 (1 + ns + b.stops[k])] := by
 unfold bikeNodes
 rw [List.take_succ_eq_append_getElem h, List.map_append]
 rfl
theorem info_int : (Try.prog.info? 3).map (fun i => (i.zero, i.size, i.bytes)) = some (some (.int .i64 0), 1, 8) := by kernel_rfl
set_option maxRecDepth 100000 in
set_option maxHeartbeats 8000000 in
theorem way_any (x : InstV) (p : IAt) (A : Option Addr) (c : Nat) (l : List Int) (w : World) (hI : InstIn w w.heap.size p x) (hx : x.Small) (hr : IntsAt w w.heap.size A l) (hln : l.length ≤ 100001) :
 Calls Try.prog 48 #[.agg (x.cells p), .slice A l.length c] w fun e w' => e = .returned (.int .i64 (wayOf x l)) ∧ Below w.heap.size w w' := by
 have HR := Lib.hid hr
 have HI := Lib.hid hI
 have HX := Lib.hid hx
 have HCK : Hid (∀ wx, Below w.heap.size w wx → Calls Try.prog 26 #[.agg #[.int .i64 x.fin, .int .i64 x.tm, .int .i64 x.tr, .int .i64 x.bm, .int .i64 x.br, .slice p.SA x.sats.length p.sc, .slice p.CA x.custs.length p.cc, .slice p.KA x.cost.length p.kc, .slice p.TA x.time.length p.tc]] wx fun e w' => e = .returned (.int .i64 0) ∧ Below wx.heap.size wx w') := Lib.hid (fun wx hb => by
  have h := check_any x p wx (hI.at_ hb) hx.lens
  rw [hx.code] at h
  exact h)
 have HND : Hid (∀ wx, Calls Try.prog 53 #[.agg #[.int .i64 x.fin, .int .i64 x.tm, .int .i64 x.tr, .int .i64 x.bm, .int .i64 x.br, .slice p.SA x.sats.length p.sc, .slice p.CA x.custs.length p.cc, .slice p.KA x.cost.length p.kc, .slice p.TA x.time.length p.tc]] wx fun e w' => e = .returned (.int .i64 (x.n : Nat)) ∧ Below wx.heap.size wx w') := Lib.hid (fun wx => instNodes_any x p wx (by have := hx.sats; omega) (by have := hx.custs; omega))
 have HN10 := Lib.hid (show x.n ≤ 10 by have := hx.sats; have := hx.custs; unfold InstV.n; omega)
 clear hI hx hr
 have hS0 := (SL.start (Nat.le_refl w.heap.size)).alloc (x.cells p) 58
 have HS0 := Lib.hid hS0
 clear hS0
 unfold InstV.cells
 go_enter Try.func48, Try.ntmps48
 go_upto_region 2 with fail
 obtain ⟨ib, hib⟩ : ∃ ib, ib = w.heap.size := ⟨_, rfl⟩
 obtain ⟨ic, hic⟩ : ∃ ic : Array Value, ic = #[.int .i64 x.fin, .int .i64 x.tm, .int .i64 x.tr, .int .i64 x.bm, .int .i64 x.br, .slice p.SA x.sats.length p.sc, .slice p.CA x.custs.length p.cc, .slice p.KA x.cost.length p.kc, .slice p.TA x.time.length p.tc] := ⟨_, rfl⟩
 have HIC := Lib.hid hic
 have HS1 : Hid (SL w w.heap.size [.blk ib ic 58] (w.alloc (.cells #[.int .i64 x.fin, .int .i64 x.tm, .int .i64 x.tr, .int .i64 x.bm, .int .i64 x.br, .slice p.SA x.sats.length p.sc, .slice p.CA x.custs.length p.cc, .slice p.KA x.cost.length p.kc, .slice p.TA x.time.length p.tc] 58))) := Lib.hid (by
  have h := HS0.out
  unfold InstV.cells at h
  rw [hib, hic]
  exact h)
 rw [← hib]
 clear hib HS0 hic
 generalize (w.alloc (.cells #[.int .i64 x.fin, .int .i64 x.tm, .int .i64 x.tr, .int .i64 x.bm, .int .i64 x.br, .slice p.SA x.sats.length p.sc, .slice p.CA x.custs.length p.cc, .slice p.KA x.cost.length p.kc, .slice p.TA x.time.length p.tc] 58)) = w1 at *
 go_wp2_with fail
 go_loopw [11, 5, 4] (fun i v5 v4 wr => ∃ k : Nat, k ≤ l.length ∧ i = .int .i64 k ∧ v5 = .int .i64 (stepsK x.cost l k) ∧ v4 = .int .i64 0 ∧ Hid (∀ j (h : j < l.length), j < k → 0 ≤ l[j] ∧ l[j] < (x.n : Int)) ∧ SL w w.heap.size [.blk ib ic 58] wr) (fun i _ _ _ => l.length - (intOf i).toNat)
 case atStart => exact ⟨0, by omega, rfl, rfl, rfl, Lib.hid (fun j _ h => absurd h (by omega)), HS1.out⟩
 case round =>
  clear HS1
  obtain ⟨k, hk, rfl, rfl, rfl, HOK, hS⟩ := hrel
  by_cases hlt : k < l.length
  · obtain ⟨b, o, hA, hb, e00⟩ := ints_at HR.out hlt
    have e0 := (hS.below.cell (p := ⟨b, o + k, none⟩) hb).trans e00
    obtain ⟨q, hqq⟩ : ∃ q, q = (k + 1) % l.length := ⟨_, rfl⟩
    have hq : q < l.length := by rw [hqq]; exact Nat.mod_lt _ (by omega)
    obtain ⟨b', o', hA', hb', e01⟩ := ints_at HR.out hq
    rw [hA] at hA'
    obtain ⟨rfl, rfl⟩ : b = b' ∧ o = o' := by simpa using hA'
    have e1 := (hS.below.cell (p := ⟨b, o + q, none⟩) hb).trans e01
    have hm2 : ((k : Int) + 1) % (l.length : Int) = (q : Int) := by rw [hqq]; simp
    have hm1 : ((k : Int) + 1).tmod (l.length : Int) = (q : Int) := by rw [Int.tmod_eq_emod_of_nonneg (by omega), hm2]
    have HNX : Hid (nextOf l k = l[q]) := Lib.hid (by unfold nextOf; rw [← hqq]; simp [hq])
    have HAK : Hid (l.getD k 0 = l[k]) := Lib.hid (by simp [hlt])
    have HMA := Lib.hid (List.getElem_mem hlt)
    have HMB := Lib.hid (List.getElem_mem hq)
    have HST := Lib.hid (stepsK_succ x.cost l k)
    have hsb := stepsK_in HX.out l k
    obtain ⟨va, hva⟩ : ∃ va, l[k] = va := ⟨_, rfl⟩
    obtain ⟨vb, hvb⟩ : ∃ vb, l[q] = vb := ⟨_, rfl⟩
    have HVA := Lib.hid hva
    rw [hva] at e0 HAK HMA
    rw [hvb] at e1 HNX HMB
    rw [HAK.out, HNX.out] at HST
    obtain ⟨sk, hsk⟩ : ∃ sk, stepsK x.cost l k = sk := ⟨_, rfl⟩
    rw [hsk] at HST hsb ⊢
    obtain ⟨sb0, sb1⟩ := hsb
    have HB0 := Lib.hid hS.below
    have HS := Lib.hid hS
    have hl1 : (0 : Int) < (l.length : Int) := by omega
    have hne : ¬ (l.length : Int) = 0 := by omega
    have hn10 := HN10.out
    obtain ⟨N, hN⟩ : ∃ N, x.n = N := ⟨_, rfl⟩
    have HN := Lib.hid hN
    rw [hN] at HND hn10
    have a0 : wr.cell? ⟨ib, 0, none⟩ = some (.int .i64 x.fin) := hS.cell 0 rfl 0 (by rw [HIC.out]; rfl)
    have a1 : wr.cell? ⟨ib, 1, none⟩ = some (.int .i64 x.tm) := hS.cell 0 rfl 1 (by rw [HIC.out]; rfl)
    have a2 : wr.cell? ⟨ib, 2, none⟩ = some (.int .i64 x.tr) := hS.cell 0 rfl 2 (by rw [HIC.out]; rfl)
    have a3 : wr.cell? ⟨ib, 3, none⟩ = some (.int .i64 x.bm) := hS.cell 0 rfl 3 (by rw [HIC.out]; rfl)
    have a4 : wr.cell? ⟨ib, 4, none⟩ = some (.int .i64 x.br) := hS.cell 0 rfl 4 (by rw [HIC.out]; rfl)
    have a5 : wr.cell? ⟨ib, 5, none⟩ = some (.slice p.SA x.sats.length p.sc) := hS.cell 0 rfl 5 (by rw [HIC.out]; rfl)
    have a6 : wr.cell? ⟨ib, 6, none⟩ = some (.slice p.CA x.custs.length p.cc) := hS.cell 0 rfl 6 (by rw [HIC.out]; rfl)
    have a7 : wr.cell? ⟨ib, 7, none⟩ = some (.slice p.KA x.cost.length p.kc) := hS.cell 0 rfl 7 (by rw [HIC.out]; rfl)
    have a8 : wr.cell? ⟨ib, 8, none⟩ = some (.slice p.TA x.time.length p.tc) := hS.cell 0 rfl 8 (by rw [HIC.out]; rfl)
    rw [hA]
    clear e00 e01 hqq hva hvb hS hA' hA hsk hN
    by_cases z1 : va < 0
    case pos =>
     have HV : Hid (wayOf x l = 0) := Lib.hid (wayOf_no HMA.out (by rw [HN.out]; omega))
     go_wp2_with (first
      | (go_at_call 26; (with_reducible refine (HCK.out _ HB0.out).mono ?_); rintro e w2 ⟨rfl, hb2⟩
         have HS2 := Lib.hid (HS.out.call hb2)
         have hS2 := HS2.out
         have b0 : w2.cell? ⟨ib, 0, none⟩ = some (.int .i64 x.fin) := hS2.cell 0 rfl 0 (by rw [HIC.out]; rfl)
         have b1 : w2.cell? ⟨ib, 1, none⟩ = some (.int .i64 x.tm) := hS2.cell 0 rfl 1 (by rw [HIC.out]; rfl)
         have b2 : w2.cell? ⟨ib, 2, none⟩ = some (.int .i64 x.tr) := hS2.cell 0 rfl 2 (by rw [HIC.out]; rfl)
         have b3 : w2.cell? ⟨ib, 3, none⟩ = some (.int .i64 x.bm) := hS2.cell 0 rfl 3 (by rw [HIC.out]; rfl)
         have b4 : w2.cell? ⟨ib, 4, none⟩ = some (.int .i64 x.br) := hS2.cell 0 rfl 4 (by rw [HIC.out]; rfl)
         have b5 : w2.cell? ⟨ib, 5, none⟩ = some (.slice p.SA x.sats.length p.sc) := hS2.cell 0 rfl 5 (by rw [HIC.out]; rfl)
         have b6 : w2.cell? ⟨ib, 6, none⟩ = some (.slice p.CA x.custs.length p.cc) := hS2.cell 0 rfl 6 (by rw [HIC.out]; rfl)
         have b7 : w2.cell? ⟨ib, 7, none⟩ = some (.slice p.KA x.cost.length p.kc) := hS2.cell 0 rfl 7 (by rw [HIC.out]; rfl)
         have b8 : w2.cell? ⟨ib, 8, none⟩ = some (.slice p.TA x.time.length p.tc) := hS2.cell 0 rfl 8 (by rw [HIC.out]; rfl)
         clear hb2 hS2 a0 a1 a2 a3 a4 a5 a6 a7 a8)
      | (go_at_call 53; have tok := HS2; (with_reducible refine (HND.out _).mono ?_); rintro e w3 ⟨rfl, hb3⟩
         have HS3 := Lib.hid (HS2.out.call hb3)
         have hS3 := HS3.out
         have c0 : w3.cell? ⟨ib, 0, none⟩ = some (.int .i64 x.fin) := hS3.cell 0 rfl 0 (by rw [HIC.out]; rfl)
         have c1 : w3.cell? ⟨ib, 1, none⟩ = some (.int .i64 x.tm) := hS3.cell 0 rfl 1 (by rw [HIC.out]; rfl)
         have c2 : w3.cell? ⟨ib, 2, none⟩ = some (.int .i64 x.tr) := hS3.cell 0 rfl 2 (by rw [HIC.out]; rfl)
         have c3 : w3.cell? ⟨ib, 3, none⟩ = some (.int .i64 x.bm) := hS3.cell 0 rfl 3 (by rw [HIC.out]; rfl)
         have c4 : w3.cell? ⟨ib, 4, none⟩ = some (.int .i64 x.br) := hS3.cell 0 rfl 4 (by rw [HIC.out]; rfl)
         have c5 : w3.cell? ⟨ib, 5, none⟩ = some (.slice p.SA x.sats.length p.sc) := hS3.cell 0 rfl 5 (by rw [HIC.out]; rfl)
         have c6 : w3.cell? ⟨ib, 6, none⟩ = some (.slice p.CA x.custs.length p.cc) := hS3.cell 0 rfl 6 (by rw [HIC.out]; rfl)
         have c7 : w3.cell? ⟨ib, 7, none⟩ = some (.slice p.KA x.cost.length p.kc) := hS3.cell 0 rfl 7 (by rw [HIC.out]; rfl)
         have c8 : w3.cell? ⟨ib, 8, none⟩ = some (.slice p.TA x.time.length p.tc) := hS3.cell 0 rfl 8 (by rw [HIC.out]; rfl)
         clear HS2 hb3 hS3 tok b0 b1 b2 b3 b4 b5 b6 b7 b8)
      | (go_at_call 53; (with_reducible refine (HND.out _).mono ?_); rintro e w4 ⟨rfl, hb4⟩
         have HS4 := Lib.hid (HS3.out.call hb4)
         have hS4 := HS4.out
         have d0 : w4.cell? ⟨ib, 0, none⟩ = some (.int .i64 x.fin) := hS4.cell 0 rfl 0 (by rw [HIC.out]; rfl)
         have d1 : w4.cell? ⟨ib, 1, none⟩ = some (.int .i64 x.tm) := hS4.cell 0 rfl 1 (by rw [HIC.out]; rfl)
         have d2 : w4.cell? ⟨ib, 2, none⟩ = some (.int .i64 x.tr) := hS4.cell 0 rfl 2 (by rw [HIC.out]; rfl)
         have d3 : w4.cell? ⟨ib, 3, none⟩ = some (.int .i64 x.bm) := hS4.cell 0 rfl 3 (by rw [HIC.out]; rfl)
         have d4 : w4.cell? ⟨ib, 4, none⟩ = some (.int .i64 x.br) := hS4.cell 0 rfl 4 (by rw [HIC.out]; rfl)
         have d5 : w4.cell? ⟨ib, 5, none⟩ = some (.slice p.SA x.sats.length p.sc) := hS4.cell 0 rfl 5 (by rw [HIC.out]; rfl)
         have d6 : w4.cell? ⟨ib, 6, none⟩ = some (.slice p.CA x.custs.length p.cc) := hS4.cell 0 rfl 6 (by rw [HIC.out]; rfl)
         have d7 : w4.cell? ⟨ib, 7, none⟩ = some (.slice p.KA x.cost.length p.kc) := hS4.cell 0 rfl 7 (by rw [HIC.out]; rfl)
         have d8 : w4.cell? ⟨ib, 8, none⟩ = some (.slice p.TA x.time.length p.tc) := hS4.cell 0 rfl 8 (by rw [HIC.out]; rfl)
         clear HS3 hb4 hS4 c0 c1 c2 c3 c4 c5 c6 c7 c8))
     go_ret
     exact ⟨retInt HV.out.symm, HS2.out.below⟩
    case neg =>
    by_cases z2 : (N : Int) ≤ va
    case pos =>
     have HV : Hid (wayOf x l = 0) := Lib.hid (wayOf_no HMA.out (by rw [HN.out]; omega))
     go_wp2_with (first
      | (go_at_call 26; (with_reducible refine (HCK.out _ HB0.out).mono ?_); rintro e w2 ⟨rfl, hb2⟩
         have HS2 := Lib.hid (HS.out.call hb2)
         have hS2 := HS2.out
         have b0 : w2.cell? ⟨ib, 0, none⟩ = some (.int .i64 x.fin) := hS2.cell 0 rfl 0 (by rw [HIC.out]; rfl)
         have b1 : w2.cell? ⟨ib, 1, none⟩ = some (.int .i64 x.tm) := hS2.cell 0 rfl 1 (by rw [HIC.out]; rfl)
         have b2 : w2.cell? ⟨ib, 2, none⟩ = some (.int .i64 x.tr) := hS2.cell 0 rfl 2 (by rw [HIC.out]; rfl)
         have b3 : w2.cell? ⟨ib, 3, none⟩ = some (.int .i64 x.bm) := hS2.cell 0 rfl 3 (by rw [HIC.out]; rfl)
         have b4 : w2.cell? ⟨ib, 4, none⟩ = some (.int .i64 x.br) := hS2.cell 0 rfl 4 (by rw [HIC.out]; rfl)
         have b5 : w2.cell? ⟨ib, 5, none⟩ = some (.slice p.SA x.sats.length p.sc) := hS2.cell 0 rfl 5 (by rw [HIC.out]; rfl)
         have b6 : w2.cell? ⟨ib, 6, none⟩ = some (.slice p.CA x.custs.length p.cc) := hS2.cell 0 rfl 6 (by rw [HIC.out]; rfl)
         have b7 : w2.cell? ⟨ib, 7, none⟩ = some (.slice p.KA x.cost.length p.kc) := hS2.cell 0 rfl 7 (by rw [HIC.out]; rfl)
         have b8 : w2.cell? ⟨ib, 8, none⟩ = some (.slice p.TA x.time.length p.tc) := hS2.cell 0 rfl 8 (by rw [HIC.out]; rfl)
         clear hb2 hS2 a0 a1 a2 a3 a4 a5 a6 a7 a8)
      | (go_at_call 53; have tok := HS2; (with_reducible refine (HND.out _).mono ?_); rintro e w3 ⟨rfl, hb3⟩
         have HS3 := Lib.hid (HS2.out.call hb3)
         have hS3 := HS3.out
         have c0 : w3.cell? ⟨ib, 0, none⟩ = some (.int .i64 x.fin) := hS3.cell 0 rfl 0 (by rw [HIC.out]; rfl)
         have c1 : w3.cell? ⟨ib, 1, none⟩ = some (.int .i64 x.tm) := hS3.cell 0 rfl 1 (by rw [HIC.out]; rfl)
         have c2 : w3.cell? ⟨ib, 2, none⟩ = some (.int .i64 x.tr) := hS3.cell 0 rfl 2 (by rw [HIC.out]; rfl)
         have c3 : w3.cell? ⟨ib, 3, none⟩ = some (.int .i64 x.bm) := hS3.cell 0 rfl 3 (by rw [HIC.out]; rfl)
         have c4 : w3.cell? ⟨ib, 4, none⟩ = some (.int .i64 x.br) := hS3.cell 0 rfl 4 (by rw [HIC.out]; rfl)
         have c5 : w3.cell? ⟨ib, 5, none⟩ = some (.slice p.SA x.sats.length p.sc) := hS3.cell 0 rfl 5 (by rw [HIC.out]; rfl)
         have c6 : w3.cell? ⟨ib, 6, none⟩ = some (.slice p.CA x.custs.length p.cc) := hS3.cell 0 rfl 6 (by rw [HIC.out]; rfl)
         have c7 : w3.cell? ⟨ib, 7, none⟩ = some (.slice p.KA x.cost.length p.kc) := hS3.cell 0 rfl 7 (by rw [HIC.out]; rfl)
         have c8 : w3.cell? ⟨ib, 8, none⟩ = some (.slice p.TA x.time.length p.tc) := hS3.cell 0 rfl 8 (by rw [HIC.out]; rfl)
         clear HS2 hb3 hS3 tok b0 b1 b2 b3 b4 b5 b6 b7 b8)
      | (go_at_call 53; (with_reducible refine (HND.out _).mono ?_); rintro e w4 ⟨rfl, hb4⟩
         have HS4 := Lib.hid (HS3.out.call hb4)
         have hS4 := HS4.out
         have d0 : w4.cell? ⟨ib, 0, none⟩ = some (.int .i64 x.fin) := hS4.cell 0 rfl 0 (by rw [HIC.out]; rfl)
         have d1 : w4.cell? ⟨ib, 1, none⟩ = some (.int .i64 x.tm) := hS4.cell 0 rfl 1 (by rw [HIC.out]; rfl)
         have d2 : w4.cell? ⟨ib, 2, none⟩ = some (.int .i64 x.tr) := hS4.cell 0 rfl 2 (by rw [HIC.out]; rfl)
         have d3 : w4.cell? ⟨ib, 3, none⟩ = some (.int .i64 x.bm) := hS4.cell 0 rfl 3 (by rw [HIC.out]; rfl)
         have d4 : w4.cell? ⟨ib, 4, none⟩ = some (.int .i64 x.br) := hS4.cell 0 rfl 4 (by rw [HIC.out]; rfl)
         have d5 : w4.cell? ⟨ib, 5, none⟩ = some (.slice p.SA x.sats.length p.sc) := hS4.cell 0 rfl 5 (by rw [HIC.out]; rfl)
         have d6 : w4.cell? ⟨ib, 6, none⟩ = some (.slice p.CA x.custs.length p.cc) := hS4.cell 0 rfl 6 (by rw [HIC.out]; rfl)
         have d7 : w4.cell? ⟨ib, 7, none⟩ = some (.slice p.KA x.cost.length p.kc) := hS4.cell 0 rfl 7 (by rw [HIC.out]; rfl)
         have d8 : w4.cell? ⟨ib, 8, none⟩ = some (.slice p.TA x.time.length p.tc) := hS4.cell 0 rfl 8 (by rw [HIC.out]; rfl)
         clear HS3 hb4 hS4 c0 c1 c2 c3 c4 c5 c6 c7 c8))
     go_ret
     exact ⟨retInt HV.out.symm, HS3.out.below⟩
    case neg =>
    have z1b : 0 ≤ va := by omega
    have z2b : va < (N : Int) := by omega
    by_cases z3 : vb < 0
    case pos =>
     have HV : Hid (wayOf x l = 0) := Lib.hid (wayOf_no HMB.out (by rw [HN.out]; omega))
     go_wp2_with (first
      | (go_at_call 26; (with_reducible refine (HCK.out _ HB0.out).mono ?_); rintro e w2 ⟨rfl, hb2⟩
         have HS2 := Lib.hid (HS.out.call hb2)
         have hS2 := HS2.out
         have b0 : w2.cell? ⟨ib, 0, none⟩ = some (.int .i64 x.fin) := hS2.cell 0 rfl 0 (by rw [HIC.out]; rfl)
         have b1 : w2.cell? ⟨ib, 1, none⟩ = some (.int .i64 x.tm) := hS2.cell 0 rfl 1 (by rw [HIC.out]; rfl)
         have b2 : w2.cell? ⟨ib, 2, none⟩ = some (.int .i64 x.tr) := hS2.cell 0 rfl 2 (by rw [HIC.out]; rfl)
         have b3 : w2.cell? ⟨ib, 3, none⟩ = some (.int .i64 x.bm) := hS2.cell 0 rfl 3 (by rw [HIC.out]; rfl)
         have b4 : w2.cell? ⟨ib, 4, none⟩ = some (.int .i64 x.br) := hS2.cell 0 rfl 4 (by rw [HIC.out]; rfl)
         have b5 : w2.cell? ⟨ib, 5, none⟩ = some (.slice p.SA x.sats.length p.sc) := hS2.cell 0 rfl 5 (by rw [HIC.out]; rfl)
         have b6 : w2.cell? ⟨ib, 6, none⟩ = some (.slice p.CA x.custs.length p.cc) := hS2.cell 0 rfl 6 (by rw [HIC.out]; rfl)
         have b7 : w2.cell? ⟨ib, 7, none⟩ = some (.slice p.KA x.cost.length p.kc) := hS2.cell 0 rfl 7 (by rw [HIC.out]; rfl)
         have b8 : w2.cell? ⟨ib, 8, none⟩ = some (.slice p.TA x.time.length p.tc) := hS2.cell 0 rfl 8 (by rw [HIC.out]; rfl)
         clear hb2 hS2 a0 a1 a2 a3 a4 a5 a6 a7 a8)
      | (go_at_call 53; have tok := HS2; (with_reducible refine (HND.out _).mono ?_); rintro e w3 ⟨rfl, hb3⟩
         have HS3 := Lib.hid (HS2.out.call hb3)
         have hS3 := HS3.out
         have c0 : w3.cell? ⟨ib, 0, none⟩ = some (.int .i64 x.fin) := hS3.cell 0 rfl 0 (by rw [HIC.out]; rfl)
         have c1 : w3.cell? ⟨ib, 1, none⟩ = some (.int .i64 x.tm) := hS3.cell 0 rfl 1 (by rw [HIC.out]; rfl)
         have c2 : w3.cell? ⟨ib, 2, none⟩ = some (.int .i64 x.tr) := hS3.cell 0 rfl 2 (by rw [HIC.out]; rfl)
         have c3 : w3.cell? ⟨ib, 3, none⟩ = some (.int .i64 x.bm) := hS3.cell 0 rfl 3 (by rw [HIC.out]; rfl)
         have c4 : w3.cell? ⟨ib, 4, none⟩ = some (.int .i64 x.br) := hS3.cell 0 rfl 4 (by rw [HIC.out]; rfl)
         have c5 : w3.cell? ⟨ib, 5, none⟩ = some (.slice p.SA x.sats.length p.sc) := hS3.cell 0 rfl 5 (by rw [HIC.out]; rfl)
         have c6 : w3.cell? ⟨ib, 6, none⟩ = some (.slice p.CA x.custs.length p.cc) := hS3.cell 0 rfl 6 (by rw [HIC.out]; rfl)
         have c7 : w3.cell? ⟨ib, 7, none⟩ = some (.slice p.KA x.cost.length p.kc) := hS3.cell 0 rfl 7 (by rw [HIC.out]; rfl)
         have c8 : w3.cell? ⟨ib, 8, none⟩ = some (.slice p.TA x.time.length p.tc) := hS3.cell 0 rfl 8 (by rw [HIC.out]; rfl)
         clear HS2 hb3 hS3 tok b0 b1 b2 b3 b4 b5 b6 b7 b8)
      | (go_at_call 53; (with_reducible refine (HND.out _).mono ?_); rintro e w4 ⟨rfl, hb4⟩
         have HS4 := Lib.hid (HS3.out.call hb4)
         have hS4 := HS4.out
         have d0 : w4.cell? ⟨ib, 0, none⟩ = some (.int .i64 x.fin) := hS4.cell 0 rfl 0 (by rw [HIC.out]; rfl)
         have d1 : w4.cell? ⟨ib, 1, none⟩ = some (.int .i64 x.tm) := hS4.cell 0 rfl 1 (by rw [HIC.out]; rfl)
         have d2 : w4.cell? ⟨ib, 2, none⟩ = some (.int .i64 x.tr) := hS4.cell 0 rfl 2 (by rw [HIC.out]; rfl)
         have d3 : w4.cell? ⟨ib, 3, none⟩ = some (.int .i64 x.bm) := hS4.cell 0 rfl 3 (by rw [HIC.out]; rfl)
         have d4 : w4.cell? ⟨ib, 4, none⟩ = some (.int .i64 x.br) := hS4.cell 0 rfl 4 (by rw [HIC.out]; rfl)
         have d5 : w4.cell? ⟨ib, 5, none⟩ = some (.slice p.SA x.sats.length p.sc) := hS4.cell 0 rfl 5 (by rw [HIC.out]; rfl)
         have d6 : w4.cell? ⟨ib, 6, none⟩ = some (.slice p.CA x.custs.length p.cc) := hS4.cell 0 rfl 6 (by rw [HIC.out]; rfl)
         have d7 : w4.cell? ⟨ib, 7, none⟩ = some (.slice p.KA x.cost.length p.kc) := hS4.cell 0 rfl 7 (by rw [HIC.out]; rfl)
         have d8 : w4.cell? ⟨ib, 8, none⟩ = some (.slice p.TA x.time.length p.tc) := hS4.cell 0 rfl 8 (by rw [HIC.out]; rfl)
         clear HS3 hb4 hS4 c0 c1 c2 c3 c4 c5 c6 c7 c8))
     go_ret
     exact ⟨retInt HV.out.symm, HS3.out.below⟩
    case neg =>
    by_cases z4 : (N : Int) ≤ vb
    case pos =>
     have HV : Hid (wayOf x l = 0) := Lib.hid (wayOf_no HMB.out (by rw [HN.out]; omega))
     go_wp2_with (first
      | (go_at_call 26; (with_reducible refine (HCK.out _ HB0.out).mono ?_); rintro e w2 ⟨rfl, hb2⟩
         have HS2 := Lib.hid (HS.out.call hb2)
         have hS2 := HS2.out
         have b0 : w2.cell? ⟨ib, 0, none⟩ = some (.int .i64 x.fin) := hS2.cell 0 rfl 0 (by rw [HIC.out]; rfl)
         have b1 : w2.cell? ⟨ib, 1, none⟩ = some (.int .i64 x.tm) := hS2.cell 0 rfl 1 (by rw [HIC.out]; rfl)
         have b2 : w2.cell? ⟨ib, 2, none⟩ = some (.int .i64 x.tr) := hS2.cell 0 rfl 2 (by rw [HIC.out]; rfl)
         have b3 : w2.cell? ⟨ib, 3, none⟩ = some (.int .i64 x.bm) := hS2.cell 0 rfl 3 (by rw [HIC.out]; rfl)
         have b4 : w2.cell? ⟨ib, 4, none⟩ = some (.int .i64 x.br) := hS2.cell 0 rfl 4 (by rw [HIC.out]; rfl)
         have b5 : w2.cell? ⟨ib, 5, none⟩ = some (.slice p.SA x.sats.length p.sc) := hS2.cell 0 rfl 5 (by rw [HIC.out]; rfl)
         have b6 : w2.cell? ⟨ib, 6, none⟩ = some (.slice p.CA x.custs.length p.cc) := hS2.cell 0 rfl 6 (by rw [HIC.out]; rfl)
         have b7 : w2.cell? ⟨ib, 7, none⟩ = some (.slice p.KA x.cost.length p.kc) := hS2.cell 0 rfl 7 (by rw [HIC.out]; rfl)
         have b8 : w2.cell? ⟨ib, 8, none⟩ = some (.slice p.TA x.time.length p.tc) := hS2.cell 0 rfl 8 (by rw [HIC.out]; rfl)
         clear hb2 hS2 a0 a1 a2 a3 a4 a5 a6 a7 a8)
      | (go_at_call 53; have tok := HS2; (with_reducible refine (HND.out _).mono ?_); rintro e w3 ⟨rfl, hb3⟩
         have HS3 := Lib.hid (HS2.out.call hb3)
         have hS3 := HS3.out
         have c0 : w3.cell? ⟨ib, 0, none⟩ = some (.int .i64 x.fin) := hS3.cell 0 rfl 0 (by rw [HIC.out]; rfl)
         have c1 : w3.cell? ⟨ib, 1, none⟩ = some (.int .i64 x.tm) := hS3.cell 0 rfl 1 (by rw [HIC.out]; rfl)
         have c2 : w3.cell? ⟨ib, 2, none⟩ = some (.int .i64 x.tr) := hS3.cell 0 rfl 2 (by rw [HIC.out]; rfl)
         have c3 : w3.cell? ⟨ib, 3, none⟩ = some (.int .i64 x.bm) := hS3.cell 0 rfl 3 (by rw [HIC.out]; rfl)
         have c4 : w3.cell? ⟨ib, 4, none⟩ = some (.int .i64 x.br) := hS3.cell 0 rfl 4 (by rw [HIC.out]; rfl)
         have c5 : w3.cell? ⟨ib, 5, none⟩ = some (.slice p.SA x.sats.length p.sc) := hS3.cell 0 rfl 5 (by rw [HIC.out]; rfl)
         have c6 : w3.cell? ⟨ib, 6, none⟩ = some (.slice p.CA x.custs.length p.cc) := hS3.cell 0 rfl 6 (by rw [HIC.out]; rfl)
         have c7 : w3.cell? ⟨ib, 7, none⟩ = some (.slice p.KA x.cost.length p.kc) := hS3.cell 0 rfl 7 (by rw [HIC.out]; rfl)
         have c8 : w3.cell? ⟨ib, 8, none⟩ = some (.slice p.TA x.time.length p.tc) := hS3.cell 0 rfl 8 (by rw [HIC.out]; rfl)
         clear HS2 hb3 hS3 tok b0 b1 b2 b3 b4 b5 b6 b7 b8)
      | (go_at_call 53; (with_reducible refine (HND.out _).mono ?_); rintro e w4 ⟨rfl, hb4⟩
         have HS4 := Lib.hid (HS3.out.call hb4)
         have hS4 := HS4.out
         have d0 : w4.cell? ⟨ib, 0, none⟩ = some (.int .i64 x.fin) := hS4.cell 0 rfl 0 (by rw [HIC.out]; rfl)
         have d1 : w4.cell? ⟨ib, 1, none⟩ = some (.int .i64 x.tm) := hS4.cell 0 rfl 1 (by rw [HIC.out]; rfl)
         have d2 : w4.cell? ⟨ib, 2, none⟩ = some (.int .i64 x.tr) := hS4.cell 0 rfl 2 (by rw [HIC.out]; rfl)
         have d3 : w4.cell? ⟨ib, 3, none⟩ = some (.int .i64 x.bm) := hS4.cell 0 rfl 3 (by rw [HIC.out]; rfl)
         have d4 : w4.cell? ⟨ib, 4, none⟩ = some (.int .i64 x.br) := hS4.cell 0 rfl 4 (by rw [HIC.out]; rfl)
         have d5 : w4.cell? ⟨ib, 5, none⟩ = some (.slice p.SA x.sats.length p.sc) := hS4.cell 0 rfl 5 (by rw [HIC.out]; rfl)
         have d6 : w4.cell? ⟨ib, 6, none⟩ = some (.slice p.CA x.custs.length p.cc) := hS4.cell 0 rfl 6 (by rw [HIC.out]; rfl)
         have d7 : w4.cell? ⟨ib, 7, none⟩ = some (.slice p.KA x.cost.length p.kc) := hS4.cell 0 rfl 7 (by rw [HIC.out]; rfl)
         have d8 : w4.cell? ⟨ib, 8, none⟩ = some (.slice p.TA x.time.length p.tc) := hS4.cell 0 rfl 8 (by rw [HIC.out]; rfl)
         clear HS3 hb4 hS4 c0 c1 c2 c3 c4 c5 c6 c7 c8))
     go_ret
     exact ⟨retInt HV.out.symm, HS4.out.below⟩
    case neg =>
    obtain ⟨a, rfl⟩ : ∃ a : Nat, va = a := ⟨va.toNat, by omega⟩
    obtain ⟨d, rfl⟩ : ∃ a : Nat, vb = a := ⟨vb.toNat, by omega⟩
    have hal : a < x.cost.length := by rw [HX.out.costLen.1, HN.out]; omega
    obtain ⟨b5, o5, ra, rc, hKA, hb5, f00, hrow⟩ := mat_at HI.out.cost hal
    have hrl : x.cost[a].length = N := by rw [← HN.out]; exact HX.out.costLen.2 _ (List.getElem_mem hal)
    have hdl : d < x.cost[a].length := by omega
    obtain ⟨b6, o6, rfl, hb6, g00⟩ := ints_at hrow hdl
    have HCE : Hid (cellOf x.cost (a : Int) (d : Int) = x.cost[a][d]) := Lib.hid (by unfold cellOf; simp [hal, hdl])
    have hcin := cellOf_in HX.out (a : Int) (d : Int)
    rw [HCE.out] at hcin
    obtain ⟨cv, hcv⟩ : ∃ cv, x.cost[a][d] = cv := ⟨_, rfl⟩
    rw [hcv] at g00 HCE hcin
    rw [HCE.out] at HST
    rw [hrl] at f00
    have HMEM := Lib.hid (And.intro hb5 (And.intro f00 (And.intro hb6 g00)))
    have HKA := Lib.hid hKA
    obtain ⟨ci0, ci1⟩ := hcin
    have hal2 : (a : Int) < (x.cost.length : Int) := by omega
    have ha0 : (0 : Int) ≤ (a : Int) := by omega
    have hd0 : (0 : Int) ≤ (d : Int) := by omega
    have hd1 : (d : Int) < (N : Int) := by omega
    have HKL := Lib.hid (show x.cost.length = N by rw [HX.out.costLen.1, HN.out])
    clear f00 hrow hrl hdl hb6 g00 hcv hKA hb5 HCE z1 z2 z3 z4
    go_wp2_with (first
     | (go_at_call 26; (with_reducible refine (HCK.out _ HB0.out).mono ?_); rintro e w2 ⟨rfl, hb2⟩
        have HS2 := Lib.hid (HS.out.call hb2)
        have hS2 := HS2.out
        have b0 : w2.cell? ⟨ib, 0, none⟩ = some (.int .i64 x.fin) := hS2.cell 0 rfl 0 (by rw [HIC.out]; rfl)
        have b1 : w2.cell? ⟨ib, 1, none⟩ = some (.int .i64 x.tm) := hS2.cell 0 rfl 1 (by rw [HIC.out]; rfl)
        have b2 : w2.cell? ⟨ib, 2, none⟩ = some (.int .i64 x.tr) := hS2.cell 0 rfl 2 (by rw [HIC.out]; rfl)
        have b3 : w2.cell? ⟨ib, 3, none⟩ = some (.int .i64 x.bm) := hS2.cell 0 rfl 3 (by rw [HIC.out]; rfl)
        have b4 : w2.cell? ⟨ib, 4, none⟩ = some (.int .i64 x.br) := hS2.cell 0 rfl 4 (by rw [HIC.out]; rfl)
        have b5 : w2.cell? ⟨ib, 5, none⟩ = some (.slice p.SA x.sats.length p.sc) := hS2.cell 0 rfl 5 (by rw [HIC.out]; rfl)
        have b6 : w2.cell? ⟨ib, 6, none⟩ = some (.slice p.CA x.custs.length p.cc) := hS2.cell 0 rfl 6 (by rw [HIC.out]; rfl)
        have b7 : w2.cell? ⟨ib, 7, none⟩ = some (.slice p.KA x.cost.length p.kc) := hS2.cell 0 rfl 7 (by rw [HIC.out]; rfl)
        have b8 : w2.cell? ⟨ib, 8, none⟩ = some (.slice p.TA x.time.length p.tc) := hS2.cell 0 rfl 8 (by rw [HIC.out]; rfl)
        clear hb2 hS2 a0 a1 a2 a3 a4 a5 a6 a7 a8)
     | (go_at_call 53; have tok := HS2; (with_reducible refine (HND.out _).mono ?_); rintro e w3 ⟨rfl, hb3⟩
        have HS3 := Lib.hid (HS2.out.call hb3)
        have hS3 := HS3.out
        have c0 : w3.cell? ⟨ib, 0, none⟩ = some (.int .i64 x.fin) := hS3.cell 0 rfl 0 (by rw [HIC.out]; rfl)
        have c1 : w3.cell? ⟨ib, 1, none⟩ = some (.int .i64 x.tm) := hS3.cell 0 rfl 1 (by rw [HIC.out]; rfl)
        have c2 : w3.cell? ⟨ib, 2, none⟩ = some (.int .i64 x.tr) := hS3.cell 0 rfl 2 (by rw [HIC.out]; rfl)
        have c3 : w3.cell? ⟨ib, 3, none⟩ = some (.int .i64 x.bm) := hS3.cell 0 rfl 3 (by rw [HIC.out]; rfl)
        have c4 : w3.cell? ⟨ib, 4, none⟩ = some (.int .i64 x.br) := hS3.cell 0 rfl 4 (by rw [HIC.out]; rfl)
        have c5 : w3.cell? ⟨ib, 5, none⟩ = some (.slice p.SA x.sats.length p.sc) := hS3.cell 0 rfl 5 (by rw [HIC.out]; rfl)
        have c6 : w3.cell? ⟨ib, 6, none⟩ = some (.slice p.CA x.custs.length p.cc) := hS3.cell 0 rfl 6 (by rw [HIC.out]; rfl)
        have c7 : w3.cell? ⟨ib, 7, none⟩ = some (.slice p.KA x.cost.length p.kc) := hS3.cell 0 rfl 7 (by rw [HIC.out]; rfl)
        have c8 : w3.cell? ⟨ib, 8, none⟩ = some (.slice p.TA x.time.length p.tc) := hS3.cell 0 rfl 8 (by rw [HIC.out]; rfl)
        clear HS2 hb3 hS3 tok b0 b1 b2 b3 b4 b5 b6 b7 b8)
     | (go_at_call 53; (with_reducible refine (HND.out _).mono ?_); rintro e w4 ⟨rfl, hb4⟩
        have HS4 := Lib.hid (HS3.out.call hb4)
        have hS4 := HS4.out
        have d0 : w4.cell? ⟨ib, 0, none⟩ = some (.int .i64 x.fin) := hS4.cell 0 rfl 0 (by rw [HIC.out]; rfl)
        have d1 : w4.cell? ⟨ib, 1, none⟩ = some (.int .i64 x.tm) := hS4.cell 0 rfl 1 (by rw [HIC.out]; rfl)
        have d2 : w4.cell? ⟨ib, 2, none⟩ = some (.int .i64 x.tr) := hS4.cell 0 rfl 2 (by rw [HIC.out]; rfl)
        have d3 : w4.cell? ⟨ib, 3, none⟩ = some (.int .i64 x.bm) := hS4.cell 0 rfl 3 (by rw [HIC.out]; rfl)
        have d4 : w4.cell? ⟨ib, 4, none⟩ = some (.int .i64 x.br) := hS4.cell 0 rfl 4 (by rw [HIC.out]; rfl)
        have d5 : w4.cell? ⟨ib, 5, none⟩ = some (.slice p.SA x.sats.length p.sc) := hS4.cell 0 rfl 5 (by rw [HIC.out]; rfl)
        have d6 : w4.cell? ⟨ib, 6, none⟩ = some (.slice p.CA x.custs.length p.cc) := hS4.cell 0 rfl 6 (by rw [HIC.out]; rfl)
        have d7 : w4.cell? ⟨ib, 7, none⟩ = some (.slice p.KA x.cost.length p.kc) := hS4.cell 0 rfl 7 (by rw [HIC.out]; rfl)
        have d8 : w4.cell? ⟨ib, 8, none⟩ = some (.slice p.TA x.time.length p.tc) := hS4.cell 0 rfl 8 (by rw [HIC.out]; rfl)
        have k7 : w4.cell? ⟨b5, o5 + a, none⟩ = some (.slice (some ⟨b6, o6, none⟩) N rc) := (hS4.below.cell (p := ⟨b5, o5 + a, none⟩) HMEM.out.1).trans HMEM.out.2.1
        have k8 : w4.cell? ⟨b6, o6 + d, none⟩ = some (.int .i64 cv) := (hS4.below.cell (p := ⟨b6, o6 + d, none⟩) HMEM.out.2.2.1).trans HMEM.out.2.2.2
        rw [HKA.out] at d7
        clear HS3 hb4 hS4 c0 c1 c2 c3 c4 c5 c6 c7 c8))
    go_roundw
    case rel =>
     refine ⟨k + 1, by omega, by go_num, by rw [HST.out], rfl, Lib.hid (fun j h hj => ?_), HS4.out⟩
     by_cases e : j = k
     · subst e; rw [HVA.out, HN.out]; exact ⟨ha0, z2b⟩
     · exact HOK.out j h (by omega)
    case measure => simp [intOf]; omega
  · obtain rfl : k = l.length := by omega
    have HV : Hid (wayOf x l = stepsK x.cost l l.length) := Lib.hid (by
     unfold wayOf
     rw [if_pos]
     rw [List.all_eq_true]
     intro a ha
     obtain ⟨j, hj, rfl⟩ := List.getElem_of_mem ha
     unfold nodeB
     exact decide_eq_true (HOK.out j hj hj))
    have HS := Lib.hid hS
    clear hS hlt
    go_wp2_with fail
    go_ret
    exact ⟨retInt HV.out.symm, HS.out.below⟩
end Go.Proofs.Ytpbhbmdghafkmaa
