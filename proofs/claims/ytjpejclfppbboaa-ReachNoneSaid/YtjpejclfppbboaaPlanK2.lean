/- The walk of Plan.bikes. (printed by gen/plantb.py) -/
import Derived.Test.YtjpejclfppbboaaPlanT
namespace Go.Proofs.Ytjpejclfppbboaa
open Go.ChangeShapes Go.WideShapes Go.ChangeAt Go.RowKit
set_option linter.unusedVariables false
def BikesPost (w : World) (x : InstV) (bs : List BikeV) (e : Ending) (w' : World) : Prop :=
  ∃ r a l, e = .returned (.tuple #[.bool r, .bool a, .bool l]) ∧ r = routeB x.sats.length x.custs.length bs ∧ (r = true → a = allB x.custs.length bs ∧ l = loadB x.custs x.br bs) ∧ Below w.heap.size w w'
theorem bikeHB_false {ns : Nat} {b : BikeV} (h : (b.sat < 0 ∨ (ns : Int) ≤ b.sat) ∨ b.stops.length = 0) : bikeHB ns b = false := by
  unfold bikeHB
  rcases h with h | h
  · rw [decide_eq_false (show ¬ (0 ≤ b.sat ∧ b.sat < ns) by omega)]; rfl
  · rw [decide_eq_false (show ¬ 0 < b.stops.length by omega)]; simp
theorem bikeB_false {ns nc : Nat} {prev : List Int} {b : BikeV} (h : bikeHB ns b = false ∨ bikeK nc prev b.stops b.stops.length = false) : bikeB ns nc prev b = false := by
  unfold bikeB
  rcases h with h | h <;> rw [h] <;> simp
theorem custOk_false {nc : Nat} {prev : List Int} {c : Int} (h : (c < 0 ∨ (nc : Int) ≤ c) ∨ prev.contains c = true) : custOk nc prev c = false := by
  unfold custOk
  rcases h with h | h
  · rw [decide_eq_false (show ¬ (0 ≤ c ∧ c < nc) by omega)]; rfl
  · rw [h]; simp
theorem custOk_true {nc : Nat} {prev : List Int} {c : Int} (h1 : ¬ c < 0) (h2 : ¬ (nc : Int) ≤ c) (h3 : prev.contains c = false) : custOk nc prev c = true := by
  unfold custOk
  rw [decide_eq_true (show 0 ≤ c ∧ c < nc by omega), h3]; rfl
theorem custLoad_at {cs : List CustV} {c : Nat} (h : c < cs.length) : custLoad cs (c : Int) = cs[c].load := by
  unfold custLoad; simp [h]
theorem take_snocI {l : List Int} {j : Nat} (A : List Int) (h : j < l.length) : A ++ l.take (j + 1) = (A ++ l.take j) ++ [l[j]] := by
  rw [List.take_succ_eq_append_getElem h, List.append_assoc]
set_option maxRecDepth 100000 in
set_option maxHeartbeats 8000000 in
theorem bikes_any (x : InstV) (p : IAt) (TA BA : Option Addr) (tc bc nt : Nat) (bs : List BikeV) (w : World) (hT : Bikes w w.heap.size BA bs) (hI : InstIn w w.heap.size p x) (hx : x.Small) (hL1 : bs.length ≤ 100000) (hL2 : (allStops bs).length ≤ 100000) :
    Calls Try.prog 47 #[.agg #[.slice TA nt tc, .slice BA bs.length bc], .agg (x.cells p)] w (BikesPost w x bs) := by
  have HT := Lib.hid hT
  have HI := Lib.hid hI
  have HL2 := Lib.hid hL2
  have hbr := hx.br
  obtain ⟨hbr0, hbr1⟩ := hbr
  have hnc := hx.custs
  obtain ⟨hnc0, hnc1⟩ := hnc
  have hns := hx.sats
  obtain ⟨hns0, hns1⟩ := hns
  have HCL : Hid (∀ c ∈ x.custs, 1 ≤ c.load ∧ c.load ≤ 20) := Lib.hid (fun c hc => (hx.custsIn c hc).1)
  have hS0 := ((SL.start (Nat.le_refl w.heap.size)).alloc #[.slice TA nt tc, .slice BA bs.length bc] 30).alloc (x.cells p) 39
  have HS0 := Lib.hid hS0
  have c0 : ((w.alloc (.cells #[.slice TA nt tc, .slice BA bs.length bc] 30)).alloc (.cells (x.cells p) 39)).cell? ⟨w.heap.size, 1, none⟩ = some (.slice BA bs.length bc) := hS0.cell 1 rfl 1 rfl
  clear hT hI hL2 hx hS0
  unfold InstV.cells at c0 ⊢
  go_enter Try.func47, Try.ntmps47
  go_upto_region 4 with fail
  clear c0
  obtain ⟨pb, hpb⟩ : ∃ pb, pb = w.heap.size := ⟨_, rfl⟩
  obtain ⟨ib, hib⟩ : ∃ ib, ib = w.heap.size + 1 := ⟨_, rfl⟩
  obtain ⟨pc, hpc⟩ : ∃ pc : Array Value, pc = #[.slice TA nt tc, .slice BA bs.length bc] := ⟨_, rfl⟩
  have HS1 : Hid (SL w w.heap.size [.blk ib (x.cells p) 39, .blk pb pc 30] ((w.alloc (.cells #[.slice TA nt tc, .slice BA bs.length bc] 30)).alloc (.cells (x.cells p) 39))) := Lib.hid (by rw [hpb, hib, hpc]; simpa using HS0.out)
  unfold InstV.cells at HS1
  rw [← hib, ← hpb]
  generalize ((w.alloc (.cells _ 30)).alloc (.cells _ 39)) = w1 at *
  clear hpb hib HS0 hpc
  go_loopw [16, 7, 4, 5, 6] (fun i v7 v4 v5 v6 wr => ∃ (k : Nat) (L : Bool), k ≤ bs.length ∧ i = .int .i64 k ∧ v7 = .int .u64 (seenL (allStops (bs.take k)) : Nat) ∧ v4 = .bool true ∧ v5 = .bool false ∧ v6 = .bool L ∧ Hid (bikesK x.sats.length x.custs.length bs k = true ∧ L = loadB x.custs x.br (bs.take k)) ∧ SL w w.heap.size [.blk ib (x.cells p) 39, .blk pb pc 30] wr) (fun i _ _ _ _ _ => bs.length - (intOf i).toNat)
  case atStart => exact ⟨0, true, by omega, rfl, rfl, rfl, rfl, rfl, Lib.hid ⟨rfl, rfl⟩, HS1.out⟩
  case round =>
    clear HS1
    obtain ⟨k, L, hk, rfl, rfl, rfl, rfl, rfl, HRL, hS⟩ := hrel
    obtain ⟨A, hA⟩ : ∃ A, allStops (bs.take k) = A := ⟨_, rfl⟩
    by_cases hlt : k < bs.length
    · obtain ⟨b, o, a, c, hBA, hb, d00, d01, hst⟩ := bikes_at HT.out hlt
      have d0 := (hS.below.cell (p := ⟨b, o + k * 2, none⟩) hb).trans d00
      have d1 := (hS.below.cell (p := ⟨b, o + k * 2 + 1, none⟩) hb).trans d01
      clear d00 d01
      have htl : bs[k].stops.length ≤ 100000 := by have := stops_le hlt; have := HL2.out; omega
      have HKN := Lib.hid (bikesK_no (ns := x.sats.length) (nc := x.custs.length) hlt)
      have HKS := Lib.hid (bikesK_succ (ns := x.sats.length) (nc := x.custs.length) hlt)
      have HTK := Lib.hid (List.take_succ_eq_append_getElem hlt)
      have HAS := Lib.hid (allStops_succ hlt)
      obtain ⟨t, ht⟩ : ∃ t, bs[k] = t := ⟨_, rfl⟩
      rw [ht] at d0 d1 hst htl HKN HKS HTK HAS
      rw [hA] at HKN HKS HAS ⊢
      have hS2 := hS.alloc #[.int .i64 t.sat, .slice a t.stops.length c] 46
      have HST := Lib.hid hst
      have HS2 := Lib.hid hS2
      have HB := Lib.hid hS2.below
      have q5 : wr.cell? ⟨ib, 5, none⟩ = some (.slice p.SA x.sats.length p.sc) := hS.cell 0 rfl 5 rfl
      have q1 : wr.cell? ⟨ib, 4, none⟩ = some (.int .i64 x.br) := hS.cell 0 rfl 4 rfl
      have hzi := (hS.lt 0 rfl).2
      obtain ⟨sn, hsn⟩ : ∃ sn, seenL A = sn := ⟨_, rfl⟩
      have HSA := Lib.hid hsn
      rw [hBA, hsn]
      clear ht hst hS hS2 hBA hA hsn
      by_cases z1 : t.sat < 0
      · have HNO : Hid (routeB x.sats.length x.custs.length bs = false) := Lib.hid (HKN.out (bikeB_false (.inl (bikeHB_false (.inl (.inl z1))))))
        go_wp2_with fail
        go_ret3
        exact ⟨false, false, L, rfl, HNO.out.symm, (fun h => by cases h), HB.out⟩
      · by_cases z2 : (x.sats.length : Int) ≤ t.sat
        · have HNO : Hid (routeB x.sats.length x.custs.length bs = false) := Lib.hid (HKN.out (bikeB_false (.inl (bikeHB_false (.inl (.inr z2))))))
          go_wp2_with fail
          go_ret3
          exact ⟨false, false, L, rfl, HNO.out.symm, (fun h => by cases h), HB.out⟩
        · have z1b : 0 ≤ t.sat := by omega
          have z2b : t.sat < (x.sats.length : Int) := by omega
          by_cases z3 : t.stops.length = 0
          · have HNO : Hid (routeB x.sats.length x.custs.length bs = false) := Lib.hid (HKN.out (bikeB_false (.inl (bikeHB_false (.inr z3)))))
            have z3b : ((t.stops.length : Int) == 0) = true := by simp [z3]
            obtain ⟨n, hn⟩ : ∃ n, t.stops.length = n := ⟨_, rfl⟩
            rw [hn] at z3b d1 HS2 HB
            clear z3 hn
            go_wp2_with fail
            go_ret3
            exact ⟨false, false, L, rfl, HNO.out.symm, (fun h => by cases h), HB.out⟩
          · have z3b : ((t.stops.length : Int) == 0) = false := by simp; exact fun h => z3 (by rw [h]; rfl)
            have HHB : Hid (bikeHB x.sats.length t = true) := Lib.hid (by unfold bikeHB; rw [decide_eq_true (show 0 ≤ t.sat ∧ t.sat < x.sats.length by omega), decide_eq_true (show 0 < t.stops.length by omega)]; rfl)
            clear z3
            go_upto_region 10 with fail
            obtain ⟨tb, htb⟩ : ∃ tb, tb = wr.heap.size := ⟨_, rfl⟩
            generalize (wr.alloc (.cells #[.int .i64 t.sat, .slice a t.stops.length c] 46)) = w2 at *
            rw [← htb] at HS2 ⊢
            obtain ⟨tv, htv⟩ : ∃ tv : Array Value, tv = #[.int .i64 t.sat, .slice a t.stops.length c] := ⟨_, rfl⟩
            rw [← htv] at HS2
            clear htb htv d0 d1 q1 q5 hzi hb z3b HB
            go_loopw [44, 7, 10, 4, 5, 6] (fun i v7 v10 v4 v5 v6 wi => ∃ j : Nat, j ≤ t.stops.length ∧ i = .int .i64 j ∧ v7 = .int .u64 (seenL (A ++ t.stops.take j) : Nat) ∧ v10 = .int .i64 (x.br - sumC x.custs (t.stops.take j)) ∧ v4 = .bool true ∧ v5 = .bool false ∧ v6 = .bool L ∧ Hid (bikeK x.custs.length A t.stops j = true) ∧ SL w w.heap.size [.blk tb tv 46, .blk ib (x.cells p) 39, .blk pb pc 30] wi) (fun i _ _ _ _ _ _ => t.stops.length - (intOf i).toNat)
            case atStart => exact ⟨0, by omega, rfl, by rw [← HSA.out]; simp, by simp [sumC], rfl, rfl, rfl, Lib.hid rfl, HS2.out⟩
            case round =>
              clear HS2 HSA
              obtain ⟨j, hj, rfl, rfl, rfl, rfl, rfl, rfl, HG, hS⟩ := hrel
              have hsb := sumC_bound HCL.out (t.stops.take j)
              obtain ⟨sb0, sb1⟩ := hsb
              have sb2 : (t.stops.take j).length ≤ 100000 := by rw [List.length_take]; omega
              by_cases hltj : j < t.stops.length
              · obtain ⟨b2, o2, ha, hb2, e00⟩ := ints_at HST.out hltj
                have e0 := (hS.below.cell (p := ⟨b2, o2 + j, none⟩) hb2).trans e00
                clear e00
                have HGS := Lib.hid (bikeK_succ (nc := x.custs.length) (prev := A) hltj)
                have HGN := Lib.hid (bikeK_no (nc := x.custs.length) (prev := A) hltj)
                have HSN := Lib.hid (take_snocI A hltj)
                have HSU := Lib.hid (sumC_succ (cs := x.custs) hltj)
                obtain ⟨s, hs⟩ : ∃ s, t.stops[j] = s := ⟨_, rfl⟩
                rw [hs] at e0 HGS HGN HSN HSU
                obtain ⟨sm, hsm⟩ : ∃ sm, sumC x.custs (t.stops.take j) = sm := ⟨_, rfl⟩
                rw [hsm] at sb0 sb1 HSU
                obtain ⟨ps, hps⟩ : ∃ ps, A ++ t.stops.take j = ps := ⟨_, rfl⟩
                rw [hps] at HSN HGS HGN
                obtain ⟨sn2, hsn⟩ : ∃ sn, seenL ps = sn := ⟨_, rfl⟩
                have HSEEN := Lib.hid hsn
                have y6 : wr.cell? ⟨ib, 6, none⟩ = some (.slice p.CA x.custs.length p.cc) := hS.cell 1 rfl 6 rfl
                have HB := Lib.hid hS.below
                have HS := Lib.hid hS
                rw [hsm, hps, hsn, ha]
                clear hs hsm hps hsn hS ha
                by_cases z1 : s < 0
                · have HNO : Hid (routeB x.sats.length x.custs.length bs = false) := Lib.hid (HKN.out (bikeB_false (.inr (HGN.out (custOk_false (.inl (.inl z1)))))))
                  go_wp2_with fail
                  go_ret3
                  exact ⟨false, false, L, rfl, HNO.out.symm, (fun h => by cases h), HB.out⟩
                · by_cases z2 : (x.custs.length : Int) ≤ s
                  · have HNO : Hid (routeB x.sats.length x.custs.length bs = false) := Lib.hid (HKN.out (bikeB_false (.inr (HGN.out (custOk_false (.inl (.inr z2)))))))
                    go_wp2_with fail
                    go_ret3
                    exact ⟨false, false, L, rfl, HNO.out.symm, (fun h => by cases h), HB.out⟩
                  · obtain ⟨q, rfl⟩ : ∃ q : Nat, s = q := ⟨s.toNat, by omega⟩
                    have hq : q < x.custs.length := by omega
                    cases z3 : ps.contains (q : Int)
                    case true =>
                      have HNO : Hid (routeB x.sats.length x.custs.length bs = false) := Lib.hid (HKN.out (bikeB_false (.inr (HGN.out (custOk_false (.inr z3))))))
                      have HHAS : Hid (Calls Try.prog 36 #[.int .u64 (sn2 : Nat), .int .i64 q] wr fun e w' => e = .returned (.bool true) ∧ wr = w') := Lib.hid (by rw [← HSEEN.out, ← z3]; exact has_list ps q _ (by omega))
                      clear z3 z1 z2
                      go_wp2_with (go_at_call 36; (with_reducible refine HHAS.out.mono ?_); rintro e w5 ⟨rfl, rfl⟩)
                      go_ret3
                      exact ⟨false, false, L, rfl, HNO.out.symm, (fun h => by cases h), HB.out⟩
                    case false =>
                      have HGOOD := Lib.hid (custOk_true z1 z2 z3)
                      have HHAS : Hid (Calls Try.prog 36 #[.int .u64 (sn2 : Nat), .int .i64 q] wr fun e w' => e = .returned (.bool false) ∧ wr = w') := Lib.hid (by rw [← HSEEN.out, ← z3]; exact has_list ps q _ (by omega))
                      have HWITH : Hid (∀ wx, Calls Try.prog 63 #[.int .u64 (sn2 : Nat), .int .i64 q] wx fun e w' => e = .returned (.int .u64 (seenL (ps ++ [(q : Int)]) : Nat)) ∧ wx = w') := Lib.hid (fun wx => by rw [← HSEEN.out]; exact with_list ps q wx)
                      obtain ⟨b3, o3, hCA, hb3, f00, _, _, _⟩ := custs_at HI.out.custs hq
                      have f0 := (HB.out.cell (p := ⟨b3, o3 + q * 4, none⟩) hb3).trans f00
                      have HLD := Lib.hid (custLoad_at hq)
                      have hld := HCL.out _ (List.getElem_mem hq)
                      obtain ⟨ld, hld2⟩ : ∃ ld, x.custs[q].load = ld := ⟨_, rfl⟩
                      rw [hld2] at f0 HLD hld
                      obtain ⟨ld0, ld1⟩ := hld
                      have hq1 : (q : Int) < (x.custs.length : Int) := by omega
                      rw [hCA] at y6
                      clear z3 z1 z2 f00 hld2 hCA
                      go_wp2_with (first | (go_at_call 36; (with_reducible refine HHAS.out.mono ?_); rintro e w5 ⟨rfl, rfl⟩) | (go_at_call 63; (with_reducible refine (HWITH.out _).mono ?_); rintro e w5 ⟨rfl, rfl⟩))
                      go_roundw
                      case rel => exact ⟨j + 1, by omega, by go_num, by rw [HSN.out], by rw [HSU.out, HLD.out]; go_num, rfl, rfl, rfl, Lib.hid (by rw [HGS.out, HG.out, HGOOD.out]; rfl), HS.out⟩
                      case measure => simp [intOf]; omega
              · obtain rfl : j = t.stops.length := by omega
                rw [List.take_length] at sb0 sb1 ⊢
                have HS := Lib.hid hS
                have HK1 : Hid (bikesK x.sats.length x.custs.length bs (k + 1) = true) := Lib.hid (by rw [HKS.out, HRL.out.1]; unfold bikeB; rw [HHB.out, HG.out]; rfl)
                have HL1 : Hid (loadB x.custs x.br (bs.take (k + 1)) = (L && decide (sumC x.custs t.stops ≤ x.br))) := Lib.hid (by rw [HTK.out]; unfold loadB; rw [List.all_append]; have := HRL.out.2; unfold loadB at this; rw [← this]; simp)
                obtain ⟨sm, hsm⟩ : ∃ sm, sumC x.custs t.stops = sm := ⟨_, rfl⟩
                rw [hsm] at HL1 sb0 sb1 ⊢
                have sb3 : sm ≤ 2000000 := by omega
                rw [← HAS.out]
                clear hS hsm hltj sb1 sb2
                cases L
                case false =>
                  go_wp2_with fail
                  go_roundw
                  case rel => exact ⟨k + 1, false, by omega, by go_num, rfl, rfl, rfl, rfl, Lib.hid ⟨HK1.out, by rw [HL1.out]; simp⟩, HS.out.tail⟩
                  case measure => simp [intOf]; omega
                case true =>
                  go_wp2_with fail
                  go_roundw
                  case rel => exact ⟨k + 1, decide (sm ≤ x.br), by omega, by go_num, rfl, rfl, rfl, rfl, Lib.hid ⟨HK1.out, by rw [HL1.out]; simp⟩, HS.out.tail⟩
                  case measure => simp [intOf]; omega
    · obtain rfl : k = bs.length := by omega
      rw [List.take_length] at HRL hA
      rw [List.take_length]
      have HS := Lib.hid hS
      have HONES := Lib.hid (ones_all (nc := x.custs.length) (l := allStops bs) (by omega) (routeB_in HRL.out.1))
      have HLEN : Hid (∀ wx, Calls Try.prog 75 #[.int .u64 (seenL (allStops bs) : Nat)] wx fun e w' => e = .returned (.int .i64 (ones (seenL (allStops bs)) 64 : Nat)) ∧ wx = w') := Lib.hid (fun wx => len_any _ wx (seenL_lt _))
      obtain ⟨sn, hsn⟩ : ∃ sn, seenL (allStops bs) = sn := ⟨_, rfl⟩
      rw [hsn] at HONES HLEN ⊢
      obtain ⟨on, hon⟩ : ∃ on, ones sn 64 = on := ⟨_, rfl⟩
      rw [hon] at HONES HLEN
      clear hS hlt hsn hon hA
      go_upto_region 19 with fail
      refine wp_region_sq _ HS.out (by kernel_rfl) (by kernel_rfl) fun C cw _ hC hin => ?_
      have q6 : ∀ c, (cw c).cell? ⟨ib, 6, none⟩ = some (.slice p.CA x.custs.length p.cc) := fun c => (hC c).cell 0 rfl 6 rfl
      have HLC : Hid (∀ c, Calls Try.prog 75 #[.int .u64 (sn : Nat)] (cw c) fun e w' => e = .returned (.int .i64 (on : Nat)) ∧ ∃ c', w' = cw c') := Lib.hid (fun c => (HLEN.out (cw c)).mono fun _ _ ⟨h1, h2⟩ => ⟨h1, c, h2.symm⟩)
      clear hC hin HLEN
      repeat (any_goals (go_big_quiet_step (first | (go_at_call 75; with_reducible exact HLC.out _))))
      refine wpQuiet_nil ?_
      intro w4 hS4
      have HB4 := Lib.hid hS4.below
      clear hS4 q6
      go_wp2_with fail
      go_ret3
      refine ⟨true, _, L, rfl, HRL.out.1.symm, fun _ => ⟨?_, HRL.out.2⟩, HB4.out⟩
      unfold allB
      rw [Bool.eq_iff_iff, ← HONES.out]
      simp
      omega
end Go.Proofs.Ytjpejclfppbboaa
