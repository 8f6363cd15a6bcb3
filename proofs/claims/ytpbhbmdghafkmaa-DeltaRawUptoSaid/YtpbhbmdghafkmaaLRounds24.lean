/- law24.Rounds, of an instance that may be. (printed by gen/lrounds24.py) -/
import Derived.Test.YtpbhbmdghafkmaaDelta24
import Derived.Test.YtpbhbmdghafkmaaMakeW
import Derived.Test.YtpbhbmdghafkmaaRowRun
import Derived.Test.YtpbhbmdghafkmaaInsInt
import Derived.Deep.CutBlock
import Derived.Deep.CutRange
import Derived.Deep.DeepCutAuto
namespace Go.Proofs.Ytpbhbmdghafkmaa
open Go.ChangeShapes Go.WideShapes Go.ChangeAt Go.RowKit
set_option linter.unusedVariables false
set_option linter.unusedSimpArgs false
set_option maxRecDepth 100000 in
set_option maxHeartbeats 8000000 in
theorem lrounds_any (x : InstV) (p : IAt) (A : Option Addr) (c : Nat) (bs : List BikeV) (w : World) (hI : InstIn w w.heap.size p x) (hx : x.Small) (hB : Bikes w w.heap.size A bs) (hl : bs.length ≤ 100000) (hs : ∀ b ∈ bs, b.stops.length ≤ 100000) :
 Calls Try.prog 24 #[.agg (x.cells p), .slice A bs.length c] w fun e w' => e = .returned (.int .i64 (roundsOf x bs)) ∧ Below w.heap.size w w' := by
 have HB := Lib.hid hB
 have HX := Lib.hid hx
 have HI := Lib.hid hI
 have HSL := Lib.hid hs
 have HRI := Lib.hid (roundsOf_in hx hs)
 obtain ⟨N, hN⟩ : ∃ N, x.n = N := ⟨_, rfl⟩
 have HN := Lib.hid hN
 have hN9 : N ≤ 1000 := by have := hx.custs; have := hx.sats; rw [← hN]; unfold InstV.n; omega
 have hS0 := (SL.start (Nat.le_refl w.heap.size)).alloc (x.cells p) 58
 obtain ⟨n, hn⟩ : ∃ n, bs.length = n := ⟨_, rfl⟩
 have HBN := Lib.hid hn
 rw [hn] at hl HRI ⊢
 obtain ⟨i0, hi0, hy1, hyz, hyb⟩ := info_parts info_int
 have HI0 := Lib.hid (And.intro hi0 (And.intro hy1 (And.intro hyz hyb)))
 obtain ⟨ns, hns⟩ : ∃ n, x.sats.length = n := ⟨_, rfl⟩
 have HNS := Lib.hid hns
 have hns9 : ns ≤ 3 := by have := hx.sats; omega
 have HND0 := Lib.hid (fun (wx : World) => nodes11_any x p wx (by have := hx.sats; omega) (by have := hx.custs; omega))
 unfold InstV.cells at hS0 HND0 ⊢
 have HS0 := Lib.hid hS0
 clear hI hx hB hs hS0 hn hi0 hy1 hyz hyb hN hns
 go_enter Try.func24, Try.ntmps24
 go_upto_region 3 with fail
 obtain ⟨ib, hib⟩ : ∃ b, w.heap.size = b := ⟨_, rfl⟩
 obtain ⟨w1, hw1⟩ : ∃ w1, w.alloc (.cells #[.int .i64 x.fin, .int .i64 x.tm, .int .i64 x.tr, .int .i64 x.bm, .int .i64 x.br, .slice p.SA x.sats.length p.sc, .slice p.CA x.custs.length p.cc, .slice p.KA x.cost.length p.kc, .slice p.TA x.time.length p.tc] 58) = w1 := ⟨_, rfl⟩
 obtain ⟨ic, hic⟩ : ∃ ic : Array Value, ic = #[.int .i64 x.fin, .int .i64 x.tm, .int .i64 x.tr, .int .i64 x.bm, .int .i64 x.br, .slice p.SA x.sats.length p.sc, .slice p.CA x.custs.length p.cc, .slice p.KA x.cost.length p.kc, .slice p.TA x.time.length p.tc] := ⟨_, rfl⟩
 have HIC := Lib.hid hic
 have HSZ : Hid ((Try.prog.info? 58).map (·.size) = some ic.size) := Lib.hid (by rw [hic]; kernel_rfl)
 have HND : Hid (∀ wx, Calls Try.prog 43 #[.agg ic] wx fun e w' => e = .returned (.int .i64 (N : Nat)) ∧ Below wx.heap.size wx w') := Lib.hid (fun wx => by rw [hic, ← HN.out]; exact HND0.out wx)
 have HS1 : Hid (SL w w.heap.size [.blk ib ic 58] w1) := Lib.hid (by rw [← hw1, ← hib, hic]; exact HS0.out)
 rw [hw1, hib]
 clear hic HS0 hib hw1 HND0
 go_loopw [17, 5] (fun i v5 wr => ∃ k : Nat, k ≤ n ∧ i = .int .i64 k ∧ v5 = .int .i64 (roundsOf x (bs.take k)) ∧ SL w w.heap.size [.blk ib ic 58] wr) (fun i _ _ => n - (intOf i).toNat)
 case atStart => exact ⟨0, by omega, rfl, by simp [roundsOf], HS1.out⟩
 case round =>
  clear HS1
  obtain ⟨k, hk, rfl, rfl, hS⟩ := hrel
  have hri := HRI.out k hk
  by_cases hlt : k < n
  · have hkb : k < bs.length := by rw [HBN.out]; exact hlt
    obtain ⟨b, o, ta, tcc, hBA, hb, d00, d01, hst⟩ := bikes_at HB.out hkb
    have d0 := (hS.below.cell (p := ⟨b, o + k * 2, none⟩) hb).trans d00
    have d1 := (hS.below.cell (p := ⟨b, o + k * 2 + 1, none⟩) hb).trans d01
    have htl := HSL.out _ (List.getElem_mem hkb)
    have hwi := roundOf_in HX.out htl
    have HRS := Lib.hid (rounds_take x hkb)
    obtain ⟨t, ht⟩ : ∃ t, bs[k] = t := ⟨_, rfl⟩
    rw [ht] at d0 d1 hst htl HRS hwi
    obtain ⟨rk, hrk⟩ : ∃ r, roundsOf x (bs.take k) = r := ⟨_, rfl⟩
    rw [hrk] at HRS hri ⊢
    obtain ⟨r0, r1⟩ := hri
    obtain ⟨u0, u1⟩ := hwi
    have HRO : Hid (roundOf x t = if t.stops.length = 0 then 0 else wayOf x (bikeNodes x.sats.length t t.stops.length)) := Lib.hid rfl
    obtain ⟨wv, hwv⟩ : ∃ v, roundOf x t = v := ⟨_, rfl⟩
    rw [hwv] at HRS HRO u0 u1
    rw [HNS.out] at HRO
    have hS2 := hS.alloc #[.int .i64 t.sat, .slice ta t.stops.length tcc] 44
    have HST := Lib.hid hst
    have HS2 := Lib.hid hS2
    have hr9 : rk ≤ 300003000000 := by omega
    rw [hBA]
    clear ht hst hS hS2 hBA d00 d01 hwv hrk r1
    go_upto_region 5 with fail
    obtain ⟨tb, htb⟩ : ∃ tb, wr.heap.size = tb := ⟨_, rfl⟩
    obtain ⟨w3, hw3⟩ : ∃ w3, wr.alloc (.cells #[.int .i64 t.sat, .slice ta t.stops.length tcc] 44) = w3 := ⟨_, rfl⟩
    rw [htb, hw3] at HS2
    rw [htb, hw3]
    clear htb hw3 d0 d1 hb
    have y0 : w3.cell? ⟨tb, 0, none⟩ = some (.int .i64 t.sat) := HS2.out.cell 0 rfl 0 rfl
    go_upto_region 6 with fail
    have HS4 := Lib.hid ((HS2.out.alloc #[.int .i64 (wrap64 (1 + t.sat))] 3).blkRowC 0 rfl 1 1 1 (by decide) (by decide) (by simp))
    obtain ⟨w4, hw4⟩ : ∃ w4, w3.alloc (.cells #[.int .i64 (wrap64 (1 + t.sat))] 3) = w4 := ⟨_, rfl⟩
    obtain ⟨nb, hnb⟩ : ∃ b, w3.heap.size = b := ⟨_, rfl⟩
    rw [hw4, hnb] at HS4
    rw [hw4, hnb]
    have y1 : w4.cell? ⟨tb, 1, none⟩ = some (.slice ta t.stops.length tcc) := HS4.out.cell 1 rfl 1 rfl
    clear hw4 y0 hnb HS2
    go_upto_region 7 with fail
    clear y1
    obtain ⟨L, hL⟩ : ∃ L, t.stops.length = L := ⟨_, rfl⟩
    have HL := Lib.hid hL
    rw [hL] at htl HRO HS4 ⊢
    clear hL
    go_loopw [28, 8] (fun i v8 wr => ∃ (j : Nat) (NA : Option Addr) (nc : Nat), j ≤ L ∧ i = .int .i64 j ∧ v8 = .slice NA (j + 1) nc ∧ SL w w.heap.size [.row 3 1 (.slice NA (j + 1) nc) (j + 1) ((bikeNodes ns t j).map (.int .i64)), .blk tb #[.int .i64 t.sat, .slice ta L tcc] 44, .blk ib ic 58] wr) (fun i _ _ => L - (intOf i).toNat)
    case atStart => exact ⟨0, _, _, by omega, rfl, rfl, HS4.out⟩
    case round =>
     clear HS4
     obtain ⟨j, NA, nc, hj, rfl, rfl, hS⟩ := hrel
     by_cases hltj : j < L
     · as_aux_lemma =>
       have hjl : j < t.stops.length := by rw [HL.out]; exact hltj
       obtain ⟨b2, o2, hA2, hlw2, f00⟩ := ints_at HST.out hjl
       have f0 := (hS.below.cell (p := ⟨b2, o2 + j, none⟩) hlw2).trans f00
       have HNS2 := Lib.hid (bikeNodes_succ (ns := ns) hjl)
       obtain ⟨y, hy⟩ : ∃ y, t.stops[j] = y := ⟨_, rfl⟩
       rw [hy] at f0 HNS2
       subst hA2
       have yi : wr.cell? ⟨ib, 5, none⟩ = some (.slice p.SA ns p.sc) := hS.cell 2 rfl 5 (by rw [HIC.out, HNS.out]; rfl)
       have HS := Lib.hid hS
       clear f00 hy hS hlw2
       go_wp2_with (at_builtin; refine stopHere ?_)
       show wpList _ _ _ _ _ _
       refine wpList_append_sl rfl _ _ 42 rfl HS.out 0 i0 (.int .i64 0) 1 8 Try.underlying42 HI0.out.1 HI0.out.2.1 HI0.out.2.2.1 HI0.out.2.2.2 rfl (by decide) _ _ 1 _ rfl rfl _ rfl rfl (by decide) rfl (by simp [Value.oneCell']) (by omega) (by decide) ?_
       intro v7 w7 hS7 hz7
       obtain ⟨A7, c7, rfl, _, _⟩ := (hS7.row 0 rfl).slice_
       have HS7 : Hid (SL w w.heap.size [.row 3 1 (.slice A7 (j + 1 + 1) c7) (j + 1 + 1) ((bikeNodes ns t (j + 1)).map (.int .i64)), .blk tb #[.int .i64 t.sat, .slice (some ⟨b2, o2, none⟩) L tcc] 44, .blk ib ic 58] w7) := Lib.hid (by
        rw [HNS2.out, List.map_append]
        exact hS7)
       clear hS7 hz7 yi
       go_wp2_with fail
       go_roundw
       case rel => exact ⟨j + 1, A7, c7, by omega, by go_num, rfl, HS7.out⟩
       case measure => simp [intOf]; omega
     · obtain rfl : j = L := by omega
       clear hltj
       obtain ⟨nl, hnl⟩ : ∃ l, bikeNodes ns t j = l := ⟨_, rfl⟩
       have HNLL : Hid (nl.length = j + 1) := Lib.hid (by rw [← hnl]; simp [bikeNodes, HL.out])
       have HRW : Hid (wv = if j = 0 then 0 else wayOf x nl) := Lib.hid (by rw [HRO.out, hnl])
       rw [hnl] at hS
       have HS6 : Hid (SL w w.heap.size [.row 3 1 (.slice NA nl.length nc) nl.length (nl.map (.int .i64)), .blk tb #[.int .i64 t.sat, .slice ta j tcc] 44, .blk ib ic 58] wr) := Lib.hid (by rw [HNLL.out]; exact hS)
       have hnl9 : nl.length ≤ 100001 := by rw [HNLL.out]; omega
       rw [← HNLL.out]
       clear hS hnl
       go_upto_block 4 with fail
       go_cut [11] (fun v wx => v = .int .i64 wv ∧ SL w w.heap.size [.row 3 1 (.slice NA nl.length nc) nl.length (nl.map (.int .i64)), .blk tb #[.int .i64 t.sat, .slice ta j tcc] 44, .blk ib ic 58] wx)
       case first =>
        as_aux_lemma =>
        go_wp2_with fail
        go_loopw [44, 11] (fun i v11 wr => ∃ k : Nat, k ≤ nl.length ∧ i = .int .i64 k ∧ v11 = .int .i64 (stepsK x.cost nl k) ∧ Hid (∀ j (h : j < nl.length), j < k → 0 ≤ nl[j] ∧ nl[j] < (N : Int)) ∧ Hid (0 < k → 0 < j) ∧ SL w w.heap.size [.row 3 1 (.slice NA nl.length nc) nl.length (nl.map (.int .i64)), .blk tb #[.int .i64 t.sat, .slice ta j tcc] 44, .blk ib ic 58] wr) (fun i _ _ => nl.length - (intOf i).toNat)
        case atStart => exact ⟨0, by omega, rfl, rfl, Lib.hid (fun j _ h => absurd h (by omega)), Lib.hid (fun h => absurd h (by omega)), HS6.out⟩
        case round =>
         clear HS6
         obtain ⟨m, hm, rfl, rfl, HOK, HPOS, hS⟩ := hrel
         by_cases hltm : m < nl.length
         · have hrd : IntsAt wr wr.heap.size NA nl := (hS.row 0 rfl).reads
           obtain ⟨g1, o1, hA, hg1, e0⟩ := ints_at hrd hltm
           obtain ⟨q, hqq⟩ : ∃ q, q = (m + 1) % nl.length := ⟨_, rfl⟩
           have hq : q < nl.length := by rw [hqq]; exact Nat.mod_lt _ (by omega)
           obtain ⟨b', o', hA', hb', e1⟩ := ints_at hrd hq
           subst hA
           obtain ⟨rfl, rfl⟩ : g1 = b' ∧ o1 = o' := by simpa using hA'
           have hm2 : ((m : Int) + 1) % (nl.length : Int) = (q : Int) := by rw [hqq]; simp
           have hm1 : ((m : Int) + 1).tmod (nl.length : Int) = (q : Int) := by rw [Int.tmod_eq_emod_of_nonneg (by omega), hm2]
           have HNX : Hid (nextOf nl m = nl[q]) := Lib.hid (by unfold nextOf; rw [← hqq]; simp [hq])
           have HAK : Hid (nl.getD m 0 = nl[m]) := Lib.hid (by simp [hltm])
           have HMA := Lib.hid (List.getElem_mem hltm)
           have HMB := Lib.hid (List.getElem_mem hq)
           have HSTP := Lib.hid (stepsK_succ x.cost nl m)
           have hsb := stepsK_in HX.out nl m
           obtain ⟨va, hva⟩ : ∃ va, nl[m] = va := ⟨_, rfl⟩
           obtain ⟨vb, hvb⟩ : ∃ vb, nl[q] = vb := ⟨_, rfl⟩
           have HVA := Lib.hid hva
           rw [hva] at e0 HAK HMA
           rw [hvb] at e1 HNX HMB
           rw [HAK.out, HNX.out] at HSTP
           obtain ⟨sk, hsk⟩ : ∃ sk, stepsK x.cost nl m = sk := ⟨_, rfl⟩
           rw [hsk] at HSTP hsb ⊢
           obtain ⟨sb0, sb1⟩ := hsb
           have HS := Lib.hid hS
           have hl1 : (0 : Int) < (nl.length : Int) := by omega
           have hne : ¬ (nl.length : Int) = 0 := by omega
           have yt : wr.cell? ⟨tb, 1, none⟩ = some (.slice ta j tcc) := hS.cell 1 rfl 1 rfl
           clear hqq hva hvb hS hA' hsk hrd
           by_cases z1 : va < 0
           case pos =>
            have HV : Hid (wv = 0) := Lib.hid (by rw [HRW.out]; split; rfl; exact wayOf_no HMA.out (by rw [HN.out]; omega))
            go_wp2_with (first
             | (refine wpList_load_row_g rfl 58 _ rfl ib rfl _ ic _ _ (HS.out.blk 2 rfl) Try.underlying58 rfl HSZ.out ?_)
             | (go_at_call 43; (with_reducible refine (HND.out _).mono ?_); rintro e wn ⟨rfl, hb⟩
                replace HS := Lib.hid (HS.out.call hb)
                have yt : wn.cell? ⟨tb, 1, none⟩ = some (.slice ta j tcc) := HS.out.cell 1 rfl 1 rfl
                clear hb))
            go_meet
            exact ⟨by rw [HV.out], HS.out⟩
           case neg =>
           have ha0 : 0 ≤ va := by omega
           have za0 : decide (va < 0) = false := decide_eq_false z1
           clear z1
           by_cases z2 : (N : Int) ≤ va
           case pos =>
            have HV : Hid (wv = 0) := Lib.hid (by rw [HRW.out]; split; rfl; exact wayOf_no HMA.out (by rw [HN.out]; omega))
            go_wp2_with (first
             | (refine wpList_load_row_g rfl 58 _ rfl ib rfl _ ic _ _ (HS.out.blk 2 rfl) Try.underlying58 rfl HSZ.out ?_)
             | (go_at_call 43; (with_reducible refine (HND.out _).mono ?_); rintro e wn ⟨rfl, hb⟩
                replace HS := Lib.hid (HS.out.call hb)
                have yt : wn.cell? ⟨tb, 1, none⟩ = some (.slice ta j tcc) := HS.out.cell 1 rfl 1 rfl
                clear hb))
            go_meet
            exact ⟨by rw [HV.out], HS.out⟩
           case neg =>
           have ha1 : va < (N : Int) := by omega
           have za1 : decide ((N : Int) ≤ va) = false := decide_eq_false z2
           clear z2
           by_cases z3 : vb < 0
           case pos =>
            have HV : Hid (wv = 0) := Lib.hid (by rw [HRW.out]; split; rfl; exact wayOf_no HMB.out (by rw [HN.out]; omega))
            go_wp2_with (first
             | (refine wpList_load_row_g rfl 58 _ rfl ib rfl _ ic _ _ (HS.out.blk 2 rfl) Try.underlying58 rfl HSZ.out ?_)
             | (go_at_call 43; (with_reducible refine (HND.out _).mono ?_); rintro e wn ⟨rfl, hb⟩
                replace HS := Lib.hid (HS.out.call hb)
                have yt : wn.cell? ⟨tb, 1, none⟩ = some (.slice ta j tcc) := HS.out.cell 1 rfl 1 rfl
                clear hb))
            go_meet
            exact ⟨by rw [HV.out], HS.out⟩
           case neg =>
           have hb0 : 0 ≤ vb := by omega
           have zb0 : decide (vb < 0) = false := decide_eq_false z3
           clear z3
           by_cases z4 : (N : Int) ≤ vb
           case pos =>
            have HV : Hid (wv = 0) := Lib.hid (by rw [HRW.out]; split; rfl; exact wayOf_no HMB.out (by rw [HN.out]; omega))
            go_wp2_with (first
             | (refine wpList_load_row_g rfl 58 _ rfl ib rfl _ ic _ _ (HS.out.blk 2 rfl) Try.underlying58 rfl HSZ.out ?_)
             | (go_at_call 43; (with_reducible refine (HND.out _).mono ?_); rintro e wn ⟨rfl, hb⟩
                replace HS := Lib.hid (HS.out.call hb)
                have yt : wn.cell? ⟨tb, 1, none⟩ = some (.slice ta j tcc) := HS.out.cell 1 rfl 1 rfl
                clear hb))
            go_meet
            exact ⟨by rw [HV.out], HS.out⟩
           case neg =>
           have hb1 : vb < (N : Int) := by omega
           have zb1 : decide ((N : Int) ≤ vb) = false := decide_eq_false z4
           clear z4
           by_cases z5 : j = 0
           case pos =>
            have HV : Hid (wv = 0) := Lib.hid (by rw [HRW.out, if_pos z5])
            have zj : ((j : Int) == 0) = true := by rw [z5]; rfl
            clear z5
            go_wp2_with (first
             | (refine wpList_load_row_g rfl 58 _ rfl ib rfl _ ic _ _ (HS.out.blk 2 rfl) Try.underlying58 rfl HSZ.out ?_)
             | (go_at_call 43; (with_reducible refine (HND.out _).mono ?_); rintro e wn ⟨rfl, hb⟩
                replace HS := Lib.hid (HS.out.call hb)
                have yt : wn.cell? ⟨tb, 1, none⟩ = some (.slice ta j tcc) := HS.out.cell 1 rfl 1 rfl
                clear hb))
            go_meet
            exact ⟨by rw [HV.out], HS.out⟩
           case neg =>
           have hj0 : 0 < j := by omega
           have zj : ((j : Int) == 0) = false := by rw [beq_eq_false_iff_ne]; omega
           clear z5
           go_upto_region 18 with (first
            | (refine wpList_load_row_g rfl 58 _ rfl ib rfl _ ic _ _ (HS.out.blk 2 rfl) Try.underlying58 rfl HSZ.out ?_)
            | (go_at_call 43; (with_reducible refine (HND.out _).mono ?_); rintro e wn ⟨rfl, hb⟩
               replace HS := Lib.hid (HS.out.call hb)
               have yt : wn.cell? ⟨tb, 1, none⟩ = some (.slice ta j tcc) := HS.out.cell 1 rfl 1 rfl
               clear hb))
           obtain ⟨a, rfl⟩ : ∃ a : Nat, va = a := ⟨va.toNat, by omega⟩
           obtain ⟨d, rfl⟩ : ∃ d : Nat, vb = d := ⟨vb.toNat, by omega⟩
           clear e0 e1 za0 za1 zb0 zb1 zj
           have hla : a < x.cost.length := by rw [HX.out.costLen.1, HN.out]; omega
           have HIX : Hid (InstIn wn wn.heap.size p x) := Lib.hid ((HI.out.below HS.out.below).more HS.out.below.size)
           obtain ⟨b5, o5, a6, c6, hKA, hb5, k7, hrow⟩ := mat_at HIX.out.cost hla
           have hlr : x.cost[a].length = N := by rw [HX.out.costLen.2 _ (List.getElem_mem hla), HN.out]
           have hld : d < x.cost[a].length := by rw [hlr]; omega
           obtain ⟨b6, o6, ha6, hb6, k8⟩ := ints_at hrow hld
           have hcv : cellOf x.cost (a : Int) (d : Int) = x.cost[a][d] := by unfold cellOf; simp [hla, hld]
           have hcb := cellOf_in HX.out (a : Int) (d : Int)
           have y7 : wn.cell? ⟨ib, 7, none⟩ = some (.slice p.KA x.cost.length p.kc) := HS.out.cell 2 rfl 7 (by rw [HIC.out]; rfl)
           rw [hKA] at y7
           rw [ha6, hlr] at k7
           rw [hcv] at hcb HSTP
           obtain ⟨cv, hcv2⟩ : ∃ cv, x.cost[a][d] = cv := ⟨_, rfl⟩
           rw [hcv2] at k8 hcb HSTP
           obtain ⟨cb0, cb1⟩ := hcb
           obtain ⟨cl, hcl⟩ : ∃ cl, x.cost.length = cl := ⟨_, rfl⟩
           rw [hcl] at y7 hla
           clear hKA hrow hlr ha6 hcv hcv2 hcl hld
           go_wp2_with fail
           go_roundw
           case rel =>
            refine ⟨m + 1, by omega, by go_num, by rw [HSTP.out], Lib.hid (fun i h hi => ?_), Lib.hid (fun _ => hj0), HS.out⟩
            by_cases e : i = m
            · subst e; rw [HVA.out]; exact ⟨ha0, ha1⟩
            · exact HOK.out i h (by omega)
           case measure => simp [intOf]; omega
         · obtain rfl : m = nl.length := by omega
           have HV : Hid (wv = stepsK x.cost nl nl.length) := Lib.hid (by
            have hp := HPOS.out (by rw [HNLL.out]; omega)
            rw [HRW.out, if_neg (by omega)]
            unfold wayOf
            rw [if_pos]
            rw [List.all_eq_true]
            intro a ha
            obtain ⟨i, hi, rfl⟩ := List.getElem_of_mem ha
            unfold nodeB
            rw [HN.out]
            exact decide_eq_true (HOK.out i hi hi))
           have HS := Lib.hid hS
           clear hS hltm
           go_wp2_with fail
           go_meet
           exact ⟨by rw [HV.out], HS.out⟩
       case rest =>
        clear HS6
        obtain ⟨rfl, hS⟩ := hcut
        have HS7 := Lib.hid hS.tail.tail
        clear hS
        go_wp2_with fail
        go_roundw
        case rel => exact ⟨k + 1, by omega, by go_num, by rw [HRS.out], HS7.out⟩
        case measure => simp [intOf]; omega
  · obtain rfl : k = n := by omega
    have HTK : Hid (roundsOf x (bs.take k) = roundsOf x bs) := Lib.hid (by rw [List.take_of_length_le (by rw [HBN.out]; exact Nat.le_refl _)])
    have HBL := Lib.hid hS.below
    rw [HTK.out]
    clear hS hlt hri
    go_wp2_with fail
    go_ret
    exact ⟨rfl, HBL.out⟩
end Go.Proofs.Ytpbhbmdghafkmaa
