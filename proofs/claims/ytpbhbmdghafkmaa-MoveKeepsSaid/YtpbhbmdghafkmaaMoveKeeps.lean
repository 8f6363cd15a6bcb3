/- The walk of law MoveKeeps. (printed by gen/movekeeps.py) -/
import Derived.Test.YtpbhbmdghafkmaaMoveBack
import Derived.Test.YtpbhbmdghafkmaaStops23
namespace Go.Proofs.Ytpbhbmdghafkmaa
open Go.ChangeShapes Go.WideShapes Go.ChangeAt Go.RowKit
set_option linter.unusedVariables false
theorem apply_len {sats : Int} {bs r : List BikeV} {m : MoveV} (h : applyM sats bs m = some r) : r.length ≤ bs.length + 1 := by
  unfold applyM at h
  cases hr : rawM sats bs m with
  | none => rw [hr] at h; cases h
  | some r0 =>
    rw [hr] at h
    simp only [Option.map_some, Option.some.injEq] at h
    rw [← h]
    exact Nat.le_trans (List.length_filter_le _ _) (raw_len hr)
set_option maxRecDepth 100000 in
set_option maxHeartbeats 8000000 in
theorem moveKeeps_any (A : Option Addr) (c : Nat) (l : List Int) (sk sa si sb sj sats : Int) (w : World) (h1 : Reads w w.heap.size 1 A l.length (l.map (.int .u8))) (hu : ∀ n ∈ l, 0 ≤ n ∧ n ≤ 255) (hl : l.length ≤ maxLen) (hs : SmV.Ok ⟨sk, sa, si, sb, sj⟩) (hs8 : -128 ≤ sats ∧ sats ≤ 127) :
    Calls Try.prog 11 #[.slice A l.length c, .agg #[.int .u8 sk, .int .i8 sa, .int .i8 si, .int .i8 sb, .int .i8 sj], .int .i8 sats] w fun e w' => e = .returned (.bool true) ∧ Below w.heap.size w w' := by
  unfold maxLen at hl
  obtain ⟨hq1, hq2⟩ := hs8
  have hS := (SL.start (W := w) (Nat.le_refl w.heap.size)).alloc #[.int .u8 sk, .int .i8 sa, .int .i8 si, .int .i8 sb, .int .i8 sj] 25
  obtain ⟨nb, hnb⟩ : ∃ nb, w.heap.size = nb := ⟨_, rfl⟩
  obtain ⟨w0, hw0⟩ : ∃ w0, w.alloc (.cells #[.int .u8 sk, .int .i8 sa, .int .i8 si, .int .i8 sb, .int .i8 sj] 25) = w0 := ⟨_, rfl⟩
  rw [hw0] at hS
  have HS0 : Hid (SL w w.heap.size [.blk nb #[.int .u8 sk, .int .i8 sa, .int .i8 si, .int .i8 sb, .int .i8 sj] 25] w0) := Lib.hid (by rw [← hnb]; exact hS)
  have HAW := Lib.hid (awake23 w0)
  have HNB := Lib.hid hnb
  have HW0 := Lib.hid hw0
  have H1 := Lib.hid h1
  have HU := Lib.hid hu
  have HSM := Lib.hid hs
  obtain ⟨N, hN⟩ : ∃ N, l.length = N := ⟨_, rfl⟩
  have HN := Lib.hid hN
  have HSS : Hid ((Try.prog.info? 25).map (·.size) = some 5) := Lib.hid (by kernel_rfl)
  rw [hN] at hl ⊢
  clear hS hnb hw0 h1 hu hs hN
  go_enter Try.func11, Try.ntmps11
  go_upto_region 1 with fail
  rw [HW0.out, HNB.out]
  go_upto_region 3 with (go_at_call 12; (with_reducible refine HAW.out.mono ?_); rintro e w1 ⟨rfl, hb1⟩)
  have HS1 : Hid (SL w w.heap.size [.blk nb #[.int .u8 sk, .int .i8 sa, .int .i8 si, .int .i8 sb, .int .i8 sj] 25] w1) := Lib.hid (HS0.out.call hb1)
  clear hb1 HS0 HAW HW0
  by_cases h40 : N ≤ 40
  case neg =>
    have h40' : decide (40 < (N : Int)) = true := by rw [decide_eq_true_eq]; omega
    go_wp2_with fail
    go_ret
    exact ⟨rfl, HS1.out.below⟩
  have h40' : ¬ (40 : Int) < (N : Int) := by omega
  have HBF : Hid (∀ wx, Below w.heap.size w wx → Calls Try.prog 14 #[.slice A N c] wx (BikesPost wx l)) := Lib.hid (fun wx hb => by
    have h := bikes23_any A c l wx (reads_more (Reads.below H1.out hb) hb.size) HU.out (by rw [HN.out]; omega)
    rw [HN.out] at h; exact h)
  have HBK := Lib.hid (HBF.out w1 HS1.out.below)
  go_upto_region 6 with (go_at_call 14; (with_reducible refine HBK.out.mono ?_); rintro e w2 ⟨v2, ps, rfl, hps, hS2⟩
                         obtain ⟨A1, c1, rfl, _⟩ := own_open (P := []) hS2
                         have HS2 := Lib.hid (HS1.out.join hS2)
                         have HP := Lib.hid hps
                         clear hS2 hps HBK)
  obtain ⟨n, hn⟩ : ∃ n, ps.length = n := ⟨_, rfl⟩
  obtain ⟨bs, hbs⟩ : ∃ bs, bikesOf l = bs := ⟨_, rfl⟩
  have HBS : Hid (bikesOf l = bs) := Lib.hid hbs
  have HLN : Hid (bs.length = n ∧ n ≤ 41 ∧ (allStops bs).length ≤ 40) := Lib.hid (by
    have h1 := bikesTo_len l l.length
    have h2 := bikesTo_all l l.length
    have h3 := HN.out
    have h4 : (ps.map (·.1)).length = n := by rw [List.length_map]; exact hn
    rw [HP.out] at h4
    rw [← hbs]
    unfold bikesOf at *
    omega)
  have HNN := Lib.hid hn
  rw [hn] at HS2 ⊢
  rw [hbs] at HP
  have HBL : Hid (∀ b ∈ bs, b.stops.length ≤ 1000000) := Lib.hid (fun b hb => by have h1 := stops_le_all hb; have h2 := HLN.out.2.2; omega)
  clear hn hbs HS1 h40' 
  obtain ⟨mv, hmv⟩ : ∃ mv, SmV.move ⟨sk, sa, si, sb, sj⟩ = mv := ⟨_, rfl⟩
  have HMC : Hid (Calls Try.prog 15 #[.agg #[.int .u8 sk, .int .i8 sa, .int .i8 si, .int .i8 sb, .int .i8 sj]] w2 (SmPost w2 mv)) := Lib.hid (by rw [← hmv]; exact smove_any sk sa si sb sj w2 HSM.out)
  clear hmv HSM
  obtain ⟨mk, ma, mi, mb, mj⟩ := mv
  obtain ⟨o, ho⟩ : ∃ o, applyM sats bs ⟨mk, ma, mi, mb, mj⟩ = o := ⟨_, rfl⟩
  have HO := Lib.hid ho
  clear ho
  have HAP : Hid (∀ wx, Below w2.heap.size w2 wx → Calls Try.prog 13 #[.int .i64 sats, .slice A1 n c1, .agg #[.int .i64 mk, .int .i64 ma, .int .i64 mi, .int .i64 mb, .int .i64 mj]] wx (ApplyPost wx o)) := Lib.hid (fun wx hb => by
    have h := own_bikes (P := []) HNN.out (by have h := HS2.out.call hb; rw [List.append_assoc] at h; exact h)
    rw [HP.out] at h
    have h2 := apply_any sats A1 c1 bs mk ma mi mb mj wx h (by have := HLN.out; omega) (by have := HLN.out; omega)
    rw [HLN.out.1, HO.out] at h2
    exact h2)
  have HSA : Hid (∀ wx A3 c3 ps3, SL w w.heap.size ((bikeN 44 3).own (.slice A3 n c3) ps3 ++ ((bikeN 44 3).own (.slice A1 n c1) ps ++ [] ++ [.blk nb #[.int .u8 sk, .int .i8 sa, .int .i8 si, .int .i8 sb, .int .i8 sj] 25])) wx → ps3.length = n → ps3.map (·.1) = bs → Calls Try.prog 17 #[.slice A1 n c1, .slice A3 n c3] wx (SameP wx bs bs)) := Lib.hid (fun wx A3 c3 ps3 h h3 h4 => by
    have g1 := bikes_own h (A := A3) (c := c3) (ps := ps3) (T := 44) (t := 3) (fun r hr => by rw [h3] at hr; exact List.mem_append_left _ hr)
    have g2 := bikes_own h (A := A1) (c := c1) (ps := ps) (T := 44) (t := 3) (fun r hr => by rw [HNN.out] at hr; exact List.mem_append_right _ (List.mem_append_left _ (List.mem_append_left _ hr)))
    rw [h4] at g1
    rw [HP.out] at g2
    have h := same23_any A1 A3 c1 c3 bs bs wx g2 g1 (by have := HLN.out; omega) (by have := HLN.out; omega) HBL.out HBL.out
    rw [HLN.out.1] at h
    exact h)
  have HPL : Hid (∀ ps3 : List (BikeV × Value), ps3.map (·.1) = bikesOf l → ps3.length = n ∧ ps3.map (·.1) = bs) := Lib.hid (fun ps3 h => ⟨by rw [← List.length_map (f := (·.1)), h, HBS.out]; exact HLN.out.1, by rw [h, HBS.out]⟩)
  cases o with
  | none =>
    go_upto_region 7 with first
      | (refine wpList_load_row rfl 25 _ rfl nb rfl _ #[.int .u8 sk, .int .i8 sa, .int .i8 si, .int .i8 sb, .int .i8 sj] _ _ (HS2.out.blk (n + 1) (by rw [List.append_nil, List.getElem?_append_right (by unfold Nest.own; simp [HNN.out]), show n + 1 - ((bikeN 44 3).own (.slice A1 n c1) ps).length = 0 by unfold Nest.own; simp [HNN.out]]; rfl)) Try.underlying25 rfl HSS.out ?_)
      | (go_at_call 15; (with_reducible refine HMC.out.mono ?_); rintro e w6 ⟨he6, hb6⟩
         have he7 : e = .returned (.agg #[.int .i64 mk, .int .i64 ma, .int .i64 mi, .int .i64 mb, .int .i64 mj]) := he6
         subst he7
         have HB6 := Lib.hid hb6
         clear hb6 HMC he6)
      | (go_at_call 13; (with_reducible refine (HAP.out w6 HB6.out).mono ?_); rintro e w7 ⟨rfl, hb7⟩
         have HS7 := Lib.hid ((HS2.out.call HB6.out).call hb7)
         clear hb7 HAP HB6 HS2)
    have HB7 := Lib.hid (HBF.out w7 HS7.out.below)
    go_upto_region 8 with first
      | (go_at_call 14; (with_reducible refine HB7.out.mono ?_); rintro e w8 ⟨v8, ps8, rfl, hps8, hS8⟩
         obtain ⟨A8, c8, rfl, _⟩ := own_open (P := []) hS8
         obtain ⟨hl8, hm8⟩ := HPL.out ps8 hps8
         rw [hl8]
         have hJ := HS7.out.join hS8
         rw [List.append_nil, hl8] at hJ
         have HC8 := Lib.hid (HSA.out w8 A8 c8 ps8 hJ hl8 hm8)
         have HS8 := Lib.hid (hJ.sub (List.sublist_append_right _ _))
         clear hS8 hps8 HB7 HS7 hl8 hm8 hJ)
      | (go_at_call 17; (with_reducible refine HC8.out.mono ?_); rintro e w9 ⟨rb, rfl, hrb, hb9⟩
         obtain rfl : rb = true := hrb.2 rfl
         have HS9 := Lib.hid (HS8.out.call hb9)
         clear hrb hb9 HS8 HC8)
    have HB9 := Lib.hid (HBF.out w9 HS9.out.below)
    go_wp2_with first
      | (go_at_call 14; (with_reducible refine HB9.out.mono ?_); rintro e w10 ⟨v10, ps10, rfl, hps10, hS10⟩
         obtain ⟨A10, c10, rfl, _⟩ := own_open (P := []) hS10
         obtain ⟨hl10, hm10⟩ := HPL.out ps10 hps10
         rw [hl10]
         have hJ := HS9.out.join hS10
         rw [List.append_nil, hl10] at hJ
         have HC10 := Lib.hid (HSA.out w10 A10 c10 ps10 hJ hl10 hm10)
         have HS10 := Lib.hid (hJ.sub (List.sublist_append_right _ _))
         clear hS10 hps10 HB9 HS9 hl10 hm10 hJ)
      | (go_at_call 17; (with_reducible refine HC10.out.mono ?_); rintro e w11 ⟨rb, rfl, hrb, hb11⟩
         obtain rfl : rb = true := hrb.2 rfl
         have HS11 := Lib.hid (HS10.out.call hb11)
         clear hrb hb11 HS10 HC10)
    go_ret
    exact ⟨rfl, HS11.out.below⟩
  | some r =>
    have HRK : Hid ((∀ b ∈ r, 0 < b.stops.length) ∧ sortM (allStops r) = sortM (allStops bs) ∧ (allStops r).length = (allStops bs).length) := Lib.hid ⟨apply_keep HO.out, apply_sort HO.out⟩
    go_upto_region 7 with first
      | (refine wpList_load_row rfl 25 _ rfl nb rfl _ #[.int .u8 sk, .int .i8 sa, .int .i8 si, .int .i8 sb, .int .i8 sj] _ _ (HS2.out.blk (n + 1) (by rw [List.append_nil, List.getElem?_append_right (by unfold Nest.own; simp [HNN.out]), show n + 1 - ((bikeN 44 3).own (.slice A1 n c1) ps).length = 0 by unfold Nest.own; simp [HNN.out]]; rfl)) Try.underlying25 rfl HSS.out ?_)
      | (go_at_call 15; (with_reducible refine HMC.out.mono ?_); rintro e w6 ⟨he6, hb6⟩
         have he7 : e = .returned (.agg #[.int .i64 mk, .int .i64 ma, .int .i64 mi, .int .i64 mb, .int .i64 mj]) := he6
         subst he7
         have HB6 := Lib.hid hb6
         clear hb6 HMC he6)
      | (go_at_call 13; (with_reducible refine (HAP.out w6 HB6.out).mono ?_); rintro e w7 ⟨v7, rs, rfl, hr7, hS7⟩
         obtain ⟨A7, c7, rfl, _⟩ := own_open1 hS7
         have HS7 := Lib.hid ((HS2.out.call HB6.out).join hS7)
         have HR7 := Lib.hid hr7
         clear hS7 hr7 HAP HB6 HS2)
    obtain ⟨rn, hrn⟩ : ∃ rn, rs.length = rn := ⟨_, rfl⟩
    have HRN : Hid (rs.length = rn ∧ r.length = rn ∧ rn ≤ 50) := Lib.hid ⟨hrn, by rw [← hrn, ← HR7.out, List.length_map], by
      have h1 := apply_len HO.out
      have h2 := HLN.out
      rw [← hrn, ← List.length_map (f := (·.1)), HR7.out]; omega⟩
    rw [hrn] at HS7 ⊢
    have hr50 : rn ≤ 50 := HRN.out.2.2
    clear hrn
    have HB7 := Lib.hid (HBF.out w7 HS7.out.below)
    go_upto_region 10 with first
      | (go_at_call 14; (with_reducible refine HB7.out.mono ?_); rintro e w8 ⟨v8, ps8, rfl, hps8, hS8⟩
         obtain ⟨A8, c8, rfl, _⟩ := own_open (P := []) hS8
         obtain ⟨hl8, hm8⟩ := HPL.out ps8 hps8
         rw [hl8]
         have hJ := HS7.out.join hS8
         rw [List.append_nil, hl8] at hJ
         have HC8 := Lib.hid (HSA.out w8 A8 c8 ps8 (hJ.sub ((List.Sublist.refl _).append (List.sublist_append_right _ _))) hl8 hm8)
         have HS8 := Lib.hid (hJ.sub (List.sublist_append_right _ _))
         clear hS8 hps8 HB7 HS7 hl8 hm8 hJ)
      | (go_at_call 17; (with_reducible refine HC8.out.mono ?_); rintro e w9 ⟨rb, rfl, hrb, hb9⟩
         obtain rfl : rb = true := hrb.2 rfl
         have HS9 := Lib.hid (HS8.out.call hb9)
         clear hrb hb9 HS8 HC8)
    go_loopw [48] (fun iv wr => ∃ k : Nat, k ≤ rn ∧ iv = .int .i64 k ∧ SL w w.heap.size ((bikeN 44 3).own (.slice A7 rn c7) rs ++ ((bikeN 44 3).own (.slice A1 n c1) ps ++ [] ++ [.blk nb #[.int .u8 sk, .int .i8 sa, .int .i8 si, .int .i8 sb, .int .i8 sj] 25])) wr) (fun iv _ => rn - (intOf iv).toNat)
    case atStart => exact ⟨0, by omega, rfl, HS9.out⟩
    case round =>
      clear HS9
      obtain ⟨k, hk, rfl, hS⟩ := hrel
      by_cases hlt : k < rn
      · have hkp : k < rs.length := by have := HRN.out; omega
        obtain ⟨g, off, rfl⟩ := own_addr (P := []) hS HRN.out.1 (by omega)
        have d0 := own_sat (P := []) HRN.out.1 hkp hS
        have d1 := own_sl (P := []) HRN.out.1 hkp hS
        obtain ⟨a, b, hv, _⟩ := own_val (P := []) hkp hS
        rw [hv] at d1
        have hL0 : 0 < rs[k].1.stops.length := HRK.out.1 _ (by rw [← HR7.out]; exact List.mem_map_of_mem (List.getElem_mem hkp))
        obtain ⟨L, hL⟩ : ∃ L, rs[k].1.stops.length = L := ⟨_, rfl⟩
        obtain ⟨s0, hs0⟩ : ∃ s0, rs[k].1.sat = s0 := ⟨_, rfl⟩
        rw [hL] at d1 hL0
        rw [hs0] at d0
        have hL1 : ((L : Int) == 0) = false := by rw [beq_eq_false_iff_ne]; omega
        have hS4 := hS.alloc #[.int .i64 s0, .slice a L b] 44
        clear hv hL hs0 hS
        go_upto_region 12 with fail
        obtain ⟨tb', htb⟩ : ∃ tb', wr.heap.size = tb' := ⟨_, rfl⟩
        rw [htb] at hS4 ⊢
        generalize (wr.alloc (.cells #[.int .i64 s0, .slice a L b] 44)) = w4 at *
        have HS4 := Lib.hid hS4
        have t1 : w4.cell? ⟨tb', 1, none⟩ = some (.slice a L b) := hS4.cell 0 rfl 1 rfl
        clear hS4 htb d0 d1
        go_wp2_with fail
        go_roundw
        case rel => exact ⟨k + 1, by omega, by go_num, HS4.out.tail⟩
        case measure => simp [intOf]; omega
      · obtain rfl : k = rn := by omega
        have HST : Hid (Calls Try.prog 29 #[.slice A7 k c7] wr (StopsPost wr (sortM (allStops r)))) := Lib.hid (by
          have h := own_bikes (P := []) HRN.out.1 hS
          rw [HR7.out] at h
          have h2 := stops_any A7 c7 r wr h (by have := HRN.out; omega) (by have h4 := HRK.out.2.2; have h5 := HLN.out; omega)
          rw [HRN.out.2.1] at h2
          exact h2)
        have HSF : Hid (∀ wx, Below wr.heap.size wr wx → Calls Try.prog 29 #[.slice A1 n c1] wx (StopsPost wx (sortM (allStops bs)))) := Lib.hid (fun wx hb => by
          have h := bikes_own (hS.call hb) (A := A1) (c := c1) (ps := ps) (T := 44) (t := 3) (fun r hr => by rw [HNN.out] at hr; exact List.mem_append_right _ (List.mem_append_left _ (List.mem_append_left _ hr)))
          rw [HP.out] at h
          have h2 := stops_any A1 c1 bs wx h (by have := HLN.out; omega) (by have := HLN.out; omega)
          rw [HLN.out.1] at h2
          exact h2)
        have HB0 := Lib.hid hS.below
        clear hS
        obtain ⟨L, hL⟩ : ∃ L, sortM (allStops bs) = L := ⟨_, rfl⟩
        have HLL : Hid (L.length ≤ 40) := Lib.hid (by rw [← hL, sortM_len]; exact HLN.out.2.2)
        have hL' : sortM (allStops r) = L := by rw [HRK.out.2.1]; exact hL
        rw [hL'] at HST
        rw [hL] at HSF
        clear hL hL'
        go_wp2_with first
          | (go_at_call 29; (with_reducible refine HST.out.mono ?_); rintro e w5 ⟨v5, rfl, hS5⟩
             obtain ⟨A5, c5, rfl, _, _⟩ := (hS5.row 0 rfl).slice_
             have HS5 := Lib.hid hS5
             have HC5 := Lib.hid (HSF.out w5 hS5.below)
             clear hS5 HST HSF)
          | (go_at_call 29; (with_reducible refine HC5.out.mono ?_); rintro e w6 ⟨v6, rfl, hS6⟩
             obtain ⟨A6, c6, rfl, _, _⟩ := (hS6.row 0 rfl).slice_
             have hE := equalA_ints A5 A6 c5 c6 L L w6 (reads_more (Reads.below (HS5.out.reads 0 rfl) hS6.below) hS6.size) (hS6.reads 0 rfl) (by have := HLL.out; unfold maxLen; omega) (by have := HLL.out; unfold maxLen; omega)
             rw [decide_eq_true (rfl : L = L)] at hE
             have HE := Lib.hid hE
             have HB6 := Lib.hid ((HB0.out.trans (HS5.out.below.mono HB0.out.size)).trans (hS6.below.mono (Nat.le_trans HB0.out.size HS5.out.size)))
             clear hS6 HC5 hE)
          | (go_at_call 28; (with_reducible refine HE.out.mono ?_); rintro e w7 ⟨rfl, hb7⟩
             have HB7' := Lib.hid (HB6.out.trans (hb7.mono HB6.out.size))
             clear hb7 HE)
        go_ret
        exact ⟨rfl, HB7'.out⟩
theorem i8_wf {n : Int} (h : (Lit.int .i8 n).wf = true) : -128 ≤ n ∧ n ≤ 127 := by
  simp [Lit.wf, IntKind.min, IntKind.max, IntKind.signed, IntKind.bits] at h; omega
set_option maxRecDepth 100000 in
theorem moveKeeps_walk {H : Type} {enc : TypeId × Value → H} {base : Nat} (W : World) (A : Option Addr) (c : Nat) (l : List Int) (hr : Reads W W.heap.size 1 A l.length (l.map (.int .u8))) (hl : l.length ≤ maxLen) (hw : ∀ n ∈ l, (Lit.int .u8 n).wf = true)
    (v : Value) (d : DataW H) (p : List MemPlace) (o : Value.okWide Try.prog W .any base 25 v) (k : DataW.Trod enc Try.prog W 0 (fun _ => true) true 25 v d p) (sats : Int) (hq : (Lit.int .i8 sats).wf = true) :
    Calls Try.prog 11 #[.slice A l.length c, v, .int .i8 sats] W fun e w' => e = .returned (.bool true) ∧ Below W.heap.size W w' := by
  obtain ⟨s, rfl, hs⟩ := smm_open o k
  exact moveKeeps_any A c l s.kind s.a s.i s.b s.j sats W hr (fun n hn => u8_wf (hw n hn)) hl hs (i8_wf hq)
end Go.Proofs.Ytpbhbmdghafkmaa
