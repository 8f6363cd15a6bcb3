/- The walk of law MoveBack. (printed by gen/moveback.py) -/
import Derived.Test.YtpbhbmdghafkmaaMoveOpen
import Derived.Test.YtpbhbmdghafkmaaBackM
namespace Go.Proofs.Ytpbhbmdghafkmaa
open Go.ChangeShapes Go.WideShapes Go.ChangeAt Go.RowKit
set_option linter.unusedVariables false
theorem keep_map (ps : List (BikeV × Value)) : (ps.filter keepP).map (·.1) = (ps.map (·.1)).filter keepB := by
  rw [List.filter_map]; rfl
theorem keep_snoc (ps : List (BikeV × Value)) {k : Nat} (h : k < ps.length) : (ps.take (k + 1)).filter keepP = (ps.take k).filter keepP ++ (if keepB ps[k].1 then [ps[k]] else []) := by
  rw [List.take_succ_eq_append_getElem h, List.filter_append]
  congr 1
  rw [List.filter_cons]; rfl
theorem own_open1 {T t : TypeId} {W w : World} {B : Nat} {v : Value} {ps : List (BikeV × Value)} (hS : SL W B ((bikeN T t).own v ps) w) : ∃ A c, v = .slice A ps.length c ∧ ps.length ≤ c :=
  own_open (P := []) (R := []) (by rw [List.append_nil]; exact hS)
set_option maxRecDepth 100000 in
set_option maxHeartbeats 8000000 in
theorem moveBack_any (A : Option Addr) (c : Nat) (l : List Int) (sk sa si sb sj : Int) (tb : Bool) (w : World) (h1 : Reads w w.heap.size 1 A l.length (l.map (.int .u8))) (hu : ∀ n ∈ l, 0 ≤ n ∧ n ≤ 255) (hl : l.length ≤ maxLen) (hs : SmV.Ok ⟨sk, sa, si, sb, sj⟩) :
    Calls Try.prog 5 #[.slice A l.length c, .agg #[.int .u8 sk, .int .i8 sa, .int .i8 si, .int .i8 sb, .int .i8 sj], .bool tb] w fun e w' => e = .returned (.bool true) ∧ Below w.heap.size w w' := by
  unfold maxLen at hl
  have hS := (SL.start (W := w) (Nat.le_refl w.heap.size)).alloc #[.int .u8 sk, .int .i8 sa, .int .i8 si, .int .i8 sb, .int .i8 sj] 25
  obtain ⟨nb, hnb⟩ : ∃ nb, w.heap.size = nb := ⟨_, rfl⟩
  obtain ⟨w0, hw0⟩ : ∃ w0, w.alloc (.cells #[.int .u8 sk, .int .i8 sa, .int .i8 si, .int .i8 sb, .int .i8 sj] 25) = w0 := ⟨_, rfl⟩
  rw [hw0] at hS
  have HS0 : Hid (SL w w.heap.size [.blk nb #[.int .u8 sk, .int .i8 sa, .int .i8 si, .int .i8 sb, .int .i8 sj] 25] w0) := Lib.hid (by rw [← hnb]; exact hS)
  have HAW := Lib.hid (awake23 w0)
  have HNB := Lib.hid hnb
  have HW0 := Lib.hid hw0
  have H1 := Lib.hid h1
  have HU := Lib.hid hu
  have HSM := Lib.hid hs
  obtain ⟨N, hN⟩ : ∃ N, l.length = N := ⟨_, rfl⟩
  have HN := Lib.hid hN
  rw [hN] at hl ⊢
  have HSZ := Lib.hid move_size
  have HSS : Hid ((Try.prog.info? 25).map (·.size) = some 5) := Lib.hid (by kernel_rfl)
  have HSB : Hid ((Try.prog.info? 44).map (·.size) = some 2) := Lib.hid (by kernel_rfl)
  obtain ⟨i1, hi1, hz1, hzz, hbb⟩ := info_parts info_bikeE
  have HI1 := Lib.hid (And.intro hi1 (And.intro hz1 (And.intro hzz hbb)))
  clear hS hnb hw0 h1 hu hs hN hi1 hz1 hzz hbb
  go_enter Try.func5, Try.ntmps5
  go_upto_region 1 with fail
  rw [HW0.out, HNB.out]
  go_upto_region 3 with (go_at_call 12; (with_reducible refine HAW.out.mono ?_); rintro e w1 ⟨rfl, hb1⟩)
  have HS1 : Hid (SL w w.heap.size [.blk nb #[.int .u8 sk, .int .i8 sa, .int .i8 si, .int .i8 sb, .int .i8 sj] 25] w1) := Lib.hid (HS0.out.call hb1)
  clear hb1 HS0 HAW HW0
  by_cases h40 : N ≤ 40
  case neg =>
    have h40' : decide (40 < (N : Int)) = true := by rw [decide_eq_true_eq]; omega
    go_wp2_with fail
    go_ret
    exact ⟨rfl, HS1.out.below⟩
  have h40' : ¬ (40 : Int) < (N : Int) := by omega
  have HBK : Hid (Calls Try.prog 14 #[.slice A N c] w1 (BikesPost w1 l)) := Lib.hid (by
    have h := bikes23_any A c l w1 (reads_more (Reads.below H1.out HS1.out.below) HS1.out.size) HU.out (by rw [HN.out]; omega)
    rw [HN.out] at h; exact h)
  go_upto_region 7 with (go_at_call 14; (with_reducible refine HBK.out.mono ?_); rintro e w2 ⟨v2, ps, rfl, hps, hS2⟩
                         have hS2' := HS1.out.join hS2
                         obtain ⟨A1, c1, rfl, _⟩ := own_open (P := []) hS2
                         have HP := Lib.hid hps
                         clear hS2 hps HBK)
  obtain ⟨n, hn⟩ : ∃ n, ps.length = n := ⟨_, rfl⟩
  have HLN : Hid (n ≤ 41 ∧ (allStops (ps.map (·.1))).length ≤ 40) := Lib.hid (by
    have h1 := bikesTo_len l l.length
    have h2 := bikesTo_all l l.length
    have h3 := HN.out
    rw [← hn, ← List.length_map (f := (·.1)), HP.out]
    unfold bikesOf
    omega)
  have HNN := Lib.hid hn
  have hS3 : SL w w.heap.size ([.row 44 2 (.slice none 0 0) 0 []] ++ ((bikeN 44 3).own (.slice A1 n c1) ps ++ [.blk nb #[.int .u8 sk, .int .i8 sa, .int .i8 si, .int .i8 sb, .int .i8 sj] 25])) w2 := by
    have h := hS2'.nil 44 2
    rw [List.append_nil] at h
    rw [← hn]
    exact h
  have HS3 := Lib.hid hS3
  rw [hn]
  have hn9 : n ≤ 41 := HLN.out.1
  clear hn hS2' hS3 HS1 h40'
  go_loopw [7, 23] (fun ov iv wr => ∃ (k : Nat) (A' : Option Addr) (c' m : Nat) (qs : List (BikeV × Value)), k ≤ n ∧ iv = .int .i64 k ∧ ov = .slice A' m c' ∧ m ≤ k ∧ Hid (m = qs.length ∧ qs = (ps.take k).filter keepP) ∧ SL w w.heap.size ([.row 44 2 (.slice A' m c') m ((bikeN 44 3).heads qs)] ++ ((bikeN 44 3).own (.slice A1 n c1) ps ++ [.blk nb #[.int .u8 sk, .int .i8 sa, .int .i8 si, .int .i8 sb, .int .i8 sj] 25])) wr) (fun _ iv _ => n - (intOf iv).toNat)
  case atStart => exact ⟨0, none, 0, 0, [], by omega, rfl, rfl, by omega, Lib.hid ⟨rfl, rfl⟩, HS3.out⟩
  case round =>
    clear HS3
    obtain ⟨k, A', c', m, qs, hk, rfl, rfl, hmk, HQ, hS⟩ := hrel
    by_cases hlt : k < n
    · have hkp : k < ps.length := by have := HNN.out; omega
      have HNS := keep_snoc ps hkp
      have HSN := Lib.hid HNS
      obtain ⟨g, off, rfl⟩ := own_addr (P := [.row 44 2 (.slice A' m c') m ((bikeN 44 3).heads qs)]) hS HNN.out (by omega)
      have d0 := own_sat (P := [.row 44 2 (.slice A' m c') m ((bikeN 44 3).heads qs)]) HNN.out hkp hS
      have d1 := own_sl (P := [.row 44 2 (.slice A' m c') m ((bikeN 44 3).heads qs)]) HNN.out hkp hS
      obtain ⟨a, b, hv, _⟩ := own_val (P := [.row 44 2 (.slice A' m c') m ((bikeN 44 3).heads qs)]) hkp hS
      rw [hv] at d1
      obtain ⟨L, hL⟩ : ∃ L, ps[k].1.stops.length = L := ⟨_, rfl⟩
      obtain ⟨s0, hs0⟩ : ∃ s0, ps[k].1.sat = s0 := ⟨_, rfl⟩
      have HKP : Hid (keepB ps[k].1 = decide (0 < L)) := Lib.hid (by unfold keepB; rw [hL])
      have HHD : Hid ((bikeN 44 3).head ps[k] = [.int .i64 s0, .slice a L b]) := Lib.hid (by unfold Nest.head; rw [hv, hL, ← hs0]; rfl)
      rw [hL] at d1
      rw [hs0] at d0
      have hS4 := hS.alloc #[.int .i64 s0, .slice a L b] 44
      clear HNS hv hL hs0 hS
      go_upto_region 9 with fail
      obtain ⟨tb', htb⟩ : ∃ tb', wr.heap.size = tb' := ⟨_, rfl⟩
      rw [htb] at hS4 ⊢
      generalize (wr.alloc (.cells #[.int .i64 s0, .slice a L b] 44)) = w4 at *
      have HS4 := Lib.hid hS4
      have t1 : w4.cell? ⟨tb', 1, none⟩ = some (.slice a L b) := hS4.cell 0 rfl 1 rfl
      clear hS4 htb d0 d1
      by_cases hL0 : 0 < L
      · skip
        go_wp2_with first
          | (refine wpList_load_row rfl 44 _ rfl tb' rfl _ #[.int .i64 s0, .slice a L b] _ _ (HS4.out.blk 0 rfl) Try.underlying44 rfl HSB.out ?_)
          | (at_builtin; refine stopHere ?_)
        show wpList _ _ _ _ _ _
        refine wpList_append_sl rfl _ _ 27 rfl HS4.out 1 i1 (.agg #[.int .i64 0, .slice none 0 0]) 2 32 Try.underlying27 HI1.out.1 HI1.out.2.1 HI1.out.2.2.1 HI1.out.2.2.2 rfl (by decide) _ m 1 _ rfl rfl _ rfl rfl (by decide) rfl (by simp [Value.oneCell']) (by omega) (by decide) ?_
        intro v' w7 hS7 hz7
        obtain ⟨A7, c7, rfl, _, _⟩ := (hS7.row 1 rfl).slice_
        have HS7 := Lib.hid hS7.tail
        clear hS7 hz7 HS4 t1
        go_wp2_with fail
        go_roundw
        case rel =>
          refine ⟨k + 1, A7, c7, m + 1, qs ++ [ps[k]], by omega, by go_num, rfl, by omega, Lib.hid ⟨by rw [List.length_append, ← HQ.out.1]; rfl, by rw [HSN.out, HKP.out, decide_eq_true hL0, if_pos rfl, ← HQ.out.2]⟩, ?_⟩
          have h := HS7.out
          have e : (bikeN 44 3).heads (qs ++ [ps[k]]) = (bikeN 44 3).heads qs ++ [.int .i64 s0, .slice a L b] := by unfold Nest.heads; rw [List.flatMap_append]; simp only [List.flatMap_cons, List.flatMap_nil, List.append_nil]; rw [HHD.out]
          rw [e]
          exact h
        case measure => simp [intOf]; omega
      · have hL1 : decide ((0 : Int) < (L : Int)) = false := decide_eq_false (by omega)
        have HS7 := Lib.hid HS4.out.tail
        clear HS4
        go_wp2_with fail
        go_roundw
        case rel =>
          exact ⟨k + 1, A', c', m, qs, by omega, by go_num, rfl, by omega, Lib.hid ⟨HQ.out.1, by rw [HSN.out, HKP.out, decide_eq_false hL0, if_neg (by simp), List.append_nil]; exact HQ.out.2⟩, HS7.out⟩
        case measure => simp [intOf]; omega
    · obtain rfl : k = n := by omega
      have HQ2 : Hid (qs.length = m ∧ qs = ps.filter keepP) := Lib.hid ⟨HQ.out.1.symm, by rw [HQ.out.2, List.take_of_length_le (by rw [HNN.out]; omega)]⟩
      obtain ⟨bs, hbs⟩ : ∃ bs, qs.map (·.1) = bs := ⟨_, rfl⟩
      have HB : Hid (qs.map (·.1) = bs) := Lib.hid hbs
      have HBL : Hid (AllLong bs ∧ bs.length = m ∧ m ≤ 100000 ∧ (allStops bs).length ≤ 40) := Lib.hid ⟨by rw [← hbs, HQ2.out.2, keep_map]; exact keep_allLong _, by rw [← hbs, List.length_map]; exact HQ2.out.1, by omega, by
        rw [← hbs, HQ2.out.2, keep_map]; exact Nat.le_trans (allStops_filter _ _) HLN.out.2⟩
      have HS5 : Hid (SL w w.heap.size ([.blk nb #[.int .u8 sk, .int .i8 sa, .int .i8 si, .int .i8 sb, .int .i8 sj] 25] ++ ((bikeN 44 3).own (.slice A' m c') qs ++ [])) wr) := Lib.hid (by
        have h := hS.sub (l' := .row 44 2 (.slice A' m c') m ((bikeN 44 3).heads qs) :: (qs.map (bikeN 44 3).inner ++ [.blk nb #[.int .u8 sk, .int .i8 sa, .int .i8 si, .int .i8 sb, .int .i8 sj] 25])) (.cons_cons _ (.cons _ (by
          rw [HQ2.out.2]
          exact ((List.filter_sublist).map _).append_right _)))
        have e : (bikeN 44 3).own (.slice A' m c') qs = .row 44 2 (.slice A' m c') m ((bikeN 44 3).heads qs) :: qs.map (bikeN 44 3).inner := by unfold Nest.own; rw [HQ2.out.1]; rfl
        rw [List.append_nil, e]
        rw [← List.cons_append] at h
        exact h.perm List.perm_append_comm)
      clear hS hbs HQ HQ2 HP HLN hmk hk hlt h40 HNN HI1
      obtain ⟨mv, hmv⟩ : ∃ mv, SmV.move ⟨sk, sa, si, sb, sj⟩ = mv := ⟨_, rfl⟩
      have HMC : Hid (Calls Try.prog 15 #[.agg #[.int .u8 sk, .int .i8 sa, .int .i8 si, .int .i8 sb, .int .i8 sj]] wr (SmPost wr mv)) := Lib.hid (by rw [← hmv]; exact smove_any sk sa si sb sj wr HSM.out)
      clear hmv HSM
      obtain ⟨mk, ma, mi, mb, mj⟩ := mv
      go_upto_region 13 with first
        | (refine wpList_load_row rfl 25 _ rfl nb rfl _ #[.int .u8 sk, .int .i8 sa, .int .i8 si, .int .i8 sb, .int .i8 sj] _ _ (HS5.out.blk 0 rfl) Try.underlying25 rfl HSS.out ?_)
        | (go_at_call 15; (with_reducible refine HMC.out.mono ?_); rintro e w6 ⟨he6, hb6⟩
           have he7 : e = .returned (.agg #[.int .i64 mk, .int .i64 ma, .int .i64 mi, .int .i64 mb, .int .i64 mj]) := he6
           subst he7
           have hS6 := (HS5.out.call hb6).alloc #[.int .i64 mk, .int .i64 ma, .int .i64 mi, .int .i64 mb, .int .i64 mj] 33
           have HS6 := Lib.hid hS6
           clear hb6 hS6 HMC he6)
      obtain ⟨xb, hxb⟩ : ∃ xb, w6.heap.size = xb := ⟨_, rfl⟩
      rw [hxb] at HS6 ⊢
      generalize (w6.alloc (.cells #[.int .i64 mk, .int .i64 ma, .int .i64 mi, .int .i64 mb, .int .i64 mj] 33)) = w7 at *
      clear hxb HS5
      have z0 : w7.frozen? ⟨xb, 0, none⟩ = false := HS6.out.free 0 rfl 0
      have y0 : w7.cell? ⟨xb, 0, none⟩ = some (.int .i64 mk) := HS6.out.cell 0 rfl 0 rfl
      cases tb with
      | false =>
        go_upto_region 16 with fail
        have HS9 := Lib.hid (HS6.out.setCell 0 rfl 0 (.int .i64 1))
        generalize (w7.setCell ⟨xb, 0, none⟩ (.int .i64 1)) = w9 at *
        clear z0 y0 HS6
        have HSP : Hid (SL w w.heap.size ([.blk xb #[.int .i64 1, .int .i64 ma, .int .i64 mi, .int .i64 mb, .int .i64 mj] 33, .blk nb #[.int .u8 sk, .int .i8 sa, .int .i8 si, .int .i8 sb, .int .i8 sj] 25] ++ ((bikeN 44 3).own (.slice A' m c') qs ++ [])) w9) := Lib.hid HS9.out
        have HQM : Hid (qs.length = m) := Lib.hid (by rw [← HBL.out.2.1, ← HB.out, List.length_map])
        obtain ⟨o, ho⟩ : ∃ o, applyM 3 bs ⟨1, ma, mi, mb, mj⟩ = o := ⟨_, rfl⟩
        have HO := Lib.hid ho
        have HAP : Hid (Calls Try.prog 13 #[.int .i64 3, .slice A' m c', .agg #[.int .i64 1, .int .i64 ma, .int .i64 mi, .int .i64 mb, .int .i64 mj]] w9 (ApplyPost w9 o)) := Lib.hid (by
          have h := own_bikes HQM.out HSP.out
          rw [HB.out] at h
          have h2 := apply_any 3 A' c' bs 1 ma mi mb mj w9 h (by rw [HBL.out.2.1]; exact HBL.out.2.2.1) (by have := HBL.out.2.2.2; omega)
          rw [HBL.out.2.1, ho] at h2
          exact h2)
        clear HS9 ho
        cases o with
        | none =>
          go_wp2_with first
            | (refine wpList_load_row rfl 33 _ rfl xb rfl _ #[.int .i64 1, .int .i64 ma, .int .i64 mi, .int .i64 mb, .int .i64 mj] _ _ (HSP.out.blk 0 rfl) Try.underlying33 rfl HSZ.out ?_)
            | (go_at_call 13; (with_reducible refine HAP.out.mono ?_); rintro e w10 ⟨rfl, hb10⟩
               have HBB := Lib.hid (HSP.out.call hb10).below
               clear hb10 HAP)
          go_ret
          exact ⟨rfl, HBB.out⟩
        | some r =>
          have HBK : Hid (applyM 3 r ⟨1, ma, mi, mb, mj⟩ = some bs ∧ r.length = bs.length ∧ (allStops r).length = (allStops bs).length) := Lib.hid (apply_back HBL.out.1 (by simp) HO.out)
          go_upto_region 19 with first
            | (refine wpList_load_row rfl 33 _ rfl xb rfl _ #[.int .i64 1, .int .i64 ma, .int .i64 mi, .int .i64 mb, .int .i64 mj] _ _ (HSP.out.blk 0 rfl) Try.underlying33 rfl HSZ.out ?_)
            | (go_at_call 13; (with_reducible refine HAP.out.mono ?_); rintro e w10 ⟨v10, rs, rfl, hr10, hS10⟩
               obtain ⟨A10, c10, rfl, _⟩ := own_open1 hS10
               have HSJ : Hid (SL w w.heap.size ([.blk xb #[.int .i64 1, .int .i64 ma, .int .i64 mi, .int .i64 mb, .int .i64 mj] 33, .blk nb #[.int .u8 sk, .int .i8 sa, .int .i8 si, .int .i8 sb, .int .i8 sj] 25] ++ ((bikeN 44 3).own (.slice A10 rs.length c10) rs ++ (bikeN 44 3).own (.slice A' m c') qs)) w10) := Lib.hid ((HSP.out.join hS10).perm (by
                 rw [List.append_nil, ← List.append_assoc, ← List.append_assoc]
                 exact List.perm_append_comm.append_right _))
               have HR10 := Lib.hid hr10
               clear hS10 hr10 HAP)
          obtain ⟨rn, hrn⟩ : ∃ rn, rs.length = rn := ⟨_, rfl⟩
          have HRN : Hid (rs.length = rn ∧ r.length = rn) := Lib.hid ⟨hrn, by rw [← hrn, ← HR10.out, List.length_map]⟩
          rw [hrn] at HSJ ⊢
          have HAP2 : Hid (Calls Try.prog 13 #[.int .i64 3, .slice A10 rn c10, .agg #[.int .i64 1, .int .i64 ma, .int .i64 mi, .int .i64 mb, .int .i64 mj]] w10 (ApplyPost w10 (some bs))) := Lib.hid (by
            have h := own_bikes HRN.out.1 HSJ.out
            rw [HR10.out] at h
            have h2 := apply_any 3 A10 c10 r 1 ma mi mb mj w10 h (by have h4 := HBK.out.2.1; have h5 := HBL.out; omega) (by have h4 := HBK.out.2.2; have h5 := HBL.out; omega)
            rw [HRN.out.2, HBK.out.1] at h2
            exact h2)
          clear hrn HSP
          go_upto_region 20 with first
            | (refine wpList_load_row rfl 33 _ rfl xb rfl _ #[.int .i64 1, .int .i64 ma, .int .i64 mi, .int .i64 mb, .int .i64 mj] _ _ (HSJ.out.blk 0 rfl) Try.underlying33 rfl HSZ.out ?_)
            | (go_at_call 13; (with_reducible refine HAP2.out.mono ?_); rintro e w11 ⟨v11, ts, rfl, hr11, hS11⟩
               have hSJ2 := HSJ.out.join hS11
               obtain ⟨A11, c11, rfl, _⟩ := own_open1 hS11
               have HSJ2 := Lib.hid hSJ2
               have HR11 := Lib.hid hr11
               clear hSJ2 hS11 hr11 HAP2)
          have HTN : Hid (ts.length = m) := Lib.hid (by rw [← HBL.out.2.1, ← HR11.out, List.length_map])
          have HSA : Hid (Calls Try.prog 17 #[.slice A11 ts.length c11, .slice A' m c'] w11 (SameP w11 bs bs)) := Lib.hid (by
            have g1 := bikes_own HSJ2.out (A := A11) (c := c11) (ps := ts) (T := 44) (t := 3) (fun r hr => List.mem_append_left _ hr)
            have g2 := bikes_own HSJ2.out (A := A') (c := c') (ps := qs) (T := 44) (t := 3) (fun r hr => by rw [HQM.out] at hr; exact List.mem_append_right _ (List.mem_append_right _ (List.mem_append_right _ hr)))
            rw [HR11.out] at g1
            rw [HB.out] at g2
            have hbl : ∀ b ∈ bs, b.stops.length ≤ 1000000 := fun b hb => by have h1 := stops_le_all hb; have h2 := HBL.out.2.2.2; omega
            have h := same23_any A11 A' c11 c' bs bs w11 g1 g2 (by rw [HBL.out.2.1]; have := HBL.out.2.2.1; omega) (by rw [HBL.out.2.1]; have := HBL.out.2.2.1; omega) hbl hbl
            rw [HBL.out.2.1] at h
            rw [HTN.out]
            exact h)
          have HB11 := Lib.hid HSJ2.out
          clear HSJ HSJ2 HRN HR10 HBK
          go_wp2_with (go_at_call 17; (with_reducible refine HSA.out.mono ?_); rintro e w12 ⟨rb, rfl, hrb, hb12⟩
                       obtain rfl : rb = true := hrb.2 rfl
                       have HBE := Lib.hid (HB11.out.call hb12).below
                       clear hrb hb12)
          go_ret
          exact ⟨rfl, HBE.out⟩
      | true =>
        have z3 : w7.frozen? ⟨xb, 3, none⟩ = false := HS6.out.free 0 rfl 3
        have y1 : w7.cell? ⟨xb, 1, none⟩ = some (.int .i64 ma) := HS6.out.cell 0 rfl 1 rfl
        have y3 : w7.cell? ⟨xb, 3, none⟩ = some (.int .i64 mb) := HS6.out.cell 0 rfl 3 rfl
        go_upto_region 16 with fail
        have HS9 := Lib.hid ((((HS6.out.setCell 0 rfl 0 (.int .i64 1)).setCell 0 rfl 0 (.int .i64 2)).setCell 0 rfl 3 (.int .i64 ma)))
        generalize (((w7.setCell ⟨xb, 0, none⟩ (.int .i64 1)).setCell ⟨xb, 0, none⟩ (.int .i64 2)).setCell ⟨xb, 3, none⟩ (.int .i64 ma)) = w9 at *
        clear z0 y0 z3 y1 y3 HS6
        have HSP : Hid (SL w w.heap.size ([.blk xb #[.int .i64 2, .int .i64 ma, .int .i64 mi, .int .i64 ma, .int .i64 mj] 33, .blk nb #[.int .u8 sk, .int .i8 sa, .int .i8 si, .int .i8 sb, .int .i8 sj] 25] ++ ((bikeN 44 3).own (.slice A' m c') qs ++ [])) w9) := Lib.hid HS9.out
        have HQM : Hid (qs.length = m) := Lib.hid (by rw [← HBL.out.2.1, ← HB.out, List.length_map])
        obtain ⟨o, ho⟩ : ∃ o, applyM 3 bs ⟨2, ma, mi, ma, mj⟩ = o := ⟨_, rfl⟩
        have HO := Lib.hid ho
        have HAP : Hid (Calls Try.prog 13 #[.int .i64 3, .slice A' m c', .agg #[.int .i64 2, .int .i64 ma, .int .i64 mi, .int .i64 ma, .int .i64 mj]] w9 (ApplyPost w9 o)) := Lib.hid (by
          have h := own_bikes HQM.out HSP.out
          rw [HB.out] at h
          have h2 := apply_any 3 A' c' bs 2 ma mi ma mj w9 h (by rw [HBL.out.2.1]; exact HBL.out.2.2.1) (by have := HBL.out.2.2.2; omega)
          rw [HBL.out.2.1, ho] at h2
          exact h2)
        clear HS9 ho
        cases o with
        | none =>
          go_wp2_with first
            | (refine wpList_load_row rfl 33 _ rfl xb rfl _ #[.int .i64 2, .int .i64 ma, .int .i64 mi, .int .i64 ma, .int .i64 mj] _ _ (HSP.out.blk 0 rfl) Try.underlying33 rfl HSZ.out ?_)
            | (go_at_call 13; (with_reducible refine HAP.out.mono ?_); rintro e w10 ⟨rfl, hb10⟩
               have HBB := Lib.hid (HSP.out.call hb10).below
               clear hb10 HAP)
          go_ret
          exact ⟨rfl, HBB.out⟩
        | some r =>
          have HBK : Hid (applyM 3 r ⟨2, ma, mi, ma, mj⟩ = some bs ∧ r.length = bs.length ∧ (allStops r).length = (allStops bs).length) := Lib.hid (apply_back HBL.out.1 (by simp) HO.out)
          go_upto_region 19 with first
            | (refine wpList_load_row rfl 33 _ rfl xb rfl _ #[.int .i64 2, .int .i64 ma, .int .i64 mi, .int .i64 ma, .int .i64 mj] _ _ (HSP.out.blk 0 rfl) Try.underlying33 rfl HSZ.out ?_)
            | (go_at_call 13; (with_reducible refine HAP.out.mono ?_); rintro e w10 ⟨v10, rs, rfl, hr10, hS10⟩
               obtain ⟨A10, c10, rfl, _⟩ := own_open1 hS10
               have HSJ : Hid (SL w w.heap.size ([.blk xb #[.int .i64 2, .int .i64 ma, .int .i64 mi, .int .i64 ma, .int .i64 mj] 33, .blk nb #[.int .u8 sk, .int .i8 sa, .int .i8 si, .int .i8 sb, .int .i8 sj] 25] ++ ((bikeN 44 3).own (.slice A10 rs.length c10) rs ++ (bikeN 44 3).own (.slice A' m c') qs)) w10) := Lib.hid ((HSP.out.join hS10).perm (by
                 rw [List.append_nil, ← List.append_assoc, ← List.append_assoc]
                 exact List.perm_append_comm.append_right _))
               have HR10 := Lib.hid hr10
               clear hS10 hr10 HAP)
          obtain ⟨rn, hrn⟩ : ∃ rn, rs.length = rn := ⟨_, rfl⟩
          have HRN : Hid (rs.length = rn ∧ r.length = rn) := Lib.hid ⟨hrn, by rw [← hrn, ← HR10.out, List.length_map]⟩
          rw [hrn] at HSJ ⊢
          have HAP2 : Hid (Calls Try.prog 13 #[.int .i64 3, .slice A10 rn c10, .agg #[.int .i64 2, .int .i64 ma, .int .i64 mi, .int .i64 ma, .int .i64 mj]] w10 (ApplyPost w10 (some bs))) := Lib.hid (by
            have h := own_bikes HRN.out.1 HSJ.out
            rw [HR10.out] at h
            have h2 := apply_any 3 A10 c10 r 2 ma mi ma mj w10 h (by have h4 := HBK.out.2.1; have h5 := HBL.out; omega) (by have h4 := HBK.out.2.2; have h5 := HBL.out; omega)
            rw [HRN.out.2, HBK.out.1] at h2
            exact h2)
          clear hrn HSP
          go_upto_region 20 with first
            | (refine wpList_load_row rfl 33 _ rfl xb rfl _ #[.int .i64 2, .int .i64 ma, .int .i64 mi, .int .i64 ma, .int .i64 mj] _ _ (HSJ.out.blk 0 rfl) Try.underlying33 rfl HSZ.out ?_)
            | (go_at_call 13; (with_reducible refine HAP2.out.mono ?_); rintro e w11 ⟨v11, ts, rfl, hr11, hS11⟩
               have hSJ2 := HSJ.out.join hS11
               obtain ⟨A11, c11, rfl, _⟩ := own_open1 hS11
               have HSJ2 := Lib.hid hSJ2
               have HR11 := Lib.hid hr11
               clear hSJ2 hS11 hr11 HAP2)
          have HTN : Hid (ts.length = m) := Lib.hid (by rw [← HBL.out.2.1, ← HR11.out, List.length_map])
          have HSA : Hid (Calls Try.prog 17 #[.slice A11 ts.length c11, .slice A' m c'] w11 (SameP w11 bs bs)) := Lib.hid (by
            have g1 := bikes_own HSJ2.out (A := A11) (c := c11) (ps := ts) (T := 44) (t := 3) (fun r hr => List.mem_append_left _ hr)
            have g2 := bikes_own HSJ2.out (A := A') (c := c') (ps := qs) (T := 44) (t := 3) (fun r hr => by rw [HQM.out] at hr; exact List.mem_append_right _ (List.mem_append_right _ (List.mem_append_right _ hr)))
            rw [HR11.out] at g1
            rw [HB.out] at g2
            have hbl : ∀ b ∈ bs, b.stops.length ≤ 1000000 := fun b hb => by have h1 := stops_le_all hb; have h2 := HBL.out.2.2.2; omega
            have h := same23_any A11 A' c11 c' bs bs w11 g1 g2 (by rw [HBL.out.2.1]; have := HBL.out.2.2.1; omega) (by rw [HBL.out.2.1]; have := HBL.out.2.2.1; omega) hbl hbl
            rw [HBL.out.2.1] at h
            rw [HTN.out]
            exact h)
          have HB11 := Lib.hid HSJ2.out
          clear HSJ HSJ2 HRN HR10 HBK
          go_wp2_with (go_at_call 17; (with_reducible refine HSA.out.mono ?_); rintro e w12 ⟨rb, rfl, hrb, hb12⟩
                       obtain rfl : rb = true := hrb.2 rfl
                       have HBE := Lib.hid (HB11.out.call hb12).below
                       clear hrb hb12)
          go_ret
          exact ⟨rfl, HBE.out⟩
theorem u8_wf {n : Int} (h : (Lit.int .u8 n).wf = true) : 0 ≤ n ∧ n ≤ 255 := by
  simp [Lit.wf, IntKind.min, IntKind.max, IntKind.signed, IntKind.bits] at h; omega
set_option maxRecDepth 100000 in
theorem moveBack_walk {H : Type} {enc : TypeId × Value → H} {base : Nat} (W : World) (A : Option Addr) (c : Nat) (l : List Int) (hr : Reads W W.heap.size 1 A l.length (l.map (.int .u8))) (hl : l.length ≤ maxLen) (hw : ∀ n ∈ l, (Lit.int .u8 n).wf = true)
    (v : Value) (d : DataW H) (p : List MemPlace) (o : Value.okWide Try.prog W .any base 25 v) (k : DataW.Trod enc Try.prog W 0 (fun _ => true) true 25 v d p) (tb : Bool) :
    Calls Try.prog 5 #[.slice A l.length c, v, .bool tb] W fun e w' => e = .returned (.bool true) ∧ Below W.heap.size W w' := by
  obtain ⟨s, rfl, hs⟩ := smm_open o k
  exact moveBack_any A c l s.kind s.a s.i s.b s.j tb W hr (fun n hn => u8_wf (hw n hn)) hl hs
end Go.Proofs.Ytpbhbmdghafkmaa
