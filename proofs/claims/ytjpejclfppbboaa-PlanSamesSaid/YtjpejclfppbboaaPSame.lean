/- plan.Same of any two plans. (printed by gen/psame.py) -/
import Derived.Test.YtjpejclfppbboaaSame17
namespace Go.Proofs.Ytjpejclfppbboaa
open Go.ChangeShapes Go.WideShapes Go.ChangeAt Go.RowKit
set_option linter.unusedVariables false
set_option linter.unusedSimpArgs false
set_option maxRecDepth 100000 in
theorem psame1_any (a1 a2 : Option Addr) (c1 c2 : Nat) (t1 t2 : List StopV) (w : World) (h1 : Stops w w.heap.size a1 t1) (h2 : Stops w w.heap.size a2 t2) (l1 : t1.length ≤ maxLen) (l2 : t2.length ≤ maxLen) :
    Calls Try.prog 71 #[.agg #[.slice a1 t1.length c1], .agg #[.slice a2 t2.length c2]] w fun e w' => e = .returned (.bool (sameV t1 t2)) ∧ Below w.heap.size w w' := by
  obtain ⟨n, hn⟩ : ∃ n, t1.length = n := ⟨_, rfl⟩
  obtain ⟨m, hm⟩ : ∃ n, t2.length = n := ⟨_, rfl⟩
  have HEQ : Hid (∀ wx, Below w.heap.size w wx → Calls Try.prog 72 #[.slice a1 n c1, .slice a2 m c2] wx fun e w' => e = .returned (.bool (sameV t1 t2)) ∧ Below wx.heap.size wx w') := Lib.hid (fun wx hb => by rw [← hn, ← hm]; exact equal_stops a1 a2 c1 c2 t1 t2 wx (reads_more (Reads.below h1 hb) hb.size) (reads_more (Reads.below h2 hb) hb.size) l1 l2)
  rw [hn, hm]
  obtain ⟨sv, hsv⟩ : ∃ s, sameV t1 t2 = s := ⟨_, rfl⟩
  rw [hsv] at HEQ ⊢
  have HS := Lib.hid (((SL.start (W := w) (Nat.le_refl w.heap.size)).alloc #[.slice a1 n c1] 49).alloc #[.slice a2 m c2] 49)
  clear hn hm h1 h2 l1 l2 hsv
  go_enter Try.func71, Try.ntmps71
  go_wp2_with (go_at_call 72; (with_reducible refine (HEQ.out _ HS.out.below).mono ?_); rintro e w5 ⟨rfl, hb5⟩
               have HS5 := Lib.hid (HS.out.call hb5)
               clear hb5)
  go_ret
  exact ⟨rfl, HS5.out.below⟩
set_option maxRecDepth 100000 in
theorem psame2_any (s1 s2 : Int) (a1 a2 : Option Addr) (c1 c2 : Nat) (t1 t2 : List Int) (w : World) (h1 : IntsAt w w.heap.size a1 t1) (h2 : IntsAt w w.heap.size a2 t2) (l1 : t1.length ≤ maxLen) (l2 : t2.length ≤ maxLen) :
    Calls Try.prog 74 #[.agg #[.int .i64 s1, .slice a1 t1.length c1], .agg #[.int .i64 s2, .slice a2 t2.length c2]] w fun e w' => e = .returned (.bool (sameV (BikeV.mk s1 t1) (BikeV.mk s2 t2))) ∧ Below w.heap.size w w' := by
  obtain ⟨n, hn⟩ : ∃ n, t1.length = n := ⟨_, rfl⟩
  obtain ⟨m, hm⟩ : ∃ n, t2.length = n := ⟨_, rfl⟩
  have HEQ : Hid (∀ wx, Below w.heap.size w wx → Calls Try.prog 21 #[.slice a1 n c1, .slice a2 m c2] wx fun e w' => e = .returned (.bool (decide (t1 = t2))) ∧ Below wx.heap.size wx w') := Lib.hid (fun wx hb => by rw [← hn, ← hm]; exact equalA_ints a1 a2 c1 c2 t1 t2 wx (reads_more (Reads.below h1 hb) hb.size) (reads_more (Reads.below h2 hb) hb.size) l1 l2)
  rw [hn, hm]
  have HE : Hid (sameV (BikeV.mk s1 t1) (BikeV.mk s2 t2) = (decide (s1 = s2) && decide (t1 = t2))) := Lib.hid (by
    by_cases e1 : s1 = s2
    · by_cases e2 : t1 = t2
      · rw [sameV_true (by rw [e1, e2])]; simp [e1, e2]
      · rw [sameV_false (fun h => e2 (BikeV.mk.inj h).2)]; simp [e2]
    · rw [sameV_false (fun h => e1 (BikeV.mk.inj h).1)]; simp [e1])
  obtain ⟨sv, hsv⟩ : ∃ s, sameV (BikeV.mk s1 t1) (BikeV.mk s2 t2) = s := ⟨_, rfl⟩
  rw [hsv] at HE ⊢
  obtain ⟨tv, htv⟩ : ∃ s, decide (t1 = t2) = s := ⟨_, rfl⟩
  rw [htv] at HEQ HE
  have HS := Lib.hid (((SL.start (W := w) (Nat.le_refl w.heap.size)).alloc #[.int .i64 s1, .slice a1 n c1] 46).alloc #[.int .i64 s2, .slice a2 m c2] 46)
  clear hn hm h1 h2 l1 l2 hsv htv
  by_cases e1 : s1 = s2
  · subst e1
    have HV : Hid (sv = tv) := Lib.hid (by have := HE.out; simpa using this)
    clear HE
    go_enter Try.func74, Try.ntmps74
    go_wp2_with (go_at_call 21; (with_reducible refine (HEQ.out _ HS.out.below).mono ?_); rintro e w5 ⟨rfl, hb5⟩
                 have HS5 := Lib.hid (HS.out.call hb5)
                 clear hb5)
    go_ret
    exact ⟨retBool HV.out.symm, HS5.out.below⟩
  · have HV : Hid (sv = false) := Lib.hid (by have := HE.out; simpa [e1] using this)
    have hne : (s1 == s2) = false := by simpa using e1
    have hne2 : decide (s1 = s2) = false := decide_eq_false e1
    clear HE HEQ
    go_enter Try.func74, Try.ntmps74
    go_wp2_with fail
    go_ret
    exact ⟨retBool HV.out.symm, HS.out.below⟩
set_option maxRecDepth 100000 in
set_option maxHeartbeats 4000000 in
theorem eqf_trucks (A A' : Option Addr) (c c' : Nat) (xs ys : List (List StopV)) (w : World) (h1 : Trucks w w.heap.size A xs) (h2 : Trucks w w.heap.size A' ys) (l1 : xs.length ≤ maxLen) (l2 : ys.length ≤ maxLen) (g1 : ∀ t ∈ xs, t.length ≤ maxLen) (g2 : ∀ t ∈ ys, t.length ≤ maxLen) :
    Calls Try.prog 70 #[.slice A xs.length c, .slice A' ys.length c', .func (.func 71) #[] #[]] w fun e w' => e = .returned (.bool (sameV xs ys)) ∧ Below w.heap.size w w' := by
  have hcf : ∀ args w', (callFunc 71 args).run Try.prog w' = .ok (.enter 71 args) w' := fun _ _ => by simp [go_sem]
  have H1 := Lib.hid (And.intro h1 g1)
  have H2 := Lib.hid (And.intro h2 g2)
  obtain ⟨n, hn⟩ : ∃ n, xs.length = n := ⟨_, rfl⟩
  obtain ⟨m, hm⟩ : ∃ n, ys.length = n := ⟨_, rfl⟩
  have HNM := Lib.hid (And.intro hn hm)
  unfold maxLen at l1 l2
  rw [hn] at l1 ⊢
  rw [hm] at l2 ⊢
  clear hn hm h1 h2 g1 g2
  by_cases hnm : n = m
  case neg =>
    have HF : Hid (sameV xs ys = false) := Lib.hid (sameV_false (fun e => hnm (by rw [← HNM.out.1, ← HNM.out.2, e])))
    have hne : ((n : Int) == (m : Int)) = false := by rw [beq_eq_false_iff_ne]; omega
    have hnm2 : ¬ ((n : Int) = (m : Int)) := by omega
    clear hnm
    go_enter Try.func70, Try.ntmps70
    go_wp2_with fail
    go_ret
    exact ⟨retBool HF.out.symm, Below.refl _ _⟩
  subst hnm
  go_enter Try.func70, Try.ntmps70
  go_upto_region 4 with fail
  go_loopw [17] (fun iv wr => ∃ k : Nat, k ≤ n ∧ iv = .int .i64 k ∧ Hid (∀ j (h1 : j < xs.length) (h2 : j < ys.length), j < k → xs[j] = ys[j]) ∧ SL w w.heap.size [] wr) (fun iv _ => n - (intOf iv).toNat)
  case atStart => exact ⟨0, by omega, rfl, Lib.hid (fun j _ _ h => absurd h (by omega)), SL.start (Nat.le_refl _)⟩
  case round =>
    obtain ⟨k, hk, rfl, HE, hS⟩ := hrel
    by_cases hlt : k < n
    · have hb1 : k < xs.length := by rw [HNM.out.1]; exact hlt
      have hb2 : k < ys.length := by rw [HNM.out.2]; exact hlt
      obtain ⟨b1, o1, a1, c1, e1, hl1, d00, hr1⟩ := trucks_at H1.out.1 hb1
      obtain ⟨b2, o2, a2, c2, e2, hl2', f00, hr2⟩ := trucks_at H2.out.1 hb2
      have d0 := (hS.below.cell (p := ⟨b1, o1 + k, none⟩) hl1).trans d00
      have f0 := (hS.below.cell (p := ⟨b2, o2 + k, none⟩) hl2').trans f00
      subst e1 e2
      have hw1 : b1 < wr.heap.size := Nat.lt_of_lt_of_le hl1 hS.size
      have hw2 : b2 < wr.heap.size := Nat.lt_of_lt_of_le hl2' hS.size
      have hs1 : xs[k].length ≤ maxLen := H1.out.2 _ (List.getElem_mem hb1)
      have hs2 : ys[k].length ≤ maxLen := H2.out.2 _ (List.getElem_mem hb2)
      have HNO : Hid (xs[k] ≠ ys[k] → sameV xs ys = false) := Lib.hid (fun h => sameV_false (fun e => h (by subst e; rfl)))
      have HST : Hid (xs[k] = ys[k] → ∀ j (h1 : j < xs.length) (h2 : j < ys.length), j < k + 1 → xs[j] = ys[j]) := Lib.hid (fun h j h1 h2 hj => by
        by_cases hjk : j = k
        · subst hjk; exact h
        · exact HE.out j h1 h2 (by omega))
      obtain ⟨t1, ht1⟩ : ∃ t1, xs[k] = t1 := ⟨_, rfl⟩
      obtain ⟨t2, ht2⟩ : ∃ t2, ys[k] = t2 := ⟨_, rfl⟩
      rw [ht1] at d0 hr1 hs1 HNO HST
      rw [ht2] at f0 hr2 hs2 HNO HST
      have HFC := Lib.hid (fun (wx : World) (hb : Below w.heap.size w wx) => psame1_any a1 a2 c1 c2 t1 t2 wx (reads_more (Reads.below hr1 hb) hb.size) (reads_more (Reads.below hr2 hb) hb.size) hs1 hs2)
      obtain ⟨sv, hsv⟩ : ∃ s, sameV t1 t2 = s := ⟨_, rfl⟩
      have HSV := Lib.hid hsv
      rw [hsv] at HFC
      have hk0 : (0 : Int) ≤ (k : Int) := by omega
      have hkn : (k : Int) < (n : Int) := by omega
      have HS := Lib.hid ((hS.alloc #[.slice a1 t1.length c1] 49).alloc #[.slice a2 t2.length c2] 49)
      clear hsv ht1 ht2 hr1 hr2 hs1 hs2 HE d00 f00 hS
      have HZ : Hid (wr.heap.size < (wr.alloc (.cells #[.slice a1 t1.length c1] 49)).heap.size) := Lib.hid (by simp)
      go_upto_region 7 with fail
      cases sv
      · have HF := Lib.hid (HNO.out (fun e => by have h := HSV.out; rw [sameV_true e] at h; cases h))
        go_wp2_with (go_at_call 71; (with_reducible refine (HFC.out _ HS.out.below).mono ?_); rintro e w5 ⟨rfl, hb5⟩
                     have HS5 := Lib.hid (HS.out.call hb5)
                     clear hb5)
        go_ret
        exact ⟨retBool HF.out.symm, HS5.out.below⟩
      · have HQ := Lib.hid (HST.out (sameV_iff.1 HSV.out))
        go_wp2_with (go_at_call 71; (with_reducible refine (HFC.out _ HS.out.below).mono ?_); rintro e w5 ⟨rfl, hb5⟩
                     have HS5 := Lib.hid (HS.out.call hb5)
                     clear hb5)
        go_roundw
        case rel => exact ⟨k + 1, by omega, by go_num, HQ, HS5.out.sub (List.nil_sublist _)⟩
        case measure => simp [intOf]; omega
    · obtain rfl : k = n := by omega
      have HF : Hid (sameV xs ys = true) := Lib.hid (sameV_true (List.ext_getElem (by rw [HNM.out.1, HNM.out.2]) (fun i h1 h2 => HE.out i h1 h2 (by have := HNM.out.1; omega))))
      have HB4 := Lib.hid hS.below
      clear hS HE
      go_wp2_with fail
      go_ret
      exact ⟨retBool HF.out.symm, HB4.out⟩
set_option maxRecDepth 100000 in
set_option maxHeartbeats 4000000 in
theorem eqf_bikes (A A' : Option Addr) (c c' : Nat) (xs ys : List BikeV) (w : World) (h1 : Bikes w w.heap.size A xs) (h2 : Bikes w w.heap.size A' ys) (l1 : xs.length ≤ maxLen) (l2 : ys.length ≤ maxLen) (g1 : ∀ b ∈ xs, b.stops.length ≤ maxLen) (g2 : ∀ b ∈ ys, b.stops.length ≤ maxLen) :
    Calls Try.prog 73 #[.slice A xs.length c, .slice A' ys.length c', .func (.func 74) #[] #[]] w fun e w' => e = .returned (.bool (sameV xs ys)) ∧ Below w.heap.size w w' := by
  have hcf : ∀ args w', (callFunc 74 args).run Try.prog w' = .ok (.enter 74 args) w' := fun _ _ => by simp [go_sem]
  have H1 := Lib.hid (And.intro h1 g1)
  have H2 := Lib.hid (And.intro h2 g2)
  obtain ⟨n, hn⟩ : ∃ n, xs.length = n := ⟨_, rfl⟩
  obtain ⟨m, hm⟩ : ∃ n, ys.length = n := ⟨_, rfl⟩
  have HNM := Lib.hid (And.intro hn hm)
  unfold maxLen at l1 l2
  rw [hn] at l1 ⊢
  rw [hm] at l2 ⊢
  clear hn hm h1 h2 g1 g2
  by_cases hnm : n = m
  case neg =>
    have HF : Hid (sameV xs ys = false) := Lib.hid (sameV_false (fun e => hnm (by rw [← HNM.out.1, ← HNM.out.2, e])))
    have hne : ((n : Int) == (m : Int)) = false := by rw [beq_eq_false_iff_ne]; omega
    have hnm2 : ¬ ((n : Int) = (m : Int)) := by omega
    clear hnm
    go_enter Try.func73, Try.ntmps73
    go_wp2_with fail
    go_ret
    exact ⟨retBool HF.out.symm, Below.refl _ _⟩
  subst hnm
  go_enter Try.func73, Try.ntmps73
  go_upto_region 4 with fail
  go_loopw [17] (fun iv wr => ∃ k : Nat, k ≤ n ∧ iv = .int .i64 k ∧ Hid (∀ j (h1 : j < xs.length) (h2 : j < ys.length), j < k → xs[j] = ys[j]) ∧ SL w w.heap.size [] wr) (fun iv _ => n - (intOf iv).toNat)
  case atStart => exact ⟨0, by omega, rfl, Lib.hid (fun j _ _ h => absurd h (by omega)), SL.start (Nat.le_refl _)⟩
  case round =>
    obtain ⟨k, hk, rfl, HE, hS⟩ := hrel
    by_cases hlt : k < n
    · have hb1 : k < xs.length := by rw [HNM.out.1]; exact hlt
      have hb2 : k < ys.length := by rw [HNM.out.2]; exact hlt
      obtain ⟨b1, o1, a1, c1, e1, hl1, d00, d01, hr1⟩ := bikes_at H1.out.1 hb1
      obtain ⟨b2, o2, a2, c2, e2, hl2', f00, f01, hr2⟩ := bikes_at H2.out.1 hb2
      have d0 := (hS.below.cell (p := ⟨b1, o1 + k * 2, none⟩) hl1).trans d00
      have f0 := (hS.below.cell (p := ⟨b2, o2 + k * 2, none⟩) hl2').trans f00
      have d1 := (hS.below.cell (p := ⟨b1, o1 + k * 2 + 1, none⟩) hl1).trans d01
      have f1 := (hS.below.cell (p := ⟨b2, o2 + k * 2 + 1, none⟩) hl2').trans f01
      subst e1 e2
      have hw1 : b1 < wr.heap.size := Nat.lt_of_lt_of_le hl1 hS.size
      have hw2 : b2 < wr.heap.size := Nat.lt_of_lt_of_le hl2' hS.size
      have hs1 : xs[k].stops.length ≤ maxLen := H1.out.2 _ (List.getElem_mem hb1)
      have hs2 : ys[k].stops.length ≤ maxLen := H2.out.2 _ (List.getElem_mem hb2)
      have HNO : Hid (xs[k] ≠ ys[k] → sameV xs ys = false) := Lib.hid (fun h => sameV_false (fun e => h (by subst e; rfl)))
      have HST : Hid (xs[k] = ys[k] → ∀ j (h1 : j < xs.length) (h2 : j < ys.length), j < k + 1 → xs[j] = ys[j]) := Lib.hid (fun h j h1 h2 hj => by
        by_cases hjk : j = k
        · subst hjk; exact h
        · exact HE.out j h1 h2 (by omega))
      obtain ⟨s1, t1, ht1⟩ : ∃ s t, xs[k] = BikeV.mk s t := ⟨_, _, rfl⟩
      obtain ⟨s2, t2, ht2⟩ : ∃ s t, ys[k] = BikeV.mk s t := ⟨_, _, rfl⟩
      rw [ht1] at d0 d1 hr1 hs1 HNO HST
      rw [ht2] at f0 f1 hr2 hs2 HNO HST
      simp only at d0 d1 f0 f1 hr1 hr2 hs1 hs2
      clear d01 f01
      have HFC := Lib.hid (fun (wx : World) (hb : Below w.heap.size w wx) => psame2_any s1 s2 a1 a2 c1 c2 t1 t2 wx (reads_more (Reads.below hr1 hb) hb.size) (reads_more (Reads.below hr2 hb) hb.size) hs1 hs2)
      obtain ⟨sv, hsv⟩ : ∃ s, sameV (BikeV.mk s1 t1) (BikeV.mk s2 t2) = s := ⟨_, rfl⟩
      have HSV := Lib.hid hsv
      rw [hsv] at HFC
      have hk0 : (0 : Int) ≤ (k : Int) := by omega
      have hkn : (k : Int) < (n : Int) := by omega
      have HS := Lib.hid ((hS.alloc #[.int .i64 s1, .slice a1 t1.length c1] 46).alloc #[.int .i64 s2, .slice a2 t2.length c2] 46)
      clear hsv ht1 ht2 hr1 hr2 hs1 hs2 HE d00 f00 hS
      have HZ : Hid (wr.heap.size < (wr.alloc (.cells #[.int .i64 s1, .slice a1 t1.length c1] 46)).heap.size) := Lib.hid (by simp)
      go_upto_region 7 with fail
      cases sv
      · have HF := Lib.hid (HNO.out (fun e => by have h := HSV.out; rw [sameV_true e] at h; cases h))
        go_wp2_with (go_at_call 74; (with_reducible refine (HFC.out _ HS.out.below).mono ?_); rintro e w5 ⟨rfl, hb5⟩
                     have HS5 := Lib.hid (HS.out.call hb5)
                     clear hb5)
        go_ret
        exact ⟨retBool HF.out.symm, HS5.out.below⟩
      · have HQ := Lib.hid (HST.out (sameV_iff.1 HSV.out))
        go_wp2_with (go_at_call 74; (with_reducible refine (HFC.out _ HS.out.below).mono ?_); rintro e w5 ⟨rfl, hb5⟩
                     have HS5 := Lib.hid (HS.out.call hb5)
                     clear hb5)
        go_roundw
        case rel => exact ⟨k + 1, by omega, by go_num, HQ, HS5.out.sub (List.nil_sublist _)⟩
        case measure => simp [intOf]; omega
    · obtain rfl : k = n := by omega
      have HF : Hid (sameV xs ys = true) := Lib.hid (sameV_true (List.ext_getElem (by rw [HNM.out.1, HNM.out.2]) (fun i h1 h2 => HE.out i h1 h2 (by have := HNM.out.1; omega))))
      have HB4 := Lib.hid hS.below
      clear hS HE
      go_wp2_with fail
      go_ret
      exact ⟨retBool HF.out.symm, HB4.out⟩
set_option maxRecDepth 100000 in
set_option maxHeartbeats 4000000 in
theorem psame_any (Tp Bp Tq Bq : Option Addr) (tp bp tq bq : Nat) (q r : PlanV) (w : World) (h1 : PlanIn w w.heap.size Tp Bp q) (h2 : PlanIn w w.heap.size Tq Bq r) (x1 : PlanX q) (x2 : PlanX r) :
    Calls Try.prog 42 #[.agg #[.slice Tp q.trucks.length tp, .slice Bp q.bikes.length bp], .agg #[.slice Tq r.trucks.length tq, .slice Bq r.bikes.length bq]] w fun e w' => e = .returned (.bool (sameV q r)) ∧ Below w.heap.size w w' := by
  have HT := Lib.hid (fun (wx : World) (hb : Below w.heap.size w wx) => eqf_trucks Tp Tq tp tq q.trucks r.trucks wx (trucks_more (h1.trucks.below hb) hb.size) (trucks_more (h2.trucks.below hb) hb.size) x1.trucks.1 x2.trucks.1 x1.trucks.2 x2.trucks.2)
  have HB := Lib.hid (fun (wx : World) (hb : Below w.heap.size w wx) => eqf_bikes Bp Bq bp bq q.bikes r.bikes wx (bikes_more (h1.bikes.below hb) hb.size) (bikes_more (h2.bikes.below hb) hb.size) x1.bikes.1 x2.bikes.1 x1.bikes.2 x2.bikes.2)
  have HE : Hid (sameV q r = (sameV q.trucks r.trucks && sameV q.bikes r.bikes)) := Lib.hid (by
    by_cases e1 : q.trucks = r.trucks
    · by_cases e2 : q.bikes = r.bikes
      · rw [sameV_true (PlanV.ext_iff'.2 ⟨e1, e2⟩), sameV_true e1, sameV_true e2]; rfl
      · rw [sameV_false (fun h => e2 (PlanV.ext_iff'.1 h).2), sameV_false e2]; simp
    · rw [sameV_false (fun h => e1 (PlanV.ext_iff'.1 h).1), sameV_false e1]; simp)
  obtain ⟨n, hn⟩ : ∃ n, q.trucks.length = n := ⟨_, rfl⟩
  obtain ⟨n', hn'⟩ : ∃ n, r.trucks.length = n := ⟨_, rfl⟩
  obtain ⟨m, hm⟩ : ∃ n, q.bikes.length = n := ⟨_, rfl⟩
  obtain ⟨m', hm'⟩ : ∃ n, r.bikes.length = n := ⟨_, rfl⟩
  rw [hn, hn'] at HT
  rw [hm, hm'] at HB
  rw [hn, hn', hm, hm']
  obtain ⟨sv, hsv⟩ : ∃ s, sameV q r = s := ⟨_, rfl⟩
  obtain ⟨tv, htv⟩ : ∃ s, sameV q.trucks r.trucks = s := ⟨_, rfl⟩
  obtain ⟨bv, hbv⟩ : ∃ s, sameV q.bikes r.bikes = s := ⟨_, rfl⟩
  rw [hsv, htv, hbv] at HE
  rw [hsv]
  rw [htv] at HT
  rw [hbv] at HB
  have hS := ((SL.start (W := w) (Nat.le_refl w.heap.size)).alloc #[.slice Tp n tp, .slice Bp m bp] 30).alloc #[.slice Tq n' tq, .slice Bq m' bq] 30
  have hsz : (w.alloc (.cells #[.slice Tp n tp, .slice Bp m bp] 30)).heap.size = w.heap.size + 1 := Array.size_push _
  rw [hsz] at hS
  have HS := Lib.hid hS
  clear h1 h2 x1 x2 hn hn' hm hm' hsv htv hbv hS hsz
  cases tv
  · have HV : Hid (sv = false) := Lib.hid (by have := HE.out; simpa using this)
    clear HE HB
    go_enter Try.func42, Try.ntmps42
    go_wp2_with (go_at_call 70; (with_reducible refine (HT.out _ HS.out.below).mono ?_); rintro e w5 ⟨rfl, hb5⟩
                 have HS5 := Lib.hid (HS.out.call hb5)
                 clear hb5)
    go_ret
    exact ⟨retBool HV.out.symm, HS5.out.below⟩
  · have HV : Hid (sv = bv) := Lib.hid (by have := HE.out; simpa using this)
    clear HE
    obtain ⟨pb, hpb⟩ : ∃ pb, pb = w.heap.size := ⟨_, rfl⟩
    go_enter Try.func42, Try.ntmps42
    go_wp2_with first
      | (go_at_call 70; (with_reducible refine (HT.out _ HS.out.below).mono ?_); rintro e w5 ⟨rfl, hb5⟩
         have HS5 := Lib.hid (HS.out.call hb5)
         have y1 : w5.cell? ⟨w.heap.size, 1, none⟩ = some (.slice Bp m bp) := HS5.out.cell 1 rfl 1 rfl
         have y2 : w5.cell? ⟨w.heap.size + 1, 1, none⟩ = some (.slice Bq m' bq) := HS5.out.cell 0 rfl 1 rfl
         clear hb5)
      | (go_at_call 73; (with_reducible refine (HB.out _ HS5.out.below).mono ?_); rintro e w6 ⟨rfl, hb6⟩
         have HS6 := Lib.hid (HS5.out.call hb6)
         clear hb6)
    go_ret
    exact ⟨retBool HV.out.symm, HS6.out.below⟩
end Go.Proofs.Ytjpejclfppbboaa
