/- law17.Same and plan.Same of any two plans: are they the same? (printed by gen/same17.py) -/
import Derived.Test.YtjpejclfppbboaaEqualStop
import Derived.Test.YtjpejclfppbboaaPlanP
import Derived.Test.YtjpejclfppbboaaRowRun
import Derived.Test.YtjpejclfppbboaaEqualAny
import Derived.LoopN
import Derived.Deep.CutBlock
import Derived.Deep.CutRange
import Derived.Deep.DeepCutAuto
namespace Go.Proofs.Ytjpejclfppbboaa
open Go.ChangeShapes Go.WideShapes Go.ChangeAt Go.RowKit
set_option linter.unusedVariables false
set_option linter.unusedSimpArgs false
theorem PlanV.ext_iff' {q r : PlanV} : q = r ↔ q.trucks = r.trucks ∧ q.bikes = r.bikes := by
  constructor
  · intro h; subst h; exact ⟨rfl, rfl⟩
  · intro h; cases q; cases r; simp only at h; rw [h.1, h.2]
structure PlanX (q : PlanV) : Prop where
  trucks : q.trucks.length ≤ maxLen ∧ ∀ t ∈ q.trucks, t.length ≤ maxLen
  bikes : q.bikes.length ≤ maxLen ∧ ∀ b ∈ q.bikes, b.stops.length ≤ maxLen
theorem BikeV.eq_iff' {b c : BikeV} : b = c ↔ b.sat = c.sat ∧ b.stops = c.stops := by
  constructor
  · intro h; subst h; exact ⟨rfl, rfl⟩
  · intro h; cases b; cases c; simp only at h; rw [h.1, h.2]
set_option maxRecDepth 100000 in
set_option maxHeartbeats 4000000 in
theorem lsame_any (Tp Bp Tq Bq : Option Addr) (tp bp tq bq : Nat) (q r : PlanV) (w : World) (h1 : PlanIn w w.heap.size Tp Bp q) (h2 : PlanIn w w.heap.size Tq Bq r) (x1 : PlanX q) (x2 : PlanX r) :
    Calls Try.prog 43 #[.agg #[.slice Tp q.trucks.length tp, .slice Bp q.bikes.length bp], .agg #[.slice Tq r.trucks.length tq, .slice Bq r.bikes.length bq]] w fun e w' => e = .returned (.bool (sameV q r)) ∧ Below w.heap.size w w' := by
  have H1 := Lib.hid h1
  have H2 := Lib.hid h2
  have HX := Lib.hid (And.intro x1 x2)
  obtain ⟨⟨l1, _⟩, l2, _⟩ := x1
  obtain ⟨⟨l3, _⟩, l4, _⟩ := x2
  obtain ⟨n, hn⟩ : ∃ n, q.trucks.length = n := ⟨_, rfl⟩
  obtain ⟨n', hn'⟩ : ∃ n, r.trucks.length = n := ⟨_, rfl⟩
  obtain ⟨m, hm⟩ : ∃ n, q.bikes.length = n := ⟨_, rfl⟩
  obtain ⟨m', hm'⟩ : ∃ n, r.bikes.length = n := ⟨_, rfl⟩
  have HNM := Lib.hid (And.intro (And.intro hn hn') (And.intro hm hm'))
  have hS := ((SL.start (W := w) (Nat.le_refl w.heap.size)).alloc #[.slice Tp q.trucks.length tp, .slice Bp q.bikes.length bp] 30).alloc #[.slice Tq r.trucks.length tq, .slice Bq r.bikes.length bq] 30
  have hsz : (w.alloc (.cells #[.slice Tp q.trucks.length tp, .slice Bp q.bikes.length bp] 30)).heap.size = w.heap.size + 1 := Array.size_push _
  rw [hsz] at hS
  unfold maxLen at l1 l2 l3 l4
  rw [hn] at l1
  rw [hn'] at l3
  rw [hm] at l2
  rw [hm'] at l4
  rw [hn, hm, hn', hm'] at hS
  rw [hn, hm, hn', hm']
  obtain ⟨w1, hw1⟩ : ∃ w1, (w.alloc (.cells #[.slice Tp n tp, .slice Bp m bp] 30)).alloc (.cells #[.slice Tq n' tq, .slice Bq m' bq] 30) = w1 := ⟨_, rfl⟩
  have HW1 := Lib.hid hw1
  rw [hw1] at hS
  obtain ⟨pb, hpb⟩ : ∃ pb, pb = w.heap.size := ⟨_, rfl⟩
  obtain ⟨qb, hqb⟩ : ∃ qb, qb = w.heap.size + 1 := ⟨_, rfl⟩
  have HS1 : Hid (SL w w.heap.size [.blk qb #[.slice Tq n' tq, .slice Bq m' bq] 30, .blk pb #[.slice Tp n tp, .slice Bp m bp] 30] w1) := Lib.hid (by rw [hpb, hqb]; exact hS)
  have HPB := Lib.hid (And.intro hpb hqb)
  clear hS hsz h1 h2 hn hn' hm hm' hw1 hpb hqb
  have y0 : w1.cell? ⟨pb, 0, none⟩ = some (.slice Tp n tp) := HS1.out.cell 1 rfl 0 rfl
  have y1 : w1.cell? ⟨pb, 1, none⟩ = some (.slice Bp m bp) := HS1.out.cell 1 rfl 1 rfl
  have x0 : w1.cell? ⟨qb, 0, none⟩ = some (.slice Tq n' tq) := HS1.out.cell 0 rfl 0 rfl
  have x1 : w1.cell? ⟨qb, 1, none⟩ = some (.slice Bq m' bq) := HS1.out.cell 0 rfl 1 rfl
  by_cases hnm : n = n'
  case neg =>
    have hne : ((n : Int) == (n' : Int)) = false := by rw [beq_eq_false_iff_ne]; omega
    have hne2 : decide ((n : Int) = (n' : Int)) = false := decide_eq_false (by omega)
    have HF : Hid (sameV q r = false) := Lib.hid (sameV_false (fun e => hnm (by rw [← HNM.out.1.1, ← HNM.out.1.2, e])))
    have hnm2 : ¬ ((n : Int) = (n' : Int)) := by omega
    clear hnm
    go_enter Try.func43, Try.ntmps43
    go_upto_region 1 with fail
    rw [HW1.out, ← HPB.out.2, ← HPB.out.1]
    go_wp2_with fail
    go_ret
    exact ⟨retBool HF.out.symm, HS1.out.below⟩
  subst hnm
  by_cases hmm : m = m'
  case neg =>
    have hne : ((m : Int) == (m' : Int)) = false := by rw [beq_eq_false_iff_ne]; omega
    have hne2 : decide ((m : Int) = (m' : Int)) = false := decide_eq_false (by omega)
    have HF : Hid (sameV q r = false) := Lib.hid (sameV_false (fun e => hmm (by rw [← HNM.out.2.1, ← HNM.out.2.2, e])))
    have hnm2 : ¬ ((m : Int) = (m' : Int)) := by omega
    clear hmm
    go_enter Try.func43, Try.ntmps43
    go_upto_region 1 with fail
    rw [HW1.out, ← HPB.out.2, ← HPB.out.1]
    go_wp2_with fail
    go_ret
    exact ⟨retBool HF.out.symm, HS1.out.below⟩
  subst hmm
  go_enter Try.func43, Try.ntmps43
  go_upto_region 1 with fail
  rw [HW1.out, ← HPB.out.2, ← HPB.out.1]
  go_upto_region 4 with fail
  clear y0 y1 x0 x1
  go_loopw [26] (fun iv wr => ∃ k : Nat, k ≤ n ∧ iv = .int .i64 k ∧ Hid (∀ j (h1 : j < q.trucks.length) (h2 : j < r.trucks.length), j < k → q.trucks[j] = r.trucks[j]) ∧ SL w w.heap.size [.blk qb #[.slice Tq n tq, .slice Bq m bq] 30, .blk pb #[.slice Tp n tp, .slice Bp m bp] 30] wr) (fun iv _ => n - (intOf iv).toNat)
  case atStart => exact ⟨0, by omega, rfl, Lib.hid (fun j _ _ h => absurd h (by omega)), HS1.out⟩
  case round =>
    clear HS1
    obtain ⟨k, hk, rfl, HE, hS⟩ := hrel
    by_cases hlt : k < n
    · have hb1 : k < q.trucks.length := by rw [HNM.out.1.1]; exact hlt
      have hb2 : k < r.trucks.length := by rw [HNM.out.1.2]; exact hlt
      obtain ⟨b1, o1, a1, c1, e1, hl1, d0, hr1⟩ := trucks_at H1.out.trucks hb1
      obtain ⟨b2, o2, a2, c2, e2, hl2', f0, hr2⟩ := trucks_at H2.out.trucks hb2
      subst e1 e2
      have hs1 := HX.out.1.trucks.2 _ (List.getElem_mem hb1)
      have hs2 := HX.out.2.trucks.2 _ (List.getElem_mem hb2)
      have HNO : Hid (q.trucks[k] ≠ r.trucks[k] → sameV q r = false) := Lib.hid (fun h => sameV_false (fun e => h (by subst e; rfl)))
      have HST : Hid (q.trucks[k] = r.trucks[k] → ∀ j (h1 : j < q.trucks.length) (h2 : j < r.trucks.length), j < k + 1 → q.trucks[j] = r.trucks[j]) := Lib.hid (fun h j h1 h2 hj => by
        by_cases hjk : j = k
        · subst hjk; exact h
        · exact HE.out j h1 h2 (by omega))
      obtain ⟨t1, ht1⟩ : ∃ t1, q.trucks[k] = t1 := ⟨_, rfl⟩
      obtain ⟨t2, ht2⟩ : ∃ t2, r.trucks[k] = t2 := ⟨_, rfl⟩
      rw [ht1] at d0 hr1 hs1 HNO HST
      rw [ht2] at f0 hr2 hs2 HNO HST
      have HEQ := Lib.hid (fun (wx : World) (hb : Below w.heap.size w wx) => equal_stops a1 a2 c1 c2 t1 t2 wx (reads_more (Reads.below hr1 hb) hb.size) (reads_more (Reads.below hr2 hb) hb.size) hs1 hs2)
      have hk0 : (0 : Int) ≤ (k : Int) := by omega
      have hkn : (k : Int) < (n : Int) := by omega
      clear ht1 ht2 hr1 hr2 hs1 hs2 HE
      go_upto_region 6 with fail
      obtain ⟨sv, hsv⟩ : ∃ s, sameV t1 t2 = s := ⟨_, rfl⟩
      have HSV := Lib.hid hsv
      rw [hsv] at HEQ
      clear hsv
      refine wp_region_sq _ hS (by kernel_rfl) (by kernel_rfl) fun C cw _ hC hin => ?_
      have qp : ∀ d, (cw d).cell? ⟨pb, 0, none⟩ = some (.slice (some ⟨b1, o1, none⟩) n tp) := fun d => (hC d).cell 1 rfl 0 rfl
      have qq : ∀ d, (cw d).cell? ⟨qb, 0, none⟩ = some (.slice (some ⟨b2, o2, none⟩) n tq) := fun d => (hC d).cell 0 rfl 0 rfl
      have qd0 : ∀ d, (cw d).cell? ⟨b1, o1 + k, none⟩ = some (.slice a1 t1.length c1) := fun d => ((hC d).below.cell (p := ⟨b1, o1 + k, none⟩) hl1).trans d0
      have qf0 : ∀ d, (cw d).cell? ⟨b2, o2 + k, none⟩ = some (.slice a2 t2.length c2) := fun d => ((hC d).below.cell (p := ⟨b2, o2 + k, none⟩) hl2').trans f0
      have HN : ∀ d, Calls Try.prog 72 #[.slice a1 t1.length c1, .slice a2 t2.length c2] (cw d) fun e w' => e = .returned (.bool sv) ∧ ∃ c', w' = cw c' := fun d => sq_call (hC d) hin (HEQ.out (cw d) (hC d).below)
      have HHN := Lib.hid HN
      clear hin d0 f0 hS hC HN HEQ
      repeat (go_big_quiet_step (first | (go_at_call 72; with_reducible exact HHN.out _)))
      refine wpQuiet_nil ?_
      intro w4 hS4
      have HS4 := Lib.hid hS4
      clear hS4 qp qq qd0 qf0
      cases sv
      · have HF := Lib.hid (HNO.out (fun e => by have h := HSV.out; rw [sameV_true e] at h; cases h))
        go_wp2_with fail
        go_ret
        exact ⟨retBool HF.out.symm, HS4.out.below⟩
      · have HQ := Lib.hid (HST.out (sameV_iff.1 HSV.out))
        go_wp2_with fail
        go_roundw
        case rel => exact ⟨k + 1, by omega, by go_num, HQ, HS4.out⟩
        case measure => simp [intOf]; omega
    · obtain rfl : k = n := by omega
      have HTE : Hid (q.trucks = r.trucks) := Lib.hid (List.ext_getElem (by rw [HNM.out.1.1, HNM.out.1.2]) (fun j h1 h2 => HE.out j h1 h2 (by have := HNM.out.1.1; omega)))
      have HS2 := Lib.hid hS
      clear hS HE hlt
      have y1 : wr.cell? ⟨pb, 1, none⟩ = some (.slice Bp m bp) := HS2.out.cell 1 rfl 1 rfl
      go_upto_region 10 with fail
      clear y1
      obtain ⟨wo, rfl⟩ : ∃ wo : World, wo = wr := ⟨_, rfl⟩
      go_loopw [47] (fun iv wr => ∃ j : Nat, j ≤ m ∧ iv = .int .i64 j ∧ Hid (∀ i (h1 : i < q.bikes.length) (h2 : i < r.bikes.length), i < j → q.bikes[i] = r.bikes[i]) ∧ SL w w.heap.size [.blk qb #[.slice Tq k tq, .slice Bq m bq] 30, .blk pb #[.slice Tp k tp, .slice Bp m bp] 30] wr) (fun iv _ => m - (intOf iv).toNat)
      case atStart => exact ⟨0, by omega, rfl, Lib.hid (fun j _ _ h => absurd h (by omega)), HS2.out⟩
      case round =>
        clear HS2
        obtain ⟨j, hj, rfl, HE, hS⟩ := hrel
        by_cases hlt : j < m
        · have hb1 : j < q.bikes.length := by rw [HNM.out.2.1]; exact hlt
          have hb2 : j < r.bikes.length := by rw [HNM.out.2.2]; exact hlt
          obtain ⟨b1, o1, a1, c1, e1, hl1, d0, d1, hr1⟩ := bikes_at H1.out.bikes hb1
          obtain ⟨b2, o2, a2, c2, e2, hl2', f0, f1, hr2⟩ := bikes_at H2.out.bikes hb2
          subst e1 e2
          have hs1 := HX.out.1.bikes.2 _ (List.getElem_mem hb1)
          have hs2 := HX.out.2.bikes.2 _ (List.getElem_mem hb2)
          have HNO : Hid (¬ (q.bikes[j].sat = r.bikes[j].sat ∧ q.bikes[j].stops = r.bikes[j].stops) → sameV q r = false) := Lib.hid (fun h => sameV_false (fun e => h (by subst e; exact ⟨rfl, rfl⟩)))
          have HST : Hid ((q.bikes[j].sat = r.bikes[j].sat ∧ q.bikes[j].stops = r.bikes[j].stops) → ∀ i (h1 : i < q.bikes.length) (h2 : i < r.bikes.length), i < j + 1 → q.bikes[i] = r.bikes[i]) := Lib.hid (fun h i h1 h2 hj => by
            by_cases hjk : i = j
            · subst hjk; exact BikeV.eq_iff'.2 h
            · exact HE.out i h1 h2 (by omega))
          obtain ⟨t1, ht1⟩ : ∃ t1, q.bikes[j].stops = t1 := ⟨_, rfl⟩
          obtain ⟨t2, ht2⟩ : ∃ t2, r.bikes[j].stops = t2 := ⟨_, rfl⟩
          obtain ⟨s1, hs1'⟩ : ∃ s1, q.bikes[j].sat = s1 := ⟨_, rfl⟩
          obtain ⟨s2, hs2'⟩ : ∃ s2, r.bikes[j].sat = s2 := ⟨_, rfl⟩
          rw [ht1] at d1 hr1 hs1
          rw [ht2] at f1 hr2 hs2
          rw [hs1'] at d0
          rw [hs2'] at f0
          rw [ht1, ht2, hs1', hs2'] at HNO HST
          have HEQ := Lib.hid (fun (wx : World) (hb : Below w.heap.size w wx) => equalA_ints a1 a2 c1 c2 t1 t2 wx (reads_more (Reads.below hr1 hb) hb.size) (reads_more (Reads.below hr2 hb) hb.size) hs1 hs2)
          have hk0 : (0 : Int) ≤ (j : Int) := by omega
          have hkn : (j : Int) < (m : Int) := by omega
          clear ht1 ht2 hs1' hs2' hr1 hr2 hs1 hs2 HE
          go_upto_region 12 with fail
          obtain ⟨sv, hsv⟩ : ∃ s, decide (t1 = t2) = s := ⟨_, rfl⟩
          have HSV := Lib.hid hsv
          rw [hsv] at HEQ
          clear hsv
          by_cases hsat : s1 = s2
          case neg =>
            have hne4 : (!(s1 == s2)) = true := by simpa using hsat
            have hne5 : (s1 != s2) = true := by simpa using hsat
            have hne6 : (!decide (s1 = s2)) = true := by simpa using hsat
            have HSAT := Lib.hid hsat
            clear hsat
            refine wp_region_sq _ hS (by kernel_rfl) (by kernel_rfl) fun C cw _ hC hin => ?_
            have qp : ∀ d, (cw d).cell? ⟨pb, 1, none⟩ = some (.slice (some ⟨b1, o1, none⟩) m bp) := fun d => (hC d).cell 1 rfl 1 rfl
            have qq : ∀ d, (cw d).cell? ⟨qb, 1, none⟩ = some (.slice (some ⟨b2, o2, none⟩) m bq) := fun d => (hC d).cell 0 rfl 1 rfl
            have qd0 : ∀ d, (cw d).cell? ⟨b1, o1 + j * 2, none⟩ = some (.int .i64 s1) := fun d => ((hC d).below.cell (p := ⟨b1, o1 + j * 2, none⟩) hl1).trans d0
            have qf0 : ∀ d, (cw d).cell? ⟨b2, o2 + j * 2, none⟩ = some (.int .i64 s2) := fun d => ((hC d).below.cell (p := ⟨b2, o2 + j * 2, none⟩) hl2').trans f0
            clear hin d0 d1 f0 f1 hS hC
            repeat (go_big_quiet_step (fail))
            refine wpQuiet_nil ?_
            intro w4 hS4
            have HB4 := Lib.hid hS4.below
            have HF := Lib.hid (HNO.out (fun e => HSAT.out e.1))
            clear hS4 qp qq qd0 qf0
            go_wp2_with fail
            go_ret
            exact ⟨retBool HF.out.symm, HB4.out⟩
          case pos =>
            subst hsat
            refine wp_region_sq _ hS (by kernel_rfl) (by kernel_rfl) fun C cw _ hC hin => ?_
            have qp : ∀ d, (cw d).cell? ⟨pb, 1, none⟩ = some (.slice (some ⟨b1, o1, none⟩) m bp) := fun d => (hC d).cell 1 rfl 1 rfl
            have qq : ∀ d, (cw d).cell? ⟨qb, 1, none⟩ = some (.slice (some ⟨b2, o2, none⟩) m bq) := fun d => (hC d).cell 0 rfl 1 rfl
            have qd0 : ∀ d, (cw d).cell? ⟨b1, o1 + j * 2, none⟩ = some (.int .i64 s1) := fun d => ((hC d).below.cell (p := ⟨b1, o1 + j * 2, none⟩) hl1).trans d0
            have qf0 : ∀ d, (cw d).cell? ⟨b2, o2 + j * 2, none⟩ = some (.int .i64 s1) := fun d => ((hC d).below.cell (p := ⟨b2, o2 + j * 2, none⟩) hl2').trans f0
            have qd1 : ∀ d, (cw d).cell? ⟨b1, o1 + j * 2 + 1, none⟩ = some (.slice a1 t1.length c1) := fun d => ((hC d).below.cell (p := ⟨b1, o1 + j * 2 + 1, none⟩) hl1).trans d1
            have qf1 : ∀ d, (cw d).cell? ⟨b2, o2 + j * 2 + 1, none⟩ = some (.slice a2 t2.length c2) := fun d => ((hC d).below.cell (p := ⟨b2, o2 + j * 2 + 1, none⟩) hl2').trans f1
            have HN : ∀ d, Calls Try.prog 21 #[.slice a1 t1.length c1, .slice a2 t2.length c2] (cw d) fun e w' => e = .returned (.bool sv) ∧ ∃ c', w' = cw c' := fun d => sq_call (hC d) hin (HEQ.out (cw d) (hC d).below)
            have HHN := Lib.hid HN
            clear hin d0 d1 f0 f1 hS hC HN HEQ
            repeat (go_big_quiet_step (first | (go_at_call 21; with_reducible exact HHN.out _)))
            refine wpQuiet_nil ?_
            intro w4 hS4
            have HS4 := Lib.hid hS4
            clear hS4 qp qq qd0 qf0 qd1 qf1
            cases sv
            · have HF := Lib.hid (HNO.out (fun e => of_decide_eq_false HSV.out e.2))
              go_wp2_with fail
              go_ret
              exact ⟨retBool HF.out.symm, HS4.out.below⟩
            · have HQ := Lib.hid (HST.out ⟨rfl, of_decide_eq_true HSV.out⟩)
              go_wp2_with fail
              go_roundw
              case rel => exact ⟨j + 1, by omega, by go_num, HQ, HS4.out⟩
              case measure => simp [intOf]; omega
        · obtain rfl : j = m := by omega
          have HF : Hid (sameV q r = true) := Lib.hid (sameV_true (PlanV.ext_iff'.2 ⟨HTE.out, List.ext_getElem (by rw [HNM.out.2.1, HNM.out.2.2]) (fun i h1 h2 => HE.out i h1 h2 (by have := HNM.out.2.1; omega))⟩))
          have HB4 := Lib.hid hS.below
          clear hS HE
          go_wp2_with fail
          go_ret
          exact ⟨retBool HF.out.symm, HB4.out⟩
end Go.Proofs.Ytjpejclfppbboaa
