/- law17.Same of two plans of bikes alone; law23.Same. (printed by gen/sameb.py) -/
import Derived.Test.YtpbhbmdghafkmaaApply
import Derived.Test.YtpbhbmdghafkmaaEqualAny
import Derived.LoopN
namespace Go.Proofs.Ytpbhbmdghafkmaa
open Go.ChangeShapes Go.WideShapes Go.ChangeAt Go.RowKit
set_option linter.unusedVariables false
def SameP (W : World) (bs cs : List BikeV) (e : Ending) (w' : World) : Prop := ∃ r, e = .returned (.bool r) ∧ (r = true ↔ bs = cs) ∧ Below W.heap.size W w'
set_option maxRecDepth 100000 in
theorem same17_any (Ap Aq : Option Addr) (cp cq : Nat) (bs cs : List BikeV) (w : World) (h1 : Bikes w w.heap.size Ap bs) (h2 : Bikes w w.heap.size Aq cs) (hl : bs.length ≤ 1000000) (hl2 : cs.length ≤ 1000000) (hs : ∀ b ∈ bs, b.stops.length ≤ 1000000) (hs2 : ∀ b ∈ cs, b.stops.length ≤ 1000000) :
 Calls Try.prog 40 #[.agg #[.slice none 0 0, .slice Ap bs.length cp], .agg #[.slice none 0 0, .slice Aq cs.length cq]] w (SameP w bs cs) := by
 have hS := ((SL.start (W := w) (Nat.le_refl w.heap.size)).alloc #[.slice none 0 0, .slice Ap bs.length cp] 39).alloc #[.slice none 0 0, .slice Aq cs.length cq] 39
 have HS := Lib.hid hS
 have H1 := Lib.hid h1
 have H2 := Lib.hid h2
 have HB := Lib.hid (And.intro hs hs2)
 obtain ⟨n, hn⟩ : ∃ n, bs.length = n := ⟨_, rfl⟩
 obtain ⟨m, hm⟩ : ∃ m, cs.length = m := ⟨_, rfl⟩
 rw [hn] at hl HS ⊢
 rw [hm] at hl2 HS ⊢
 clear hS h1 h2 hs hs2
 have hsz : (w.alloc (.cells #[.slice none 0 0, .slice Ap n cp] 39)).heap.size = w.heap.size + 1 := Array.size_push _
 rw [hsz] at HS
 obtain ⟨w1, hw1⟩ : ∃ w1, (w.alloc (.cells #[.slice none 0 0, .slice Ap n cp] 39)).alloc (.cells #[.slice none 0 0, .slice Aq m cq] 39) = w1 := ⟨_, rfl⟩
 have HW1 := Lib.hid hw1
 rw [hw1] at HS
 obtain ⟨pb, hpb⟩ : ∃ pb, pb = w.heap.size := ⟨_, rfl⟩
 obtain ⟨qb, hqb⟩ : ∃ qb, qb = w.heap.size + 1 := ⟨_, rfl⟩
 have HS1 : Hid (SL w w.heap.size [.blk qb #[.slice none 0 0, .slice Aq m cq] 39, .blk pb #[.slice none 0 0, .slice Ap n cp] 39] w1) := Lib.hid (by rw [hpb, hqb]; exact HS.out)
 have HPB := Lib.hid (And.intro hpb hqb)
 have HNM := Lib.hid (And.intro hn hm)
 clear hw1 hpb hqb HS hsz hn hm
 have y0 : w1.cell? ⟨pb, 0, none⟩ = some (.slice none 0 0) := HS1.out.cell 1 rfl 0 rfl
 have y1 : w1.cell? ⟨pb, 1, none⟩ = some (.slice Ap n cp) := HS1.out.cell 1 rfl 1 rfl
 have x0 : w1.cell? ⟨qb, 0, none⟩ = some (.slice none 0 0) := HS1.out.cell 0 rfl 0 rfl
 have x1 : w1.cell? ⟨qb, 1, none⟩ = some (.slice Aq m cq) := HS1.out.cell 0 rfl 1 rfl
 by_cases hnm : n = m
 case neg =>
  have hne : ((n : Int) == (m : Int)) = false := by rw [beq_eq_false_iff_ne]; omega
  go_enter Try.func40, Try.ntmps40
  go_upto_region 1 with fail
  rw [HW1.out, ← HPB.out.2, ← HPB.out.1]
  go_wp2_with fail
  go_ret
  refine ⟨false, rfl, ⟨fun h => (by cases h), fun h => ?_⟩, HS1.out.below⟩
  exact absurd (by rw [← HNM.out.1, ← HNM.out.2, h]) hnm
 case pos =>
  subst hnm
  go_enter Try.func40, Try.ntmps40
  go_upto_region 1 with fail
  rw [HW1.out, ← HPB.out.2, ← HPB.out.1]
  go_upto_region 4 with fail
  refine wp_loop_rounds 1 ?_
  rw [rounds_succ]
  go_upto_region 10 with fail
  go_loopw [47] (fun iv wr => ∃ k : Nat, k ≤ n ∧ iv = .int .i64 k ∧ Hid (∀ j (h1 : j < bs.length) (h2 : j < cs.length), j < k → bs[j] = cs[j]) ∧ SL w w.heap.size [.blk qb #[.slice none 0 0, .slice Aq n cq] 39, .blk pb #[.slice none 0 0, .slice Ap n cp] 39] wr) (fun iv _ => n - (intOf iv).toNat)
  case atStart => exact ⟨0, by omega, rfl, Lib.hid (fun j _ _ h => absurd h (by omega)), HS1.out⟩
  case round =>
   clear y0 y1 x0 x1 HS1
   obtain ⟨k, hk, rfl, HE, hS⟩ := hrel
   by_cases hlt : k < n
   · have hb1 : k < bs.length := by rw [HNM.out.1]; exact hlt
     have hb2 : k < cs.length := by rw [HNM.out.2]; exact hlt
     obtain ⟨b1, o1, a1, c1, e1, hl1, d0, d1, hr1⟩ := bikes_at H1.out hb1
     obtain ⟨b2, o2, a2, c2, e2, hl2', f0, f1, hr2⟩ := bikes_at H2.out hb2
     subst e1 e2
     have hs1 := HB.out.1 _ (List.getElem_mem hb1)
     have hs2 := HB.out.2 _ (List.getElem_mem hb2)
     have HEK : Hid (bs[k] = cs[k] ↔ bs[k].sat = cs[k].sat ∧ bs[k].stops = cs[k].stops) := Lib.hid (by
      constructor
      · intro h; rw [h]; exact ⟨rfl, rfl⟩
      · intro h
        cases hx : bs[k]; cases hy : cs[k]
        rw [hx, hy] at h
        simp only at h
        rw [h.1, h.2])
     have HNO : Hid (bs[k] ≠ cs[k] → bs ≠ cs) := Lib.hid (fun h e => h (by subst e; rfl))
     have HST : Hid (bs[k] = cs[k] → ∀ j (h1 : j < bs.length) (h2 : j < cs.length), j < k + 1 → bs[j] = cs[j]) := Lib.hid (fun h j h1 h2 hj => by
      by_cases hjk : j = k
      · subst hjk; exact h
      · exact HE.out j h1 h2 (by omega))
     obtain ⟨t1, ht1⟩ : ∃ t1, bs[k].stops = t1 := ⟨_, rfl⟩
     obtain ⟨t2, ht2⟩ : ∃ t2, cs[k].stops = t2 := ⟨_, rfl⟩
     obtain ⟨s1, hs1'⟩ : ∃ s1, bs[k].sat = s1 := ⟨_, rfl⟩
     obtain ⟨s2, hs2'⟩ : ∃ s2, cs[k].sat = s2 := ⟨_, rfl⟩
     rw [ht1] at d1 hr1 HEK hs1
     rw [ht2] at f1 hr2 HEK hs2
     rw [hs1'] at d0 HEK
     rw [hs2'] at f0 HEK
     have HEQ := Lib.hid (fun (wx : World) (hb : Below w.heap.size w wx) => equalA_ints a1 a2 c1 c2 t1 t2 wx (reads_more (Reads.below hr1 hb) hb.size) (reads_more (Reads.below hr2 hb) hb.size) (by unfold maxLen; omega) (by unfold maxLen; omega))
     have hk0 : (0 : Int) ≤ (k : Int) := by omega
     have hkn : (k : Int) < (n : Int) := by omega
     clear ht1 ht2 hs1' hs2' hr1 hr2 hs1 hs2 HE
     go_upto_region 12 with fail
     by_cases hsat : s1 = s2
     case neg =>
      have hne4 : (!(s1 == s2)) = true := by simpa using hsat
      have hne5 : (s1 != s2) = true := by simpa using hsat
      have hne6 : (!decide (s1 = s2)) = true := by simpa using hsat
      have HSAT := Lib.hid hsat
      clear hsat
      refine wp_region_sq _ hS (by kernel_rfl) (by kernel_rfl) fun C cw _ hC hin => ?_
      have qp : ∀ d, (cw d).cell? ⟨pb, 1, none⟩ = some (.slice (some ⟨b1, o1, none⟩) n cp) := fun d => (hC d).cell 1 rfl 1 rfl
      have qq : ∀ d, (cw d).cell? ⟨qb, 1, none⟩ = some (.slice (some ⟨b2, o2, none⟩) n cq) := fun d => (hC d).cell 0 rfl 1 rfl
      have qd0 : ∀ d, (cw d).cell? ⟨b1, o1 + k * 2, none⟩ = some (.int .i64 s1) := fun d => ((hC d).below.cell (p := ⟨b1, o1 + k * 2, none⟩) hl1).trans d0
      have qf0 : ∀ d, (cw d).cell? ⟨b2, o2 + k * 2, none⟩ = some (.int .i64 s2) := fun d => ((hC d).below.cell (p := ⟨b2, o2 + k * 2, none⟩) hl2').trans f0
      clear hin d0 d1 f0 f1 hS hC
      repeat (go_big_quiet_step (fail))
      refine wpQuiet_nil ?_
      intro w4 hS4
      have HB4 := Lib.hid hS4.below
      clear hS4 qp qq qd0 qf0
      go_wp2_with fail
      go_ret
      exact ⟨false, rfl, ⟨fun h => (by cases h), fun h => absurd h (HNO.out (fun e => HSAT.out (HEK.out.1 e).1))⟩, HB4.out⟩
     case pos =>
      subst hsat
      cases ht : decide (t1 = t2)
      case false =>
       refine wp_region_sq _ hS (by kernel_rfl) (by kernel_rfl) fun C cw _ hC hin => ?_
       have qp : ∀ d, (cw d).cell? ⟨pb, 1, none⟩ = some (.slice (some ⟨b1, o1, none⟩) n cp) := fun d => (hC d).cell 1 rfl 1 rfl
       have qq : ∀ d, (cw d).cell? ⟨qb, 1, none⟩ = some (.slice (some ⟨b2, o2, none⟩) n cq) := fun d => (hC d).cell 0 rfl 1 rfl
       have qd0 : ∀ d, (cw d).cell? ⟨b1, o1 + k * 2, none⟩ = some (.int .i64 s1) := fun d => ((hC d).below.cell (p := ⟨b1, o1 + k * 2, none⟩) hl1).trans d0
       have qf0 : ∀ d, (cw d).cell? ⟨b2, o2 + k * 2, none⟩ = some (.int .i64 s1) := fun d => ((hC d).below.cell (p := ⟨b2, o2 + k * 2, none⟩) hl2').trans f0
       have qd1 : ∀ d, (cw d).cell? ⟨b1, o1 + k * 2 + 1, none⟩ = some (.slice a1 t1.length c1) := fun d => ((hC d).below.cell (p := ⟨b1, o1 + k * 2 + 1, none⟩) hl1).trans d1
       have qf1 : ∀ d, (cw d).cell? ⟨b2, o2 + k * 2 + 1, none⟩ = some (.slice a2 t2.length c2) := fun d => ((hC d).below.cell (p := ⟨b2, o2 + k * 2 + 1, none⟩) hl2').trans f1
       have HN : ∀ d, Calls Try.prog 28 #[.slice a1 t1.length c1, .slice a2 t2.length c2] (cw d) fun e w' => e = .returned (.bool false) ∧ ∃ c', w' = cw c' := fun d => sq_call (hC d) hin (by rw [← ht]; exact HEQ.out (cw d) (hC d).below)
       have HHN := Lib.hid HN
       clear hin d0 d1 f0 f1 hS hC HN HEQ
       repeat (go_big_quiet_step (first | (go_at_call 28; with_reducible exact HHN.out _)))
       refine wpQuiet_nil ?_
       intro w4 hS4
       have HB4 := Lib.hid hS4.below
       have HT := Lib.hid (of_decide_eq_false ht)
       clear hS4 qp qq qd0 qf0 qd1 qf1 ht
       go_wp2_with fail
       go_ret
       exact ⟨false, rfl, ⟨fun h => (by cases h), fun h => absurd h (HNO.out (fun e => HT.out (HEK.out.1 e).2))⟩, HB4.out⟩
      case true =>
       refine wp_region_sq _ hS (by kernel_rfl) (by kernel_rfl) fun C cw _ hC hin => ?_
       have qp : ∀ d, (cw d).cell? ⟨pb, 1, none⟩ = some (.slice (some ⟨b1, o1, none⟩) n cp) := fun d => (hC d).cell 1 rfl 1 rfl
       have qq : ∀ d, (cw d).cell? ⟨qb, 1, none⟩ = some (.slice (some ⟨b2, o2, none⟩) n cq) := fun d => (hC d).cell 0 rfl 1 rfl
       have qd0 : ∀ d, (cw d).cell? ⟨b1, o1 + k * 2, none⟩ = some (.int .i64 s1) := fun d => ((hC d).below.cell (p := ⟨b1, o1 + k * 2, none⟩) hl1).trans d0
       have qf0 : ∀ d, (cw d).cell? ⟨b2, o2 + k * 2, none⟩ = some (.int .i64 s1) := fun d => ((hC d).below.cell (p := ⟨b2, o2 + k * 2, none⟩) hl2').trans f0
       have qd1 : ∀ d, (cw d).cell? ⟨b1, o1 + k * 2 + 1, none⟩ = some (.slice a1 t1.length c1) := fun d => ((hC d).below.cell (p := ⟨b1, o1 + k * 2 + 1, none⟩) hl1).trans d1
       have qf1 : ∀ d, (cw d).cell? ⟨b2, o2 + k * 2 + 1, none⟩ = some (.slice a2 t2.length c2) := fun d => ((hC d).below.cell (p := ⟨b2, o2 + k * 2 + 1, none⟩) hl2').trans f1
       have HN : ∀ d, Calls Try.prog 28 #[.slice a1 t1.length c1, .slice a2 t2.length c2] (cw d) fun e w' => e = .returned (.bool true) ∧ ∃ c', w' = cw c' := fun d => sq_call (hC d) hin (by rw [← ht]; exact HEQ.out (cw d) (hC d).below)
       have HHN := Lib.hid HN
       clear hin d0 d1 f0 f1 hS hC HN HEQ
       repeat (go_big_quiet_step (first | (go_at_call 28; with_reducible exact HHN.out _)))
       refine wpQuiet_nil ?_
       intro w4 hS4
       have HS4 := Lib.hid hS4
       have HT := Lib.hid (of_decide_eq_true ht)
       clear hS4 qp qq qd0 qf0 qd1 qf1 ht
       go_wp2_with fail
       go_roundw
       case rel => exact ⟨k + 1, by omega, by go_num, Lib.hid (HST.out (HEK.out.2 ⟨rfl, HT.out⟩)), HS4.out⟩
       case measure => simp [intOf]; omega
   · obtain rfl : k = n := by omega
     have HB4 := Lib.hid hS.below
     clear hS
     go_wp2_with fail
     go_ret
     exact ⟨true, rfl, ⟨fun _ => List.ext_getElem (by rw [HNM.out.1, HNM.out.2]) (fun j h1 h2 => HE.out j h1 h2 (by have := HNM.out.1; omega)), fun _ => rfl⟩, HB4.out⟩
set_option maxRecDepth 100000 in
theorem same23_any (Ap Aq : Option Addr) (cp cq : Nat) (bs cs : List BikeV) (w : World) (h1 : Bikes w w.heap.size Ap bs) (h2 : Bikes w w.heap.size Aq cs) (hl : bs.length ≤ 1000000) (hl2 : cs.length ≤ 1000000) (hs : ∀ b ∈ bs, b.stops.length ≤ 1000000) (hs2 : ∀ b ∈ cs, b.stops.length ≤ 1000000) :
 Calls Try.prog 17 #[.slice Ap bs.length cp, .slice Aq cs.length cq] w (SameP w bs cs) := by
 have HC := Lib.hid (same17_any Ap Aq cp cq bs cs w h1 h2 hl hl2 hs hs2)
 clear h1 h2 hl hl2 hs hs2
 obtain ⟨n, hn⟩ : ∃ n, bs.length = n := ⟨_, rfl⟩
 obtain ⟨m, hm⟩ : ∃ m, cs.length = m := ⟨_, rfl⟩
 rw [hn, hm] at HC ⊢
 clear hn hm
 go_enter Try.func17, Try.ntmps17
 go_wp2_with (go_at_call 40; (with_reducible refine HC.out.mono ?_); rintro e w2 ⟨r, rfl, hr⟩
              have HR := Lib.hid hr
              clear hr)
 go_ret
 exact ⟨_, rfl, HR.out.1, HR.out.2⟩
end Go.Proofs.Ytpbhbmdghafkmaa
