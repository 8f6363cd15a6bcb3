/- slices.ContainsFunc with least.Right's closure: does a node lie too high, or too low? The walk of least.Right. What Least answers stands, as right and least.Right tell. -/
import Derived.Test.YtgnmbmlpfjlbiaaPipes
import Derived.Test.YtgnmbmlpfjlbiaaRows
import Derived.Outline
import Derived.Test.YtgnmbmlpfjlbiaaRight10
import Derived.Test.YtgnmbmlpfjlbiaaFlowRight
namespace Go.Proofs.Ytgnmbmlpfjlbiaa
open Go.ChangeShapes Go.WideShapes Go.ChangeAt Go.RowKit
set_option linter.unusedVariables false
def badH (x : Int) : Bool := decide (x < -1125899906842624 ∨ 1125899906842624 < x)
theorem high_call (x : Int) (w : World) : Calls Try.prog 38 #[.int .i64 x] w fun e w' => e = .returned (.bool (badH x)) ∧ w' = w := by
  by_cases h1 : x < -1125899906842624
  · have e : badH x = true := decide_eq_true (.inl h1)
    have d1 : decide (x < -1125899906842624) = true := decide_eq_true h1
    rw [e]
    clear e
    go_enter Try.func38, Try.ntmps38
    go_wp2_with fail
    go_ret
    exact ⟨rfl, rfl⟩
  · have d1 : decide (x < -1125899906842624) = false := decide_eq_false h1
    by_cases h2 : 1125899906842624 < x
    · have e : badH x = true := decide_eq_true (.inr h2)
      have d2 : decide (1125899906842624 < x) = true := decide_eq_true h2
      rw [e]
      clear e
      go_enter Try.func38, Try.ntmps38
      go_wp2_with fail
      go_ret
      exact ⟨rfl, rfl⟩
    · have e : badH x = false := decide_eq_false (by omega)
      have d2 : decide (1125899906842624 < x) = false := decide_eq_false h2
      rw [e]
      clear e
      go_enter Try.func38, Try.ntmps38
      go_wp2_with fail
      go_ret
      exact ⟨rfl, rfl⟩
set_option maxHeartbeats 1000000 in
theorem index_high (A : Option Addr) (c : Nat) (l : List Int) (w : World) (hr : Reads w w.heap.size 1 A l.length (l.map (.int .i64))) (hl : l.length ≤ 20000) :
    Calls Try.prog 39 #[.slice A l.length c, .func (.func 38) #[] #[]] w fun e w' => (∃ i : Int, e = .returned (.int .i64 i) ∧ (0 ≤ i ↔ ∃ x ∈ l, badH x = true)) ∧ Below w.heap.size w w' := by
  have HR := Lib.hid hr
  clear hr
  have hcf : ∀ args w', (callFunc 38 args).run Try.prog w' = .ok (.enter 38 args) w' := fun _ _ => by simp [go_sem]
  go_enter Try.func39, Try.ntmps39
  go_wp2
  go_loopw [8] (fun i wr => ∃ k : Nat, k ≤ l.length ∧ i = .int .i64 k ∧ Hid (∀ j, ∀ h : j < l.length, j < k → badH l[j] = false) ∧ Below w.heap.size w wr) (fun i _ => l.length - (intOf i).toNat)
  case atStart => exact ⟨0, by omega, rfl, Lib.hid fun j h hj => absurd hj (by omega), Below.refl _ _⟩
  case round =>
    obtain ⟨k, hk, rfl, HZ, hB⟩ := hrel
    by_cases hlt : k < l.length
    · obtain ⟨b, o, rfl, hb, e0⟩ := ints_at HR.out hlt
      have e1 : wr.cell? ⟨b, o + k, none⟩ = some (.int .i64 l[k]) := (hB.cell hb).trans e0
      obtain ⟨x, hx⟩ : ∃ x, l[k] = x := ⟨_, rfl⟩
      have HX : Hid (l[k] = x) := Lib.hid hx
      rw [hx] at e1 e0
      clear hx
      have HBw := Lib.hid hB
      clear hB
      cases hn : badH x
      · have HC := Lib.hid (high_call x wr)
        rw [hn] at HC
        have HN := Lib.hid hn
        clear hn
        go_wp2_with (go_at_call 38; (with_reducible refine HC.out.mono ?_); rintro e w5 ⟨rfl, hw5⟩; obtain rfl := hw5.symm)
        go_roundw
        case rel => exact ⟨k + 1, by omega, by go_num, Lib.hid fun j h hj => by
          by_cases e : j = k
          · subst e; rw [HX.out]; exact HN.out
          · exact HZ.out j h (by omega), HBw.out⟩
        case measure => simp [intOf]; omega
      · have HC := Lib.hid (high_call x wr)
        rw [hn] at HC
        have HN := Lib.hid hn
        clear hn
        go_wp2_with (go_at_call 38; (with_reducible refine HC.out.mono ?_); rintro e w5 ⟨rfl, hw5⟩; obtain rfl := hw5.symm)
        go_ret
        exact ⟨⟨k, rfl, ⟨fun _ => ⟨l[k], List.getElem_mem hlt, by rw [HX.out]; exact HN.out⟩, fun _ => by omega⟩⟩, HBw.out⟩
    · obtain rfl : k = l.length := by omega
      have HBw := Lib.hid hB
      clear hB
      go_wp2
      go_ret
      refine ⟨⟨-1, rfl, ⟨fun h => by omega, fun ⟨x, hx, hne⟩ => ?_⟩⟩, HBw.out⟩
      obtain ⟨j, hj, rfl⟩ := List.getElem_of_mem hx
      rw [HZ.out j hj hj] at hne
      cases hne
theorem contains_high (A : Option Addr) (c : Nat) (l : List Int) (w : World) (hr : Reads w w.heap.size 1 A l.length (l.map (.int .i64))) (hl : l.length ≤ 20000) :
    Calls Try.prog 32 #[.slice A l.length c, .func (.func 38) #[] #[]] w fun e w' => (∃ b : Bool, e = .returned (.bool b) ∧ (b = true ↔ ∃ x ∈ l, badH x = true)) ∧ Below w.heap.size w w' := by
  have HR := Lib.hid (index_high A c l w hr hl)
  clear hr
  go_enter Try.func32, Try.ntmps32
  go_wp2_with (go_at_call 39; (with_reducible refine HR.out.mono ?_); rintro e w5 ⟨⟨i, rfl, hi⟩, hb⟩; have HI := Lib.hid (And.intro hi hb); clear hi hb)
  go_ret
  exact ⟨⟨_, rfl, by rw [← HI.out.1]; simp⟩, HI.out.2⟩
end Go.Proofs.Ytgnmbmlpfjlbiaa
namespace Go.Proofs.Ytgnmbmlpfjlbiaa
open Go.ChangeShapes Go.WideShapes Go.ChangeAt Go.RowKit
set_option linter.unusedVariables false
set_option maxRecDepth 100000 in
set_option maxHeartbeats 8000000 in
theorem rightp_any (N : Nat) (A FA HA : Option Addr) (cap fc hc : Nat) (ps : List PipeV) (fl hl : List Int) (s t want cst : Int) (w : World) (hr : Pipes w w.heap.size A ps) (hf : Reads w w.heap.size 1 FA fl.length (fl.map (.int .i64))) (hh : Reads w w.heap.size 1 HA hl.length (hl.map (.int .i64))) (hfl : fl.length ≤ 20000) (hhl : hl.length ≤ 20000) (hN : N ≤ 1000) (hlen : ps.length ≤ 20000) (hin : InP N ps) (hC : Costs ps) (ht0 : endsP N ps s t = 0) (ht1 : t < N) (hbig : Feas ps (getI fl) → ∀ k, k < ps.length → getI fl k ≤ 10000) :
    Calls Try.prog 27 #[.agg #[.int .i64 N, .slice A ps.length cap], .int .i64 s, .int .i64 t, .int .i64 want, .agg #[.slice FA fl.length fc, .int .i64 cst, .slice HA hl.length hc]] w (RPost w ((0 ≤ want ∧ want ≤ 10000) ∧ RightAll N ps s t want (getI fl) (getI hl) fl.length hl.length cst)) := by
  have hS0 := ((SL.start (Nat.le_refl w.heap.size)).alloc #[.int .i64 N, .slice A ps.length cap] 26).alloc #[.slice FA fl.length fc, .int .i64 cst, .slice HA hl.length hc] 49
  have e1 : (w.alloc (.cells #[.int .i64 N, .slice A ps.length cap] 26)).heap.size = w.heap.size + 1 := Array.size_push _
  rw [e1] at hS0
  have HR : Hid (∀ w', Below w.heap.size w w' → Pipes w' w'.heap.size A ps ∧ Reads w' w'.heap.size 1 FA fl.length (fl.map (.int .i64)) ∧ Reads w' w'.heap.size 1 HA hl.length (hl.map (.int .i64))) := Lib.hid (fun w' h => ⟨reads_more (Reads.below hr h) h.size, reads_more (Reads.below hf h) h.size, reads_more (Reads.below hh h) h.size⟩)
  have HW := Lib.hid (And.intro hr (And.intro hf hh))
  have HIN := Lib.hid (And.intro hin (And.intro hC (And.intro ht0 (And.intro ht1 hbig))))
  obtain ⟨X, hX⟩ : ∃ X, X = getI fl := ⟨_, rfl⟩
  obtain ⟨H, hH⟩ : ∃ H, H = getI hl := ⟨_, rfl⟩
  rw [← hX, ← hH]
  have HXH := Lib.hid (And.intro hX hH)
  obtain ⟨R, hRR⟩ : ∃ R : Prop, R = ((0 ≤ want ∧ want ≤ 10000) ∧ RightAll N ps s t want X H fl.length hl.length cst) := ⟨_, rfl⟩
  rw [← hRR]
  have HRR := Lib.hid hRR
  clear hr hf hh hin hC ht0 ht1 hbig e1 hX hH hRR
  go_enter Try.func27, Try.ntmps27
  go_upto_region 1 with fail
  generalize ((w.alloc (.cells #[.int .i64 N, .slice A ps.length cap] 26)).alloc (.cells #[.slice FA fl.length fc, .int .i64 cst, .slice HA hl.length hc] 49)) = w0 at *
  obtain ⟨zb, hzb⟩ : ∃ zb, zb = w.heap.size + 1 := ⟨_, rfl⟩
  obtain ⟨nb, hnb⟩ : ∃ nb, nb = w.heap.size := ⟨_, rfl⟩
  have HS0 : Hid (SL w w.heap.size [.blk zb #[.slice FA fl.length fc, .int .i64 cst, .slice HA hl.length hc] 49, .blk nb #[.int .i64 N, .slice A ps.length cap] 26] w0) := Lib.hid (by rw [hzb, hnb]; exact hS0)
  rw [← hzb, ← hnb]
  clear hS0 hzb hnb
  have c0 : w0.cell? ⟨nb, 0, none⟩ = some (.int .i64 N) := HS0.out.cell 1 rfl 0 rfl
  have c1 : w0.cell? ⟨nb, 1, none⟩ = some (.slice A ps.length cap) := HS0.out.cell 1 rfl 1 rfl
  have c2 : w0.cell? ⟨zb, 0, none⟩ = some (.slice FA fl.length fc) := HS0.out.cell 0 rfl 0 rfl
  by_cases hlen2 : fl.length = ps.length
  case neg =>
    have HF := Lib.hid (right_bad N A FA cap fl.length fc ps s t w0 (HR.out _ HS0.out.below).1 (by unfold maxLen; omega) (by unfold maxLen; omega) (.inr hlen2))
    have HNO : Hid (¬ R) := Lib.hid (by rw [HRR.out]; exact fun h => hlen2 h.2.1)
    clear hlen2
    go_wp2_with (go_at_call 21; (with_reducible refine HF.out.mono ?_); rintro e w1 ⟨rfl, hb⟩; have HS1 := Lib.hid (HS0.out.call hb); clear hb c0 c1 c2)
    go_ret
    exact rpost_no HNO.out HS1.out.below
  case pos =>
  have HFL : Hid (Calls Try.prog 21 #[.agg #[.int .i64 N, .slice A ps.length cap], .slice FA fl.length fc, .int .i64 s, .int .i64 t] w0 (FlowsPost w0 N ps s t X)) := Lib.hid (by
    have h := right_any N A FA cap fc ps fl s t w0 (HR.out _ HS0.out.below).1 (HR.out _ HS0.out.below).2.1 hlen2 HIN.out.2.2.1 X (fun k hk => by rw [HXH.out.1]; exact getI_at hk)
    rw [hlen2]
    exact h)
  have HL2 := Lib.hid hlen2
  clear hlen2
  by_cases hg : Good N ps s t X
  case neg =>
    have HNO : Hid (¬ R) := Lib.hid (by rw [HRR.out]; exact fun h => hg h.2.2.1)
    have HG := Lib.hid hg
    clear hg
    go_wp2_with (go_at_call 21; (with_reducible refine HFL.out.mono ?_); rintro e w1 ⟨hor, hb⟩
                 obtain rfl : e = .returned (.tuple #[.int .i64 0, .bool false]) := by
                   rcases hor with ⟨hn, _⟩ | ⟨_, he⟩
                   · exact absurd hn HG.out
                   · exact he
                 have HS1 := Lib.hid (HS0.out.call hb)
                 clear hor hb c0 c1 c2)
    go_ret
    exact rpost_no HNO.out HS1.out.below
  case pos =>
  obtain ⟨M, hM⟩ : ∃ M, inn ps X t = M := ⟨_, rfl⟩
  have HG := Lib.hid (And.intro hg hM)
  clear hg hM
  go_upto_region 2 with (go_at_call 21; (with_reducible refine HFL.out.mono ?_); rintro e w1 ⟨hor, hb⟩
                         obtain rfl : e = .returned (.tuple #[.int .i64 M, .bool true]) := by
                           rcases hor with ⟨_, he⟩ | ⟨hn, _⟩
                           · rw [he, HG.out.2]
                           · exact absurd HG.out.1 hn
                         have HS1 := Lib.hid (HS0.out.call hb)
                         clear hor hb c0 c1 c2)
  by_cases hm : M = want
  case neg =>
    have hmb : (M != want) = true := by simpa using hm
    have HNO : Hid (¬ R) := Lib.hid (by rw [HRR.out]; exact fun h => hm (by rw [← HG.out.2]; exact h.2.2.2.1))
    clear hm
    go_wp2_with fail
    go_ret
    exact rpost_no HNO.out HS1.out.below
  case pos =>
  have hmb : (M != want) = false := by simpa using hm
  have HM := Lib.hid hm
  clear hm
  by_cases hw0 : want < 0
  case pos =>
    have d1 : decide (want < 0) = true := decide_eq_true hw0
    have HNO : Hid (¬ R) := Lib.hid (by rw [HRR.out]; intro h; have := h.1; omega)
    go_wp2_with fail
    go_ret
    exact rpost_no HNO.out HS1.out.below
  case neg =>
  have d1 : decide (want < 0) = false := decide_eq_false hw0
  by_cases hw1 : 10000 < want
  case pos =>
    have d2 : decide (10000 < want) = true := decide_eq_true hw1
    have HNO : Hid (¬ R) := Lib.hid (by rw [HRR.out]; intro h; have := h.1; omega)
    go_wp2_with fail
    go_ret
    exact rpost_no HNO.out HS1.out.below
  case neg =>
  have d2 : decide (10000 < want) = false := decide_eq_false hw1
  have HWN := Lib.hid (And.intro hw0 hw1)
  clear hw0 hw1
  have c3 : w1.cell? ⟨zb, 2, none⟩ = some (.slice HA hl.length hc) := HS1.out.cell 0 rfl 2 rfl
  have c4 : w1.cell? ⟨nb, 0, none⟩ = some (.int .i64 N) := HS1.out.cell 1 rfl 0 rfl
  have c5 : w1.cell? ⟨nb, 1, none⟩ = some (.slice A ps.length cap) := HS1.out.cell 1 rfl 1 rfl
  by_cases hh2 : hl.length = N
  case neg =>
    have hhb : ((hl.length : Int) != (N : Int)) = true := by simp; omega
    have HNO : Hid (¬ R) := Lib.hid (by rw [HRR.out]; exact fun h => hh2 h.2.2.2.2.1)
    clear hh2
    go_wp2_with fail
    go_ret
    exact rpost_no HNO.out HS1.out.below
  case pos =>
  have hhb : ((hl.length : Int) != (N : Int)) = false := by simp; omega
  have HL := Lib.hid (And.intro HL2.out hh2)
  clear hh2
  have HCH := Lib.hid (contains_high HA hc hl w1 (HR.out _ HS1.out.below).2.2 hhl)
  by_cases hbh : ∃ x ∈ hl, badH x = true
  case pos =>
    have HNO : Hid (¬ R) := Lib.hid (by
      rw [HRR.out]
      intro h
      obtain ⟨x, hx, hb⟩ := hbh
      obtain ⟨j, hj, rfl⟩ := List.getElem_of_mem hx
      have h1 := h.2.2.2.2.2.1 j (by have := HL.out.2; omega)
      rw [HXH.out.2, ← getI_at hj] at h1
      unfold badH at hb
      have := of_decide_eq_true hb
      omega)
    have HBH := Lib.hid hbh
    clear hbh
    go_wp2_with (go_at_call 32; (with_reducible refine HCH.out.mono ?_); rintro e w2 ⟨⟨b, rfl, hb⟩, hB⟩
                 obtain rfl : b = true := hb.2 HBH.out
                 have HS2 := Lib.hid (HS1.out.call hB)
                 clear hb hB)
    go_ret
    exact rpost_no HNO.out HS2.out.below
  case neg =>
  have HBH : Hid (∀ v, v < N → -1125899906842624 ≤ H v ∧ H v ≤ 1125899906842624) := Lib.hid (fun v hv => by
    have hvl : v < hl.length := by have := HL.out.2; omega
    have h1 : ¬ badH hl[v] = true := fun h => hbh ⟨hl[v], List.getElem_mem hvl, h⟩
    unfold badH at h1
    have h2 : ¬ (hl[v] < -1125899906842624 ∨ 1125899906842624 < hl[v]) := fun h => h1 (decide_eq_true h)
    rw [getI_at hvl, ← HXH.out.2] at h2
    omega)
  have HBN := Lib.hid hbh
  clear hbh
  go_wp2_with (go_at_call 32; (with_reducible refine HCH.out.mono ?_); rintro e w2 ⟨⟨b, rfl, hb⟩, hB⟩
               obtain rfl : b = false := (by cases b; · rfl
                                             · exact absurd (hb.1 rfl) HBN.out)
               have HS2 := Lib.hid (HS1.out.call hB)
               have c6 : w2.cell? ⟨nb, 1, none⟩ = some (.slice A ps.length cap) := HS2.out.cell 1 rfl 1 rfl
               clear hb hB c3 c4 c5 hmb hhb d1 d2)
  clear c6
  go_loopw [55, 13] (fun u47 u13 wr => ∃ k : Nat, k ≤ ps.length ∧ u47 = .int .i64 k ∧ u13 = .int .i64 (costK ps X k) ∧ Hid (∀ j, j < k → PipeOk ps X H j) ∧ SL w w.heap.size [.blk zb #[.slice FA fl.length fc, .int .i64 cst, .slice HA hl.length hc] 49, .blk nb #[.int .i64 N, .slice A ps.length cap] 26] wr) (fun u47 _ _ => ps.length - (intOf u47).toNat)
  case atStart => exact ⟨0, by omega, rfl, rfl, Lib.hid fun j hj => absurd hj (by omega), HS2.out⟩
  case round =>
    clear HS2 HS1 HS0
    obtain ⟨k, hk, rfl, rfl, HOK, hS⟩ := hrel
    by_cases hlt : k < ps.length
    · obtain ⟨bA, oA, rfl, hbA, d0, d1, d2, d3⟩ := pipes_at HW.out.1 hlt
      obtain ⟨bF, oF, rfl, hbF, f0⟩ := ints_at HW.out.2.1 (k := k) (by have := HL.out.1; omega)
      rw [getI_at (by have := HL.out.1; omega), ← HXH.out.1] at f0
      obtain ⟨⟨p0, p1⟩, ⟨p2, p3⟩, p4, p5⟩ := HIN.out.1 _ (List.getElem_mem hlt)
      have hcc := HIN.out.2.1 _ (List.getElem_mem hlt)
      have hfe := HG.out.1.feas k hlt
      have hxs := HIN.out.2.2.2.2 (by rw [← HXH.out.1]; exact HG.out.1.feas) k hlt
      rw [← HXH.out.1] at hxs
      have hck := costK_le (C := 10000) HIN.out.2.1 (by decide) (fun j hj => ⟨(HG.out.1.feas j hj).1, by have h9 := HIN.out.2.2.2.2 (by rw [← HXH.out.1]; exact HG.out.1.feas) j hj; rw [← HXH.out.1] at h9; exact h9⟩) k hk
      have hcb : costK ps X k ≤ 10000 * 4294967296 * 20000 := by
        have h2 : (10000 : Int) * DearI * (k : Int) ≤ 10000 * DearI * 20000 := Int.mul_le_mul_of_nonneg_left (by omega) (by decide)
        have := hck.2
        unfold DearI at *
        omega
      have hmu : 0 ≤ X k * ps[k].cost ∧ X k * ps[k].cost ≤ 10000 * DearI := ⟨Int.mul_nonneg hfe.1 hcc.1, Int.mul_le_mul hxs hcc.2 hcc.1 (by omega)⟩
      have HCK := Lib.hid (costK_succ (x := X) hlt)
      obtain ⟨u, hu⟩ : ∃ u : Nat, ps[k].fr = (u : Int) := ⟨ps[k].fr.toNat, by omega⟩
      obtain ⟨v, hv⟩ : ∃ v : Nat, ps[k].to = (v : Int) := ⟨ps[k].to.toNat, by omega⟩
      have huN : u < N := by omega
      have hvN : v < N := by omega
      obtain ⟨bH, oH, rfl, hbH, g0⟩ := ints_at HW.out.2.2 (k := u) (by have := HL.out.2; omega)
      obtain ⟨bH', oH', eH, _, g1⟩ := ints_at HW.out.2.2 (k := v) (by have := HL.out.2; omega)
      obtain ⟨rfl, rfl⟩ : bH = bH' ∧ oH = oH' := by simpa using eH
      rw [getI_at (by have := HL.out.2; omega), ← HXH.out.2] at g0 g1
      obtain ⟨rm, hrm⟩ : ∃ r, ps[k].room = r := ⟨_, rfl⟩
      obtain ⟨ct, hct⟩ : ∃ r, ps[k].cost = r := ⟨_, rfl⟩
      have HOKK : Hid (PipeOk ps X H k ↔ ((X k < rm → 0 ≤ ct + H u - H v) ∧ (0 < X k → ct + H u - H v ≤ 0))) := Lib.hid (by
        unfold PipeOk
        rw [← hrm, ← hct]
        constructor
        · intro h; have h := h hlt; rw [hu, hv] at h; simpa using h
        · intro h _; rw [hu, hv]; simpa using h)
      rw [hct] at d3 hmu HCK hcc
      rw [hu] at d0
      rw [hv] at d1
      rw [hrm] at d2
      obtain ⟨q, hq⟩ : ∃ q, costK ps X k = q := ⟨_, rfl⟩
      rw [hq] at hck hcb HCK ⊢
      obtain ⟨xk, hxk⟩ : ∃ x, X k = x := ⟨_, rfl⟩
      obtain ⟨ha, hha⟩ : ∃ x, H u = x := ⟨_, rfl⟩
      obtain ⟨hb, hhb⟩ : ∃ x, H v = x := ⟨_, rfl⟩
      rw [hxk] at hmu HCK f0 HOKK hfe hxs
      rw [hha] at g0
      rw [hhb] at g1
      rw [hha, hhb] at HOKK
      have HHV := Lib.hid (And.intro hha hhb)
      have hul : (u : Int) < (hl.length : Int) := by have := HL.out.2; omega
      have hvl : (v : Int) < (hl.length : Int) := by have := HL.out.2; omega
      have hkl : (k : Int) < (fl.length : Int) := by have := HL.out.1; omega
      unfold DearI at hmu hcc
      have HNUM := Lib.hid (And.intro hcc (And.intro hck.1 (And.intro hcb (And.intro hmu (And.intro hfe.1 hxs)))))
      have e0 := (hS.below.cell hbA).trans d0
      have e1 := (hS.below.cell hbA).trans d1
      have e2 := (hS.below.cell hbA).trans d2
      have e3 := (hS.below.cell hbA).trans d3
      have hS2 := hS.alloc #[.int .i64 (u : Int), .int .i64 (v : Int), .int .i64 rm, .int .i64 ct] 40
      have hz9 : bA < wr.heap.size := World.block_lt_of_cell? wr _ e0
      clear hS hcc hfe hxs hck hcb hmu hu hv hrm hct hq hxk hha hhb p0 p1 p2 p3 p4 p5 eH d0 d1 d2 d3
      have hc1 : decide (ct < 0) = false := decide_eq_false (by have := HNUM.out; omega)
      have hc2 : decide (4294967296 < ct) = false := decide_eq_false (by have := HNUM.out; omega)
      have hba := HBH.out u huN
      have hbb := HBH.out v hvN
      rw [HHV.out.1] at hba
      rw [HHV.out.2] at hbb
      have hwr1 : IntKind.i64.wrap (ct + ha) = ct + ha := by rw [IntKind.wrap_i64]; have := HNUM.out; omega
      have hwr2 : IntKind.i64.wrap (ct + ha - hb) = ct + ha - hb := by rw [IntKind.wrap_i64]; have := HNUM.out; omega
      clear hba hbb
      go_upto_region 12 with fail
      obtain ⟨pb, hpb⟩ : ∃ pb, pb = wr.heap.size := ⟨_, rfl⟩
      generalize (wr.alloc (.cells #[.int .i64 (u : Int), .int .i64 (v : Int), .int .i64 rm, .int .i64 ct] 40)) = w9 at *
      rw [← hpb] at hS2 ⊢
      clear hpb e0 e1 e2 e3 hz9 hc1 hc2
      refine wp_region_sl [0,1,2,3,4,5,6,7,8,9,10,11,12,13,14,15] [] [16] _ hS2 (List.Sublist.refl _) (by kernel_rfl) (by kernel_rfl) (.cons rfl .nil) (fun C cw _ hC => ?_)
      have q0 : ∀ c, (cw c).cell? ⟨pb, 0, none⟩ = some (.int .i64 (u : Int)) := fun c => (hC c).cell 0 rfl 0 rfl
      have q1 : ∀ c, (cw c).cell? ⟨pb, 1, none⟩ = some (.int .i64 (v : Int)) := fun c => (hC c).cell 0 rfl 1 rfl
      have q5 : ∀ c, (cw c).cell? ⟨pb, 3, none⟩ = some (.int .i64 ct) := fun c => (hC c).cell 0 rfl 3 rfl
      have q2 : ∀ c, (cw c).cell? ⟨zb, 2, none⟩ = some (.slice (some ⟨bH, oH, none⟩) hl.length hc) := fun c => (hC c).cell 1 rfl 2 rfl
      have q3 : ∀ c, (cw c).cell? ⟨bH, oH + u, none⟩ = some (.int .i64 ha) := fun c => ((hC c).below.cell hbH).trans g0
      have q4 : ∀ c, (cw c).cell? ⟨bH, oH + v, none⟩ = some (.int .i64 hb) := fun c => ((hC c).below.cell hbH).trans g1
      repeat (refine pl_look rfl rfl rfl (fun Kv hK => ?_); go_big_quiet_op; refine hK _ ?_; clear hK Kv)
      clear q0 q1 q2 q3 q4 q5 hC hS2 hwr1 hwr2
      refine pl_end ?_
      intro w10 hS3
      refine pm_end ?_
      obtain ⟨st, hst⟩ : ∃ st, ct + ha - hb = st := ⟨_, rfl⟩
      have HST := Lib.hid hst
      rw [hst]
      clear hst
      go_upto_region 13 with fail
      obtain ⟨bd, hbd2⟩ : ∃ bd : Bool, decide ((xk < rm ∧ st < 0) ∨ (0 < xk ∧ 0 < st)) = bd := ⟨_, rfl⟩
      have HBD2 := Lib.hid hbd2
      clear hbd2
      go_cut [107] (fun s107 wx => s107 = .bool bd ∧ SL w w.heap.size (.blk pb #[.int .i64 (u : Int), .int .i64 (v : Int), .int .i64 rm, .int .i64 ct] 40 :: [.blk zb #[.slice (some ⟨bF, oF, none⟩) fl.length fc, .int .i64 cst, .slice (some ⟨bH, oH, none⟩) hl.length hc] 49, .blk nb #[.int .i64 N, .slice (some ⟨bA, oA, none⟩) ps.length cap] 26]) wx)
      case first =>
        by_cases p1 : xk < rm
        · have y1 : decide (xk < rm) = true := decide_eq_true p1
          by_cases p2 : st < 0
          · have y2 : decide (st < 0) = true := decide_eq_true p2
            have PP := Lib.hid (And.intro p1 p2)
            clear p1 p2
            refine wp_region_sl [0,1,2,3,4,5,6,7,8,9,10,11,12,13,14,15,16,17,18,19,20,21,22,23] [] [] _ hS3 (List.Sublist.refl _) (by kernel_rfl) (by kernel_rfl) .nil (fun C cw _ hC => ?_)
            have q0 : ∀ c, (cw c).cell? ⟨zb, 0, none⟩ = some (.slice (some ⟨bF, oF, none⟩) fl.length fc) := fun c => (hC c).cell 1 rfl 0 rfl
            have q1 : ∀ c, (cw c).cell? ⟨bF, oF + k, none⟩ = some (.int .i64 xk) := fun c => ((hC c).below.cell hbF).trans f0
            have q2 : ∀ c, (cw c).cell? ⟨pb, 2, none⟩ = some (.int .i64 rm) := fun c => (hC c).cell 0 rfl 2 rfl
            have q3 : ∀ c, (cw c).cell? ⟨pb, 3, none⟩ = some (.int .i64 ct) := fun c => (hC c).cell 0 rfl 3 rfl
            repeat (first | (refine pl_look rfl rfl rfl (fun Kv hK => ?_); go_big_quiet_op; refine hK _ ?_; clear hK Kv) | (refine pl_skip rfl rfl (fun Kv hK => ?_); go_simp; refine hK _ ?_; clear hK Kv))
            clear q0 q1 q2 q3 hC
            refine pl_end ?_
            intro w11 hS4
            refine pm_end ?_
            clear hS3
            go_wp2_with fail
            go_meet
            exact ⟨congrArg Value.bool (by rw [← HBD2.out]; exact (decide_eq_true (by have := PP.out; omega)).symm), hS4⟩
          · have y2 : decide (st < 0) = false := decide_eq_false p2
            by_cases p3 : 0 < xk
            · have y3 : decide (0 < xk) = true := decide_eq_true p3
              by_cases p4 : 0 < st
              · have y4 : decide (0 < st) = true := decide_eq_true p4
                have PP := Lib.hid (And.intro p1 (And.intro p2 (And.intro p3 p4)))
                clear p1 p2 p3 p4
                refine wp_region_sl [0,1,2,3,4,5,6,7,8,9,10,11,12,13,14,15,16,17,18,19,20,21,22,23] [] [] _ hS3 (List.Sublist.refl _) (by kernel_rfl) (by kernel_rfl) .nil (fun C cw _ hC => ?_)
                have q0 : ∀ c, (cw c).cell? ⟨zb, 0, none⟩ = some (.slice (some ⟨bF, oF, none⟩) fl.length fc) := fun c => (hC c).cell 1 rfl 0 rfl
                have q1 : ∀ c, (cw c).cell? ⟨bF, oF + k, none⟩ = some (.int .i64 xk) := fun c => ((hC c).below.cell hbF).trans f0
                have q2 : ∀ c, (cw c).cell? ⟨pb, 2, none⟩ = some (.int .i64 rm) := fun c => (hC c).cell 0 rfl 2 rfl
                have q3 : ∀ c, (cw c).cell? ⟨pb, 3, none⟩ = some (.int .i64 ct) := fun c => (hC c).cell 0 rfl 3 rfl
                repeat (first | (refine pl_look rfl rfl rfl (fun Kv hK => ?_); go_big_quiet_op; refine hK _ ?_; clear hK Kv) | (refine pl_skip rfl rfl (fun Kv hK => ?_); go_simp; refine hK _ ?_; clear hK Kv))
                clear q0 q1 q2 q3 hC
                refine pl_end ?_
                intro w11 hS4
                refine pm_end ?_
                clear hS3
                go_wp2_with fail
                go_meet
                exact ⟨congrArg Value.bool (by rw [← HBD2.out]; exact (decide_eq_true (by have := PP.out; omega)).symm), hS4⟩
              · have y4 : decide (0 < st) = false := decide_eq_false p4
                have PP := Lib.hid (And.intro p1 (And.intro p2 (And.intro p3 p4)))
                clear p1 p2 p3 p4
                refine wp_region_sl [0,1,2,3,4,5,6,7,8,9,10,11,12,13,14,15,16,17,18,19,20,21,22,23] [] [] _ hS3 (List.Sublist.refl _) (by kernel_rfl) (by kernel_rfl) .nil (fun C cw _ hC => ?_)
                have q0 : ∀ c, (cw c).cell? ⟨zb, 0, none⟩ = some (.slice (some ⟨bF, oF, none⟩) fl.length fc) := fun c => (hC c).cell 1 rfl 0 rfl
                have q1 : ∀ c, (cw c).cell? ⟨bF, oF + k, none⟩ = some (.int .i64 xk) := fun c => ((hC c).below.cell hbF).trans f0
                have q2 : ∀ c, (cw c).cell? ⟨pb, 2, none⟩ = some (.int .i64 rm) := fun c => (hC c).cell 0 rfl 2 rfl
                have q3 : ∀ c, (cw c).cell? ⟨pb, 3, none⟩ = some (.int .i64 ct) := fun c => (hC c).cell 0 rfl 3 rfl
                repeat (first | (refine pl_look rfl rfl rfl (fun Kv hK => ?_); go_big_quiet_op; refine hK _ ?_; clear hK Kv) | (refine pl_skip rfl rfl (fun Kv hK => ?_); go_simp; refine hK _ ?_; clear hK Kv))
                clear q0 q1 q2 q3 hC
                refine pl_end ?_
                intro w11 hS4
                refine pm_end ?_
                clear hS3
                go_wp2_with fail
                go_meet
                exact ⟨congrArg Value.bool (by rw [← HBD2.out]; exact (decide_eq_false (by have := PP.out; omega)).symm), hS4⟩
            · have y3 : decide (0 < xk) = false := decide_eq_false p3
              have PP := Lib.hid (And.intro p1 (And.intro p2 p3))
              clear p1 p2 p3
              refine wp_region_sl [0,1,2,3,4,5,6,7,8,9,10,11,12,13,14,15,16,17,18,19,20,21,22,23] [] [] _ hS3 (List.Sublist.refl _) (by kernel_rfl) (by kernel_rfl) .nil (fun C cw _ hC => ?_)
              have q0 : ∀ c, (cw c).cell? ⟨zb, 0, none⟩ = some (.slice (some ⟨bF, oF, none⟩) fl.length fc) := fun c => (hC c).cell 1 rfl 0 rfl
              have q1 : ∀ c, (cw c).cell? ⟨bF, oF + k, none⟩ = some (.int .i64 xk) := fun c => ((hC c).below.cell hbF).trans f0
              have q2 : ∀ c, (cw c).cell? ⟨pb, 2, none⟩ = some (.int .i64 rm) := fun c => (hC c).cell 0 rfl 2 rfl
              have q3 : ∀ c, (cw c).cell? ⟨pb, 3, none⟩ = some (.int .i64 ct) := fun c => (hC c).cell 0 rfl 3 rfl
              repeat (first | (refine pl_look rfl rfl rfl (fun Kv hK => ?_); go_big_quiet_op; refine hK _ ?_; clear hK Kv) | (refine pl_skip rfl rfl (fun Kv hK => ?_); go_simp; refine hK _ ?_; clear hK Kv))
              clear q0 q1 q2 q3 hC
              refine pl_end ?_
              intro w11 hS4
              refine pm_end ?_
              clear hS3
              go_wp2_with fail
              go_meet
              exact ⟨congrArg Value.bool (by rw [← HBD2.out]; exact (decide_eq_false (by have := PP.out; omega)).symm), hS4⟩
        · have y1 : decide (xk < rm) = false := decide_eq_false p1
          by_cases p3 : 0 < xk
          · have y3 : decide (0 < xk) = true := decide_eq_true p3
            by_cases p4 : 0 < st
            · have y4 : decide (0 < st) = true := decide_eq_true p4
              have PP := Lib.hid (And.intro p1 (And.intro p3 p4))
              clear p1 p3 p4
              refine wp_region_sl [0,1,2,3,4,5,6,7,8,9,10,11,12,13,14,15,16,17,18,19,20,21,22,23] [] [] _ hS3 (List.Sublist.refl _) (by kernel_rfl) (by kernel_rfl) .nil (fun C cw _ hC => ?_)
              have q0 : ∀ c, (cw c).cell? ⟨zb, 0, none⟩ = some (.slice (some ⟨bF, oF, none⟩) fl.length fc) := fun c => (hC c).cell 1 rfl 0 rfl
              have q1 : ∀ c, (cw c).cell? ⟨bF, oF + k, none⟩ = some (.int .i64 xk) := fun c => ((hC c).below.cell hbF).trans f0
              have q2 : ∀ c, (cw c).cell? ⟨pb, 2, none⟩ = some (.int .i64 rm) := fun c => (hC c).cell 0 rfl 2 rfl
              have q3 : ∀ c, (cw c).cell? ⟨pb, 3, none⟩ = some (.int .i64 ct) := fun c => (hC c).cell 0 rfl 3 rfl
              repeat (first | (refine pl_look rfl rfl rfl (fun Kv hK => ?_); go_big_quiet_op; refine hK _ ?_; clear hK Kv) | (refine pl_skip rfl rfl (fun Kv hK => ?_); go_simp; refine hK _ ?_; clear hK Kv))
              clear q0 q1 q2 q3 hC
              refine pl_end ?_
              intro w11 hS4
              refine pm_end ?_
              clear hS3
              go_wp2_with fail
              go_meet
              exact ⟨congrArg Value.bool (by rw [← HBD2.out]; exact (decide_eq_true (by have := PP.out; omega)).symm), hS4⟩
            · have y4 : decide (0 < st) = false := decide_eq_false p4
              have PP := Lib.hid (And.intro p1 (And.intro p3 p4))
              clear p1 p3 p4
              refine wp_region_sl [0,1,2,3,4,5,6,7,8,9,10,11,12,13,14,15,16,17,18,19,20,21,22,23] [] [] _ hS3 (List.Sublist.refl _) (by kernel_rfl) (by kernel_rfl) .nil (fun C cw _ hC => ?_)
              have q0 : ∀ c, (cw c).cell? ⟨zb, 0, none⟩ = some (.slice (some ⟨bF, oF, none⟩) fl.length fc) := fun c => (hC c).cell 1 rfl 0 rfl
              have q1 : ∀ c, (cw c).cell? ⟨bF, oF + k, none⟩ = some (.int .i64 xk) := fun c => ((hC c).below.cell hbF).trans f0
              have q2 : ∀ c, (cw c).cell? ⟨pb, 2, none⟩ = some (.int .i64 rm) := fun c => (hC c).cell 0 rfl 2 rfl
              have q3 : ∀ c, (cw c).cell? ⟨pb, 3, none⟩ = some (.int .i64 ct) := fun c => (hC c).cell 0 rfl 3 rfl
              repeat (first | (refine pl_look rfl rfl rfl (fun Kv hK => ?_); go_big_quiet_op; refine hK _ ?_; clear hK Kv) | (refine pl_skip rfl rfl (fun Kv hK => ?_); go_simp; refine hK _ ?_; clear hK Kv))
              clear q0 q1 q2 q3 hC
              refine pl_end ?_
              intro w11 hS4
              refine pm_end ?_
              clear hS3
              go_wp2_with fail
              go_meet
              exact ⟨congrArg Value.bool (by rw [← HBD2.out]; exact (decide_eq_false (by have := PP.out; omega)).symm), hS4⟩
          · have y3 : decide (0 < xk) = false := decide_eq_false p3
            have PP := Lib.hid (And.intro p1 p3)
            clear p1 p3
            refine wp_region_sl [0,1,2,3,4,5,6,7,8,9,10,11,12,13,14,15,16,17,18,19,20,21,22,23] [] [] _ hS3 (List.Sublist.refl _) (by kernel_rfl) (by kernel_rfl) .nil (fun C cw _ hC => ?_)
            have q0 : ∀ c, (cw c).cell? ⟨zb, 0, none⟩ = some (.slice (some ⟨bF, oF, none⟩) fl.length fc) := fun c => (hC c).cell 1 rfl 0 rfl
            have q1 : ∀ c, (cw c).cell? ⟨bF, oF + k, none⟩ = some (.int .i64 xk) := fun c => ((hC c).below.cell hbF).trans f0
            have q2 : ∀ c, (cw c).cell? ⟨pb, 2, none⟩ = some (.int .i64 rm) := fun c => (hC c).cell 0 rfl 2 rfl
            have q3 : ∀ c, (cw c).cell? ⟨pb, 3, none⟩ = some (.int .i64 ct) := fun c => (hC c).cell 0 rfl 3 rfl
            repeat (first | (refine pl_look rfl rfl rfl (fun Kv hK => ?_); go_big_quiet_op; refine hK _ ?_; clear hK Kv) | (refine pl_skip rfl rfl (fun Kv hK => ?_); go_simp; refine hK _ ?_; clear hK Kv))
            clear q0 q1 q2 q3 hC
            refine pl_end ?_
            intro w11 hS4
            refine pm_end ?_
            clear hS3
            go_wp2_with fail
            go_meet
            exact ⟨congrArg Value.bool (by rw [← HBD2.out]; exact (decide_eq_false (by have := PP.out; omega)).symm), hS4⟩
      case rest =>
      clear hS3
      obtain ⟨rfl, hS3⟩ := hcut
      cases bd
      case true =>
        have hno := of_decide_eq_true HBD2.out
        have HNO : Hid (¬ R) := Lib.hid (by
          rw [HRR.out]
          intro h
          have h9 := HOKK.out.1 (fun hk' => h.2.2.2.2.2.2.1 k hk')
          have h8 := HST.out
          rcases hno with h1 | h1
          · have := h9.1 h1.1; omega
          · have := h9.2 h1.1; omega)
        have HS3 := Lib.hid hS3
        clear hS3 hno
        go_wp2_with fail
        go_ret
        exact rpost_no HNO.out HS3.out.below
      case false =>
        have hno := of_decide_eq_false HBD2.out
        have HOK2 : Hid (PipeOk ps X H k) := Lib.hid (HOKK.out.2 (by have h8 := HST.out; exact ⟨fun h => by omega, fun h => by omega⟩))
        clear hno
        have hw1 : IntKind.i64.wrap (xk * ct) = xk * ct := by rw [IntKind.wrap_i64]; have := HNUM.out; omega
        have hw2 : IntKind.i64.wrap (q + xk * ct) = q + xk * ct := by rw [IntKind.wrap_i64]; have := HNUM.out; omega
        go_upto_region 15 with fail
        refine wp_region_sl [0,1,2,3,4,5,6,7,8,9] [] [10] _ hS3 (List.Sublist.refl _) (by kernel_rfl) (by kernel_rfl) (.cons rfl .nil) (fun C cw _ hC => ?_)
        have q0 : ∀ c, (cw c).cell? ⟨zb, 0, none⟩ = some (.slice (some ⟨bF, oF, none⟩) fl.length fc) := fun c => (hC c).cell 1 rfl 0 rfl
        have q1 : ∀ c, (cw c).cell? ⟨bF, oF + k, none⟩ = some (.int .i64 xk) := fun c => ((hC c).below.cell hbF).trans f0
        have q3 : ∀ c, (cw c).cell? ⟨pb, 3, none⟩ = some (.int .i64 ct) := fun c => (hC c).cell 0 rfl 3 rfl
        repeat (refine pl_look rfl rfl rfl (fun Kv hK => ?_); go_big_quiet_op; refine hK _ ?_; clear hK Kv)
        clear q0 q1 q3 hC hw1 hw2
        refine pl_end ?_
        intro w11 hS4
        refine pm_end ?_
        have HS4 := Lib.hid hS4
        clear hS3 hS4
        go_wp2_with fail
        go_roundw
        case rel => exact ⟨k + 1, by omega, by go_num, by rw [HCK.out], Lib.hid (fun j hj => by
          by_cases e : j = k
          · subst e; exact HOK2.out
          · exact HOK.out j (by omega)), HS4.out.tail⟩
        case measure => simp [intOf]; omega
    · obtain rfl : k = ps.length := by omega
      have c1 : wr.cell? ⟨zb, 1, none⟩ = some (.int .i64 cst) := hS.cell 0 rfl 1 rfl
      have HS := Lib.hid hS
      clear hS
      obtain ⟨q, hq⟩ : ∃ q, costK ps X ps.length = q := ⟨_, rfl⟩
      have HQ := Lib.hid hq
      rw [hq]
      clear hq
      go_wp2_with fail
      go_ret
      refine ⟨⟨_, rfl, ?_⟩, HS.out.below⟩
      rw [HRR.out, beq_iff_eq]
      constructor
      · intro h
        exact ⟨⟨by have := HWN.out; omega, by have := HWN.out; omega⟩, HL.out.1, HG.out.1, by rw [HG.out.2]; exact HM.out, HL.out.2, HBH.out, fun j hj => HOK.out j hj hj, by unfold costF; rw [HQ.out]; exact h⟩
      · intro h
        have := h.2.2.2.2.2.2.2
        unfold costF at this
        rw [HQ.out] at this
        exact this
end Go.Proofs.Ytgnmbmlpfjlbiaa
namespace Go.Proofs.Ytgnmbmlpfjlbiaa
open Go.ChangeShapes Go.WideShapes Go.ChangeAt Go.RowKit
set_option linter.unusedVariables false
theorem getI_map (f : Nat → Int) {n k : Nat} (h : k < n) : getI ((List.range n).map f) k = f k := by unfold getI; simp [h]
theorem costK_congr {ps : List PipeV} {x y : Nat → Int} : ∀ k, k ≤ ps.length → (∀ j, j < k → x j = y j) → costK ps x k = costK ps y k
  | 0, _, _ => rfl
  | k + 1, hk, h => by
    have hkl : k < ps.length := by omega
    rw [costK_succ hkl, costK_succ hkl, costK_congr k (by omega) (fun j hj => h j (by omega)), h k (by omega)]
theorem good_congr {N : Nat} {ps : List PipeV} {s t : Int} {x y : Nat → Int} (h : ∀ k, k < ps.length → x k = y k) (hg : Good N ps s t x) : Good N ps s t y := by
  have e : ∀ v, inn ps x v = inn ps y v := fun v => innK_congr _ h
  exact ⟨fun k hk => by rw [← h k hk]; exact hg.feas k hk, by rw [← e]; exact hg.pos, fun v h1 h2 h3 => by rw [← e]; exact hg.kept v h1 h2 h3⟩
theorem tight_congr {N : Nat} {ps : List PipeV} {x y h g : Nat → Int} (hP : InP N ps) (hx : ∀ k, k < ps.length → x k = y k) (hh : ∀ v, v < N → h v = g v) (hT : Tight ps x h) : Tight ps y g := by
  intro k hk
  have hp := hP ps[k] (List.getElem_mem hk)
  rw [← hx k hk, ← hh _ (by omega), ← hh _ (by omega)]
  exact hT k hk
theorem opt_good {N : Nat} {ps : List PipeV} {s t : Nat} {y h : Nat → Int} {m : Int} (hO : Opt N ps s t y h m) : Good N ps (s : Int) (t : Int) y :=
  ⟨hO.flow.feas, by rw [hO.flow.amount]; exact hO.flow.pos, fun v _ h1 h2 => hO.flow.kept _ h1 h2⟩
theorem opt_right {N : Nat} {ps : List PipeV} {s t : Nat} {y h : Nat → Int} {m : Int} (hP : InP N ps) (hN : N ≤ 1000) (hO : Opt N ps s t y h m) : RightAll N ps (s : Int) (t : Int) m (getI ((List.range ps.length).map y)) (getI ((List.range N).map h)) ps.length N (costF ps y) := by
  have hy : ∀ k, k < ps.length → y k = getI ((List.range ps.length).map y) k := fun k hk => (getI_map y hk).symm
  have hh : ∀ v, v < N → h v = getI ((List.range N).map h) v := fun v hv => (getI_map h hv).symm
  have hg := good_congr hy (opt_good hO)
  refine ⟨rfl, hg, ?_, rfl, fun v hv => ?_, tight_congr hP hy hh hO.tight, ?_⟩
  · have e : inn ps y t = inn ps (getI ((List.range ps.length).map y)) t := innK_congr _ hy
    rw [← e]; exact hO.flow.amount
  · rw [← hh v hv]
    have h1 := hO.hb v hv
    have h2 := hO.ht
    have h3 : (N : Int) * DearI ≤ 1000 * DearI := Int.mul_le_mul_of_nonneg_right (by omega) (by decide)
    unfold DearI at *
    omega
  · unfold costF
    exact (costK_congr _ (Nat.le_refl _) hy).symm
theorem opt_few {N : Nat} {ps : List PipeV} {s t : Nat} {y h : Nat → Int} {m : Int} (hO : Opt N ps s t y h m) (hm : m ≤ 10000) : ∀ k, k < ps.length → getI ((List.range ps.length).map y) k ≤ 10000 := fun k hk => by
  rw [getI_map y hk]
  have := hO.few k hk
  omega
/-- Both say so. -/
theorem right10_yes (N : Nat) (A : Option Addr) (cap : Nat) (ps : List PipeV) (s t : Nat) (m : Int) (y h : Nat → Int) (fb hb : Nat) (tf th : TypeId) (w : World) (hr : Pipes w w.heap.size A ps) (hf : w.heap[fb]? = some (.cells (iarr y ps.length) tf (0, 0))) (hh : w.heap[hb]? = some (.cells (iarr h N) th (0, 0))) (he : endsP N ps s t = 0) (hC : Costs ps) (hO : Opt N ps s t y h m) (hm : m ≤ 10000) :
    Calls Try.prog 28 #[.agg #[.int .i64 N, .slice A ps.length cap], .int .i64 (s : Int), .int .i64 (t : Int), .int .i64 m, .agg #[.slice (some ⟨fb, 0, none⟩) ps.length ps.length, .int .i64 (costF ps y), .slice (some ⟨hb, 0, none⟩) N N]] w fun e w' => e = .returned (.bool true) ∧ Below w.heap.size w w' := by
  have hck : checkP N ps = 0 := by
    unfold endsP at he
    split at he
    · omega
    · omega
  have hst' : (t : Int) < N := by
    unfold endsP at he
    rw [if_neg (by omega)] at he
    split at he <;> omega
  obtain ⟨_, hN0, hlen, hin, _⟩ := checkP_ok hck
  rw [Int.toNat_natCast] at hin
  have hN : N ≤ 1000 := by omega
  have c := right10_any N A (some ⟨fb, 0, none⟩) (some ⟨hb, 0, none⟩) cap ps.length N ps ((List.range ps.length).map y) ((List.range N).map h) s t m (costF ps y) w hr (reads_iarr hf) (reads_iarr hh) (by simp; omega) (by simp; omega) hN hlen hin hC (by omega) hst' (fun _ => opt_few hO hm)
  simp only [List.length_map, List.length_range] at c
  refine c.mono fun e w' ⟨⟨b, he, hb⟩, hB⟩ => ⟨?_, hB⟩
  rw [he, hb.2 (opt_right hin hN hO)]
theorem rightp_yes (N : Nat) (A : Option Addr) (cap : Nat) (ps : List PipeV) (s t : Nat) (m : Int) (y h : Nat → Int) (fb hb : Nat) (tf th : TypeId) (w : World) (hr : Pipes w w.heap.size A ps) (hf : w.heap[fb]? = some (.cells (iarr y ps.length) tf (0, 0))) (hh : w.heap[hb]? = some (.cells (iarr h N) th (0, 0))) (he : endsP N ps s t = 0) (hC : Costs ps) (hO : Opt N ps s t y h m) (hm : m ≤ 10000) :
    Calls Try.prog 27 #[.agg #[.int .i64 N, .slice A ps.length cap], .int .i64 (s : Int), .int .i64 (t : Int), .int .i64 m, .agg #[.slice (some ⟨fb, 0, none⟩) ps.length ps.length, .int .i64 (costF ps y), .slice (some ⟨hb, 0, none⟩) N N]] w fun e w' => e = .returned (.bool true) ∧ Below w.heap.size w w' := by
  have hck : checkP N ps = 0 := by
    unfold endsP at he
    split at he
    · omega
    · omega
  have hst' : (t : Int) < N := by
    unfold endsP at he
    rw [if_neg (by omega)] at he
    split at he <;> omega
  obtain ⟨_, hN0, hlen, hin, _⟩ := checkP_ok hck
  rw [Int.toNat_natCast] at hin
  have hN : N ≤ 1000 := by omega
  have c := rightp_any N A (some ⟨fb, 0, none⟩) (some ⟨hb, 0, none⟩) cap ps.length N ps ((List.range ps.length).map y) ((List.range N).map h) s t m (costF ps y) w hr (reads_iarr hf) (reads_iarr hh) (by simp; omega) (by simp; omega) hN hlen hin hC he hst' (fun _ => opt_few hO hm)
  simp only [List.length_map, List.length_range] at c
  refine c.mono fun e w' ⟨⟨b, he, hb⟩, hB⟩ => ⟨?_, hB⟩
  rw [he, hb.2 ⟨⟨by have := hO.flow.pos; omega, hm⟩, opt_right hin hN hO⟩]
end Go.Proofs.Ytgnmbmlpfjlbiaa
