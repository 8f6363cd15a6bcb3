/- The walk of law LeastErrors. -/
import Derived.Test.YtgnmbmlpfjlbiaaRightO
import Derived.Test.YtgnmbmlpfjlbiaaAwake10
import Derived.Test.YtgnmbmlpfjlbiaaNetOpen
namespace Go.Proofs.Ytgnmbmlpfjlbiaa
open Go.ChangeShapes Go.WideShapes Go.ChangeAt Go.RowKit
set_option linter.unusedVariables false
/-- Does a cost fall out, by the first k pipes? -/
def codeC (l : List PipeV) : Int := if ∃ p ∈ l, badC p.cost = true then 2 else 0
theorem codeC_snoc_bad {l : List PipeV} {k : Nat} (hk : k < l.length) {p : PipeV} (hp : l[k] = p) (h : badC p.cost = true) : codeC (l.take (k + 1)) = 2 := by
  unfold codeC
  rw [List.take_succ_eq_append_getElem hk, hp]
  exact if_pos ⟨p, by simp, h⟩
theorem codeC_snoc_ok {l : List PipeV} {k : Nat} (hk : k < l.length) {p : PipeV} (hp : l[k] = p) (h : ¬ badC p.cost = true) : codeC (l.take (k + 1)) = codeC (l.take k) := by
  have e : (∃ q ∈ l.take (k + 1), badC q.cost = true) ↔ ∃ q ∈ l.take k, badC q.cost = true := by
    rw [List.take_succ_eq_append_getElem hk, hp]
    constructor
    · rintro ⟨q, hq, hb⟩
      rcases List.mem_append.1 hq with hq | hq
      · exact ⟨q, hq, hb⟩
      · obtain rfl : q = p := by simpa using hq
        exact absurd hb h
    · rintro ⟨q, hq, hb⟩
      exact ⟨q, List.mem_append_left _ hq, hb⟩
  unfold codeC
  by_cases c : ∃ q ∈ l.take k, badC q.cost = true
  · rw [if_pos c, if_pos (e.2 c)]
  · rw [if_neg c, if_neg (fun h => c (e.1 h))]
theorem codeC_nil (l : List PipeV) : codeC (l.take 0) = 0 := if_neg (by simp)
theorem least_bad2 (N : Int) (A : Option Addr) (cap : Nat) (ps : List PipeV) (s t want E : Int) (hl : ps.length ≤ maxLen) (he : leastE N ps s t want = E) (h0 : E ≠ 0) (w : World) (hr : Pipes w w.heap.size A ps) :
    Calls Try.prog 25 #[.agg #[.int .i64 N, .slice A ps.length cap], .int .i64 s, .int .i64 t, .int .i64 want] w fun e w' => e = .returned (.tuple #[.agg #[.slice none 0 0, .int .i64 0, .slice none 0 0], .int .i64 E]) ∧ Below w.heap.size w w' := by
  have := least_bad N A cap ps s t want w hr hl (by rw [he]; exact h0)
  rw [he] at this
  exact this
theorem leastE_two {N s t want : Int} {l : List PipeV} (he : endsP N l s t = 0) (h : want < 0 ∨ 10000 < want ∨ ∃ p ∈ l, badC p.cost = true) : leastE N l s t want = 2 := by
  unfold leastE
  rw [if_neg (by rw [he]; decide), if_pos h]
set_option maxRecDepth 100000 in
set_option maxHeartbeats 8000000 in
theorem leastErrors0 (W : World) (N : Int) (A : Option Addr) (cap : Nat) (l : List PipeV) (s t want : Int) (hr : Pipes W W.heap.size A l) (hl : l.length ≤ maxLen) :
    Calls Try.prog 12 #[.agg #[.int .i64 N, .slice A l.length cap], .int .i64 s, .int .i64 t, .int .i64 want] W fun e w' => e = .returned (.bool true) ∧ Below W.heap.size W w' := by
  have hS0 := (SL.start (Nat.le_refl W.heap.size)).alloc #[.int .i64 N, .slice A l.length cap] 26
  have HRD : Hid (∀ (rs : List Rs) w', SL W W.heap.size rs w' → Pipes w' w'.heap.size A l) := Lib.hid (fun rs w' h => reads_more (Reads.below hr h.below) h.below.size)
  have HR := Lib.hid hr
  have HL := Lib.hid hl
  have HS0 := Lib.hid hS0
  unfold maxLen at hl
  clear hr hS0
  by_cases g0 : 20 < l.length
  · have g0i : (20 : Int) < (l.length : Int) := by omega
    as_aux_lemma =>
      go_enter Try.func12, Try.ntmps12
      go_wp2_with (go_at_call 24; (with_reducible refine (awake10 _).mono ?_); rintro e w1 ⟨rfl, hb1⟩
                   have hS1 := HS0.out.call hb1
                   have c0 : w1.cell? ⟨W.heap.size, 0, none⟩ = some (.int .i64 N) := hS1.cell 0 rfl 0 rfl
                   have c1 : w1.cell? ⟨W.heap.size, 1, none⟩ = some (.slice A l.length cap) := hS1.cell 0 rfl 1 rfl
                   have hz : W.heap.size < w1.heap.size := (hS1.lt 0 rfl).2
                   have HS1 := Lib.hid hS1
                   clear hb1 hS1)
      go_ret
      exact ⟨rfl, HS1.out.below⟩
  · have g0i : ¬ (20 : Int) < (l.length : Int) := by omega
    by_cases g1 : 20 < N ∧ N ≤ 1000
    · obtain ⟨g2, g3⟩ := g1
      as_aux_lemma =>
        go_enter Try.func12, Try.ntmps12
        go_wp2_with (go_at_call 24; (with_reducible refine (awake10 _).mono ?_); rintro e w1 ⟨rfl, hb1⟩
                     have hS1 := HS0.out.call hb1
                     have c0 : w1.cell? ⟨W.heap.size, 0, none⟩ = some (.int .i64 N) := hS1.cell 0 rfl 0 rfl
                     have c1 : w1.cell? ⟨W.heap.size, 1, none⟩ = some (.slice A l.length cap) := hS1.cell 0 rfl 1 rfl
                     have hz : W.heap.size < w1.heap.size := (hS1.lt 0 rfl).2
                     have HS1 := Lib.hid hS1
                     clear hb1 hS1)
        go_ret
        exact ⟨rfl, HS1.out.below⟩
    · obtain ⟨E, hE⟩ : ∃ E, E = endsP N l s t := ⟨_, rfl⟩
      have HE := Lib.hid hE
      have G1 := Lib.hid g1
      clear hE
      go_enter Try.func12, Try.ntmps12
      go_upto_region 3 with (go_at_call 24; (with_reducible refine (awake10 _).mono ?_); rintro e w1 ⟨rfl, hb1⟩
                             have hS1 := HS0.out.call hb1
                             have c0 : w1.cell? ⟨W.heap.size, 0, none⟩ = some (.int .i64 N) := hS1.cell 0 rfl 0 rfl
                             have c1 : w1.cell? ⟨W.heap.size, 1, none⟩ = some (.slice A l.length cap) := hS1.cell 0 rfl 1 rfl
                             have hz : W.heap.size < w1.heap.size := (hS1.lt 0 rfl).2
                             have HS1 := Lib.hid hS1
                             clear hb1 hS1)
      go_cut [32] (fun c wx => c = .bool false ∧ SL W W.heap.size [.blk W.heap.size #[.int .i64 N, .slice A l.length cap] 26] wx)
      case first =>
        by_cases g4 : 20 < N
        · have g5 : ¬ N ≤ 1000 := by omega
          clear g1
          as_aux_lemma =>
            go_wp2_with fail
            go_meet
            exact ⟨by rw [decide_eq_false (Int.not_lt.2 g0i)], HS1.out⟩
        · clear g1
          as_aux_lemma =>
            go_wp2_with fail
            go_meet
            exact ⟨by rw [decide_eq_false (Int.not_lt.2 g0i)], HS1.out⟩
      clear HS1 c0 c1 hz g0i g1
      obtain ⟨wa, rfl⟩ : ∃ wa : World, wa = wc := ⟨_, rfl⟩
      obtain ⟨rfl, hcut⟩ := hcut
      have HS1 := Lib.hid hcut
      have c0 : wa.cell? ⟨W.heap.size, 0, none⟩ = some (.int .i64 N) := hcut.cell 0 rfl 0 rfl
      have c1 : wa.cell? ⟨W.heap.size, 1, none⟩ = some (.slice A l.length cap) := hcut.cell 0 rfl 1 rfl
      have hz : W.heap.size < wa.heap.size := (hcut.lt 0 rfl).2
      clear hcut
      by_cases he : E = 0
      · subst he
        have hck : checkP N l = 0 := by
          have hE := HE.out.symm
          unfold endsP at hE
          split at hE <;> omega
        have hst' : 0 ≤ s ∧ s < N ∧ 0 ≤ t ∧ t < N ∧ s ≠ t := by
          have hE := HE.out.symm
          unfold endsP at hE
          rw [if_neg (by omega)] at hE
          split at hE <;> omega
        obtain ⟨hN0, hN1, hlen, hin, _⟩ := checkP_ok hck
        obtain ⟨n, rfl⟩ : ∃ n : Nat, N = n := ⟨N.toNat, by omega⟩
        obtain ⟨s, rfl⟩ : ∃ n : Nat, s = n := ⟨s.toNat, by omega⟩
        obtain ⟨t, rfl⟩ : ∃ n : Nat, t = n := ⟨t.toNat, by omega⟩
        rw [Int.toNat_natCast] at hin
        have hsN : s < n := by omega
        have htN : t < n := by omega
        have hn20 : n ≤ 20 := by have := G1.out; omega
        have HNL : Hid (n * (2 * l.length + 1) + 2 ≤ 800000) := Lib.hid (by
          have := Nat.mul_le_mul hn20 (show 2 * l.length + 1 ≤ 41 by omega)
          omega)
        have HIN := Lib.hid (And.intro hin (And.intro hsN htN))
        clear hck hst' hin hlen hN0 hN1
        go_upto_region 7 with (first
          | (go_at_call 23; (with_reducible refine (endsP_any _ _ _ _ _ _ _ (HRD.out _ _ HS1.out) HL.out).mono ?_); rintro e w2 ⟨rfl, hb2⟩
             rw [← HE.out]
             have hS2 := HS1.out.call hb2
             have d0 : w2.cell? ⟨W.heap.size, 0, none⟩ = some (.int .i64 n) := hS2.cell 0 rfl 0 rfl
             have d1 : w2.cell? ⟨W.heap.size, 1, none⟩ = some (.slice A l.length cap) := hS2.cell 0 rfl 1 rfl
             have hz2 : W.heap.size < w2.heap.size := (hS2.lt 0 rfl).2
             have HS2 := Lib.hid hS2
             clear hb2 hS2 c0 c1 hz))
        go_wp2_with fail
        go_loopw [9, 42] (fun v i wr => ∃ k : Nat, k ≤ l.length ∧ i = .int .i64 k ∧ v = .int .i64 (codeC (l.take k)) ∧ SL W W.heap.size [.blk W.heap.size #[.int .i64 n, .slice A l.length cap] 26] wr) (fun _ i _ => l.length - (intOf i).toNat)
        case atStart => exact ⟨0, by omega, rfl, by rw [codeC_nil], HS2.out⟩
        case round =>
          clear HS2 HS1 d0 d1 hz2
          obtain ⟨k, hk, rfl, rfl, hS⟩ := hrel
          have c0 : wr.cell? ⟨W.heap.size, 0, none⟩ = some (.int .i64 n) := hS.cell 0 rfl 0 rfl
          have c1 : wr.cell? ⟨W.heap.size, 1, none⟩ = some (.slice A l.length cap) := hS.cell 0 rfl 1 rfl
          have hz : W.heap.size < wr.heap.size := (hS.lt 0 rfl).2
          by_cases hlt : k < l.length
          · obtain ⟨b, o, rfl, hb, d0, d1, d2, d3⟩ := pipes_at (Reads.below HR.out hS.below) hlt
            obtain ⟨p, hp⟩ : ∃ p, l[k] = p := ⟨_, rfl⟩
            rw [hp] at d0 d1 d2 d3
            have HP : Hid (l[k] = p) := Lib.hid hp
            have hS2 := hS.alloc #[.int .i64 p.fr, .int .i64 p.to, .int .i64 p.room, .int .i64 p.cost] 40
            have HS2 := Lib.hid hS2
            obtain ⟨R, hR⟩ : ∃ R, R = codeC (l.take k) := ⟨_, rfl⟩
            rw [← hR]
            have HRR := Lib.hid hR
            clear hp hS hS2 hR
            by_cases q0 : p.cost < 0
            · as_aux_lemma =>
                have HB := Lib.hid (codeC_snoc_bad hlt HP.out (decide_eq_true (.inl q0)))
                go_wp2_with fail
                go_roundw
                case rel => exact ⟨k + 1, by omega, by go_num, by rw [HB.out], HS2.out.tail⟩
                case measure => simp [intOf]; omega
            · skip
              by_cases q1 : 4294967296 < p.cost
              · as_aux_lemma =>
                  have HB := Lib.hid (codeC_snoc_bad hlt HP.out (decide_eq_true (.inr q1)))
                  go_wp2_with fail
                  go_roundw
                  case rel => exact ⟨k + 1, by omega, by go_num, by rw [HB.out], HS2.out.tail⟩
                  case measure => simp [intOf]; omega
              · as_aux_lemma =>
                  have HB := Lib.hid (codeC_snoc_ok hlt HP.out (by unfold badC; simp; omega))
                  go_wp2_with fail
                  go_roundw
                  case rel => exact ⟨k + 1, by omega, by go_num, by rw [HB.out, HRR.out], HS2.out.tail⟩
                  case measure => simp [intOf]; omega
          · obtain rfl : k = l.length := by omega
            rw [List.take_length]
            have HS := Lib.hid hS
            clear hS
            by_cases hb : ∃ p ∈ l, badC p.cost = true
            · rw [show codeC l = 2 from if_pos hb]
              by_cases w0 : want < 0
              · have HB := Lib.hid (least_bad2 n A cap l s t want 2 HL.out (leastE_two HE.out.symm (.inl w0)) (by decide))
                clear hb
                as_aux_lemma =>
                  go_upto_region 20 with (first
                    | (go_at_call 25; (with_reducible refine (HB.out _ (HRD.out _ _ HS.out)).mono ?_); rintro e w6 ⟨rfl, hb6⟩
                       have HS7 := Lib.hid (HS.out.call hb6)
                       clear hb6 c0 c1 hz))
                  have hS8 := HS7.out.alloc #[.slice none 0 0, .int .i64 0, .slice none 0 0] 49
                  obtain ⟨rb, hrb⟩ : ∃ rb, rb = w6.heap.size := ⟨_, rfl⟩
                  generalize (w6.alloc (.cells #[.slice none 0 0, .int .i64 0, .slice none 0 0] 49)) = w7 at *
                  rw [← hrb] at hS8 ⊢
                  have r0 : w7.cell? ⟨rb, 0, none⟩ = some (.slice none 0 0) := hS8.cell 0 rfl 0 rfl
                  have r1 : w7.cell? ⟨rb, 1, none⟩ = some (.int .i64 0) := hS8.cell 0 rfl 1 rfl
                  have r2 : w7.cell? ⟨rb, 2, none⟩ = some (.slice none 0 0) := hS8.cell 0 rfl 2 rfl
                  have HS8 := Lib.hid hS8
                  clear hS8 hrb
                  go_wp2_with fail
                  go_ret
                  exact ⟨rfl, HS8.out.below⟩
              · skip
                by_cases w1 : 10000 < want
                · have HB := Lib.hid (least_bad2 n A cap l s t want 2 HL.out (leastE_two HE.out.symm (.inr (.inl w1))) (by decide))
                  clear hb
                  as_aux_lemma =>
                    go_upto_region 20 with (first
                      | (go_at_call 25; (with_reducible refine (HB.out _ (HRD.out _ _ HS.out)).mono ?_); rintro e w6 ⟨rfl, hb6⟩
                         have HS7 := Lib.hid (HS.out.call hb6)
                         clear hb6 c0 c1 hz))
                    have hS8 := HS7.out.alloc #[.slice none 0 0, .int .i64 0, .slice none 0 0] 49
                    obtain ⟨rb, hrb⟩ : ∃ rb, rb = w6.heap.size := ⟨_, rfl⟩
                    generalize (w6.alloc (.cells #[.slice none 0 0, .int .i64 0, .slice none 0 0] 49)) = w7 at *
                    rw [← hrb] at hS8 ⊢
                    have r0 : w7.cell? ⟨rb, 0, none⟩ = some (.slice none 0 0) := hS8.cell 0 rfl 0 rfl
                    have r1 : w7.cell? ⟨rb, 1, none⟩ = some (.int .i64 0) := hS8.cell 0 rfl 1 rfl
                    have r2 : w7.cell? ⟨rb, 2, none⟩ = some (.slice none 0 0) := hS8.cell 0 rfl 2 rfl
                    have HS8 := Lib.hid hS8
                    clear hS8 hrb
                    go_wp2_with fail
                    go_ret
                    exact ⟨rfl, HS8.out.below⟩
                · skip
                  have HB := Lib.hid (least_bad2 n A cap l s t want 2 HL.out (leastE_two HE.out.symm (.inr (.inr hb))) (by decide))
                  clear hb
                  as_aux_lemma =>
                    go_upto_region 20 with (first
                      | (go_at_call 25; (with_reducible refine (HB.out _ (HRD.out _ _ HS.out)).mono ?_); rintro e w6 ⟨rfl, hb6⟩
                         have HS7 := Lib.hid (HS.out.call hb6)
                         clear hb6 c0 c1 hz))
                    have hS8 := HS7.out.alloc #[.slice none 0 0, .int .i64 0, .slice none 0 0] 49
                    obtain ⟨rb, hrb⟩ : ∃ rb, rb = w6.heap.size := ⟨_, rfl⟩
                    generalize (w6.alloc (.cells #[.slice none 0 0, .int .i64 0, .slice none 0 0] 49)) = w7 at *
                    rw [← hrb] at hS8 ⊢
                    have r0 : w7.cell? ⟨rb, 0, none⟩ = some (.slice none 0 0) := hS8.cell 0 rfl 0 rfl
                    have r1 : w7.cell? ⟨rb, 1, none⟩ = some (.int .i64 0) := hS8.cell 0 rfl 1 rfl
                    have r2 : w7.cell? ⟨rb, 2, none⟩ = some (.slice none 0 0) := hS8.cell 0 rfl 2 rfl
                    have HS8 := Lib.hid hS8
                    clear hS8 hrb
                    go_wp2_with fail
                    go_ret
                    exact ⟨rfl, HS8.out.below⟩
            · rw [show codeC l = 0 from if_neg hb]
              by_cases w0 : want < 0
              · have HB := Lib.hid (least_bad2 n A cap l s t want 2 HL.out (leastE_two HE.out.symm (.inl w0)) (by decide))
                clear hb
                as_aux_lemma =>
                  go_upto_region 20 with (first
                    | (go_at_call 25; (with_reducible refine (HB.out _ (HRD.out _ _ HS.out)).mono ?_); rintro e w6 ⟨rfl, hb6⟩
                       have HS7 := Lib.hid (HS.out.call hb6)
                       clear hb6 c0 c1 hz))
                  have hS8 := HS7.out.alloc #[.slice none 0 0, .int .i64 0, .slice none 0 0] 49
                  obtain ⟨rb, hrb⟩ : ∃ rb, rb = w6.heap.size := ⟨_, rfl⟩
                  generalize (w6.alloc (.cells #[.slice none 0 0, .int .i64 0, .slice none 0 0] 49)) = w7 at *
                  rw [← hrb] at hS8 ⊢
                  have r0 : w7.cell? ⟨rb, 0, none⟩ = some (.slice none 0 0) := hS8.cell 0 rfl 0 rfl
                  have r1 : w7.cell? ⟨rb, 1, none⟩ = some (.int .i64 0) := hS8.cell 0 rfl 1 rfl
                  have r2 : w7.cell? ⟨rb, 2, none⟩ = some (.slice none 0 0) := hS8.cell 0 rfl 2 rfl
                  have HS8 := Lib.hid hS8
                  clear hS8 hrb
                  go_wp2_with fail
                  go_ret
                  exact ⟨rfl, HS8.out.below⟩
              · skip
                by_cases w1 : 10000 < want
                · have HB := Lib.hid (least_bad2 n A cap l s t want 2 HL.out (leastE_two HE.out.symm (.inr (.inl w1))) (by decide))
                  clear hb
                  as_aux_lemma =>
                    go_upto_region 20 with (first
                      | (go_at_call 25; (with_reducible refine (HB.out _ (HRD.out _ _ HS.out)).mono ?_); rintro e w6 ⟨rfl, hb6⟩
                         have HS7 := Lib.hid (HS.out.call hb6)
                         clear hb6 c0 c1 hz))
                    have hS8 := HS7.out.alloc #[.slice none 0 0, .int .i64 0, .slice none 0 0] 49
                    obtain ⟨rb, hrb⟩ : ∃ rb, rb = w6.heap.size := ⟨_, rfl⟩
                    generalize (w6.alloc (.cells #[.slice none 0 0, .int .i64 0, .slice none 0 0] 49)) = w7 at *
                    rw [← hrb] at hS8 ⊢
                    have r0 : w7.cell? ⟨rb, 0, none⟩ = some (.slice none 0 0) := hS8.cell 0 rfl 0 rfl
                    have r1 : w7.cell? ⟨rb, 1, none⟩ = some (.int .i64 0) := hS8.cell 0 rfl 1 rfl
                    have r2 : w7.cell? ⟨rb, 2, none⟩ = some (.slice none 0 0) := hS8.cell 0 rfl 2 rfl
                    have HS8 := Lib.hid hS8
                    clear hS8 hrb
                    go_wp2_with fail
                    go_ret
                    exact ⟨rfl, HS8.out.below⟩
                · skip
                  have hC : Costs l := by
                    intro p hp
                    have h : ¬ badC p.cost = true := fun h => hb ⟨p, hp, h⟩
                    unfold badC at h
                    simp at h
                    unfold DearI
                    omega
                  have HC := Lib.hid hC
                  have HM := Lib.hid (most_any n A cap l s t wr (HRD.out _ _ HS.out) HE.out.symm)
                  clear hb hC
                  go_upto_region 17 with (first
                    | (go_at_call 16; (with_reducible refine HM.out.mono ?_); rintro e w5 ⟨y0, sum0, lb, rfl, hS5, hM⟩
                       have hS6 := (HS.out.join hS5).tail
                       have e0 : w5.cell? ⟨W.heap.size, 0, none⟩ = some (.int .i64 n) := hS6.cell 0 rfl 0 rfl
                       have e1 : w5.cell? ⟨W.heap.size, 1, none⟩ = some (.slice A l.length cap) := hS6.cell 0 rfl 1 rfl
                       have hz5 : W.heap.size < w5.heap.size := (hS6.lt 0 rfl).2
                       have HLE := Lib.hid (least_one n A cap l s t want w5 (HRD.out _ _ hS6) HE.out.symm (by omega) (by omega) HC.out HNL.out)
                       have HS6 := Lib.hid (And.intro hS6 hM)
                       clear hS6 hS5 hM c0 c1 hz))
                  by_cases hms : sum0 < want
                  · go_upto_region 20 with (first
                      | (go_at_call 25; (with_reducible refine HLE.out.mono ?_); rintro e w6 ⟨FA, fn, c, HA, hn, err, rfl, hO⟩
                         have HS7 := Lib.hid (HS6.out.1.call hO.below)
                         have HO := Lib.hid hO
                         clear hO e0 e1 hz5))
                    rcases HO.out with ⟨rfl, rfl, rfl, rfl, rfl, rfl, e6, y, sum, hM5, hlt5⟩ | ⟨y, h, fb, hb, rfl, rfl, rfl, rfl, e5, rfl, hSO, hO⟩
                    · clear HO e6 hM5 hlt5
                      have hS8 := HS7.out.alloc #[.slice none 0 0, .int .i64 0, .slice none 0 0] 49
                      obtain ⟨rb, hrb⟩ : ∃ rb, rb = w6.heap.size := ⟨_, rfl⟩
                      generalize (w6.alloc (.cells #[.slice none 0 0, .int .i64 0, .slice none 0 0] 49)) = w7 at *
                      rw [← hrb] at hS8 ⊢
                      have r0 : w7.cell? ⟨rb, 0, none⟩ = some (.slice none 0 0) := hS8.cell 0 rfl 0 rfl
                      have r1 : w7.cell? ⟨rb, 1, none⟩ = some (.int .i64 0) := hS8.cell 0 rfl 1 rfl
                      have r2 : w7.cell? ⟨rb, 2, none⟩ = some (.slice none 0 0) := hS8.cell 0 rfl 2 rfl
                      have HS8 := Lib.hid hS8
                      clear hS8 hrb
                      go_wp2_with fail
                      go_ret
                      exact ⟨rfl, HS8.out.below⟩
                    · exfalso
                      have hle := most_is HIN.out.1 HIN.out.2.1 HIN.out.2.2 HS6.out.2 hO.flow
                      omega
                  · go_upto_region 20 with (first
                      | (go_at_call 25; (with_reducible refine HLE.out.mono ?_); rintro e w6 ⟨FA, fn, c, HA, hn, err, rfl, hO⟩
                         have HS7 := Lib.hid (HS6.out.1.call hO.below)
                         have HO := Lib.hid hO
                         clear hO e0 e1 hz5))
                    rcases HO.out with ⟨rfl, rfl, rfl, rfl, rfl, rfl, e6, y, sum, hM5, hlt5⟩ | ⟨y, h, fb, hb, rfl, rfl, rfl, rfl, e5, rfl, hSO, hO⟩
                    · exfalso
                      have hle := most_is HIN.out.1 HIN.out.2.1 HIN.out.2.2 hM5 HS6.out.2.flow
                      omega
                    · have e5' := e5.symm
                      clear e5
                      subst e5'
                      have hS9 := (HS6.out.1.join hSO).alloc #[.slice (some ⟨fb, 0, none⟩) l.length l.length, .int .i64 (costF l y), .slice (some ⟨hb, 0, none⟩) n n] 49
                      obtain ⟨rb, hrb⟩ : ∃ rb, rb = w6.heap.size := ⟨_, rfl⟩
                      generalize (w6.alloc (.cells #[.slice (some ⟨fb, 0, none⟩) l.length l.length, .int .i64 (costF l y), .slice (some ⟨hb, 0, none⟩) n n] 49)) = w7 at *
                      rw [← hrb] at hS9 ⊢
                      have HR1 := Lib.hid (fun (w' : World) (h1 : Pipes w' w'.heap.size A l) h2 h3 => right10_yes n A cap l s t want y h fb hb 2 2 w' h1 h2 h3 HE.out.symm HC.out hO (by omega))
                      have HR2 := Lib.hid (fun (w' : World) (h1 : Pipes w' w'.heap.size A l) h2 h3 => rightp_yes n A cap l s t want y h fb hb 2 2 w' h1 h2 h3 HE.out.symm HC.out hO (by omega))
                      obtain ⟨c, hc⟩ : ∃ c, costF l y = c := ⟨_, rfl⟩
                      rw [hc] at hS9 HR1 HR2 ⊢
                      have x0 : w7.cell? ⟨W.heap.size, 0, none⟩ = some (.int .i64 n) := hS9.cell 3 rfl 0 rfl
                      have x1 : w7.cell? ⟨W.heap.size, 1, none⟩ = some (.slice A l.length cap) := hS9.cell 3 rfl 1 rfl
                      have r0 : w7.cell? ⟨rb, 0, none⟩ = some (.slice (some ⟨fb, 0, none⟩) l.length l.length) := hS9.cell 0 rfl 0 rfl
                      have r1 : w7.cell? ⟨rb, 1, none⟩ = some (.int .i64 c) := hS9.cell 0 rfl 1 rfl
                      have r2 : w7.cell? ⟨rb, 2, none⟩ = some (.slice (some ⟨hb, 0, none⟩) n n) := hS9.cell 0 rfl 2 rfl
                      have HC1 := Lib.hid (HR2.out w7 (HRD.out _ _ hS9) (hS9.blk 1 rfl) (hS9.blk 2 rfl))
                      have HS9 := Lib.hid hS9
                      clear hS9 hrb hSO hO hc HO
                      go_wp2_with (first
                        | (go_at_call 27; (with_reducible refine HC1.out.mono ?_); rintro e w8 ⟨rfl, hb8⟩
                           have hS10 := HS9.out.call hb8
                           have x2 : w8.cell? ⟨W.heap.size, 0, none⟩ = some (.int .i64 n) := hS10.cell 3 rfl 0 rfl
                           have x3 : w8.cell? ⟨W.heap.size, 1, none⟩ = some (.slice A l.length cap) := hS10.cell 3 rfl 1 rfl
                           have s0 : w8.cell? ⟨rb, 0, none⟩ = some (.slice (some ⟨fb, 0, none⟩) l.length l.length) := hS10.cell 0 rfl 0 rfl
                           have s1 : w8.cell? ⟨rb, 1, none⟩ = some (.int .i64 c) := hS10.cell 0 rfl 1 rfl
                           have s2 : w8.cell? ⟨rb, 2, none⟩ = some (.slice (some ⟨hb, 0, none⟩) n n) := hS10.cell 0 rfl 2 rfl
                           have HC2 := Lib.hid (HR1.out w8 (HRD.out _ _ hS10) (hS10.blk 1 rfl) (hS10.blk 2 rfl))
                           have HS10 := Lib.hid hS10
                           clear hS10 hb8 x0 x1 r0 r1 r2)
                        | (go_at_call 28; (with_reducible refine HC2.out.mono ?_); rintro e w9 ⟨rfl, hb9⟩
                           have HS11 := Lib.hid (HS10.out.call hb9)
                           clear hb9 x2 x3 s0 s1 s2))
                      go_ret
                      exact ⟨rfl, HS11.out.below⟩
      · have hle : leastE N l s t want = E := by unfold leastE; rw [← HE.out, if_pos he]
        have HB := Lib.hid (least_bad2 N A cap l s t want E HL.out hle he)
        have hz0 : (E == 0) = false := by simpa using he
        have hz1 : (E != 0) = true := by simpa using he
        clear hle he
        as_aux_lemma =>
          go_upto_region 20 with (first
            | (go_at_call 23; (with_reducible refine (endsP_any _ _ _ _ _ _ _ (HRD.out _ _ HS1.out) HL.out).mono ?_); rintro e w2 ⟨rfl, hb2⟩
               rw [← HE.out]
               have hS2 := HS1.out.call hb2
               have d0 : w2.cell? ⟨W.heap.size, 0, none⟩ = some (.int .i64 N) := hS2.cell 0 rfl 0 rfl
               have d1 : w2.cell? ⟨W.heap.size, 1, none⟩ = some (.slice A l.length cap) := hS2.cell 0 rfl 1 rfl
               have hz2 : W.heap.size < w2.heap.size := (hS2.lt 0 rfl).2
               have HS2 := Lib.hid hS2
               clear hb2 hS2 c0 c1 hz)
            | (go_at_call 25; (with_reducible refine (HB.out _ (HRD.out _ _ HS2.out)).mono ?_); rintro e w6 ⟨rfl, hb6⟩
               have HS7 := Lib.hid (HS2.out.call hb6)
               clear hb6 d0 d1 hz2))
          have hS8 := HS7.out.alloc #[.slice none 0 0, .int .i64 0, .slice none 0 0] 49
          obtain ⟨rb, hrb⟩ : ∃ rb, rb = w6.heap.size := ⟨_, rfl⟩
          generalize (w6.alloc (.cells #[.slice none 0 0, .int .i64 0, .slice none 0 0] 49)) = w7 at *
          rw [← hrb] at hS8 ⊢
          have r0 : w7.cell? ⟨rb, 0, none⟩ = some (.slice none 0 0) := hS8.cell 0 rfl 0 rfl
          have r1 : w7.cell? ⟨rb, 1, none⟩ = some (.int .i64 0) := hS8.cell 0 rfl 1 rfl
          have r2 : w7.cell? ⟨rb, 2, none⟩ = some (.slice none 0 0) := hS8.cell 0 rfl 2 rfl
          have HS8 := Lib.hid hS8
          clear hS8 hrb
          go_wp2_with fail
          go_ret
          exact ⟨rfl, HS8.out.below⟩
set_option maxRecDepth 100000 in
theorem leastErrors_walk {H : Type} {enc : TypeId × Value → H} {base : Nat} (W : World) (v : Value) (d : DataW H) (p : List MemPlace) (o : Value.okWide Try.prog W .any base 26 v) (k : DataW.Trod enc Try.prog W 0 (fun _ => true) true 26 v d p)
    (a : Int) (_ha : (Lit.int .i64 a).wf = true) (b : Int) (_hb : (Lit.int .i64 b).wf = true) (want : Int) (_hw : (Lit.int .i64 want).wf = true) :
    Calls Try.prog 12 #[v, .int .i64 a, .int .i64 b, .int .i64 want] W fun e w' => e = .returned (.bool true) ∧ Below W.heap.size W w' := by
  obtain ⟨N, A, cap, l, rfl, hr, hl, _⟩ := net_open o k
  exact leastErrors0 W N A cap l a b want hr hl
end Go.Proofs.Ytgnmbmlpfjlbiaa
