/- The walk of law FlowErrors. -/
import Derived.Test.YtgnmbmlpfjlbiaaFlowRights
namespace Go.Proofs.Ytgnmbmlpfjlbiaa
open Go.ChangeShapes Go.WideShapes Go.ChangeAt Go.RowKit
set_option linter.unusedVariables false
theorem rangeP_snoc_bad {N : Int} {l : List PipeV} {k : Nat} (hk : k < l.length) {p : PipeV} (hp : l[k] = p) (h : BadP N p) : rangeP N (l.take (k + 1)) = 2 := by
  unfold rangeP
  rw [List.take_succ_eq_append_getElem hk, hp]
  exact if_pos ⟨p, by simp, h⟩
theorem rangeP_snoc_ok {N : Int} {l : List PipeV} {k : Nat} (hk : k < l.length) {p : PipeV} (hp : l[k] = p) (h : ¬ BadP N p) : rangeP N (l.take (k + 1)) = rangeP N (l.take k) := by
  have e : (∃ q ∈ l.take (k + 1), BadP N q) ↔ ∃ q ∈ l.take k, BadP N q := by
    rw [List.take_succ_eq_append_getElem hk, hp]
    constructor
    · rintro ⟨q, hq, hb⟩
      rcases List.mem_append.1 hq with hq | hq
      · exact ⟨q, hq, hb⟩
      · obtain rfl : q = p := by simpa using hq
        exact absurd hb h
    · rintro ⟨q, hq, hb⟩
      exact ⟨q, List.mem_append_left _ hq, hb⟩
  unfold rangeP
  by_cases c : ∃ q ∈ l.take k, BadP N q
  · rw [if_pos c, if_pos (e.2 c)]
  · rw [if_neg c, if_neg (fun h => c (e.1 h))]
theorem rangeP_nil (N : Int) (l : List PipeV) : rangeP N (l.take 0) = 0 := if_neg (by simp)
theorem rangeP_two (N : Int) (l : List PipeV) : rangeP N l = 2 ∨ rangeP N l = 0 := by
  unfold rangeP
  split
  · exact .inl rfl
  · exact .inr rfl
theorem rightPost_any {P : Program} {f : FuncId} {args : Array Value} {w : World} {N : Nat} {ps : List PipeV} {s t : Int} {X : Nat → Int} (h : Calls P f args w (FlowsPost w N ps s t X)) : ∃ (V : Int) (B : Bool), Calls P f args w fun e w' => e = .returned (.tuple #[.int .i64 V, .bool B]) ∧ Below w.heap.size w w' := by
  by_cases hg : Good N ps s t X
  · refine ⟨inn ps X t, true, h.mono fun e w' ⟨h1, h2⟩ => ⟨?_, h2⟩⟩
    rcases h1 with ⟨_, he⟩ | ⟨hn, _⟩
    · exact he
    · exact absurd hg hn
  · refine ⟨0, false, h.mono fun e w' ⟨h1, h2⟩ => ⟨?_, h2⟩⟩
    rcases h1 with ⟨hn, _⟩ | ⟨_, he⟩
    · exact absurd hn hg
    · exact he
theorem endsP_nonneg {N s t : Int} {l : List PipeV} (he : endsP N l s t = 0) : 0 ≤ N := by
  have hck : checkP N l = 0 := by
    unfold endsP at he
    split at he <;> omega
  exact (checkP_ok hck).1
/-- Right answers something, if the ends may be. -/
theorem right_some (N : Int) (A AL : Option Addr) (cap lc : Nat) (ps : List PipeV) (fl : List Int) (s t : Int) (he : endsP N ps s t = 0) :
    ∃ (V : Int) (B : Bool), ∀ w : World, Pipes w w.heap.size A ps → ps.length ≤ maxLen → Reads w w.heap.size 1 AL fl.length (fl.map (.int .i64)) → fl.length ≤ maxLen → Calls Try.prog 21 #[.agg #[.int .i64 N, .slice A ps.length cap], .slice AL fl.length lc, .int .i64 s, .int .i64 t] w fun e w' => e = .returned (.tuple #[.int .i64 V, .bool B]) ∧ Below w.heap.size w w' := by
  by_cases hfl : fl.length = ps.length
  · have h0 := endsP_nonneg he
    obtain ⟨n, rfl⟩ : ∃ n : Nat, N = n := ⟨N.toNat, by omega⟩
    obtain ⟨X, hX⟩ : ∃ X, X = fun k => fl.getD k 0 := ⟨_, rfl⟩
    have key : ∀ w : World, Pipes w w.heap.size A ps → Reads w w.heap.size 1 AL fl.length (fl.map (.int .i64)) → Calls Try.prog 21 #[.agg #[.int .i64 n, .slice A ps.length cap], .slice AL fl.length lc, .int .i64 s, .int .i64 t] w (FlowsPost w n ps s t X) := by
      intro w hr hf
      have := right_any n A AL cap lc ps fl s t w hr hf hfl he X (by intro k hk; simp [hX, hk])
      rw [← hfl] at this ⊢
      exact this
    by_cases hg : Good n ps s t X
    · refine ⟨inn ps X t, true, fun w hr _ hf _ => (key w hr hf).mono fun e w' ⟨h1, h2⟩ => ⟨?_, h2⟩⟩
      rcases h1 with ⟨_, he⟩ | ⟨hn, _⟩
      · exact he
      · exact absurd hg hn
    · refine ⟨0, false, fun w hr _ hf _ => (key w hr hf).mono fun e w' ⟨h1, h2⟩ => ⟨?_, h2⟩⟩
      rcases h1 with ⟨hn, _⟩ | ⟨_, he⟩
      · exact absurd hn hg
      · exact he
  · exact ⟨0, false, fun w hr hl _ hn => right_bad N A AL cap fl.length lc ps s t w hr hl hn (.inr hfl)⟩

set_option maxRecDepth 100000 in
set_option maxHeartbeats 8000000 in
theorem flowErrors0 (W : World) (N : Int) (A : Option Addr) (cap : Nat) (l : List PipeV) (s t : Int) (AR : Option Addr) (rc : Nat) (raw : List Int) (hr : Pipes W W.heap.size A l) (hl : l.length ≤ maxLen) (hraw : Reads W W.heap.size 1 AR raw.length (raw.map (.int .i64))) (hrl : raw.length ≤ maxLen) :
    Calls Try.prog 7 #[.agg #[.int .i64 N, .slice A l.length cap], .int .i64 s, .int .i64 t, .slice AR raw.length rc] W fun e w' => e = .returned (.bool true) ∧ Below W.heap.size W w' := by
  have hS0 := (SL.start (Nat.le_refl W.heap.size)).alloc #[.int .i64 N, .slice A l.length cap] 26
  have HR := Lib.hid hr
  have HRAW := Lib.hid (And.intro hraw hrl)
  have HS0 := Lib.hid hS0
  unfold maxLen at hl hrl
  clear hr hraw hS0
  by_cases g0 : 30 < l.length
  · have g0i : (30 : Int) < (l.length : Int) := by omega
    go_enter Try.func7, Try.ntmps7
    go_wp2_with (go_at_call 13; (with_reducible refine (awake09 _).mono ?_); rintro e w1 ⟨rfl, hb1⟩
                 have hS1 := HS0.out.call hb1
                 have c0 : w1.cell? ⟨W.heap.size, 0, none⟩ = some (.int .i64 N) := hS1.cell 0 rfl 0 rfl
                 have c1 : w1.cell? ⟨W.heap.size, 1, none⟩ = some (.slice A l.length cap) := hS1.cell 0 rfl 1 rfl
                 have hz : W.heap.size < w1.heap.size := (hS1.lt 0 rfl).2
                 have HS1 := Lib.hid hS1
                 clear hb1 hS1)
    go_ret
    exact ⟨rfl, HS1.out.below⟩
  · have g0i : ¬ (30 : Int) < (l.length : Int) := by omega
    by_cases g1 : 20 < N ∧ N ≤ 1000
    · obtain ⟨g2, g3⟩ := g1
      go_enter Try.func7, Try.ntmps7
      go_wp2_with (go_at_call 13; (with_reducible refine (awake09 _).mono ?_); rintro e w1 ⟨rfl, hb1⟩
                   have hS1 := HS0.out.call hb1
                   have c0 : w1.cell? ⟨W.heap.size, 0, none⟩ = some (.int .i64 N) := hS1.cell 0 rfl 0 rfl
                   have c1 : w1.cell? ⟨W.heap.size, 1, none⟩ = some (.slice A l.length cap) := hS1.cell 0 rfl 1 rfl
                   have hz : W.heap.size < w1.heap.size := (hS1.lt 0 rfl).2
                   have HS1 := Lib.hid hS1
                   clear hb1 hS1)
      go_ret
      exact ⟨rfl, HS1.out.below⟩
    · obtain ⟨C, hC⟩ : ∃ C, C = checkP N l := ⟨_, rfl⟩
      obtain ⟨E, hE⟩ : ∃ E, E = endsP N l s t := ⟨_, rfl⟩
      have HC := Lib.hid (And.intro hC hE)
      clear hC hE
      go_enter Try.func7, Try.ntmps7
      go_upto_region 3 with (go_at_call 13; (with_reducible refine (awake09 _).mono ?_); rintro e w1 ⟨rfl, hb1⟩
                             have hS1 := HS0.out.call hb1
                             have c0 : w1.cell? ⟨W.heap.size, 0, none⟩ = some (.int .i64 N) := hS1.cell 0 rfl 0 rfl
                             have c1 : w1.cell? ⟨W.heap.size, 1, none⟩ = some (.slice A l.length cap) := hS1.cell 0 rfl 1 rfl
                             have hz : W.heap.size < w1.heap.size := (hS1.lt 0 rfl).2
                             have HS1 := Lib.hid hS1
                             clear hb1 hS1)
      go_cut [33] (fun c wx => c = .bool false ∧ SL W W.heap.size [.blk W.heap.size #[.int .i64 N, .slice A l.length cap] 26] wx)
      case first =>
        by_cases g4 : 20 < N
        · have g5 : ¬ N ≤ 1000 := by omega
          clear g1
          go_wp2_with fail
          go_meet
          exact ⟨by rw [decide_eq_false (Int.not_lt.2 g0i)], HS1.out⟩
        · clear g1
          go_wp2_with fail
          go_meet
          exact ⟨by rw [decide_eq_false (Int.not_lt.2 g0i)], HS1.out⟩
      clear HS1 c0 c1 hz
      obtain ⟨wa, rfl⟩ : ∃ wa : World, wa = wc := ⟨_, rfl⟩
      obtain ⟨rfl, hcut⟩ := hcut
      have HS1 := Lib.hid hcut
      have c0 : wa.cell? ⟨W.heap.size, 0, none⟩ = some (.int .i64 N) := hcut.cell 0 rfl 0 rfl
      have c1 : wa.cell? ⟨W.heap.size, 1, none⟩ = some (.slice A l.length cap) := hcut.cell 0 rfl 1 rfl
      have hz : W.heap.size < wa.heap.size := (hcut.lt 0 rfl).2
      clear hcut
      go_wp2_with fail
      go_loopw [9, 37] (fun v i wr => ∃ k : Nat, k ≤ l.length ∧ i = .int .i64 k ∧ v = .int .i64 (rangeP N (l.take k)) ∧ SL W W.heap.size [.blk W.heap.size #[.int .i64 N, .slice A l.length cap] 26] wr) (fun _ i _ => l.length - (intOf i).toNat)
      case atStart => exact ⟨0, by omega, rfl, by rw [rangeP_nil], HS1.out⟩
      case round =>
          clear HS1 c0 c1 hz
          obtain ⟨k, hk, rfl, rfl, hS⟩ := hrel
          have c0 : wr.cell? ⟨W.heap.size, 0, none⟩ = some (.int .i64 N) := hS.cell 0 rfl 0 rfl
          have c1 : wr.cell? ⟨W.heap.size, 1, none⟩ = some (.slice A l.length cap) := hS.cell 0 rfl 1 rfl
          have hz : W.heap.size < wr.heap.size := (hS.lt 0 rfl).2
          by_cases hlt : k < l.length
          · obtain ⟨b, o, rfl, hb, d0, d1, d2, d3⟩ := pipes_at (Reads.below HR.out hS.below) hlt
            obtain ⟨p, hp⟩ : ∃ p, l[k] = p := ⟨_, rfl⟩
            rw [hp] at d0 d1 d2 d3
            have HP : Hid (l[k] = p) := Lib.hid hp
            have hS2 := hS.alloc #[.int .i64 p.fr, .int .i64 p.to, .int .i64 p.room, .int .i64 p.cost] 40
            have HS2 := Lib.hid hS2
            obtain ⟨R, hR⟩ : ∃ R, R = rangeP N (l.take k) := ⟨_, rfl⟩
            rw [← hR]
            have HRR := Lib.hid hR
            clear hp hS hS2 hR
            by_cases q0 : p.fr < 0
            · as_aux_lemma =>
                have HB := Lib.hid (rangeP_snoc_bad (N := N) hlt HP.out (by unfold BadP; omega))
                go_wp2_with fail
                go_roundw
                case rel => exact ⟨k + 1, by omega, by go_num, by rw [HB.out], HS2.out.tail⟩
                case measure => simp [intOf]; omega
            · skip
              by_cases q1 : N ≤ p.fr
              · as_aux_lemma =>
                  have HB := Lib.hid (rangeP_snoc_bad (N := N) hlt HP.out (by unfold BadP; omega))
                  go_wp2_with fail
                  go_roundw
                  case rel => exact ⟨k + 1, by omega, by go_num, by rw [HB.out], HS2.out.tail⟩
                  case measure => simp [intOf]; omega
              · skip
                by_cases q2 : p.to < 0
                · as_aux_lemma =>
                    have HB := Lib.hid (rangeP_snoc_bad (N := N) hlt HP.out (by unfold BadP; omega))
                    go_wp2_with fail
                    go_roundw
                    case rel => exact ⟨k + 1, by omega, by go_num, by rw [HB.out], HS2.out.tail⟩
                    case measure => simp [intOf]; omega
                · skip
                  by_cases q3 : N ≤ p.to
                  · as_aux_lemma =>
                      have HB := Lib.hid (rangeP_snoc_bad (N := N) hlt HP.out (by unfold BadP; omega))
                      go_wp2_with fail
                      go_roundw
                      case rel => exact ⟨k + 1, by omega, by go_num, by rw [HB.out], HS2.out.tail⟩
                      case measure => simp [intOf]; omega
                  · skip
                    by_cases q4 : p.room < 0
                    · as_aux_lemma =>
                        have HB := Lib.hid (rangeP_snoc_bad (N := N) hlt HP.out (by unfold BadP; omega))
                        go_wp2_with fail
                        go_roundw
                        case rel => exact ⟨k + 1, by omega, by go_num, by rw [HB.out], HS2.out.tail⟩
                        case measure => simp [intOf]; omega
                    · skip
                      by_cases q5 : 1099511627776 < p.room
                      · as_aux_lemma =>
                          have HB := Lib.hid (rangeP_snoc_bad (N := N) hlt HP.out (by unfold BadP; omega))
                          go_wp2_with fail
                          go_roundw
                          case rel => exact ⟨k + 1, by omega, by go_num, by rw [HB.out], HS2.out.tail⟩
                          case measure => simp [intOf]; omega
                      · skip
                        by_cases q6 : p.cost < -1099511627776
                        · as_aux_lemma =>
                            have HB := Lib.hid (rangeP_snoc_bad (N := N) hlt HP.out (by unfold BadP; omega))
                            go_wp2_with fail
                            go_roundw
                            case rel => exact ⟨k + 1, by omega, by go_num, by rw [HB.out], HS2.out.tail⟩
                            case measure => simp [intOf]; omega
                        · skip
                          by_cases q7 : 1099511627776 < p.cost
                          · as_aux_lemma =>
                              have HB := Lib.hid (rangeP_snoc_bad (N := N) hlt HP.out (by unfold BadP; omega))
                              go_wp2_with fail
                              go_roundw
                              case rel => exact ⟨k + 1, by omega, by go_num, by rw [HB.out], HS2.out.tail⟩
                              case measure => simp [intOf]; omega
                          · skip
                            have HB := Lib.hid (rangeP_snoc_ok (N := N) hlt HP.out (by unfold BadP; omega))
                            go_wp2_with fail
                            go_roundw
                            case rel => exact ⟨k + 1, by omega, by go_num, by rw [HB.out, HRR.out], HS2.out.tail⟩
                            case measure => simp [intOf]; omega
          · obtain rfl : k = l.length := by omega
            rw [List.take_length]
            have HS := Lib.hid hS
            clear hS
            obtain ⟨R, hR⟩ : ∃ R, R = rangeP N l := ⟨_, rfl⟩
            rw [← hR]
            have HRR := Lib.hid hR
            clear hR
            go_upto_region 12 with fail
            go_cut [91] (fun a wx => ∃ b : Bool, a = .bool b ∧ Hid (C = if b = true then 4 else R) ∧ SL W W.heap.size [.blk W.heap.size #[.int .i64 N, .slice A l.length cap] 26] wx)
            case first =>
              by_cases n0 : N < 0
              · have HC4 : Hid (C = 4) := Lib.hid (by rw [HC.out.1]; unfold checkP; rw [if_pos (.inl n0)])
                as_aux_lemma =>
                  go_wp2_with fail
                  go_meet
                  exact ⟨true, rfl, Lib.hid (by rw [HC4.out]; rfl), HS.out⟩
              · by_cases n1 : 1000 < N
                · have HC4 : Hid (C = 4) := Lib.hid (by rw [HC.out.1]; unfold checkP; rw [if_pos (.inr (.inl n1))])
                  as_aux_lemma =>
                    go_wp2_with fail
                    go_meet
                    exact ⟨true, rfl, Lib.hid (by rw [HC4.out]; rfl), HS.out⟩
                · have HCR : Hid (C = R) := Lib.hid (by rw [HC.out.1, HRR.out]; unfold checkP; rw [if_neg (by omega)])
                  as_aux_lemma =>
                    go_wp2_with fail
                    go_meet
                    exact ⟨false, rfl, Lib.hid (by rw [HCR.out]; rfl), HS.out⟩
            clear c0 c1 hz HS
            obtain ⟨wb, rfl⟩ : ∃ wb : World, wb = wc := ⟨_, rfl⟩
            obtain ⟨b, rfl, HB, hS⟩ := hcut
            have c0 : wb.cell? ⟨W.heap.size, 0, none⟩ = some (.int .i64 N) := hS.cell 0 rfl 0 rfl
            have c1 : wb.cell? ⟨W.heap.size, 1, none⟩ = some (.slice A l.length cap) := hS.cell 0 rfl 1 rfl
            have hz : W.heap.size < wb.heap.size := (hS.lt 0 rfl).2
            have HS := Lib.hid hS
            clear hS
            go_upto_if 91 with fail
            go_cut [9] (fun a wx => a = .int .i64 C ∧ SL W W.heap.size [.blk W.heap.size #[.int .i64 N, .slice A l.length cap] 26] wx)
            case first =>
              cases b
              · have HCC : Hid (C = R) := Lib.hid (by rw [HB.out]; rfl)
                as_aux_lemma =>
                  go_wp2_with fail
                  go_meet
                  exact ⟨by rw [HCC.out], HS.out⟩
              · have HCC : Hid (C = 4) := Lib.hid (by rw [HB.out]; rfl)
                as_aux_lemma =>
                  go_wp2_with fail
                  go_meet
                  exact ⟨by rw [HCC.out], HS.out⟩
            clear c0 c1 hz HS HB
            obtain ⟨wd, rfl⟩ : ∃ wd : World, wd = wc := ⟨_, rfl⟩
            obtain ⟨rfl, hS⟩ := hcut
            have c0 : wd.cell? ⟨W.heap.size, 0, none⟩ = some (.int .i64 N) := hS.cell 0 rfl 0 rfl
            have c1 : wd.cell? ⟨W.heap.size, 1, none⟩ = some (.slice A l.length cap) := hS.cell 0 rfl 1 rfl
            have hz : W.heap.size < wd.heap.size := (hS.lt 0 rfl).2
            have HS := Lib.hid hS
            clear hS
            go_upto_region 15 with fail
            go_cut [119] (fun a wx => ∃ b : Bool, a = .bool b ∧ Hid (E = if b = true then 2 else C) ∧ SL W W.heap.size [.blk W.heap.size #[.int .i64 N, .slice A l.length cap] 26] wx)
            case first =>
              by_cases hc : C = 0
              · have HC0 : Hid (C = 0) := Lib.hid hc
                have hcz : (C == 0) = true := by simpa using hc
                clear hc
                by_cases e0 : s < 0
                · have HE2 : Hid (E = 2) := Lib.hid (by rw [HC.out.2]; unfold endsP; rw [← HC.out.1, HC0.out, if_neg (by simp), if_pos (.inl e0)])
                  as_aux_lemma =>
                    go_wp2_with fail
                    go_meet
                    exact ⟨true, rfl, Lib.hid (by rw [HE2.out]; rfl), HS.out⟩
                · skip
                  by_cases e1 : N ≤ s
                  · have HE2 : Hid (E = 2) := Lib.hid (by rw [HC.out.2]; unfold endsP; rw [← HC.out.1, HC0.out, if_neg (by simp), if_pos (.inr (.inl e1))])
                    as_aux_lemma =>
                      go_wp2_with fail
                      go_meet
                      exact ⟨true, rfl, Lib.hid (by rw [HE2.out]; rfl), HS.out⟩
                  · skip
                    by_cases e2 : t < 0
                    · have HE2 : Hid (E = 2) := Lib.hid (by rw [HC.out.2]; unfold endsP; rw [← HC.out.1, HC0.out, if_neg (by simp), if_pos (.inr (.inr (.inl e2)))])
                      as_aux_lemma =>
                        go_wp2_with fail
                        go_meet
                        exact ⟨true, rfl, Lib.hid (by rw [HE2.out]; rfl), HS.out⟩
                    · skip
                      by_cases e3 : N ≤ t
                      · have HE2 : Hid (E = 2) := Lib.hid (by rw [HC.out.2]; unfold endsP; rw [← HC.out.1, HC0.out, if_neg (by simp), if_pos (.inr (.inr (.inr (.inl e3))))])
                        as_aux_lemma =>
                          go_wp2_with fail
                          go_meet
                          exact ⟨true, rfl, Lib.hid (by rw [HE2.out]; rfl), HS.out⟩
                      · skip
                        by_cases e4 : s = t
                        · have HE2 : Hid (E = 2) := Lib.hid (by rw [HC.out.2]; unfold endsP; rw [← HC.out.1, HC0.out, if_neg (by simp), if_pos (.inr (.inr (.inr (.inr e4))))])
                          have hz4 : (s == t) = true := by simpa using e4
                          clear e4
                          as_aux_lemma =>
                            go_wp2_with fail
                            go_meet
                            exact ⟨true, rfl, Lib.hid (by rw [HE2.out]; rfl), HS.out⟩
                        · skip
                          have HE2 : Hid (E = C) := Lib.hid (by rw [HC.out.2]; unfold endsP; rw [← HC.out.1, HC0.out, if_neg (by simp), if_neg (by omega)])
                          have hz4 : (s == t) = false := by simpa using e4
                          clear e4
                          as_aux_lemma =>
                            go_wp2_with fail
                            go_meet
                            exact ⟨false, rfl, Lib.hid (by rw [HE2.out]; rfl), HS.out⟩
              · have HE2 : Hid (E = C) := Lib.hid (by rw [HC.out.2]; unfold endsP; rw [← HC.out.1, if_pos hc])
                have hcz : (C == 0) = false := by simpa using hc
                clear hc
                as_aux_lemma =>
                  go_wp2_with fail
                  go_meet
                  exact ⟨false, rfl, Lib.hid (by rw [HE2.out]; rfl), HS.out⟩
            clear c0 c1 hz HS
            obtain ⟨we, rfl⟩ : ∃ we : World, we = wc := ⟨_, rfl⟩
            obtain ⟨b, rfl, HB, hS⟩ := hcut
            have c0 : we.cell? ⟨W.heap.size, 0, none⟩ = some (.int .i64 N) := hS.cell 0 rfl 0 rfl
            have c1 : we.cell? ⟨W.heap.size, 1, none⟩ = some (.slice A l.length cap) := hS.cell 0 rfl 1 rfl
            have hz : W.heap.size < we.heap.size := (hS.lt 0 rfl).2
            have HS := Lib.hid hS
            clear hS
            go_upto_if 119 with fail
            go_cut [12] (fun a wx => a = .int .i64 E ∧ SL W W.heap.size [.blk W.heap.size #[.int .i64 N, .slice A l.length cap] 26] wx)
            case first =>
              cases b
              · have HCC : Hid (E = C) := Lib.hid (by rw [HB.out]; rfl)
                as_aux_lemma =>
                  go_wp2_with fail
                  go_meet
                  exact ⟨by rw [HCC.out], HS.out⟩
              · have HCC : Hid (E = 2) := Lib.hid (by rw [HB.out]; rfl)
                as_aux_lemma =>
                  go_wp2_with fail
                  go_meet
                  exact ⟨by rw [HCC.out], HS.out⟩
            clear c0 c1 hz HS HB
            obtain ⟨wg, rfl⟩ : ∃ wg : World, wg = wc := ⟨_, rfl⟩
            obtain ⟨rfl, hS⟩ := hcut
            have c0 : wg.cell? ⟨W.heap.size, 0, none⟩ = some (.int .i64 N) := hS.cell 0 rfl 0 rfl
            have c1 : wg.cell? ⟨W.heap.size, 1, none⟩ = some (.slice A l.length cap) := hS.cell 0 rfl 1 rfl
            have hz : W.heap.size < wg.heap.size := (hS.lt 0 rfl).2
            have HS := Lib.hid hS
            clear hS
            have hcc : (C != C) = false := by simp
            have hee : (E != E) = false := by simp
            have HPI : Hid (∀ wx, SL W W.heap.size [.blk W.heap.size #[.int .i64 N, .slice A l.length cap] 26] wx → Pipes wx wx.heap.size A l) := Lib.hid (fun wx h => reads_more (Reads.below HR.out h.below) h.size)
            have HRW : Hid (∀ wx, SL W W.heap.size [.blk W.heap.size #[.int .i64 N, .slice A l.length cap] 26] wx → Reads wx wx.heap.size 1 AR raw.length (raw.map (.int .i64))) := Lib.hid (fun wx h => reads_more (Reads.below HRAW.out.1 h.below) h.size)
            have HCK : Hid (∀ wx, SL W W.heap.size [.blk W.heap.size #[.int .i64 N, .slice A l.length cap] 26] wx → Calls Try.prog 22 #[.agg #[.int .i64 N, .slice A l.length cap]] wx fun e w' => e = .returned (.int .i64 C) ∧ Below wx.heap.size wx w') := Lib.hid (fun wx h => by rw [HC.out.1]; exact checkP_any N A cap l wx (HPI.out wx h) (by unfold maxLen; omega))
            have HEN : Hid (∀ wx, SL W W.heap.size [.blk W.heap.size #[.int .i64 N, .slice A l.length cap] 26] wx → Calls Try.prog 23 #[.agg #[.int .i64 N, .slice A l.length cap], .int .i64 s, .int .i64 t] wx fun e w' => e = .returned (.int .i64 E) ∧ Below wx.heap.size wx w') := Lib.hid (fun wx h => by rw [HC.out.2]; exact endsP_any N A cap l s t wx (HPI.out wx h) (by unfold maxLen; omega))
            have HCU : Hid (Hid (C ≠ 0 ∨ raw.length ≠ l.length ∨ s < 0 ∨ N ≤ s) → ∀ wx, SL W W.heap.size [.blk W.heap.size #[.int .i64 N, .slice A l.length cap] 26] wx → Calls Try.prog 20 #[.agg #[.int .i64 N, .slice A l.length cap], .slice AR raw.length rc, .int .i64 s] wx fun e w' => e = .returned (.slice none 0 0) ∧ Below wx.heap.size wx w') := Lib.hid (fun h1 wx h => cut_bad N A AR cap raw.length rc l s wx (HPI.out wx h) (by unfold maxLen; omega) (by unfold maxLen; omega) (by rw [← HC.out.1]; exact h1.out))
            by_cases hE0 : E = 0
            · skip
              obtain rfl := hE0
              have hz0 : ((0 : Int) != 0) = false := rfl
              have hz1 : ((0 : Int) == 0) = true := rfl
              have HMO : Hid (∀ wx, SL W W.heap.size [.blk W.heap.size #[.int .i64 N, .slice A l.length cap] 26] wx → Calls Try.prog 16 #[.agg #[.int .i64 N, .slice A l.length cap], .int .i64 s, .int .i64 t] wx fun e w' => (∃ lb sum, e = .returned (.tuple #[.slice (some ⟨lb, 0, none⟩) l.length l.length, .int .i64 sum, .int .i64 0])) ∧ Below wx.heap.size wx w') := Lib.hid (fun wx h => by
                obtain ⟨n, hn⟩ : ∃ n : Nat, N = n := ⟨N.toNat, by have := endsP_nonneg HC.out.2.symm; omega⟩
                rw [hn]
                refine (most_any n A cap l s t wx (HPI.out wx h) (by rw [← hn]; exact HC.out.2.symm)).mono ?_
                rintro e w' ⟨y, sum, lb, rfl, hS, _⟩
                exact ⟨⟨lb, sum, rfl⟩, hS.below⟩)
              obtain ⟨V, B, hRI⟩ : ∃ (V : Int) (B : Bool), ∀ wx, SL W W.heap.size [.blk W.heap.size #[.int .i64 N, .slice A l.length cap] 26] wx → Calls Try.prog 21 #[.agg #[.int .i64 N, .slice A l.length cap], .slice AR raw.length rc, .int .i64 s, .int .i64 t] wx fun e w' => e = .returned (.tuple #[.int .i64 V, .bool B]) ∧ Below wx.heap.size wx w' := by
                obtain ⟨V, B, h⟩ := right_some N A AR cap rc l raw s t HC.out.2.symm
                exact ⟨V, B, fun wx hx => h wx (HPI.out wx hx) (by unfold maxLen; omega) (HRW.out wx hx) (by unfold maxLen; omega)⟩
              have HRI := Lib.hid hRI
              clear hRI
              go_upto_region 22 with (first
                | (go_at_call 22; (with_reducible refine (HCK.out _ HS.out).mono ?_); rintro e wn ⟨rfl, hbn⟩
                   have hSn := HS.out.call hbn
                   have HS1a : wn.cell? ⟨W.heap.size, 0, none⟩ = some (.int .i64 N) := hSn.cell 0 rfl 0 rfl
                   have HS1b : wn.cell? ⟨W.heap.size, 1, none⟩ = some (.slice A l.length cap) := hSn.cell 0 rfl 1 rfl
                   have HS1c : W.heap.size < wn.heap.size := (hSn.lt 0 rfl).2
                   have HS1 := Lib.hid hSn
                   clear hbn hSn c0 c1 hz)
                | (go_at_call 23; (with_reducible refine (HEN.out _ HS1.out).mono ?_); rintro e wn ⟨rfl, hbn⟩
                   have hSn := HS1.out.call hbn
                   have HS2a : wn.cell? ⟨W.heap.size, 0, none⟩ = some (.int .i64 N) := hSn.cell 0 rfl 0 rfl
                   have HS2b : wn.cell? ⟨W.heap.size, 1, none⟩ = some (.slice A l.length cap) := hSn.cell 0 rfl 1 rfl
                   have HS2c : W.heap.size < wn.heap.size := (hSn.lt 0 rfl).2
                   have HS2 := Lib.hid hSn
                   clear hbn hSn HS1a HS1b HS1c)
                | (go_at_call 16; (with_reducible refine (HMO.out _ HS2.out).mono ?_); rintro e wn ⟨⟨lb, sum, rfl⟩, hbn⟩
                   have hSn := HS2.out.call hbn
                   have HS3a : wn.cell? ⟨W.heap.size, 0, none⟩ = some (.int .i64 N) := hSn.cell 0 rfl 0 rfl
                   have HS3b : wn.cell? ⟨W.heap.size, 1, none⟩ = some (.slice A l.length cap) := hSn.cell 0 rfl 1 rfl
                   have HS3c : W.heap.size < wn.heap.size := (hSn.lt 0 rfl).2
                   have HS3 := Lib.hid hSn
                   clear hbn hSn HS2a HS2b HS2c))
              go_cut [175] (fun a wx => ∃ b : Bool, a = .bool b ∧ Hid (b = true → Hid (C ≠ 0 ∨ raw.length ≠ l.length ∨ s < 0 ∨ N ≤ s)) ∧ SL W W.heap.size [.blk W.heap.size #[.int .i64 N, .slice A l.length cap] 26] wx)
              case first =>
                by_cases k0 : C = 0
                · have kz : (C != 0) = false := by simpa using k0
                  clear k0
                  by_cases k1 : raw.length = l.length
                  · have kz1 : ((raw.length : Int) != (l.length : Int)) = false := by rw [k1]; simp
                    clear k1
                    by_cases k2 : s < 0
                    · skip
                      as_aux_lemma =>
                        go_wp2_with fail
                        go_meet
                        exact ⟨true, rfl, Lib.hid (fun h => Lib.hid (.inr (.inr (.inl k2)))), HS3.out⟩
                    · by_cases k3 : N ≤ s
                      · skip
                        as_aux_lemma =>
                          go_wp2_with fail
                          go_meet
                          exact ⟨true, rfl, Lib.hid (fun h => Lib.hid (.inr (.inr (.inr k3)))), HS3.out⟩
                      · skip
                        as_aux_lemma =>
                          go_wp2_with fail
                          go_meet
                          exact ⟨false, rfl, Lib.hid (fun h => by cases h), HS3.out⟩
                  · have kz1 : ((raw.length : Int) != (l.length : Int)) = true := by rw [bne_iff_ne]; omega
                    have K1 := Lib.hid k1
                    clear k1
                    as_aux_lemma =>
                      go_wp2_with fail
                      go_meet
                      exact ⟨true, rfl, Lib.hid (fun h => Lib.hid (.inr (.inl K1.out))), HS3.out⟩
                · have kz : (C != 0) = true := by simpa using k0
                  have K1 := Lib.hid k0
                  clear k0
                  as_aux_lemma =>
                    go_wp2_with fail
                    go_meet
                    exact ⟨true, rfl, Lib.hid (fun h => Lib.hid (.inl K1.out)), HS3.out⟩
              clear HS3a HS3b HS3c HS3
              obtain ⟨wq, rfl⟩ : ∃ wq : World, wq = wc := ⟨_, rfl⟩
              obtain ⟨b, rfl, HB, hS⟩ := hcut
              have c0 : wq.cell? ⟨W.heap.size, 0, none⟩ = some (.int .i64 N) := hS.cell 0 rfl 0 rfl
              have c1 : wq.cell? ⟨W.heap.size, 1, none⟩ = some (.slice A l.length cap) := hS.cell 0 rfl 1 rfl
              have hz : W.heap.size < wq.heap.size := (hS.lt 0 rfl).2
              have HS := Lib.hid hS
              clear hS
              cases b
              · as_aux_lemma =>
                  go_wp2_with (go_at_call 21; (with_reducible refine (HRI.out _ HS.out).mono ?_); rintro e wn ⟨rfl, hbn⟩
                               have hSn := HS.out.call hbn
                               have HS1a : wn.cell? ⟨W.heap.size, 0, none⟩ = some (.int .i64 N) := hSn.cell 0 rfl 0 rfl
                               have HS1b : wn.cell? ⟨W.heap.size, 1, none⟩ = some (.slice A l.length cap) := hSn.cell 0 rfl 1 rfl
                               have HS1c : W.heap.size < wn.heap.size := (hSn.lt 0 rfl).2
                               have HS1 := Lib.hid hSn
                               clear hbn hSn c0 c1 hz)
                  go_ret
                  exact ⟨rfl, HS1.out.below⟩
              · have HCV := Lib.hid (HCU.out (HB.out rfl))
                as_aux_lemma =>
                  go_wp2_with (first
                    | (go_at_call 20; (with_reducible refine (HCV.out _ HS.out).mono ?_); rintro e wn ⟨rfl, hbn⟩
                       have hSn := HS.out.call hbn
                       have HS1a : wn.cell? ⟨W.heap.size, 0, none⟩ = some (.int .i64 N) := hSn.cell 0 rfl 0 rfl
                       have HS1b : wn.cell? ⟨W.heap.size, 1, none⟩ = some (.slice A l.length cap) := hSn.cell 0 rfl 1 rfl
                       have HS1c : W.heap.size < wn.heap.size := (hSn.lt 0 rfl).2
                       have HS1 := Lib.hid hSn
                       clear hbn hSn c0 c1 hz)
                    | (go_at_call 21; (with_reducible refine (HRI.out _ HS1.out).mono ?_); rintro e wn ⟨rfl, hbn⟩
                       have hSn := HS1.out.call hbn
                       have HS2a : wn.cell? ⟨W.heap.size, 0, none⟩ = some (.int .i64 N) := hSn.cell 0 rfl 0 rfl
                       have HS2b : wn.cell? ⟨W.heap.size, 1, none⟩ = some (.slice A l.length cap) := hSn.cell 0 rfl 1 rfl
                       have HS2c : W.heap.size < wn.heap.size := (hSn.lt 0 rfl).2
                       have HS2 := Lib.hid hSn
                       clear hbn hSn HS1a HS1b HS1c))
                  go_ret
                  exact ⟨rfl, HS2.out.below⟩
            · skip
              have hz0 : (E != 0) = true := by simpa using hE0
              have hz1 : (E == 0) = false := by simpa using hE0
              have hz2 : ((0 : Int) != 0) = false := rfl
              have hz3 : ((0 : Int) == 0) = true := rfl
              have HMO : Hid (∀ wx, SL W W.heap.size [.blk W.heap.size #[.int .i64 N, .slice A l.length cap] 26] wx → Calls Try.prog 16 #[.agg #[.int .i64 N, .slice A l.length cap], .int .i64 s, .int .i64 t] wx fun e w' => e = .returned (.tuple #[.slice none 0 0, .int .i64 0, .int .i64 E]) ∧ Below wx.heap.size wx w') := Lib.hid (fun wx h => by
                rw [HC.out.2]
                exact most_bad N A cap l s t wx (HPI.out wx h) (by unfold maxLen; omega) (by rw [← HC.out.2]; exact hE0))
              have HRI : Hid (∀ wx, SL W W.heap.size [.blk W.heap.size #[.int .i64 N, .slice A l.length cap] 26] wx → Calls Try.prog 21 #[.agg #[.int .i64 N, .slice A l.length cap], .slice AR raw.length rc, .int .i64 s, .int .i64 t] wx fun e w' => e = .returned (.tuple #[.int .i64 0, .bool false]) ∧ Below wx.heap.size wx w') := Lib.hid (fun wx h => right_bad N A AR cap raw.length rc l s t wx (HPI.out wx h) (by unfold maxLen; omega) (by unfold maxLen; omega) (.inl (by rw [← HC.out.2]; exact hE0)))
              clear hE0
              go_upto_region 22 with (first
                | (go_at_call 22; (with_reducible refine (HCK.out _ HS.out).mono ?_); rintro e wn ⟨rfl, hbn⟩
                   have hSn := HS.out.call hbn
                   have HS1a : wn.cell? ⟨W.heap.size, 0, none⟩ = some (.int .i64 N) := hSn.cell 0 rfl 0 rfl
                   have HS1b : wn.cell? ⟨W.heap.size, 1, none⟩ = some (.slice A l.length cap) := hSn.cell 0 rfl 1 rfl
                   have HS1c : W.heap.size < wn.heap.size := (hSn.lt 0 rfl).2
                   have HS1 := Lib.hid hSn
                   clear hbn hSn c0 c1 hz)
                | (go_at_call 23; (with_reducible refine (HEN.out _ HS1.out).mono ?_); rintro e wn ⟨rfl, hbn⟩
                   have hSn := HS1.out.call hbn
                   have HS2a : wn.cell? ⟨W.heap.size, 0, none⟩ = some (.int .i64 N) := hSn.cell 0 rfl 0 rfl
                   have HS2b : wn.cell? ⟨W.heap.size, 1, none⟩ = some (.slice A l.length cap) := hSn.cell 0 rfl 1 rfl
                   have HS2c : W.heap.size < wn.heap.size := (hSn.lt 0 rfl).2
                   have HS2 := Lib.hid hSn
                   clear hbn hSn HS1a HS1b HS1c)
                | (go_at_call 16; (with_reducible refine (HMO.out _ HS2.out).mono ?_); rintro e wn ⟨rfl, hbn⟩
                   have hSn := HS2.out.call hbn
                   have HS3a : wn.cell? ⟨W.heap.size, 0, none⟩ = some (.int .i64 N) := hSn.cell 0 rfl 0 rfl
                   have HS3b : wn.cell? ⟨W.heap.size, 1, none⟩ = some (.slice A l.length cap) := hSn.cell 0 rfl 1 rfl
                   have HS3c : W.heap.size < wn.heap.size := (hSn.lt 0 rfl).2
                   have HS3 := Lib.hid hSn
                   clear hbn hSn HS2a HS2b HS2c))
              go_cut [175] (fun a wx => ∃ b : Bool, a = .bool b ∧ Hid (b = true → Hid (C ≠ 0 ∨ raw.length ≠ l.length ∨ s < 0 ∨ N ≤ s)) ∧ SL W W.heap.size [.blk W.heap.size #[.int .i64 N, .slice A l.length cap] 26] wx)
              case first =>
                by_cases k0 : C = 0
                · have kz : (C != 0) = false := by simpa using k0
                  clear k0
                  by_cases k1 : raw.length = l.length
                  · have kz1 : ((raw.length : Int) != (l.length : Int)) = false := by rw [k1]; simp
                    clear k1
                    by_cases k2 : s < 0
                    · skip
                      as_aux_lemma =>
                        go_wp2_with fail
                        go_meet
                        exact ⟨true, rfl, Lib.hid (fun h => Lib.hid (.inr (.inr (.inl k2)))), HS3.out⟩
                    · by_cases k3 : N ≤ s
                      · skip
                        as_aux_lemma =>
                          go_wp2_with fail
                          go_meet
                          exact ⟨true, rfl, Lib.hid (fun h => Lib.hid (.inr (.inr (.inr k3)))), HS3.out⟩
                      · skip
                        as_aux_lemma =>
                          go_wp2_with fail
                          go_meet
                          exact ⟨false, rfl, Lib.hid (fun h => by cases h), HS3.out⟩
                  · have kz1 : ((raw.length : Int) != (l.length : Int)) = true := by rw [bne_iff_ne]; omega
                    have K1 := Lib.hid k1
                    clear k1
                    as_aux_lemma =>
                      go_wp2_with fail
                      go_meet
                      exact ⟨true, rfl, Lib.hid (fun h => Lib.hid (.inr (.inl K1.out))), HS3.out⟩
                · have kz : (C != 0) = true := by simpa using k0
                  have K1 := Lib.hid k0
                  clear k0
                  as_aux_lemma =>
                    go_wp2_with fail
                    go_meet
                    exact ⟨true, rfl, Lib.hid (fun h => Lib.hid (.inl K1.out)), HS3.out⟩
              clear HS3a HS3b HS3c HS3
              obtain ⟨wq, rfl⟩ : ∃ wq : World, wq = wc := ⟨_, rfl⟩
              obtain ⟨b, rfl, HB, hS⟩ := hcut
              have c0 : wq.cell? ⟨W.heap.size, 0, none⟩ = some (.int .i64 N) := hS.cell 0 rfl 0 rfl
              have c1 : wq.cell? ⟨W.heap.size, 1, none⟩ = some (.slice A l.length cap) := hS.cell 0 rfl 1 rfl
              have hz : W.heap.size < wq.heap.size := (hS.lt 0 rfl).2
              have HS := Lib.hid hS
              clear hS
              cases b
              · as_aux_lemma =>
                  go_wp2_with (go_at_call 21; (with_reducible refine (HRI.out _ HS.out).mono ?_); rintro e wn ⟨rfl, hbn⟩
                               have hSn := HS.out.call hbn
                               have HS1a : wn.cell? ⟨W.heap.size, 0, none⟩ = some (.int .i64 N) := hSn.cell 0 rfl 0 rfl
                               have HS1b : wn.cell? ⟨W.heap.size, 1, none⟩ = some (.slice A l.length cap) := hSn.cell 0 rfl 1 rfl
                               have HS1c : W.heap.size < wn.heap.size := (hSn.lt 0 rfl).2
                               have HS1 := Lib.hid hSn
                               clear hbn hSn c0 c1 hz)
                  go_ret
                  exact ⟨rfl, HS1.out.below⟩
              · have HCV := Lib.hid (HCU.out (HB.out rfl))
                as_aux_lemma =>
                  go_wp2_with (first
                    | (go_at_call 20; (with_reducible refine (HCV.out _ HS.out).mono ?_); rintro e wn ⟨rfl, hbn⟩
                       have hSn := HS.out.call hbn
                       have HS1a : wn.cell? ⟨W.heap.size, 0, none⟩ = some (.int .i64 N) := hSn.cell 0 rfl 0 rfl
                       have HS1b : wn.cell? ⟨W.heap.size, 1, none⟩ = some (.slice A l.length cap) := hSn.cell 0 rfl 1 rfl
                       have HS1c : W.heap.size < wn.heap.size := (hSn.lt 0 rfl).2
                       have HS1 := Lib.hid hSn
                       clear hbn hSn c0 c1 hz)
                    | (go_at_call 21; (with_reducible refine (HRI.out _ HS1.out).mono ?_); rintro e wn ⟨rfl, hbn⟩
                       have hSn := HS1.out.call hbn
                       have HS2a : wn.cell? ⟨W.heap.size, 0, none⟩ = some (.int .i64 N) := hSn.cell 0 rfl 0 rfl
                       have HS2b : wn.cell? ⟨W.heap.size, 1, none⟩ = some (.slice A l.length cap) := hSn.cell 0 rfl 1 rfl
                       have HS2c : W.heap.size < wn.heap.size := (hSn.lt 0 rfl).2
                       have HS2 := Lib.hid hSn
                       clear hbn hSn HS1a HS1b HS1c))
                  go_ret
                  exact ⟨rfl, HS2.out.below⟩
end Go.Proofs.Ytgnmbmlpfjlbiaa
