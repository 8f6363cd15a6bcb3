/- The walk of the law GraphChecks. -/
import Derived.Test.YthdjmljoiflkjaaGraphNone
namespace Go.Proofs.Ythdjmljoiflkjaa
open Go.ChangeShapes Go.WideShapes Go.ChangeAt Go.RowKit
set_option linter.unusedVariables false
theorem rangeG_snoc_bad {N : Int} {l : List ArcV} {k : Nat} (hk : k < l.length) (h : ¬ (0 ≤ l[k].fr ∧ l[k].fr < N) ∨ ¬ (0 ≤ l[k].to ∧ l[k].to < N) ∨ l[k].wt < -1099511627776 ∨ 1099511627776 < l[k].wt) : rangeG N (l.take (k + 1)) = 2 := by
  unfold rangeG
  rw [if_pos]
  rw [List.take_succ_eq_append_getElem hk, List.any_append, Bool.or_eq_true]
  exact .inr (by simp [badArc]; omega)
theorem rangeG_snoc_ok {N : Int} {l : List ArcV} {k : Nat} (hk : k < l.length) (g : ¬ (¬ (0 ≤ l[k].fr ∧ l[k].fr < N) ∨ ¬ (0 ≤ l[k].to ∧ l[k].to < N) ∨ l[k].wt < -1099511627776 ∨ 1099511627776 < l[k].wt)) : rangeG N (l.take (k + 1)) = rangeG N (l.take k) := by
  have hb : badArc N l[k] = false := decide_eq_false g
  unfold rangeG
  rw [List.take_succ_eq_append_getElem hk, List.any_append]
  simp [hb]
set_option maxHeartbeats 4000000 in
theorem graphChecks0 (W : World) (N : Int) (A : Option Addr) (cap : Nat) (l : List ArcV) (i : Int) (hr : Arcs W W.heap.size A l) (h3 : l.length ≤ 30000) :
    Calls Try.prog 7 #[.agg #[.int .i64 N, .slice A l.length cap], .int .i64 i] W fun e w' => e = .returned (.bool true) ∧ Below W.heap.size W w' := by
  have HR := Lib.hid hr
  clear hr
  go_enter Try.func7, Try.ntmps7
  go_wp2_with (go_at_call 24; (with_reducible refine (graph_awake _).mono ?_); rintro e w1 ⟨rfl, hb1⟩
               obtain ⟨hg, hbw, hz⟩ := box_awake hb1
               have c0 : w1.cell? ⟨W.heap.size, 0, none⟩ = some (.int .i64 N) := cell_of_row _ _ _ _ _ _ hg
               have c1 : w1.cell? ⟨W.heap.size, 1, none⟩ = some (.slice A l.length cap) := cell_of_row _ _ _ _ _ _ hg
               have HG := Lib.hid hg
               have HB := Lib.hid hbw
               clear hg hbw hb1)
  go_loopw [5, 17] (fun v i' wr => ∃ k : Nat, k ≤ l.length ∧ i' = .int .i64 k ∧ v = .int .i64 (rangeG N (l.take k)) ∧ wr.heap[W.heap.size]? = some (.cells #[.int .i64 N, .slice A l.length cap] 51 (0, 0)) ∧ Below W.heap.size W wr) (fun _ i' _ => l.length - (intOf i').toNat)
  case atStart => exact ⟨0, by omega, rfl, rfl, HG.out, HB.out⟩
  case round =>
    obtain ⟨k, hk, rfl, rfl, hg, hB⟩ := hrel
    have c0 : wr.cell? ⟨W.heap.size, 0, none⟩ = some (.int .i64 N) := cell_of_row _ _ _ _ _ _ hg
    have c1 : wr.cell? ⟨W.heap.size, 1, none⟩ = some (.slice A l.length cap) := cell_of_row _ _ _ _ _ _ hg
    have hz : W.heap.size < wr.heap.size := block_lt_of_cell c0
    have HG2 := Lib.hid hg
    clear hg
    by_cases hlt : k < l.length
    · obtain ⟨b, o, hA, hb, d0, d1, d2⟩ := arcs_at (Reads.below HR.out hB) hlt
      subst hA
      have hbz : b < wr.heap.size := by omega
      have hok := Lib.hid (rangeG_snoc_ok (N := N) hlt)
      have hbad := Lib.hid (rangeG_snoc_bad (N := N) hlt)
      by_cases q1 : l[k].fr < 0
      · have HQ := Lib.hid (hbad.out (by omega))
        go_wp2
        go_roundw
        case rel => exact ⟨k + 1, by omega, by go_num, by rw [HQ.out], by rw [Below.heap_alloc _ _ _ hz]; exact HG2.out, hB.alloc hB.size _⟩
        case measure => simp [intOf]; omega
      · by_cases q2 : N ≤ l[k].fr
        · have HQ := Lib.hid (hbad.out (by omega))
          go_wp2
          go_roundw
          case rel => exact ⟨k + 1, by omega, by go_num, by rw [HQ.out], by rw [Below.heap_alloc _ _ _ hz]; exact HG2.out, hB.alloc hB.size _⟩
          case measure => simp [intOf]; omega
        · by_cases q3 : l[k].to < 0
          · have HQ := Lib.hid (hbad.out (by omega))
            go_wp2
            go_roundw
            case rel => exact ⟨k + 1, by omega, by go_num, by rw [HQ.out], by rw [Below.heap_alloc _ _ _ hz]; exact HG2.out, hB.alloc hB.size _⟩
            case measure => simp [intOf]; omega
          · by_cases q4 : N ≤ l[k].to
            · have HQ := Lib.hid (hbad.out (by omega))
              go_wp2
              go_roundw
              case rel => exact ⟨k + 1, by omega, by go_num, by rw [HQ.out], by rw [Below.heap_alloc _ _ _ hz]; exact HG2.out, hB.alloc hB.size _⟩
              case measure => simp [intOf]; omega
            · by_cases q5 : l[k].wt < -1099511627776
              · have HQ := Lib.hid (hbad.out (by omega))
                go_wp2
                go_roundw
                case rel => exact ⟨k + 1, by omega, by go_num, by rw [HQ.out], by rw [Below.heap_alloc _ _ _ hz]; exact HG2.out, hB.alloc hB.size _⟩
                case measure => simp [intOf]; omega
              · by_cases q6 : 1099511627776 < l[k].wt
                · have HQ := Lib.hid (hbad.out (by omega))
                  go_wp2
                  go_roundw
                  case rel => exact ⟨k + 1, by omega, by go_num, by rw [HQ.out], by rw [Below.heap_alloc _ _ _ hz]; exact HG2.out, hB.alloc hB.size _⟩
                  case measure => simp [intOf]; omega
                · have HQ := Lib.hid (hok.out (by omega))
                  go_wp2
                  go_roundw
                  case rel => exact ⟨k + 1, by omega, by go_num, by rw [HQ.out], by rw [Below.heap_alloc _ _ _ hz]; exact HG2.out, hB.alloc hB.size _⟩
                  case measure => simp [intOf]; omega
    · obtain rfl : k = l.length := by omega
      have HA1 : Hid (Arcs wr wr.heap.size A l) := reads_more (Reads.below HR.out hB) hB.size
      have HT : Hid (rangeG N (l.take l.length) = rangeG N l) := by rw [List.take_length]; rfl
      obtain ⟨r, HRr⟩ : ∃ r, Hid (r = rangeG N l) := ⟨_, rfl⟩
      rw [HT.out, ← HRr.out]
      have HB2 := Lib.hid hB
      clear hB c0 c1 hlt hk HT HG HB
      by_cases q : N < 0 ∨ 1000 < N ∨ 20000 < l.length
      · have hck : Hid (checkG N l = 4) := Lib.hid (if_pos q)
        rcases (show N < 0 ∨ (¬ N < 0 ∧ 1000 < N) ∨ (¬ N < 0 ∧ ¬ 1000 < N ∧ (20000 : Int) < (l.length : Int)) by omega) with q1 | ⟨q1, q2⟩ | ⟨q1, q2, q3⟩
        all_goals
          clear q
          rcases (show i < 0 ∨ (0 ≤ i ∧ i < N) ∨ (0 ≤ i ∧ ¬ i < N) by omega) with j1 | ⟨j1, j2⟩ | ⟨j1, j2⟩
          all_goals try omega
          all_goals
            have d0 : wr.cell? ⟨W.heap.size, 0, none⟩ = some (.int .i64 N) := cell_of_row _ _ _ _ _ _ HG2.out
            have d1 : wr.cell? ⟨W.heap.size, 1, none⟩ = some (.slice A l.length cap) := cell_of_row _ _ _ _ _ _ HG2.out
            go_wp2_with (first
              | (go_at_call 25; (with_reducible refine (checkG_any N A cap l _ HA1.out (by unfold maxLen; omega)).mono ?_); rintro e w2 ⟨rfl, hb2⟩; rw [hck.out]
                 have e0 : w2.cell? ⟨W.heap.size, 0, none⟩ = some (.int .i64 N) := (hb2.cell hz).trans d0
                 have e1 : w2.cell? ⟨W.heap.size, 1, none⟩ = some (.slice A l.length cap) := (hb2.cell hz).trans d1
                 have hz2 : W.heap.size < w2.heap.size := Nat.lt_of_lt_of_le hz hb2.size
                 have HB3 := Lib.hid (HB2.out.trans (hb2.mono HB2.out.size))
                 clear hb2)
              | (go_at_call 26; (with_reducible refine (has_yes N i A l.length cap _ (by assumption) (by assumption)).mono ?_); rintro e w3 ⟨rfl, rfl⟩)
              | (go_at_call 26; (with_reducible refine (has_no N i A l.length cap _ (by omega)).mono ?_); rintro e w3 ⟨rfl, rfl⟩))
            go_ret
            refine ⟨?_, HB3.out.alloc HB3.out.size _⟩; first | rfl | (refine retBool ?_; simp; done) | (refine retBool ?_; simp; omega)
      · have hck : Hid (checkG N l = r) := Lib.hid (by rw [HRr.out]; exact if_neg q)
        obtain ⟨q1, q2, q3⟩ : ¬ N < 0 ∧ ¬ 1000 < N ∧ ¬ (20000 : Int) < (l.length : Int) := ⟨by omega, by omega, by omega⟩
        clear q
        rcases (show i < 0 ∨ (0 ≤ i ∧ i < N) ∨ (0 ≤ i ∧ ¬ i < N) by omega) with j1 | ⟨j1, j2⟩ | ⟨j1, j2⟩
        all_goals
          have d0 : wr.cell? ⟨W.heap.size, 0, none⟩ = some (.int .i64 N) := cell_of_row _ _ _ _ _ _ HG2.out
          have d1 : wr.cell? ⟨W.heap.size, 1, none⟩ = some (.slice A l.length cap) := cell_of_row _ _ _ _ _ _ HG2.out
          go_wp2_with (first
            | (go_at_call 25; (with_reducible refine (checkG_any N A cap l _ HA1.out (by unfold maxLen; omega)).mono ?_); rintro e w2 ⟨rfl, hb2⟩; rw [hck.out]
               have e0 : w2.cell? ⟨W.heap.size, 0, none⟩ = some (.int .i64 N) := (hb2.cell hz).trans d0
               have e1 : w2.cell? ⟨W.heap.size, 1, none⟩ = some (.slice A l.length cap) := (hb2.cell hz).trans d1
               have hz2 : W.heap.size < w2.heap.size := Nat.lt_of_lt_of_le hz hb2.size
               have HB3 := Lib.hid (HB2.out.trans (hb2.mono HB2.out.size))
               clear hb2)
            | (go_at_call 26; (with_reducible refine (has_yes N i A l.length cap _ (by assumption) (by assumption)).mono ?_); rintro e w3 ⟨rfl, rfl⟩)
            | (go_at_call 26; (with_reducible refine (has_no N i A l.length cap _ (by omega)).mono ?_); rintro e w3 ⟨rfl, rfl⟩))
          go_ret
          refine ⟨?_, HB3.out.alloc HB3.out.size _⟩; first | rfl | (refine retBool ?_; simp; done) | (refine retBool ?_; simp; omega)
theorem graphChecks_walk {H : Type} {enc : TypeId × Value → H} {base : Nat} (W : World) (v : Value) (d : DataW H) (p : List MemPlace) (o : Value.okWide Try.prog W .any base 51 v) (k : DataW.Trod enc Try.prog W 0 (fun _ => true) true 51 v d p)
    (i : Int) (_hi : (Lit.int .i64 i).wf = true) :
    Calls Try.prog 7 #[v, .int .i64 i] W fun e w' => e = .returned (.bool true) ∧ Below W.heap.size W w' := by
  obtain ⟨N, A, cap, l, rfl, hr, hl, _⟩ := graph_open o k
  by_cases h : (30000 : Int) < (l.length : Int)
  · unfold maxLen at hl
    go_enter Try.func7, Try.ntmps7
    go_wp2_with (go_at_call 24; (with_reducible refine (graph_awake _).mono ?_); rintro e w1 ⟨rfl, hb1⟩
                 obtain ⟨hg, hbw, hz⟩ := box_awake hb1
                 have c0 : w1.cell? ⟨W.heap.size, 0, none⟩ = some (.int .i64 N) := cell_of_row _ _ _ _ _ _ hg
                 have c1 : w1.cell? ⟨W.heap.size, 1, none⟩ = some (.slice A l.length cap) := cell_of_row _ _ _ _ _ _ hg
                 have HB := Lib.hid hbw
                 clear hg hbw hb1)
    go_ret
    exact ⟨rfl, HB.out⟩
  · exact graphChecks0 W N A cap l i hr (by omega)
end Go.Proofs.Ythdjmljoiflkjaa
