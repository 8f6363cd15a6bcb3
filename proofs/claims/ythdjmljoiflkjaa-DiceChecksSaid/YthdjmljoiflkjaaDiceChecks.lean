/- The walk of law DiceChecks. -/
import Derived.Test.YthdjmljoiflkjaaAwake25
import Derived.Lib.SmallJoins
import Derived.OpenShut
namespace Go.Proofs.Ythdjmljoiflkjaa
open Go.ChangeShapes Go.WideShapes Go.ChangeAt Go.RowKit
set_option linter.unusedVariables false
def scriptErr (n : Nat) (r : Int) : Int := if 100000 < n then 4 else if r < 0 ∨ 10000 < r then 2 else 0
theorem script_check (A : Option Addr) (n c : Nat) (r : Int) (x y : Value) (w : World) (hn : n ≤ maxLen) :
    Calls Try.prog 23 #[.agg #[.slice A n c, .int .i64 r, x, y]] w fun e w' => e = .returned (.int .i64 (scriptErr n r)) ∧ w.alloc (.cells #[.slice A n c, .int .i64 r, x, y] 45) = w' := by
  unfold maxLen at hn
  unfold scriptErr
  by_cases h1 : (100000 : Int) < (n : Int)
  · rw [if_pos (by omega)]
    go_enter Try.func23, Try.ntmps23
    go_wp2
    go_ret
    exact ⟨rfl, rfl⟩
  · rw [if_neg (by omega)]
    by_cases h2 : r < 0
    · rw [if_pos (by omega)]
      go_enter Try.func23, Try.ntmps23
      go_wp2
      go_ret
      exact ⟨rfl, rfl⟩
    · by_cases h3 : 10000 < r
      · rw [if_pos (by omega)]
        go_enter Try.func23, Try.ntmps23
        go_wp2
        go_ret
        exact ⟨rfl, rfl⟩
      · rw [if_neg (by omega)]
        go_enter Try.func23, Try.ntmps23
        go_wp2
        go_ret
        exact ⟨rfl, rfl⟩
theorem scriptErr_big {n : Nat} {r : Int} (h : (100000 : Int) < (n : Int)) : scriptErr n r = 4 := by unfold scriptErr; rw [if_pos (by omega)]
theorem scriptErr_bad {n : Nat} {r : Int} (h : ¬ (100000 : Int) < (n : Int)) (h2 : r < 0 ∨ 10000 < r) : scriptErr n r = 2 := by unfold scriptErr; rw [if_neg (by omega), if_pos h2]
theorem scriptErr_ok {n : Nat} {r : Int} (h : ¬ (100000 : Int) < (n : Int)) (h2 : ¬ (r < 0 ∨ 10000 < r)) : scriptErr n r = 0 := by unfold scriptErr; rw [if_neg (by omega), if_neg h2]
theorem u32_info : (Try.prog.info? 31).map (fun i => (i.zero, i.size, i.bytes)) = some (some (.int .u32 0), 1, 4) := by kernel_rfl
set_option maxHeartbeats 1000000 in
theorem diceChecks_same (W : World) (A : Option Addr) (n c : Nat) (r many : Int) (x y : Value) (hn : n ≤ 1000) (h0 : 0 ≤ many) (h1 : many ≤ 255) (h7 : ¬ many % 8 = 7) (E : Int) (hE : scriptErr n r = E) (hr : (r < 0 ∧ E = 2) ∨ (¬ r < 0 ∧ 10000 < r ∧ E = 2) ∨ (¬ r < 0 ∧ ¬ 10000 < r ∧ E = 0)) :
    Calls Try.prog 6 #[.agg #[.slice A n c, .int .i64 r, x, y], .int .u8 many] W fun e w' => e = .returned (.bool true) ∧ Below W.heap.size W w' := by
  have HE := Lib.hid hE
  have hm : n ≤ maxLen := by unfold maxLen; omega
  clear hE
  rcases hr with ⟨hr, rfl⟩ | ⟨hr, hr2, rfl⟩ | ⟨hr, hr2, rfl⟩
  all_goals
    go_enter Try.func6, Try.ntmps6
    go_wp2_with (first
      | (go_at_call 11; (with_reducible refine (awake25 _).mono ?_); rintro e w2 ⟨rfl, hb2⟩
         have hS2 := ((SL.start (Nat.le_refl W.heap.size)).alloc #[.slice A n c, .int .i64 r, x, y] 45).call hb2
         have c0 : w2.cell? ⟨W.heap.size, 0, none⟩ = some (.slice A n c) := hS2.cell 0 rfl 0 rfl
         have c1 : w2.cell? ⟨W.heap.size, 1, none⟩ = some (.int .i64 r) := hS2.cell 0 rfl 1 rfl
         have c2 : w2.cell? ⟨W.heap.size, 2, none⟩ = some x := hS2.cell 0 rfl 2 rfl
         have c3 : w2.cell? ⟨W.heap.size, 3, none⟩ = some y := hS2.cell 0 rfl 3 rfl
         have f0 := hS2.free 0 rfl 0
         have hz := (hS2.lt 0 rfl).2
         have HS := Lib.hid hS2
         clear hS2 hb2)
      | (go_at_call 23; (with_reducible refine (script_check A n c r x y _ hm).mono ?_); rintro e w5 ⟨rfl, rfl⟩; rw [HE.out]))
    go_ret
    exact ⟨rfl, (HS.out.alloc _ _).below⟩
set_option maxHeartbeats 2000000 in
theorem diceChecks_made (W : World) (A : Option Addr) (n c N : Nat) (r many : Int) (x y : Value) (hn : n ≤ 1000) (h0 : 0 ≤ many) (h1 : many ≤ 255) (h7 : many % 8 = 7) (hN : 99990 + many / 8 = (N : Int)) (E : Int) (hE : scriptErr N r = E) (hr : (r < 0 ∧ ¬ (100000 : Int) < N ∧ E = 2) ∨ (¬ r < 0 ∧ 10000 < r ∧ ¬ (100000 : Int) < N ∧ E = 2) ∨ (¬ r < 0 ∧ ¬ 10000 < r ∧ ¬ (100000 : Int) < N ∧ E = 0) ∨ (r < 0 ∧ (100000 : Int) < N ∧ E = 4) ∨ (¬ r < 0 ∧ 10000 < r ∧ (100000 : Int) < N ∧ E = 4) ∨ (¬ r < 0 ∧ ¬ 10000 < r ∧ (100000 : Int) < N ∧ E = 4)) :
    Calls Try.prog 6 #[.agg #[.slice A n c, .int .i64 r, x, y], .int .u8 many] W fun e w' => e = .returned (.bool true) ∧ Below W.heap.size W w' := by
  have HE := Lib.hid hE
  obtain ⟨ib, hib, hbz0, hbz1, hbz2⟩ := info_parts u32_info
  have HI := Lib.hid (And.intro hib (And.intro hbz0 (And.intro hbz1 hbz2)))
  have hN1 : N ≤ 100030 := by omega
  have hm : N ≤ maxLen := by unfold maxLen; omega
  clear hE hib hbz0 hbz1 hbz2
  rcases hr with ⟨hr, hr3, rfl⟩ | ⟨hr, hr2, hr3, rfl⟩ | ⟨hr, hr2, hr3, rfl⟩ | ⟨hr, hr3, rfl⟩ | ⟨hr, hr2, hr3, rfl⟩ | ⟨hr, hr2, hr3, rfl⟩
  all_goals
    go_enter Try.func6, Try.ntmps6
    go_wp2_with (first
      | (go_at_call 11; (with_reducible refine (awake25 _).mono ?_); rintro e w2 ⟨rfl, hb2⟩
         have hS2 := ((SL.start (Nat.le_refl W.heap.size)).alloc #[.slice A n c, .int .i64 r, x, y] 45).call hb2
         have c0 : w2.cell? ⟨W.heap.size, 0, none⟩ = some (.slice A n c) := hS2.cell 0 rfl 0 rfl
         have c1 : w2.cell? ⟨W.heap.size, 1, none⟩ = some (.int .i64 r) := hS2.cell 0 rfl 1 rfl
         have c2 : w2.cell? ⟨W.heap.size, 2, none⟩ = some x := hS2.cell 0 rfl 2 rfl
         have c3 : w2.cell? ⟨W.heap.size, 3, none⟩ = some y := hS2.cell 0 rfl 3 rfl
         have f0 := hS2.free 0 rfl 0
         have hz := (hS2.lt 0 rfl).2
         have HS := Lib.hid hS2
         clear hS2 hb2)
      | (at_make; refine wpList_make_rep _ rfl _ _ 22 rfl 31 ib (.int .u32 0) Try.underlying22 HI.out.1 HI.out.2.1 HI.out.2.2.1 rfl .i64 .i64 (N : Int) (N : Int) N rfl rfl rfl rfl ?b2 ?b3 ?_
         case b2 => rw [HI.out.2.2.2]; omega
         case b3 => unfold maxLen; omega
         intro w4 hg4 hb4 hz4
         have hS4 := HS.out.call hb4
         have c0 : w4.cell? ⟨W.heap.size, 0, none⟩ = some (.slice A n c) := hS4.cell 0 rfl 0 rfl
         have c1 : w4.cell? ⟨W.heap.size, 1, none⟩ = some (.int .i64 r) := hS4.cell 0 rfl 1 rfl
         have c2 : w4.cell? ⟨W.heap.size, 2, none⟩ = some x := hS4.cell 0 rfl 2 rfl
         have c3 : w4.cell? ⟨W.heap.size, 3, none⟩ = some y := hS4.cell 0 rfl 3 rfl
         have f0 := hS4.free 0 rfl 0
         have HS4 := Lib.hid (hS4.setCell 0 rfl 0 (.slice (some ⟨w2.heap.size, 0, none⟩) N N))
         clear hS4 hg4 hb4 hz4)
      | (go_at_call 23; (with_reducible refine (script_check (some ⟨w2.heap.size, 0, none⟩) N N r x y _ hm).mono ?_); rintro e w5 ⟨rfl, rfl⟩; rw [HE.out]))
    go_ret
    exact ⟨rfl, (HS4.out.alloc _ _).below⟩
theorem diceChecks_big (W : World) (A : Option Addr) (n c : Nat) (r many : Int) (x y : Value) (hl : n ≤ maxLen) (hn : (1000 : Int) < (n : Int)) :
    Calls Try.prog 6 #[.agg #[.slice A n c, .int .i64 r, x, y], .int .u8 many] W fun e w' => e = .returned (.bool true) ∧ Below W.heap.size W w' := by
  unfold maxLen at hl
  go_enter Try.func6, Try.ntmps6
  go_wp2_with (first
      | (go_at_call 11; (with_reducible refine (awake25 _).mono ?_); rintro e w2 ⟨rfl, hb2⟩
         have hS2 := ((SL.start (Nat.le_refl W.heap.size)).alloc #[.slice A n c, .int .i64 r, x, y] 45).call hb2
         have c0 : w2.cell? ⟨W.heap.size, 0, none⟩ = some (.slice A n c) := hS2.cell 0 rfl 0 rfl
         have c1 : w2.cell? ⟨W.heap.size, 1, none⟩ = some (.int .i64 r) := hS2.cell 0 rfl 1 rfl
         have c2 : w2.cell? ⟨W.heap.size, 2, none⟩ = some x := hS2.cell 0 rfl 2 rfl
         have c3 : w2.cell? ⟨W.heap.size, 3, none⟩ = some y := hS2.cell 0 rfl 3 rfl
         have f0 := hS2.free 0 rfl 0
         have hz := (hS2.lt 0 rfl).2
         have HS := Lib.hid hS2
         clear hS2 hb2)
      )
  go_ret
  exact ⟨rfl, HS.out.below⟩
theorem u8_wf'' {n : Int} (h : (Lit.int .u8 n).wf = true) : 0 ≤ n ∧ n ≤ 255 := by
  simp [Lit.wf, IntKind.min, IntKind.max, IntKind.signed, IntKind.bits] at h; omega
theorem diceChecks_walk {H : Type} {enc : TypeId × Value → H} {base : Nat} (W : World) (v : Value) (d : DataW H) (p : List MemPlace) (o : Value.okWide Try.prog W .any base 45 v) (k : DataW.Trod enc Try.prog W 0 (fun _ => true) true 45 v d p)
    (many : Int) (hi : (Lit.int .u8 many).wf = true) :
    Calls Try.prog 6 #[v, .int .u8 many] W fun e w' => e = .returned (.bool true) ∧ Below W.heap.size W w' := by
  obtain ⟨v0, v1, v2, v3, y0, y1, y2, y3, n', rfl, _, _, t0, t1, t2, t3⟩ := Joins.open_agg4 Try.underlying45 (by kernel_rfl) (by kernel_rfl) o k
  obtain ⟨A, n, c, rfl, hn⟩ : ∃ A n c, v0 = .slice A n c ∧ n ≤ maxLen := by
    rcases open_ints Try.underlying22 Try.underlying31 (by kernel_rfl) t0 with ⟨hcs, _⟩ | ⟨x, l, c, zs, hcs, _, hl, hm, _⟩
    · simp only [List.cons.injEq, and_true] at hcs
      exact ⟨_, _, _, hcs, by simp [maxLen]⟩
    · simp only [List.cons.injEq, and_true] at hcs
      exact ⟨_, _, _, hcs, by omega⟩
  obtain ⟨r, e1, _, _⟩ := DataW.trod_int Try.underlying3 t1
  simp only [List.cons.injEq, and_true] at e1
  subst e1
  have hb := u8_wf'' hi
  by_cases hbig : (1000 : Int) < (n : Int)
  · exact diceChecks_big W A n c r many v2 v3 hn hbig
  · by_cases h7 : many % 8 = 7
    · refine diceChecks_made W A n c (99990 + many / 8).toNat r many v2 v3 (by omega) hb.1 hb.2 h7 (by omega) _ rfl ?_
      by_cases hN : (100000 : Int) < ((99990 + many / 8).toNat : Int)
      · rw [scriptErr_big hN]
        by_cases hr : r < 0
        · exact .inr (.inr (.inr (.inl ⟨hr, hN, rfl⟩)))
        · by_cases hr2 : 10000 < r
          · exact .inr (.inr (.inr (.inr (.inl ⟨hr, hr2, hN, rfl⟩))))
          · exact .inr (.inr (.inr (.inr (.inr ⟨hr, hr2, hN, rfl⟩))))
      · by_cases hr : r < 0
        · exact .inl ⟨hr, hN, scriptErr_bad hN (.inl hr)⟩
        · by_cases hr2 : 10000 < r
          · exact .inr (.inl ⟨hr, hr2, hN, scriptErr_bad hN (.inr hr2)⟩)
          · exact .inr (.inr (.inl ⟨hr, hr2, hN, scriptErr_ok hN (by omega)⟩))
    · have hN : ¬ (100000 : Int) < (n : Int) := by omega
      refine diceChecks_same W A n c r many v2 v3 (by omega) hb.1 hb.2 h7 _ rfl ?_
      by_cases hr : r < 0
      · exact .inl ⟨hr, scriptErr_bad hN (.inl hr)⟩
      · by_cases hr2 : 10000 < r
        · exact .inr (.inl ⟨hr, hr2, scriptErr_bad hN (.inr hr2)⟩)
        · exact .inr (.inr ⟨hr, hr2, scriptErr_ok hN (by omega)⟩)
end Go.Proofs.Ythdjmljoiflkjaa
