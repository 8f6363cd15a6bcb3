/- The law's own Awake (chapter 6's example): it answers true. -/
import Derived.Test.YthdjmljoiflkjaaReach
import Derived.Outline
namespace Go.Proofs.Ythdjmljoiflkjaa
open Go.ChangeShapes Go.WideShapes Go.ChangeAt Go.RowKit
set_option linter.unusedVariables false
theorem joined_awake (w : World) (b d : Nat) (cap cap' : Nat) (hb : b < w.heap.size) (hd : d < w.heap.size)
    (c0 : w.cell? ⟨b, 0, none⟩ = some (.int .i64 0)) (c1 : w.cell? ⟨b, 1, none⟩ = some (.int .i64 1)) (c2 : w.cell? ⟨b, 2, none⟩ = some (.int .i64 2))
    (c3 : w.cell? ⟨b, 3, none⟩ = some (.int .i64 1)) (c4 : w.cell? ⟨b, 4, none⟩ = some (.int .i64 2)) (c5 : w.cell? ⟨b, 5, none⟩ = some (.int .i64 3))
    (e0 : w.cell? ⟨d, 0, none⟩ = some (.int .i64 0)) (e1 : w.cell? ⟨d, 1, none⟩ = some (.int .i64 1)) :
    Calls Try.prog 37 #[.agg #[.int .i64 3, .slice (some ⟨b, 0, none⟩) 2 cap], .slice (some ⟨d, 0, none⟩) 2 cap', .int .i64 0, .int .i64 2] w fun e w' => e = .returned (.tuple #[.int .i64 5, .bool true]) ∧ w.alloc (.cells #[.int .i64 3, .slice (some ⟨b, 0, none⟩) 2 cap] 51) = w' := by
  go_enter Try.func37, Try.ntmps37
  go_wp2
  refine wp_loop_rounds 3 ?_
  rw [rounds_succ]
  go_wp2
  rw [rounds_succ]
  go_wp2
  rw [rounds_succ]
  go_wp2
  go_ret2
  exact ⟨rfl, rfl⟩
def exArcs : List ArcV := [⟨0, 1, 2⟩, ⟨1, 2, 3⟩]
theorem ex_reach (x : Int) : Rch exArcs 1 x ↔ x = 1 ∨ x = 2 := by
  constructor
  · intro h
    induction h with
    | refl => exact .inl rfl
    | @step a h ha ih =>
      simp only [exArcs, List.mem_cons, List.mem_nil_iff, or_false] at ha
      rcases ha with rfl | rfl
      · simp at ih
      · exact .inr rfl
  · rintro (rfl | rfl)
    · exact .refl
    · exact .step (a := ⟨1, 2, 3⟩) .refl (by simp [exArcs])
theorem reach_ex (w : World) (b cap : Nat) (hr : Arcs w w.heap.size (some ⟨b, 0, none⟩) exArcs) :
    Calls Try.prog 27 #[.agg #[.int .i64 3, .slice (some ⟨b, 0, none⟩) 2 cap], .int .i64 1] w fun e w' => ∃ g, e = .returned (.slice (some ⟨g, 0, none⟩) 3 3) ∧ w'.cell? ⟨g, 0, none⟩ = some (.bool false) ∧ w'.cell? ⟨g, 1, none⟩ = some (.bool true) ∧ w'.cell? ⟨g, 2, none⟩ = some (.bool true) ∧ Below w.heap.size w w' := by
  refine (reach_ok 3 (some ⟨b, 0, none⟩) cap exArcs 1 w hr (by decide) (by omega) (by omega)).mono ?_
  rintro e w' ⟨f, g, he, hg, hb, hf⟩
  have h0 : f 0 = false := by
    cases h : f 0
    · rfl
    · exfalso; have := ((hf 0 (by omega)).1 h); rw [ex_reach] at this; simp at this
  have h1 : f 1 = true := (hf 1 (by omega)).2 ((ex_reach _).2 (.inl rfl))
  have h2 : f 2 = true := (hf 2 (by omega)).2 ((ex_reach _).2 (.inr rfl))
  refine ⟨g, he, ?_, ?_, ?_, hb⟩
  · rw [cell_of_row _ _ _ _ _ _ hg, barr_get _ _ _ (by omega), h0]
  · rw [cell_of_row _ _ _ _ _ _ hg, barr_get _ _ _ (by omega), h1]
  · rw [cell_of_row _ _ _ _ _ _ hg, barr_get _ _ _ (by omega), h2]
theorem reads_lit {w : World} {b : Nat} {cs : Array Value} {t : TypeId} {size n : Nat} (hg : w.heap[b]? = some (.cells cs t (0, 0))) (hn : cs.size = n * size) : Reads w w.heap.size size (some ⟨b, 0, none⟩) n cs.toList := by
  refine ⟨by simpa using hn, fun _ => ⟨_, rfl, ?_, fun j u hu => ?_⟩⟩
  · show b < w.heap.size
    rcases Nat.lt_or_ge b w.heap.size with hlt | hge
    · exact hlt
    · rw [Array.getElem?_eq_none hge] at hg; cases hg
  · rw [Addr.add_mid, Nat.zero_add, cell_of_row _ _ _ _ _ _ hg]; simpa using hu
set_option maxHeartbeats 1000000 in
theorem graph_awake (w : World) : Calls Try.prog 24 #[] w fun e w' => e = .returned (.bool true) ∧ Below w.heap.size w w' := by
  go_enter Try.func24, Try.ntmps24
  go_wp2_with (first
    | (go_at_call 37; (with_reducible refine (joined_awake _ w.heap.size (w.heap.size + 1 + 1) _ _ ?b1 ?b2 ?b3 ?b4 ?b5 ?b6 ?b7 ?b8 ?b9 ?b10).mono ?_)
       rotate_right
       rintro e w1 ⟨rfl, rfl⟩)
    | (go_at_call 27; (with_reducible refine (reach_ex _ w.heap.size _ ?a1).mono ?_)
       rotate_right
       rintro e w2 ⟨g, rfl, hc0, hc1, hc2, hb2⟩))
  · go_ret
    refine ⟨rfl, Below.trans ?_ (hb2.mono (by simp; omega))⟩
    exact (((((Below.refl _ _).alloc (Nat.le_refl _) _).alloc (by simp) _).alloc (by simp; omega) _).alloc (by simp; omega) _)
  case a1 =>
    refine reads_lit (t := 53) (cs := #[.int .i64 0, .int .i64 1, .int .i64 2, .int .i64 1, .int .i64 2, .int .i64 3]) (n := 2) (size := 3) ?_ rfl
    rw [Below.heap_alloc _ _ _ (by simp; omega), Below.heap_alloc _ _ _ (by simp; omega), Below.heap_alloc _ _ _ (by simp)]
    exact heap_alloc_new _ _
  all_goals first | (simp; done) | (simp; omega) | (go_simp; done) | (simp [go_sem]; done)
end Go.Proofs.Ythdjmljoiflkjaa
