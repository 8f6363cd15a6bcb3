/- The walk of the law GraphNone. -/
import Derived.Test.YthdjmljoiflkjaaGraphAwake
import Derived.Test.YthdjmljoiflkjaaGraphOpen
namespace Go.Proofs.Ythdjmljoiflkjaa
open Go.ChangeShapes Go.WideShapes Go.ChangeAt Go.RowKit
set_option linter.unusedVariables false
/-- The graph's box, and Awake's memory behind it. -/
theorem box_awake {W w1 : World} {bx : Array Value} {t : TypeId} (hb : Below (W.alloc (.cells bx t)).heap.size (W.alloc (.cells bx t)) w1) : w1.heap[W.heap.size]? = some (.cells bx t (0, 0)) ∧ Below W.heap.size W w1 ∧ W.heap.size < w1.heap.size := by
  refine ⟨(hb.block _ (by simp)).trans (heap_alloc_new W _), ((Below.refl _ _).alloc (Nat.le_refl _) _).trans (hb.mono (by simp)), ?_⟩
  have := hb.size
  simp at this
  omega
theorem graphNone0 (W : World) (N : Int) (A : Option Addr) (cap : Nat) (l : List ArcV) (i : Int) (hr : Arcs W W.heap.size A l) (hl : l.length ≤ maxLen) :
    Calls Try.prog 8 #[.agg #[.int .i64 N, .slice A l.length cap], .int .i64 i] W fun e w' => e = .returned (.bool true) ∧ Below W.heap.size W w' := by
  have HR := Lib.hid hr
  clear hr
  have hl' := hl
  unfold maxLen at hl'
  by_cases h100 : (100 : Int) < (l.length : Int)
  · go_enter Try.func8, Try.ntmps8
    go_wp2_with (go_at_call 24; (with_reducible refine (graph_awake _).mono ?_); rintro e w1 ⟨rfl, hb1⟩
                 obtain ⟨hg, hbw, hz⟩ := box_awake hb1
                 have c0 : w1.cell? ⟨W.heap.size, 0, none⟩ = some (.int .i64 N) := cell_of_row _ _ _ _ _ _ hg
                 have c1 : w1.cell? ⟨W.heap.size, 1, none⟩ = some (.slice A l.length cap) := cell_of_row _ _ _ _ _ _ hg
                 have HA1 : Hid (Arcs w1 w1.heap.size A l) := reads_more (Reads.below HR.out hbw) hbw.size
                 have HG := Lib.hid hg
                 have HB := Lib.hid hbw
                 clear hg hbw hb1)
    go_ret
    exact ⟨rfl, HB.out⟩
  · by_cases hc : checkG N l = 0
    · have Hc := Lib.hid hc
      clear hc
      go_enter Try.func8, Try.ntmps8
      go_wp2_with (first
        | (go_at_call 24; (with_reducible refine (graph_awake _).mono ?_); rintro e w1 ⟨rfl, hb1⟩
           obtain ⟨hg, hbw, hz⟩ := box_awake hb1
           have c0 : w1.cell? ⟨W.heap.size, 0, none⟩ = some (.int .i64 N) := cell_of_row _ _ _ _ _ _ hg
           have c1 : w1.cell? ⟨W.heap.size, 1, none⟩ = some (.slice A l.length cap) := cell_of_row _ _ _ _ _ _ hg
           have HA1 : Hid (Arcs w1 w1.heap.size A l) := reads_more (Reads.below HR.out hbw) hbw.size
           have HG := Lib.hid hg
           have HB := Lib.hid hbw
           clear hg hbw hb1)
        | (go_at_call 25; (with_reducible refine (checkG_any N A cap l _ HA1.out hl).mono ?_); rintro e w2 ⟨rfl, hb2⟩; rw [Hc.out]
           have HB2 := Lib.hid hb2
           clear hb2))
      go_ret
      exact ⟨rfl, HB.out.trans (HB2.out.mono HB.out.size)⟩
    · have hne : (checkG N l == 0) = false := by simpa using hc
      have Hc := Lib.hid hc
      clear hc
      go_enter Try.func8, Try.ntmps8
      go_wp2_with (first
        | (go_at_call 24; (with_reducible refine (graph_awake _).mono ?_); rintro e w1 ⟨rfl, hb1⟩
           obtain ⟨hg, hbw, hz⟩ := box_awake hb1
           have c0 : w1.cell? ⟨W.heap.size, 0, none⟩ = some (.int .i64 N) := cell_of_row _ _ _ _ _ _ hg
           have c1 : w1.cell? ⟨W.heap.size, 1, none⟩ = some (.slice A l.length cap) := cell_of_row _ _ _ _ _ _ hg
           have HA1 : Hid (Arcs w1 w1.heap.size A l) := reads_more (Reads.below HR.out hbw) hbw.size
           have HG := Lib.hid hg
           have HB := Lib.hid hbw
           clear hg hbw hb1)
        | (go_at_call 25; (with_reducible refine (checkG_any N A cap l _ HA1.out hl).mono ?_); rintro e w2 ⟨rfl, hb2⟩
           have d0 : w2.cell? ⟨W.heap.size, 0, none⟩ = some (.int .i64 N) := (hb2.cell hz).trans c0
           have d1 : w2.cell? ⟨W.heap.size, 1, none⟩ = some (.slice A l.length cap) := (hb2.cell hz).trans c1
           have HB2 := Lib.hid (HB.out.trans (hb2.mono HB.out.size))
           have HA2 : Hid (Arcs w2 w2.heap.size A l) := reads_more (Reads.below HR.out HB2.out) HB2.out.size
           clear hb2)
        | (go_at_call 27; (with_reducible refine (reach_none N A cap l i _ HA2.out hl (.inl Hc.out)).mono ?_); rintro e w3 ⟨rfl, hb3⟩
           have HB3 := Lib.hid (HB2.out.trans (hb3.mono HB2.out.size))
           clear hb3))
      go_ret
      exact ⟨rfl, HB3.out⟩
theorem graphNone_walk {H : Type} {enc : TypeId × Value → H} {base : Nat} (W : World) (v : Value) (d : DataW H) (p : List MemPlace) (o : Value.okWide Try.prog W .any base 51 v) (k : DataW.Trod enc Try.prog W 0 (fun _ => true) true 51 v d p)
    (i : Int) (_hi : (Lit.int .i64 i).wf = true) :
    Calls Try.prog 8 #[v, .int .i64 i] W fun e w' => e = .returned (.bool true) ∧ Below W.heap.size W w' := by
  obtain ⟨N, A, cap, l, rfl, hr, hl, _⟩ := graph_open o k
  exact graphNone0 W N A cap l i hr hl
end Go.Proofs.Ythdjmljoiflkjaa
