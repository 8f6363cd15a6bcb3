/- Contract: graph.Turned. -/
import Derived.Test.YtjpejclfppbboaaGraphB
namespace Go.Proofs.Ytjpejclfppbboaa
open Go.ChangeShapes Go.WideShapes Go.ChangeAt Go.RowKit
set_option linter.unusedVariables false
def ArcV.turn (a : ArcV) : ArcV := ⟨a.to, a.fr, a.wt⟩
theorem turn_snoc (l : List ArcV) (k : Nat) (h : k < l.length) : arcCells ((l.take (k + 1)).map ArcV.turn) = arcCells ((l.take k).map ArcV.turn) ++ [.int .i64 l[k].to, .int .i64 l[k].fr, .int .i64 l[k].wt] := by
 rw [List.take_succ_eq_append_getElem h, List.map_append]
 unfold arcCells
 rw [List.flatMap_append]
 rfl
theorem arc_info : (Try.prog.info? 113).map (fun i => (i.zero, i.size, i.bytes)) = some (some (.agg #[.int .i64 0, .int .i64 0, .int .i64 0]), 3, 24) := by kernel_rfl
/-- A graph that the call made: the arcs turned round. -/
def TurnedPost (W : World) (N : Int) (l : List ArcV) (e : Ending) (w' : World) : Prop :=
 ∃ A c, e = .returned (.agg #[.int .i64 N, .slice A l.length c]) ∧ Arcs w' w'.heap.size A (l.map ArcV.turn) ∧ Below W.heap.size W w'
theorem OwnsQ_free {w : World} {base g i : Nat} {e : TypeId} {sz n : Nat} {v u : Value} {xs : List Value} (h : w.ownsRow base e sz v n xs) (hg : g < base) : (w.setCell ⟨g, i, none⟩ u).ownsRow base e sz v n xs :=
 ownsRow_setCell_below h (a := ⟨g, i, none⟩) hg u
set_option maxHeartbeats 1000000 in
theorem turned_any (N : Int) (A : Option Addr) (cap : Nat) (l : List ArcV) (w : World) (hr : Arcs w w.heap.size A l) (hl : l.length ≤ 30000) :
 Calls Try.prog 62 #[.agg #[.int .i64 N, .slice A l.length cap]] w (TurnedPost w N l) := by
 obtain ⟨i0, hi0, hz0, hz1, hz2⟩ := info_parts arc_info
 have HI := Lib.hid (And.intro hi0 (And.intro hz0 (And.intro hz1 hz2)))
 clear hi0 hz0 hz1 hz2
 go_enter Try.func62, Try.ntmps62
 go_wp2
 go_loopw [12] (fun i wr => ∃ (k : Nat) (v : Value), k ≤ l.length ∧ i = .int .i64 k ∧ wr.heap[w.heap.size]? = some (.cells #[.int .i64 N, .slice A l.length cap] 111 (0, 0)) ∧ (wr.heap[w.heap.size + 1]? = some (.cells #[.int .i64 0, .slice none 0 0] 111 (0, 0))) ∧
  wr.heap[w.heap.size + 1 + 1]? = some (.cells #[.int .i64 N, v] 111 (0, 0)) ∧ wr.ownsRow (w.heap.size + 1 + 1 + 1) 113 3 v k (arcCells ((l.take k).map ArcV.turn)) ∧ Below w.heap.size w wr) (fun i _ => l.length - (intOf i).toNat)
 case atStart =>
  refine ⟨0, .slice none 0 0, by omega, rfl, ?_, ?_, ?_, by exact World.ownsRow_nil _ _ _ _, ((Below.refl _ _).alloc (Nat.le_refl _) _).alloc (by simp) _ |>.alloc (by simp; omega) _⟩
  · rw [Below.heap_alloc _ _ _ (by simp; omega), Below.heap_alloc _ _ _ (by simp)]; exact heap_alloc_new _ _
  · rw [Below.heap_alloc _ _ _ (by simp)]; exact heap_alloc2_new _ _ _
  · have := heap_alloc_new ((w.alloc (.cells #[.int .i64 N, .slice A l.length cap] 111)).alloc (.cells #[.int .i64 0, .slice none 0 0] 111)) (.cells #[.int .i64 N, .slice none 0 0] 111)
    simpa using this
 case round =>
  obtain ⟨k, v, hk, rfl, hg1, hg2, hg3, hown, hB⟩ := hrel
  have c0 : wr.cell? ⟨w.heap.size, 0, none⟩ = some (.int .i64 N) := cell_of_row _ _ _ _ _ _ hg1
  have c1 : wr.cell? ⟨w.heap.size, 1, none⟩ = some (.slice A l.length cap) := cell_of_row _ _ _ _ _ _ hg1
  have e0 : wr.cell? ⟨w.heap.size + 1 + 1, 0, none⟩ = some (.int .i64 N) := cell_of_row _ _ _ _ _ _ hg3
  have e1 : wr.cell? ⟨w.heap.size + 1 + 1, 1, none⟩ = some v := cell_of_row _ _ _ _ _ _ hg3
  have hz3 : w.heap.size + 1 + 1 < wr.heap.size := block_lt_of_cell e0
  have HG := Lib.hid (And.intro hg1 (And.intro hg2 hg3))
  clear hg1 hg2 hg3
  by_cases hlt : k < l.length
  · obtain ⟨b, o, hA, hb, d0, d1, d2⟩ := arcs_at (Reads.below hr hB) hlt
    subst hA
    have hbz : b < wr.heap.size := by omega
    have HR := Lib.hid (turn_snoc l k hlt)
    go_wp2_with (at_builtin; refine wpList_append_new (cs := #[.int .i64 l[k].to, .int .i64 l[k].fr, .int .i64 l[k].wt]) rfl _ _ 109 rfl (w.heap.size + 1 + 1 + 1) i0 _ 3 24 Try.underlying109 HI.out.1 HI.out.2.1 HI.out.2.2.1 HI.out.2.2.2 rfl (by decide) v k _ rfl (hown.alloc _) _ rfl ?c0 rfl ?c1 ?c2 ?c3 ?c4 ?_)
    case c0 => simp
    case c1 => simp [Value.oneCell']
    case c2 => omega
    case c3 => omega
    case c4 => simp; omega
    intro v' w' hown' hb' hz'
    have hBa : Below w.heap.size w (wr.alloc (.cells #[.int .i64 l[k].fr, .int .i64 l[k].to, .int .i64 l[k].wt] 113)) := hB.alloc hB.size _
    have hw1 : w'.heap[w.heap.size]? = some (.cells #[.int .i64 N, .slice (some ⟨b, o, none⟩) l.length cap] 111 (0, 0)) := by rw [hb'.block _ (by omega), Below.heap_alloc _ _ _ (by omega)]; exact HG.out.1
    have hw2 : w'.heap[w.heap.size + 1]? = some (.cells #[.int .i64 0, .slice none 0 0] 111 (0, 0)) := by rw [hb'.block _ (by omega), Below.heap_alloc _ _ _ (by omega)]; exact HG.out.2.1
    have hw3 : w'.heap[w.heap.size + 1 + 1]? = some (.cells #[.int .i64 N, v] 111 (0, 0)) := by rw [hb'.block _ (by omega), Below.heap_alloc _ _ _ (by omega)]; exact HG.out.2.2
    have f1 : w'.cell? ⟨w.heap.size + 1 + 1, 1, none⟩ = some v := cell_of_row _ _ _ _ _ _ hw3
    have f2 : w'.frozen? ⟨w.heap.size + 1 + 1, 1, none⟩ = false := frozen_of_row _ _ _ _ _ hw3
    obtain ⟨A', c', hv', _⟩ := ownsRow_slice hown'
    subst hv'
    have HO := Lib.hid (And.intro hown' (And.intro (hBa.trans (hb'.mono (by omega))) (And.intro hw1 (And.intro hw2 hw3))))
    clear hown' hb' hw1 hw2 hw3 hown c0 c1 e0 e1 d0 d1 d2 hBa
    go_wp2
    go_roundw
    case rel =>
     obtain ⟨ho, hb', hw1, hw2, hw3⟩ := HO.out
     refine ⟨k + 1, .slice A' (k + 1) c', by omega, by go_num, ?_, ?_, ?_, ?_, hb'.setCell (p := ⟨w.heap.size + 1 + 1, 1, none⟩) (by show _ ≤ w.heap.size + 1 + 1; omega) _⟩
     · rw [heap_setCell_other _ _ _ _ (by show w.heap.size ≠ w.heap.size + 1 + 1; omega)]; exact hw1
     · rw [heap_setCell_other _ _ _ _ (by show w.heap.size + 1 ≠ w.heap.size + 1 + 1; omega)]; exact hw2
     · exact heap_setCell_same _ _ _ _ _ _ hw3
     · rw [HR.out]
       exact OwnsQ_free (by rw [List.map_take]; exact ho) (by omega)
    case measure => simp [intOf]; omega
  · obtain rfl : k = l.length := by omega
    obtain ⟨A', c', hv', _⟩ := ownsRow_slice hown
    subst hv'
    have HO := Lib.hid (And.intro hown hB)
    have H1C : Hid ((#[Value.int .i64 N, Value.slice A' l.length c'] : Array Value).all (·.oneCell') = true) := Lib.hid (by simp [Value.oneCell'])
    clear hown hB
    go_wp2_with (refine wpList_store_abs rfl 111 (.tmp 2) (.tmp 29) rfl rfl (w.heap.size + 1) #[.int .i64 N, .slice A' l.length c'] rfl rfl 111 _ HG.out.2.1 (by kernel_rfl) rfl H1C.out ?_; intro w5 ho5 hg5)
    refine retArr rfl _ _ (w.heap.size + 1) 111 #[.int .i64 N, .slice A' l.length c'] _ rfl hg5 Try.underlying111 rfl (by kernel_rfl) ?_
    obtain ⟨ho, hb⟩ := HO.out
    rw [List.take_length] at ho
    have ho' : w5.ownsRow (w.heap.size + 1 + 1 + 1) 113 3 (.slice A' l.length c') l.length (arcCells (l.map ArcV.turn)) := by
     obtain ⟨q1, q2⟩ := ho
     refine ⟨q1, ?_⟩
     rcases q2 with q2 | ⟨g, cp, cur, hv, hg, hh, r⟩
     · exact .inl q2
     · exact .inr ⟨g, cp, cur, hv, hg, (ho5.block g (by omega)).trans hh, r⟩
    refine ⟨A', c', rfl, ?_, hb.trans (ho5.below (by omega))⟩
    have := reads_own ho'
    unfold Arcs
    rw [List.length_map]
    exact this
end Go.Proofs.Ytjpejclfppbboaa
