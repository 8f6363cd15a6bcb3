/- The order that there is: told for order.Sort and law 08's sorted alike; a law's graph. -/
import Derived.Test.YtaaffahjlkfbgaaAwake08
import Derived.Test.YtaaffahjlkfbgaaLinksOpen
import Derived.Test.YtaaffahjlkfbgaaComesM
namespace Go.Proofs.Ytaaffahjlkfbgaa
open Go.ChangeShapes Go.WideShapes Go.ChangeAt Go.RowKit
set_option linter.unusedVariables false
theorem least_free {N : Nat} {l : List ArcV} {out : List Int} (h : ¬ Stop N l out) : ∃ i, NextN N l out i := by
  apply Classical.byContradiction
  intro hn
  refine h fun i => ?_
  have key : ∀ i j, j < i → j < N → ¬ FreeN l out j := by
    intro i
    induction i with
    | zero => intro j hj; omega
    | succ i ih =>
      intro j hj hjN hf
      by_cases e : j < i
      · exact ih j e hjN hf
      · exact hn ⟨j, hjN, hf, fun k hk => ih k (by omega) (by omega)⟩
  exact fun hi => key (i + 1) i (by omega) hi
theorem exists_out (N : Nat) (l : List ArcV) : ∃ out, Grd N l out ∧ Stop N l out := by
  have key : ∀ d out, Grd N l out → N - out.length ≤ d → ∃ out, Grd N l out ∧ Stop N l out := by
    intro d
    induction d with
    | zero => intro out hg hd; exact ⟨out, hg, hg.stop_full (by have := hg.len; omega)⟩
    | succ d ih =>
      intro out hg hd
      by_cases hs : Stop N l out
      · exact ⟨out, hg, hs⟩
      · obtain ⟨i, hi⟩ := least_free hs
        exact ih _ (hg.snoc hi) (by simp; omega)
  exact key N [] .nil (by simp)
def ordL (N : Nat) (out : List Int) : List Int := if out.length = N then out else []
def OrdPost (w : World) (N : Nat) (out : List Int) (e : Ending) (w' : World) : Prop :=
  ∃ A' c', e = .returned (.tuple #[.slice A' (ordL N out).length c', .bool (decide (out.length = N))]) ∧ SL w w.heap.size [.row 3 1 (.slice A' (ordL N out).length c') (ordL N out).length ((ordL N out).map (.int .i64))] w'
theorem ord_of {W : World} {N : Nat} {l : List ArcV} {out : List Int} (hg : Grd N l out) (hs : Stop N l out) {e : Ending} {w' : World} (h : SortPost W N l e w') : OrdPost W N out e w' := by
  obtain ⟨o2, g2, s2, h⟩ := h
  obtain rfl := g2.one hg s2 hs
  rcases h with ⟨h1, A, c, rfl, hS⟩ | ⟨h1, rfl, hB⟩
  · refine ⟨A, c, ?_, ?_⟩
    · unfold ordL; rw [if_pos h1, decide_eq_true h1, h1]
    · unfold ordL; rw [if_pos h1, h1]; exact hS
  · have hn : ¬ o2.length = N := by omega
    refine ⟨none, 0, ?_, ?_⟩
    · unfold ordL; rw [if_neg hn, decide_eq_false hn]; rfl
    · unfold ordL; rw [if_neg hn]
      exact ((SL.start (Nat.le_refl _)).call hB).nil 3 1
theorem sort_of (N : Nat) (A : Option Addr) (cap : Nat) (l : List ArcV) (w : World) (hr : Arcs w w.heap.size A l) (hck : checkG N l = 0) {out : List Int} (hg : Grd N l out) (hs : Stop N l out) :
    Calls Try.prog 32 #[.agg #[.int .i64 N, .slice A l.length cap]] w (OrdPost w N out) := (sort_any N A cap l w hr hck).mono fun _ _ h => ord_of hg hs h
theorem sorted_of (N : Nat) (A : Option Addr) (cap : Nat) (l : List ArcV) (w : World) (hr : Arcs w w.heap.size A l) (hck : checkG N l = 0) {out : List Int} (hg : Grd N l out) (hs : Stop N l out) :
    Calls Try.prog 33 #[.agg #[.int .i64 N, .slice A l.length cap]] w (OrdPost w N out) := (sorted_any N A cap l w hr hck).mono fun _ _ h => ord_of hg hs h
/-- Of a law's graph: what the walks use. -/
structure LawO (N : Nat) (L : List ArcV) : Prop where
  n1 : 1 ≤ N
  n8 : N ≤ 8
  len : L.length ≤ 24
  check : checkG N L = 0
  inn : InN N L
  wt : ∀ a ∈ L, -32768 ≤ a.wt ∧ a.wt ≤ 32767
theorem lawO {n : Int} {N : Nat} {l : List LinkV} (h0 : 0 ≤ n) (h1 : n ≤ 255) (hN : (N : Int) = nodesOf n) (hok : ∀ a ∈ l, a.ok) : LawO N (arcsOf N l) := by
  have hck : checkG N (arcsOf N l) = 0 := by rw [hN]; exact arcsOf_ok h0 h1 hok
  have hb : 1 ≤ N ∧ N ≤ 8 := by unfold nodesOf at hN; omega
  refine ⟨hb.1, hb.2, by unfold arcsOf; simp; omega, hck, by simpa using (inN_of_check hck).2.2.2, ?_⟩
  intro a ha
  unfold arcsOf at ha
  obtain ⟨x, hx, rfl⟩ := List.mem_map.1 ha
  have := hok x (List.mem_of_mem_take hx)
  unfold LinkV.ok at this
  show -32768 ≤ x.wt ∧ x.wt ≤ 32767
  omega
/-- What all laws of folder 08 that go over such a graph begin with. -/
theorem lawO_pack {W : World} {n : Int} {A : Option Addr} (cap : Nat) {l : List LinkV} (hr : Links W W.heap.size A l) (hl : l.length ≤ maxLen) (hok : ∀ a ∈ l, a.ok) (n0 : 0 ≤ n) (n1 : n ≤ 255) :
    ∃ (N : Nat) (L : List ArcV), LawO N L ∧ (∀ w', Below W.heap.size W w' → Calls Try.prog 23 #[.int .u8 n, .slice A l.length cap] w' (GraphPost w' N L)) := by
  obtain ⟨N, hN⟩ : ∃ N : Nat, (N : Int) = nodesOf n := ⟨(nodesOf n).toNat, by unfold nodesOf; omega⟩
  exact ⟨N, _, lawO n0 n1 hN hok, fun w' h => by
    rw [hN]; exact graph06_any n A cap l w' (reads_more (Reads.below hr h) h.size) hl n0 n1 hok⟩
end Go.Proofs.Ytaaffahjlkfbgaa
