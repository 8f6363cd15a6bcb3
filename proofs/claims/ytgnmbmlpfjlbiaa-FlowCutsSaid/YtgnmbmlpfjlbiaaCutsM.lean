/- The plain law of FlowCuts: rounds over what is left come to what walk comes to. Rows of booleans. No program in sight. -/
import Derived.Test.YtgnmbmlpfjlbiaaCutM
namespace Go.Proofs.Ytgnmbmlpfjlbiaa
open Go.ChangeShapes Go.WideShapes Go.ChangeAt Go.RowKit
set_option linter.unusedVariables false
theorem barr_list (f : Nat → Bool) (n : Nat) : (barr f n).toList = ((List.range n).map f).map .bool := by
  apply List.ext_getElem?
  intro i
  rw [Array.getElem?_toList]
  by_cases hi : i < n
  · rw [barr_get _ _ _ hi]; simp [hi]
  · rw [Array.getElem?_eq_none (by simp [barr_size]; omega), List.getElem?_eq_none (by simp; omega)]
theorem reads_barr {w : World} {g n : Nat} {f : Nat → Bool} {t : TypeId} (h : w.heap[g]? = some (.cells (barr f n) t (0, 0))) : Reads w w.heap.size 1 (some ⟨g, 0, none⟩) ((List.range n).map f).length (((List.range n).map f).map .bool) := by
  refine ⟨by simp, fun hn => ⟨_, rfl, (Array.getElem?_eq_some_iff.1 h).1, fun j u hu => ?_⟩⟩
  rw [Addr.add_mid, Nat.zero_add, cell_of_row _ _ _ _ _ _ h]
  rw [← barr_list] at hu
  simpa using hu
/-- By one pipe forth, then back. -/
def forth (p : PipeV) (x : Int) (f : Nat → Bool) : Nat → Bool := if x < p.room then setB' f p.to.toNat (f p.to.toNat || f p.fr.toNat) else f
where setB' (f : Nat → Bool) (k : Nat) (b : Bool) : Nat → Bool := fun j => if j = k then b else f j
def back (p : PipeV) (x : Int) (f : Nat → Bool) : Nat → Bool := if 0 < x then (fun j => if j = p.fr.toNat then (f p.fr.toNat || f p.to.toNat) else f j) else f
theorem stepB_eq (f : Nat → Bool) (a : ArcV) : stepB f a = fun j => if j = a.to.toNat then (f a.to.toNat || f a.fr.toNat) else f j := by
  funext i
  unfold stepB
  by_cases h : i = a.to.toNat
  · subst h; simp
  · simp [h]
theorem round_one (p : PipeV) (x : Int) (f : Nat → Bool) : roundB (resOne p x) f = back p x (forth p x f) := by
  unfold resOne roundB back forth
  rw [List.foldl_append]
  by_cases h1 : x < p.room <;> by_cases h2 : 0 < x <;> simp only [h1, h2, if_true, if_false, List.foldl_cons, List.foldl_nil] <;> (try rw [stepB_eq]) <;> (try rw [stepB_eq]) <;> rfl
theorem round_succ {L : List PipeV} {X : Nat → Int} {k : Nat} (h : k < L.length) (f : Nat → Bool) : roundB (resK L X (k + 1)) f = back L[k] (X k) (forth L[k] (X k) (roundB (resK L X k) f)) := by
  rw [resK_succ h, ← round_one]
  unfold roundB
  rw [List.foldl_append]
/-- Walk's own answer is the rounds'. -/
theorem rounds_walked {N : Nat} {L : List PipeV} {X : Nat → Int} {s : Int} {seen : Nat → Bool} {by_ : Nat → Int × Bool} (hP : InP N L) (h0 : 0 ≤ s) (h1 : s < N) (hW : Walked N L X s seen by_) : ∀ i, i < N → seen i = roundsB (resArcs L X) (setB (fun _ => false) s.toNat) N i := by
  intro i hi
  have a := hW.rch i hi
  have b := comes_all (res_in (x := X) hP) h0 h1 i hi
  cases h : seen i <;> cases h' : roundsB (resArcs L X) (setB (fun _ => false) s.toNat) N i
  · rfl
  · have := a.2 (b.1 h'); rw [h] at this; cases this
  · have := b.2 (a.1 h); rw [h'] at this; cases this
  · rfl
theorem walked_same {N : Nat} {L : List PipeV} {X : Nat → Int} {s : Int} {seen seen' : Nat → Bool} {by_ by' : Nat → Int × Bool} (h : Walked N L X s seen by_) (h' : Walked N L X s seen' by') : ∀ i, i < N → seen i = seen' i := by
  intro i hi
  have a := h.rch i hi
  have b := h'.rch i hi
  cases e : seen i <;> cases e' : seen' i
  · rfl
  · have := a.2 (b.1 e'); rw [e] at this; cases this
  · have := b.2 (a.1 e); rw [e'] at this; cases this
  · rfl
end Go.Proofs.Ytgnmbmlpfjlbiaa
