/- The plain law of a search over a graph: what is seen at the end is what one comes to. No program in sight. -/
import Derived.Test.YtjpejclfppbboaaGraphB
namespace Go.Proofs.Ytjpejclfppbboaa
set_option linter.unusedVariables false
def InN (N : Nat) (l : List ArcV) : Prop := ∀ a ∈ l, (0 ≤ a.fr ∧ a.fr < N) ∧ (0 ≤ a.to ∧ a.to < N)
theorem inN_of_check {N : Int} {l : List ArcV} (h : checkG N l = 0) : 0 ≤ N ∧ N ≤ 1000 ∧ l.length ≤ 20000 ∧ InN N.toNat l := by
 unfold checkG at h
 split at h
 · simp at h
 · rename_i h1
   unfold rangeG at h
   split at h
   · simp at h
   · rename_i h2
     refine ⟨by omega, by omega, by omega, fun a ha => ?_⟩
     have : badArc N a = false := by
      cases hb : badArc N a
      · rfl
      · exact absurd (List.any_eq_true.2 ⟨a, ha, hb⟩) h2
     unfold badArc at this
     have := of_decide_eq_false this
     omega
def setB (f : Nat → Bool) (k : Nat) : Nat → Bool := fun i => if i = k then true else f i
def unseen (f : Nat → Bool) (n : Nat) : Nat := (List.range n).countP fun j => !f j
theorem unseen_set {f : Nat → Bool} {n k : Nat} (hk : k < n) (h : f k = false) : unseen (setB f k) n + 1 = unseen f n := by
 induction n with
 | zero => omega
 | succ n ih =>
   unfold unseen at ih ⊢
   rw [List.range_succ, List.countP_append, List.countP_append]
   by_cases e : k = n
   · subst e
     have hs : (List.range k).countP (fun j => !setB f k j) = (List.range k).countP fun j => !f j := by
      apply List.countP_congr
      intro x hx
      have : x ≠ k := by simp at hx; omega
      simp [setB, this]
     rw [hs]
     simp [setB, h]
   · have := ih (by omega)
     have h1 : setB f k n = f n := by unfold setB; rw [if_neg (fun h => e h.symm)]
     simp only [List.countP_cons, List.countP_nil, h1]
     omega
end Go.Proofs.Ytjpejclfppbboaa
