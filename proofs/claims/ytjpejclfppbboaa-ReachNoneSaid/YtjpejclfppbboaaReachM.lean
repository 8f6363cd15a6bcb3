/- The plain law of a search over a graph: what is seen at the end is what one comes to. No program in sight. -/
import Derived.Test.YtjpejclfppbboaaGraphB
namespace Go.Proofs.Ytjpejclfppbboaa
set_option linter.unusedVariables false
/-- One comes from s to a node along arcs. -/
inductive Rch (l : List ArcV) (s : Int) : Int → Prop
  | refl : Rch l s s
  | step {a : ArcV} : Rch l s a.fr → a ∈ l → Rch l s a.to
def InN (N : Nat) (l : List ArcV) : Prop := ∀ a ∈ l, (0 ≤ a.fr ∧ a.fr < N) ∧ (0 ≤ a.to ∧ a.to < N)
theorem inN_of_check {N : Int} {l : List ArcV} (h : checkG N l = 0) : 0 ≤ N ∧ N ≤ 1000 ∧ l.length ≤ 20000 ∧ InN N.toNat l := by
  unfold checkG at h
  split at h
  · simp at h
  · rename_i h1
    unfold rangeG at h
    split at h
    · simp at h
    · rename_i h2
      refine ⟨by omega, by omega, by omega, fun a ha => ?_⟩
      have : badArc N a = false := by
        cases hb : badArc N a
        · rfl
        · exact absurd (List.any_eq_true.2 ⟨a, ha, hb⟩) h2
      unfold badArc at this
      have := of_decide_eq_false this
      omega
def setB (f : Nat → Bool) (k : Nat) : Nat → Bool := fun i => if i = k then true else f i
def unseen (f : Nat → Bool) (n : Nat) : Nat := (List.range n).countP fun j => !f j
theorem unseen_set {f : Nat → Bool} {n k : Nat} (hk : k < n) (h : f k = false) : unseen (setB f k) n + 1 = unseen f n := by
  induction n with
  | zero => omega
  | succ n ih =>
    unfold unseen at ih ⊢
    rw [List.range_succ, List.countP_append, List.countP_append]
    by_cases e : k = n
    · subst e
      have hs : (List.range k).countP (fun j => !setB f k j) = (List.range k).countP fun j => !f j := by
        apply List.countP_congr
        intro x hx
        have : x ≠ k := by simp at hx; omega
        simp [setB, this]
      rw [hs]
      simp [setB, h]
    · have := ih (by omega)
      have h1 : setB f k n = f n := by unfold setB; rw [if_neg (fun h => e h.symm)]
      simp only [List.countP_cons, List.countP_nil, h1]
      omega
theorem unseen_le (f : Nat → Bool) (n : Nat) : unseen f n ≤ n := by
  unfold unseen
  exact Nat.le_trans List.countP_le_length (by simp)
/-- All arcs from j lead to what is seen. -/
def Closed (l : List ArcV) (seen : Nat → Bool) (j : Int) : Prop := ∀ a ∈ l, a.fr = j → seen a.to.toNat = true
structure Bfs (N : Nat) (l : List ArcV) (s : Int) (seen : Nat → Bool) (q : List Int) (cur : Int → Prop) : Prop where
  start : seen s.toNat = true
  sound : ∀ j : Nat, j < N → seen j = true → Rch l s j
  queue : ∀ x ∈ q, 0 ≤ x ∧ x < N ∧ seen x.toNat = true
  closed : ∀ j : Nat, j < N → seen j = true → (j : Int) ∈ q ∨ cur j ∨ Closed l seen j
theorem bfs_start {N : Nat} {l : List ArcV} {s : Int} (h0 : 0 ≤ s) (h1 : s < N) : Bfs N l s (setB (fun _ => false) s.toNat) [s] (fun _ => False) := by
  have hs : ((s.toNat : Nat) : Int) = s := by omega
  refine ⟨by simp [setB], fun j hj h => ?_, fun x hx => ?_, fun j hj h => ?_⟩
  · have : j = s.toNat := by unfold setB at h; split at h <;> simp_all
    subst this
    rw [hs]; exact .refl
  · simp at hx; subst hx; exact ⟨h0, h1, by simp [setB]⟩
  · have : j = s.toNat := by unfold setB at h; split at h <;> simp_all
    subst this
    left; simp [hs]
theorem bfs_pop {N : Nat} {l : List ArcV} {s x : Int} {seen : Nat → Bool} {q : List Int} (h : Bfs N l s seen (x :: q) (fun _ => False)) : Bfs N l s seen q (fun j => j = x) := by
  refine ⟨h.start, h.sound, fun y hy => h.queue y (by simp [hy]), fun j hj hs => ?_⟩
  rcases h.closed j hj hs with h1 | h1 | h1
  · rcases List.mem_cons.1 h1 with h2 | h2
    · exact .inr (.inl h2)
    · exact .inl h2
  · exact absurd h1 id
  · exact .inr (.inr h1)
theorem setB_mono {seen : Nat → Bool} {k j : Nat} (h : seen j = true) : setB seen k j = true := by
  unfold setB; split <;> simp_all
/-- A node that is not seen yet, by an arc from the node at hand. -/
theorem bfs_add {N : Nat} {l : List ArcV} {s x : Int} {seen : Nat → Bool} {q : List Int} {a : ArcV} (h : Bfs N l s seen q (fun j => j = x)) (hx : seen x.toNat = true) (hxN : 0 ≤ x ∧ x < N) (ha : a ∈ l) (hf : a.fr = x) (ht : 0 ≤ a.to ∧ a.to < N) :
    Bfs N l s (setB seen a.to.toNat) (q ++ [a.to]) (fun j => j = x) := by
  have hx' : ((x.toNat : Nat) : Int) = x := by omega
  have ht' : ((a.to.toNat : Nat) : Int) = a.to := by omega
  refine ⟨setB_mono h.start, fun j hj hs => ?_, fun y hy => ?_, fun j hj hs => ?_⟩
  · by_cases e : j = a.to.toNat
    · subst e
      rw [ht']
      have : Rch l s a.fr := by rw [hf, ← hx']; exact h.sound _ (by omega) hx
      exact .step this ha
    · have : seen j = true := by unfold setB at hs; rwa [if_neg e] at hs
      exact h.sound j hj this
  · rcases List.mem_append.1 hy with h1 | h1
    · obtain ⟨a1, a2, a3⟩ := h.queue y h1
      exact ⟨a1, a2, setB_mono a3⟩
    · simp at h1; subst h1
      exact ⟨ht.1, ht.2, by simp [setB]⟩
  · by_cases e : j = a.to.toNat
    · left; rw [e, ht']; simp
    · have : seen j = true := by unfold setB at hs; rwa [if_neg e] at hs
      rcases h.closed j hj this with h1 | h1 | h1
      · left; simp [h1]
      · exact .inr (.inl h1)
      · exact .inr (.inr fun b hb hbf => setB_mono (h1 b hb hbf))
/-- All arcs of the node at hand have been gone along. -/
theorem bfs_done {N : Nat} {l : List ArcV} {s x : Int} {seen : Nat → Bool} {q : List Int} (h : Bfs N l s seen q (fun j => j = x)) (hc : Closed l seen x) : Bfs N l s seen q (fun _ => False) :=
  ⟨h.start, h.sound, h.queue, fun j hj hs => by
    rcases h.closed j hj hs with h1 | h1 | h1
    · exact .inl h1
    · subst h1; exact .inr (.inr hc)
    · exact .inr (.inr h1)⟩
theorem bfs_end {N : Nat} {l : List ArcV} {s : Int} {seen : Nat → Bool} (h : Bfs N l s seen [] (fun _ => False)) (hN : InN N l) (h0 : 0 ≤ s) (h1 : s < N) (j : Nat) (hj : j < N) : seen j = true ↔ Rch l s j := by
  refine ⟨h.sound j hj, fun hr => ?_⟩
  have : ∀ x : Int, Rch l s x → seen x.toNat = true := by
    intro x hx
    induction hx with
    | refl => exact h.start
    | @step a hp ha ih =>
      have hin := hN a ha
      rcases h.closed a.fr.toNat (by omega) ih with h2 | h2 | h2
      · simp at h2
      · exact absurd h2 id
      · exact h2 a ha (by omega)
  simpa using this j hr
/-- The numbers of the arcs from x. -/
theorem outK_mem {l : List ArcV} {x : Int} {t : Nat} (ht : t < (outK l x l.length).length) : ∃ k : Nat, (outK l x l.length)[t] = (k : Int) ∧ ∃ hk : k < l.length, l[k].fr = x := by
  have := List.getElem_mem ht
  unfold outK at this
  rw [List.mem_map] at this
  obtain ⟨k, hk, he⟩ := this
  rw [List.mem_filter] at hk
  obtain ⟨h1, h2⟩ := hk
  have hkl : k < l.length := by simpa using h1
  exact ⟨k, he.symm, hkl, by simpa [hkl] using h2⟩
theorem outK_all {l : List ArcV} {x : Int} {a : ArcV} (ha : a ∈ l) (hf : a.fr = x) : ∃ t k : Nat, ∃ ht : t < (outK l x l.length).length, (outK l x l.length)[t] = (k : Int) ∧ ∃ hk : k < l.length, l[k] = a := by
  obtain ⟨k, hk, he⟩ := List.getElem_of_mem ha
  have : (k : Int) ∈ outK l x l.length := by
    unfold outK
    rw [List.mem_map]
    refine ⟨k, List.mem_filter.2 ⟨by simpa using hk, ?_⟩, rfl⟩
    simp [hk, he, hf]
  obtain ⟨t, ht, hte⟩ := List.getElem_of_mem this
  exact ⟨t, k, ht, hte, hk, he⟩
/-- After all of them. -/
theorem closed_of_out {l : List ArcV} {x : Int} {seen : Nat → Bool} (h : ∀ t k : Nat, ∀ ht : t < (outK l x l.length).length, (outK l x l.length)[t] = (k : Int) → ∀ hk : k < l.length, seen l[k].to.toNat = true) : Closed l seen x := by
  intro a ha hf
  obtain ⟨t, k, ht, hte, hk, he⟩ := outK_all ha hf
  have := h t k ht hte hk
  rwa [he] at this
end Go.Proofs.Ytjpejclfppbboaa
