/- The plain law of a search over arcs: what is seen at the end is what one comes to; round by round, the same. No program in sight. -/
import Derived.Test.YtgnmbmlpfjlbiaaSL
namespace Go.Proofs.Ytgnmbmlpfjlbiaa
set_option linter.unusedVariables false
/-- An arc: from, to, weight. -/
structure ArcV where
  fr : Int
  to : Int
  wt : Int
/-- One comes from s to a node along arcs. -/
inductive Rch (l : List ArcV) (s : Int) : Int → Prop
  | refl : Rch l s s
  | step {a : ArcV} : Rch l s a.fr → a ∈ l → Rch l s a.to
def InN (N : Nat) (l : List ArcV) : Prop := ∀ a ∈ l, (0 ≤ a.fr ∧ a.fr < N) ∧ (0 ≤ a.to ∧ a.to < N)
def setB (f : Nat → Bool) (k : Nat) : Nat → Bool := fun i => if i = k then true else f i
def unseen (f : Nat → Bool) (n : Nat) : Nat := (List.range n).countP fun j => !f j
theorem unseen_set {f : Nat → Bool} {n k : Nat} (hk : k < n) (h : f k = false) : unseen (setB f k) n + 1 = unseen f n := by
  induction n with
  | zero => omega
  | succ n ih =>
    unfold unseen at ih ⊢
    rw [List.range_succ, List.countP_append, List.countP_append]
    by_cases e : k = n
    · subst e
      have hs : (List.range k).countP (fun j => !setB f k j) = (List.range k).countP fun j => !f j := by
        apply List.countP_congr
        intro x hx
        have : x ≠ k := by simp at hx; omega
        simp [setB, this]
      rw [hs]
      simp [setB, h]
    · have := ih (by omega)
      have h1 : setB f k n = f n := by unfold setB; rw [if_neg (fun h => e h.symm)]
      simp only [List.countP_cons, List.countP_nil, h1]
      omega
theorem unseen_le (f : Nat → Bool) (n : Nat) : unseen f n ≤ n := by
  unfold unseen
  exact Nat.le_trans List.countP_le_length (by simp)
/-- All arcs from j lead to what is seen. -/
def Closed (l : List ArcV) (seen : Nat → Bool) (j : Int) : Prop := ∀ a ∈ l, a.fr = j → seen a.to.toNat = true
structure Bfs (N : Nat) (l : List ArcV) (s : Int) (seen : Nat → Bool) (q : List Int) (cur : Int → Prop) : Prop where
  start : seen s.toNat = true
  sound : ∀ j : Nat, j < N → seen j = true → Rch l s j
  queue : ∀ x ∈ q, 0 ≤ x ∧ x < N ∧ seen x.toNat = true
  closed : ∀ j : Nat, j < N → seen j = true → (j : Int) ∈ q ∨ cur j ∨ Closed l seen j
theorem bfs_start {N : Nat} {l : List ArcV} {s : Int} (h0 : 0 ≤ s) (h1 : s < N) : Bfs N l s (setB (fun _ => false) s.toNat) [s] (fun _ => False) := by
  have hs : ((s.toNat : Nat) : Int) = s := by omega
  refine ⟨by simp [setB], fun j hj h => ?_, fun x hx => ?_, fun j hj h => ?_⟩
  · have : j = s.toNat := by unfold setB at h; split at h <;> simp_all
    subst this
    rw [hs]; exact .refl
  · simp at hx; subst hx; exact ⟨h0, h1, by simp [setB]⟩
  · have : j = s.toNat := by unfold setB at h; split at h <;> simp_all
    subst this
    left; simp [hs]
theorem bfs_pop {N : Nat} {l : List ArcV} {s x : Int} {seen : Nat → Bool} {q : List Int} (h : Bfs N l s seen (x :: q) (fun _ => False)) : Bfs N l s seen q (fun j => j = x) := by
  refine ⟨h.start, h.sound, fun y hy => h.queue y (by simp [hy]), fun j hj hs => ?_⟩
  rcases h.closed j hj hs with h1 | h1 | h1
  · rcases List.mem_cons.1 h1 with h2 | h2
    · exact .inr (.inl h2)
    · exact .inl h2
  · exact absurd h1 id
  · exact .inr (.inr h1)
theorem setB_mono {seen : Nat → Bool} {k j : Nat} (h : seen j = true) : setB seen k j = true := by
  unfold setB; split <;> simp_all
/-- A node that is not seen yet, by an arc from the node at hand. -/
theorem bfs_add {N : Nat} {l : List ArcV} {s x : Int} {seen : Nat → Bool} {q : List Int} {a : ArcV} (h : Bfs N l s seen q (fun j => j = x)) (hx : seen x.toNat = true) (hxN : 0 ≤ x ∧ x < N) (ha : a ∈ l) (hf : a.fr = x) (ht : 0 ≤ a.to ∧ a.to < N) :
    Bfs N l s (setB seen a.to.toNat) (q ++ [a.to]) (fun j => j = x) := by
  have hx' : ((x.toNat : Nat) : Int) = x := by omega
  have ht' : ((a.to.toNat : Nat) : Int) = a.to := by omega
  refine ⟨setB_mono h.start, fun j hj hs => ?_, fun y hy => ?_, fun j hj hs => ?_⟩
  · by_cases e : j = a.to.toNat
    · subst e
      rw [ht']
      have : Rch l s a.fr := by rw [hf, ← hx']; exact h.sound _ (by omega) hx
      exact .step this ha
    · have : seen j = true := by unfold setB at hs; rwa [if_neg e] at hs
      exact h.sound j hj this
  · rcases List.mem_append.1 hy with h1 | h1
    · obtain ⟨a1, a2, a3⟩ := h.queue y h1
      exact ⟨a1, a2, setB_mono a3⟩
    · simp at h1; subst h1
      exact ⟨ht.1, ht.2, by simp [setB]⟩
  · by_cases e : j = a.to.toNat
    · left; rw [e, ht']; simp
    · have : seen j = true := by unfold setB at hs; rwa [if_neg e] at hs
      rcases h.closed j hj this with h1 | h1 | h1
      · left; simp [h1]
      · exact .inr (.inl h1)
      · exact .inr (.inr fun b hb hbf => setB_mono (h1 b hb hbf))
/-- All arcs of the node at hand have been gone along. -/
theorem bfs_done {N : Nat} {l : List ArcV} {s x : Int} {seen : Nat → Bool} {q : List Int} (h : Bfs N l s seen q (fun j => j = x)) (hc : Closed l seen x) : Bfs N l s seen q (fun _ => False) :=
  ⟨h.start, h.sound, h.queue, fun j hj hs => by
    rcases h.closed j hj hs with h1 | h1 | h1
    · exact .inl h1
    · subst h1; exact .inr (.inr hc)
    · exact .inr (.inr h1)⟩
theorem bfs_end {N : Nat} {l : List ArcV} {s : Int} {seen : Nat → Bool} (h : Bfs N l s seen [] (fun _ => False)) (hN : InN N l) (h0 : 0 ≤ s) (h1 : s < N) (j : Nat) (hj : j < N) : seen j = true ↔ Rch l s j := by
  refine ⟨h.sound j hj, fun hr => ?_⟩
  have : ∀ x : Int, Rch l s x → seen x.toNat = true := by
    intro x hx
    induction hx with
    | refl => exact h.start
    | @step a hp ha ih =>
      have hin := hN a ha
      rcases h.closed a.fr.toNat (by omega) ih with h2 | h2 | h2
      · simp at h2
      · exact absurd h2 id
      · exact h2 a ha (by omega)
  simpa using this j hr
def stepB (f : Nat → Bool) (a : ArcV) : Nat → Bool := fun i => if i = a.to.toNat then (f i || f a.fr.toNat) else f i
def roundB (l : List ArcV) (f : Nat → Bool) : Nat → Bool := l.foldl stepB f
theorem roundB_snoc (l : List ArcV) (f : Nat → Bool) (k : Nat) (hk : k < l.length) : roundB (l.take (k + 1)) f = stepB (roundB (l.take k) f) l[k] := by
  unfold roundB
  rw [List.take_succ_eq_append_getElem hk, List.foldl_append]
  rfl
theorem stepB_yes {f : Nat → Bool} {a : ArcV} (h : f a.to.toNat = true) : stepB f a = f := by
  funext i; unfold stepB; split
  · rename_i e; rw [e, h]; rfl
  · rfl
theorem stepB_same {f : Nat → Bool} {a : ArcV} {b : Bool} (h : f a.to.toNat = false) (hb : f a.fr.toNat = b) : stepB f a = fun i => if i = a.to.toNat then b else f i := by
  funext i; unfold stepB; split
  · rename_i e; rw [e, h, hb]; rfl
  · rfl
theorem stepB_set {f : Nat → Bool} {a : ArcV} (h : f a.to.toNat = true) : stepB f a = fun j => if j = a.to.toNat then true else f j := by
  rw [stepB_yes h]; funext j; split
  · rename_i e; rw [e, h]
  · rfl
theorem stepB_mono {f : Nat → Bool} {a : ArcV} {j : Nat} (h : f j = true) : stepB f a j = true := by
  unfold stepB; split <;> simp [h]
theorem roundB_mono {l : List ArcV} {f : Nat → Bool} {j : Nat} (h : f j = true) : roundB l f j = true := by
  induction l generalizing f with
  | nil => exact h
  | cons a r ih => exact ih (stepB_mono h)
theorem stepB_sound {N : Nat} {l : List ArcV} {s : Int} {f : Nat → Bool} {a : ArcV} (hN : InN N l) (ha : a ∈ l) (h : ∀ j : Nat, j < N → f j = true → Rch l s j) : ∀ j : Nat, j < N → stepB f a j = true → Rch l s j := by
  intro j hj hs
  unfold stepB at hs
  have hin := hN a ha
  split at hs
  · rename_i e
    simp only [Bool.or_eq_true] at hs
    rcases hs with hs | hs
    · exact h j hj hs
    · have h1 := h a.fr.toNat (by omega) hs
      rw [show ((a.fr.toNat : Nat) : Int) = a.fr by omega] at h1
      have := Rch.step h1 ha
      rw [show (j : Int) = a.to by omega]
      exact this
  · exact h j hj hs
theorem roundB_sound {N : Nat} {l : List ArcV} {s : Int} (hN : InN N l) : ∀ (r : List ArcV) (f : Nat → Bool), (∀ a ∈ r, a ∈ l) → (∀ j : Nat, j < N → f j = true → Rch l s j) → ∀ j : Nat, j < N → roundB r f j = true → Rch l s j
  | [], f, _, h => h
  | a :: r, f, hr, h => roundB_sound hN r (stepB f a) (fun b hb => hr b (by simp [hb])) (stepB_sound hN (hr a (by simp)) h)
/-- A round that changes nothing leaves all closed; one that changes something sees one more. -/
theorem stepB_unseen {N : Nat} {f : Nat → Bool} {a : ArcV} (hin : (0 ≤ a.fr ∧ a.fr < N) ∧ 0 ≤ a.to ∧ a.to < N) : stepB f a = f ∨ unseen (stepB f a) N + 1 = unseen f N := by
  cases h : f a.to.toNat
  · cases hb : f a.fr.toNat
    · left
      rw [stepB_same h hb]
      funext i; split
      · rename_i e; rw [e, h]
      · rfl
    · right
      rw [stepB_same h hb]
      exact unseen_set (by omega) h
  · exact .inl (stepB_yes h)
theorem roundB_unseen {N : Nat} : ∀ (l : List ArcV) (f : Nat → Bool), InN N l → (roundB l f = f ∧ ∀ a ∈ l, stepB f a = f) ∨ unseen (roundB l f) N + 1 ≤ unseen f N
  | [], f, _ => .inl ⟨rfl, by simp⟩
  | a :: r, f, h => by
    have h1 := stepB_unseen (N := N) (f := f) (h a (by simp))
    have h2 := roundB_unseen (N := N) r (stepB f a) (fun b hb => h b (by simp [hb]))
    have e : roundB (a :: r) f = roundB r (stepB f a) := rfl
    rw [e]
    rcases h1 with h1 | h1
    · rw [h1] at h2 ⊢
      rcases h2 with ⟨h2, h3⟩ | h2
      · left
        refine ⟨h2, fun b hb => ?_⟩
        rcases List.mem_cons.1 hb with rfl | hb
        · exact h1
        · exact h3 b hb
      · exact .inr h2
    · right
      rcases h2 with ⟨h2, _⟩ | h2
      · rw [h2]; omega
      · omega
def roundsB (l : List ArcV) (f : Nat → Bool) : Nat → Nat → Bool
  | 0 => f
  | r + 1 => roundB l (roundsB l f r)
theorem roundsB_still {N : Nat} {l : List ArcV} {f : Nat → Bool} (hN : InN N l) : ∀ r : Nat, (∀ a ∈ l, stepB (roundsB l f r) a = roundsB l f r) ∨ unseen (roundsB l f r) N + r ≤ unseen f N
  | 0 => .inr (by simp [roundsB])
  | r + 1 => by
    have h1 := roundB_unseen (N := N) l (roundsB l f r) hN
    rcases roundsB_still hN r with h2 | h2
    · left
      have hf : ∀ (r' : List ArcV) (g : Nat → Bool), (∀ a ∈ r', stepB g a = g) → roundB r' g = g := by
        intro r' g hg
        induction r' with
        | nil => rfl
        | cons a r' ih =>
          show roundB r' (stepB g a) = g
          rw [hg a (by simp)]
          exact ih fun b hb => hg b (by simp [hb])
      show ∀ a ∈ l, stepB (roundB l (roundsB l f r)) a = roundB l (roundsB l f r)
      rw [hf l _ h2]
      exact h2
    · rcases h1 with ⟨h1, h3⟩ | h1
      · left
        show ∀ a ∈ l, stepB (roundB l (roundsB l f r)) a = roundB l (roundsB l f r)
        rw [h1]
        exact h3
      · right
        show unseen (roundB l (roundsB l f r)) N + (r + 1) ≤ unseen f N
        omega
theorem unseen_lt {f : Nat → Bool} {N k : Nat} (hk : k < N) (h : f k = true) : unseen f N < N := by
  have h1 : f = setB (fun i => if i = k then false else f i) k := by
    funext i; unfold setB; split
    · rename_i e; rw [e, h]
    · rename_i e; simp only [if_neg e]
  have h2 := unseen_set (f := fun i => if i = k then false else f i) hk (by simp)
  rw [← h1] at h2
  have := unseen_le (fun i => if i = k then false else f i) N
  omega
theorem roundsB_mono {l : List ArcV} {f : Nat → Bool} {j : Nat} (h : f j = true) : ∀ r, roundsB l f r j = true
  | 0 => h
  | r + 1 => roundB_mono (roundsB_mono h r)
theorem roundsB_sound {N : Nat} {l : List ArcV} {s : Int} {f : Nat → Bool} (hN : InN N l) (h : ∀ j : Nat, j < N → f j = true → Rch l s j) : ∀ r (j : Nat), j < N → roundsB l f r j = true → Rch l s j
  | 0 => h
  | r + 1 => roundB_sound hN l _ (fun _ h => h) (roundsB_sound hN h r)
/-- After N rounds. -/
theorem comes_all {N : Nat} {l : List ArcV} {s : Int} (hN : InN N l) (h0 : 0 ≤ s) (h1 : s < N) (j : Nat) (hj : j < N) : roundsB l (setB (fun _ => false) s.toNat) N j = true ↔ Rch l s j := by
  have hs : ((s.toNat : Nat) : Int) = s := by omega
  refine ⟨roundsB_sound hN (fun j hj h => ?_) N j hj, fun hr => ?_⟩
  · have : j = s.toNat := by unfold setB at h; split at h <;> simp_all
    subst this
    rw [hs]; exact .refl
  · have hst : roundsB l (setB (fun _ => false) s.toNat) N s.toNat = true := roundsB_mono (by simp [setB]) N
    have hcl : ∀ a ∈ l, stepB (roundsB l (setB (fun _ => false) s.toNat) N) a = roundsB l (setB (fun _ => false) s.toNat) N := by
      rcases roundsB_still (f := setB (fun _ => false) s.toNat) hN N with h | h
      · exact h
      · have := unseen_lt (f := setB (fun _ => false) s.toNat) (N := N) (k := s.toNat) (by omega) (by simp [setB])
        omega
    have : ∀ x : Int, Rch l s x → roundsB l (setB (fun _ => false) s.toNat) N x.toNat = true := by
      intro x hx
      induction hx with
      | refl => exact hst
      | @step a hp ha ih =>
        have := congrFun (hcl a ha) a.to.toNat
        unfold stepB at this
        rw [if_pos rfl, ih, Bool.or_true] at this
        exact this.symm
    simpa using this j hr
end Go.Proofs.Ytgnmbmlpfjlbiaa
