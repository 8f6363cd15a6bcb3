/- The plain law of law06.Comes: N rounds over all arcs see all that one comes to. No program in sight. -/
import Derived.Test.YtaaffahjlkfbgaaReachM
import Derived.Test.YtaaffahjlkfbgaaLinks
namespace Go.Proofs.Ytaaffahjlkfbgaa
set_option linter.unusedVariables false
def stepB (f : Nat → Bool) (a : ArcV) : Nat → Bool := fun i => if i = a.to.toNat then (f i || f a.fr.toNat) else f i
def roundB (l : List ArcV) (f : Nat → Bool) : Nat → Bool := l.foldl stepB f
theorem roundB_snoc (l : List ArcV) (f : Nat → Bool) (k : Nat) (hk : k < l.length) : roundB (l.take (k + 1)) f = stepB (roundB (l.take k) f) l[k] := by
  unfold roundB
  rw [List.take_succ_eq_append_getElem hk, List.foldl_append]
  rfl
theorem stepB_yes {f : Nat → Bool} {a : ArcV} (h : f a.to.toNat = true) : stepB f a = f := by
  funext i; unfold stepB; split
  · rename_i e; rw [e, h]; rfl
  · rfl
theorem stepB_same {f : Nat → Bool} {a : ArcV} {b : Bool} (h : f a.to.toNat = false) (hb : f a.fr.toNat = b) : stepB f a = fun i => if i = a.to.toNat then b else f i := by
  funext i; unfold stepB; split
  · rename_i e; rw [e, h, hb]; rfl
  · rfl
theorem stepB_set {f : Nat → Bool} {a : ArcV} (h : f a.to.toNat = true) : stepB f a = fun j => if j = a.to.toNat then true else f j := by
  rw [stepB_yes h]; funext j; split
  · rename_i e; rw [e, h]
  · rfl
theorem stepB_mono {f : Nat → Bool} {a : ArcV} {j : Nat} (h : f j = true) : stepB f a j = true := by
  unfold stepB; split <;> simp [h]
theorem roundB_mono {l : List ArcV} {f : Nat → Bool} {j : Nat} (h : f j = true) : roundB l f j = true := by
  induction l generalizing f with
  | nil => exact h
  | cons a r ih => exact ih (stepB_mono h)
theorem stepB_sound {N : Nat} {l : List ArcV} {s : Int} {f : Nat → Bool} {a : ArcV} (hN : InN N l) (ha : a ∈ l) (h : ∀ j : Nat, j < N → f j = true → Rch l s j) : ∀ j : Nat, j < N → stepB f a j = true → Rch l s j := by
  intro j hj hs
  unfold stepB at hs
  have hin := hN a ha
  split at hs
  · rename_i e
    simp only [Bool.or_eq_true] at hs
    rcases hs with hs | hs
    · exact h j hj hs
    · have h1 := h a.fr.toNat (by omega) hs
      rw [show ((a.fr.toNat : Nat) : Int) = a.fr by omega] at h1
      have := Rch.step h1 ha
      rw [show (j : Int) = a.to by omega]
      exact this
  · exact h j hj hs
theorem roundB_sound {N : Nat} {l : List ArcV} {s : Int} (hN : InN N l) : ∀ (r : List ArcV) (f : Nat → Bool), (∀ a ∈ r, a ∈ l) → (∀ j : Nat, j < N → f j = true → Rch l s j) → ∀ j : Nat, j < N → roundB r f j = true → Rch l s j
  | [], f, _, h => h
  | a :: r, f, hr, h => roundB_sound hN r (stepB f a) (fun b hb => hr b (by simp [hb])) (stepB_sound hN (hr a (by simp)) h)
/-- A round that changes nothing leaves all closed; one that changes something sees one more. -/
theorem stepB_unseen {N : Nat} {f : Nat → Bool} {a : ArcV} (hin : (0 ≤ a.fr ∧ a.fr < N) ∧ 0 ≤ a.to ∧ a.to < N) : stepB f a = f ∨ unseen (stepB f a) N + 1 = unseen f N := by
  cases h : f a.to.toNat
  · cases hb : f a.fr.toNat
    · left
      rw [stepB_same h hb]
      funext i; split
      · rename_i e; rw [e, h]
      · rfl
    · right
      rw [stepB_same h hb]
      exact unseen_set (by omega) h
  · exact .inl (stepB_yes h)
theorem roundB_unseen {N : Nat} : ∀ (l : List ArcV) (f : Nat → Bool), InN N l → (roundB l f = f ∧ ∀ a ∈ l, stepB f a = f) ∨ unseen (roundB l f) N + 1 ≤ unseen f N
  | [], f, _ => .inl ⟨rfl, by simp⟩
  | a :: r, f, h => by
    have h1 := stepB_unseen (N := N) (f := f) (h a (by simp))
    have h2 := roundB_unseen (N := N) r (stepB f a) (fun b hb => h b (by simp [hb]))
    have e : roundB (a :: r) f = roundB r (stepB f a) := rfl
    rw [e]
    rcases h1 with h1 | h1
    · rw [h1] at h2 ⊢
      rcases h2 with ⟨h2, h3⟩ | h2
      · left
        refine ⟨h2, fun b hb => ?_⟩
        rcases List.mem_cons.1 hb with rfl | hb
        · exact h1
        · exact h3 b hb
      · exact .inr h2
    · right
      rcases h2 with ⟨h2, _⟩ | h2
      · rw [h2]; omega
      · omega
def roundsB (l : List ArcV) (f : Nat → Bool) : Nat → Nat → Bool
  | 0 => f
  | r + 1 => roundB l (roundsB l f r)
theorem roundsB_still {N : Nat} {l : List ArcV} {f : Nat → Bool} (hN : InN N l) : ∀ r : Nat, (∀ a ∈ l, stepB (roundsB l f r) a = roundsB l f r) ∨ unseen (roundsB l f r) N + r ≤ unseen f N
  | 0 => .inr (by simp [roundsB])
  | r + 1 => by
    have h1 := roundB_unseen (N := N) l (roundsB l f r) hN
    rcases roundsB_still hN r with h2 | h2
    · left
      have hf : ∀ (r' : List ArcV) (g : Nat → Bool), (∀ a ∈ r', stepB g a = g) → roundB r' g = g := by
        intro r' g hg
        induction r' with
        | nil => rfl
        | cons a r' ih =>
          show roundB r' (stepB g a) = g
          rw [hg a (by simp)]
          exact ih fun b hb => hg b (by simp [hb])
      show ∀ a ∈ l, stepB (roundB l (roundsB l f r)) a = roundB l (roundsB l f r)
      rw [hf l _ h2]
      exact h2
    · rcases h1 with ⟨h1, h3⟩ | h1
      · left
        show ∀ a ∈ l, stepB (roundB l (roundsB l f r)) a = roundB l (roundsB l f r)
        rw [h1]
        exact h3
      · right
        show unseen (roundB l (roundsB l f r)) N + (r + 1) ≤ unseen f N
        omega
theorem unseen_lt {f : Nat → Bool} {N k : Nat} (hk : k < N) (h : f k = true) : unseen f N < N := by
  have h1 : f = setB (fun i => if i = k then false else f i) k := by
    funext i; unfold setB; split
    · rename_i e; rw [e, h]
    · rename_i e; simp only [if_neg e]
  have h2 := unseen_set (f := fun i => if i = k then false else f i) hk (by simp)
  rw [← h1] at h2
  have := unseen_le (fun i => if i = k then false else f i) N
  omega
theorem roundsB_mono {l : List ArcV} {f : Nat → Bool} {j : Nat} (h : f j = true) : ∀ r, roundsB l f r j = true
  | 0 => h
  | r + 1 => roundB_mono (roundsB_mono h r)
theorem roundsB_sound {N : Nat} {l : List ArcV} {s : Int} {f : Nat → Bool} (hN : InN N l) (h : ∀ j : Nat, j < N → f j = true → Rch l s j) : ∀ r (j : Nat), j < N → roundsB l f r j = true → Rch l s j
  | 0 => h
  | r + 1 => roundB_sound hN l _ (fun _ h => h) (roundsB_sound hN h r)
/-- After N rounds. -/
theorem comes_all {N : Nat} {l : List ArcV} {s : Int} (hN : InN N l) (h0 : 0 ≤ s) (h1 : s < N) (j : Nat) (hj : j < N) : roundsB l (setB (fun _ => false) s.toNat) N j = true ↔ Rch l s j := by
  have hs : ((s.toNat : Nat) : Int) = s := by omega
  refine ⟨roundsB_sound hN (fun j hj h => ?_) N j hj, fun hr => ?_⟩
  · have : j = s.toNat := by unfold setB at h; split at h <;> simp_all
    subst this
    rw [hs]; exact .refl
  · have hst : roundsB l (setB (fun _ => false) s.toNat) N s.toNat = true := roundsB_mono (by simp [setB]) N
    have hcl : ∀ a ∈ l, stepB (roundsB l (setB (fun _ => false) s.toNat) N) a = roundsB l (setB (fun _ => false) s.toNat) N := by
      rcases roundsB_still (f := setB (fun _ => false) s.toNat) hN N with h | h
      · exact h
      · have := unseen_lt (f := setB (fun _ => false) s.toNat) (N := N) (k := s.toNat) (by omega) (by simp [setB])
        omega
    have : ∀ x : Int, Rch l s x → roundsB l (setB (fun _ => false) s.toNat) N x.toNat = true := by
      intro x hx
      induction hx with
      | refl => exact hst
      | @step a hp ha ih =>
        have := congrFun (hcl a ha) a.to.toNat
        unfold stepB at this
        rw [if_pos rfl, ih, Bool.or_true] at this
        exact this.symm
    simpa using this j hr
/-- A graph of law06.Graph may be. -/
theorem arcsOf_ok {n : Int} {l : List LinkV} (h0 : 0 ≤ n) (h1 : n ≤ 255) (hok : ∀ a ∈ l, a.ok) : checkG (nodesOf n) (arcsOf (nodesOf n) l) = 0 := by
  have hN1 : 1 ≤ nodesOf n := by unfold nodesOf; omega
  have hN8 : nodesOf n ≤ 8 := by unfold nodesOf; omega
  have hlen : (arcsOf (nodesOf n) l).length ≤ 24 := by unfold arcsOf; simp; omega
  unfold checkG
  rw [if_neg (by omega)]
  refine rangeG_ok ?_
  rw [← Bool.not_eq_true]
  intro h
  obtain ⟨a, ha, hb⟩ := List.any_eq_true.1 h
  unfold arcsOf at ha
  obtain ⟨x, hx, rfl⟩ := List.mem_map.1 ha
  have hxl := hok x (List.mem_of_mem_take hx)
  obtain ⟨⟨f0, f1⟩, ⟨t0, t1⟩, w0, w1⟩ := hxl
  unfold badArc at hb
  have hb := of_decide_eq_true hb
  have e1 : 0 ≤ x.fr % nodesOf n := Int.emod_nonneg _ (by omega)
  have e2 : x.fr % nodesOf n < nodesOf n := Int.emod_lt_of_pos _ (by omega)
  have e3 : 0 ≤ x.to % nodesOf n := Int.emod_nonneg _ (by omega)
  have e4 : x.to % nodesOf n < nodesOf n := Int.emod_lt_of_pos _ (by omega)
  simp only [arcOf] at hb
  omega
end Go.Proofs.Ytaaffahjlkfbgaa
