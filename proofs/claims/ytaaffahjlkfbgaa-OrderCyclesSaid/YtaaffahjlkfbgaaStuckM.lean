/- The nodes that are left where there is a cycle, and the way back from them. No program in sight. -/
import Derived.Test.YtaaffahjlkfbgaaOrd
import Derived.Test.YtaaffahjlkfbgaaPathOk
namespace Go.Proofs.Ytaaffahjlkfbgaa
set_option linter.unusedVariables false
def ledA (S : Nat → Bool) (f : Nat → Bool) (a : ArcV) : Nat → Bool := fun j => if j = a.to.toNat then (f a.to.toNat || S a.fr.toNat) else f j
def ledB (L : List ArcV) (S : Nat → Bool) : Nat → Bool := L.foldl (ledA S) (fun _ => false)
theorem ledA_fold (S : Nat → Bool) : ∀ (L : List ArcV) (f : Nat → Bool) (j : Nat), L.foldl (ledA S) f j = true ↔ f j = true ∨ ∃ a ∈ L, a.to.toNat = j ∧ S a.fr.toNat = true
  | [], f, j => by simp
  | b :: L, f, j => by
    rw [List.foldl_cons, ledA_fold S L]
    unfold ledA
    by_cases e : j = b.to.toNat
    · rw [if_pos e, Bool.or_eq_true]
      constructor
      · rintro ((h | h) | ⟨a, h1, h2, h3⟩)
        · left; rw [e]; exact h
        · exact .inr ⟨b, by simp, e.symm, h⟩
        · exact .inr ⟨a, by simp [h1], h2, h3⟩
      · rintro (h | ⟨a, h1, h2, h3⟩)
        · left; left; rw [← e]; exact h
        · rcases List.mem_cons.1 h1 with rfl | h1
          · exact .inl (.inr h3)
          · exact .inr ⟨a, h1, h2, h3⟩
    · rw [if_neg e]
      constructor
      · rintro (h | ⟨a, h1, h2, h3⟩)
        · exact .inl h
        · exact .inr ⟨a, by simp [h1], h2, h3⟩
      · rintro (h | ⟨a, h1, h2, h3⟩)
        · exact .inl h
        · rcases List.mem_cons.1 h1 with rfl | h1
          · exact absurd h2.symm e
          · exact .inr ⟨a, h1, h2, h3⟩
theorem ledB_iff (L : List ArcV) (S : Nat → Bool) (j : Nat) : ledB L S j = true ↔ ∃ a ∈ L, a.to.toNat = j ∧ S a.fr.toNat = true := by
  unfold ledB; rw [ledA_fold]; simp
def stuckR (L : List ArcV) : Nat → Nat → Bool
  | 0 => fun _ => true
  | r + 1 => fun j => stuckR L r j && ledB L (stuckR L r) j
theorem stuckR_le (L : List ArcV) (r j : Nat) (h : stuckR L (r + 1) j = true) : stuckR L r j = true := by
  unfold stuckR at h; simp at h; exact h.1
theorem count_le (N : Nat) (f g : Nat → Bool) (h : ∀ j, j < N → f j = true → g j = true) : (List.range N).countP f ≤ (List.range N).countP g :=
  List.countP_mono_left fun j hj hf => h j (List.mem_range.1 hj) hf
theorem count_same (N : Nat) (f g : Nat → Bool) (h : ∀ j, j < N → f j = true → g j = true) (hc : (List.range N).countP g ≤ (List.range N).countP f) : ∀ j, j < N → f j = g j := by
  induction N with
  | zero => intro j hj; omega
  | succ n ih =>
    have h1 := count_le n f g (fun j hj => h j (by omega))
    rw [List.range_succ, List.countP_append, List.countP_append] at hc
    simp only [List.countP_cons, List.countP_nil] at hc
    intro j hj
    by_cases e : j = n
    · subst e
      cases hf : f j
      · cases hg : g j
        · rfl
        · rw [hf, hg] at hc; simp at hc; omega
      · rw [h j hj hf]
    · refine ih (fun j hj => h j (by omega)) ?_ j (by omega)
      cases hf : f n
      · cases hg : g n
        · rw [hf, hg] at hc; simpa using hc
        · rw [hf, hg] at hc; simp at hc; omega
      · rw [hf, h n (by omega) hf] at hc; simpa using hc
theorem count_none (N : Nat) (f : Nat → Bool) (hc : (List.range N).countP f = 0) (j : Nat) (hj : j < N) : f j = false := by
  rw [List.countP_eq_zero] at hc
  have := hc j (List.mem_range.2 hj)
  simpa using this
theorem ledB_ext {N : Nat} {L : List ArcV} (hin : InN N L) {S T : Nat → Bool} (h : ∀ j, j < N → S j = T j) (j : Nat) : ledB L S j = ledB L T j := by
  rw [Bool.eq_iff_iff, ledB_iff, ledB_iff]
  constructor
  · rintro ⟨a, h1, h2, h3⟩; exact ⟨a, h1, h2, by rw [← h _ (by have := hin a h1; omega)]; exact h3⟩
  · rintro ⟨a, h1, h2, h3⟩; exact ⟨a, h1, h2, by rw [h _ (by have := hin a h1; omega)]; exact h3⟩
theorem stuck_still {N : Nat} {L : List ArcV} (hin : InN N L) {r : Nat} (h : ∀ j, j < N → stuckR L (r + 1) j = stuckR L r j) : ∀ d j, j < N → stuckR L (r + d + 1) j = stuckR L (r + d) j := by
  intro d
  induction d with
  | zero => exact h
  | succ d ih =>
    intro j hj
    show (stuckR L (r + d + 1) j && ledB L (stuckR L (r + d + 1)) j) = (stuckR L (r + d) j && ledB L (stuckR L (r + d)) j)
    rw [ih j hj, ledB_ext hin ih]
theorem stuck_or {N : Nat} {L : List ArcV} (hin : InN N L) (r : Nat) : (∃ q, q ≤ r ∧ ∀ j, j < N → stuckR L (q + 1) j = stuckR L q j) ∨ (List.range N).countP (stuckR L (r + 1)) + (r + 1) ≤ N := by
  induction r with
  | zero =>
    by_cases h : (List.range N).countP (stuckR L 0) ≤ (List.range N).countP (stuckR L 1)
    · exact .inl ⟨0, Nat.le_refl _, count_same N _ _ (fun j _ => stuckR_le L 0 j) h⟩
    · right
      have := List.countP_le_length (p := stuckR L 0) (l := List.range N)
      rw [List.length_range] at this
      show (List.range N).countP (stuckR L 1) + 1 ≤ N
      omega
  | succ r ih =>
    rcases ih with ⟨q, h1, h2⟩ | ih
    · exact .inl ⟨q, by omega, h2⟩
    · by_cases h : (List.range N).countP (stuckR L (r + 1)) ≤ (List.range N).countP (stuckR L (r + 1 + 1))
      · exact .inl ⟨r + 1, Nat.le_refl _, count_same N _ _ (fun j _ => stuckR_le L _ j) h⟩
      · right; omega
/-- What is left is led to from what is left. -/
theorem stuck_led {N : Nat} {L : List ArcV} (hin : InN N L) {i : Nat} (hi : i < N) (h : stuckR L N i = true) : ∃ k, ∃ hk : k < L.length, L[k].to = (i : Int) ∧ stuckR L N L[k].fr.toNat = true := by
  have hst : ∀ j, j < N → stuckR L (N + 1) j = stuckR L N j := by
    have h1 := stuck_or hin (N - 1)
    rcases h1 with ⟨q, h1, h2⟩ | h1
    · have := stuck_still hin h2 (N - q)
      rwa [show q + (N - q) = N by omega] at this
    · rw [show N - 1 + 1 = N by omega] at h1
      have := count_none N (stuckR L N) (by omega) i hi
      rw [this] at h; cases h
  have h2 := hst i hi
  rw [h] at h2
  have h3 : (stuckR L N i && ledB L (stuckR L N) i) = true := h2
  rw [h, Bool.true_and, ledB_iff] at h3
  obtain ⟨a, ha, h4, h5⟩ := h3
  obtain ⟨k, hk, rfl⟩ := List.mem_iff_getElem.1 ha
  refine ⟨k, hk, ?_, h5⟩
  have := hin _ ha
  omega
/-- Where the nodes in order aren't all: there is one that is left. -/
theorem stuck_some {N : Nat} {L : List ArcV} (hin : InN N L) {out : List Int} (hs : Stop N L out) (hl : out.length < N) : ∃ i, i < N ∧ stuckR L N i = true := by
  have hex : ∃ i, i < N ∧ (i : Int) ∉ out := by
    apply Classical.byContradiction
    intro hn
    have key : ∀ i, i < N → (i : Int) ∈ out := fun i hi => Classical.byContradiction fun h => hn ⟨i, hi, h⟩
    obtain ⟨i, j, h1, h2, h3⟩ := pigeon out.length (fun i => out.idxOf (i : Int)) (fun i hi => List.idxOf_lt_length_of_mem (key i (by omega)))
    have hi := key i (by omega)
    have hj := key j (by omega)
    have ei := List.getElem_idxOf (List.idxOf_lt_length_of_mem hi)
    have ej := List.getElem_idxOf (List.idxOf_lt_length_of_mem hj)
    have h3' : out.idxOf (i : Int) = out.idxOf (j : Int) := h3
    have : (i : Int) = (j : Int) := by
      rw [← ei, ← ej]
      congr 1
    omega
  obtain ⟨i, hi, hno⟩ := hex
  refine ⟨i, hi, ?_⟩
  have key : ∀ r, ∀ i, i < N → (i : Int) ∉ out → stuckR L r i = true := by
    intro r
    induction r with
    | zero => intro i _ _; rfl
    | succ r ih =>
      intro i hi hno
      show (stuckR L r i && ledB L (stuckR L r) i) = true
      rw [ih i hi hno, Bool.true_and, ledB_iff]
      have h1 := hs i hi
      unfold FreeN at h1
      have h2 : ∃ a ∈ L, a.to = (i : Int) ∧ a.fr ∉ out := by
        apply Classical.byContradiction
        intro hn
        exact h1 ⟨hno, fun a ha hto => Classical.byContradiction fun h => hn ⟨a, ha, hto, h⟩⟩
      obtain ⟨a, ha, hto, hfr⟩ := h2
      have := hin a ha
      refine ⟨a, ha, by omega, ih _ (by omega) ?_⟩
      rwa [Int.toNat_of_nonneg this.1.1]
  exact key N i hi hno
/-- A way back over what is left: the nodes, the arcs, where one is. -/
inductive Trail (L : List ArcV) (S : Nat → Bool) : List Nat → List Int → Nat → Prop
  | nil {c : Nat} : S c = true → Trail L S [] [] c
  | snoc {vs : List Nat} {way : List Int} {v k : Nat} (h : Trail L S vs way v) (hv : v ∉ vs) (hk : k < L.length) (ht : L[k].to = (v : Int)) (hf : S L[k].fr.toNat = true) : Trail L S (vs ++ [v]) (way ++ [(k : Int)]) L[k].fr.toNat
theorem Trail.len {L : List ArcV} {S : Nat → Bool} {vs : List Nat} {way : List Int} {v : Nat} (h : Trail L S vs way v) : way.length = vs.length := by
  induction h with
  | nil => rfl
  | snoc _ _ _ _ _ ih => simp [ih]
theorem Trail.at {L : List ArcV} {S : Nat → Bool} {vs : List Nat} {way : List Int} {v : Nat} (h : Trail L S vs way v) : S v = true := by
  cases h with
  | nil h => exact h
  | snoc _ _ _ _ hf => exact hf
theorem Trail.nodup {L : List ArcV} {S : Nat → Bool} {vs : List Nat} {way : List Int} {v : Nat} (h : Trail L S vs way v) : vs.Nodup := by
  induction h with
  | nil => exact .nil
  | @snoc vs way v k _ hv _ _ _ ih =>
    rw [List.nodup_append]
    refine ⟨ih, by simp, ?_⟩
    intro a ha b hb e
    simp at hb
    subst e hb
    exact hv ha
theorem Trail.lt {N : Nat} {L : List ArcV} {S : Nat → Bool} (hin : InN N L) {vs : List Nat} {way : List Int} {v : Nat} (h : Trail L S vs way v) (hS : ∀ u, S u = true → vs = [] → v = u → u < N) : (∀ u ∈ vs, u < N) ∧ v < N := by
  induction h with
  | nil h => exact ⟨by simp, hS _ h rfl rfl⟩
  | @snoc vs way v k h hv hk ht hf ih =>
    have h1 := hin _ (List.getElem_mem hk)
    refine ⟨fun u hu => ?_, by omega⟩
    rcases List.mem_append.1 hu with h2 | h2
    · have h3 : vs ≠ [] := fun e => by rw [e] at h2; simp at h2
      exact (ih (fun u _ e _ => absurd e h3)).1 u h2
    · simp at h2; subst h2; omega
theorem Trail.ways {L : List ArcV} {S : Nat → Bool} {vs : List Nat} {way : List Int} {u : Nat} (hnn : ∀ a ∈ L, 0 ≤ a.fr) (h : Trail L S vs way u) : ∀ i, ∀ hi : i < vs.length, ∃ wt, Pth L (way.drop i).reverse u vs[i] wt ∧ ∃ k ks, ∃ hk : k < L.length, (way.drop i).reverse = (k : Int) :: ks ∧ L[k].fr = (u : Int) := by
  induction h with
  | nil => intro i hi; simp at hi
  | @snoc vs way v k h hv hk ht hf ih =>
    intro i hi
    have hl := h.len
    have hfr : L[k].fr = (L[k].fr.toNat : Int) := (Int.toNat_of_nonneg (hnn _ (List.getElem_mem hk))).symm
    have hd : ((way ++ [(k : Int)]).drop i).reverse = (k : Int) :: (way.drop i).reverse := by
      simp at hi
      rw [List.drop_append_of_le_length (by omega)]; simp
    rw [hd]
    by_cases e : i < vs.length
    · obtain ⟨wt, hp, _⟩ := ih i e
      refine ⟨L[k].wt + wt, ?_, k, _, hk, rfl, hfr⟩
      rw [List.getElem_append_left e]
      exact Pth.cons hk hfr (by rw [ht]; exact hp)
    · simp at hi
      obtain rfl : i = vs.length := by omega
      refine ⟨L[k].wt + 0, ?_, k, _, hk, rfl, hfr⟩
      rw [List.drop_eq_nil_of_le (by omega)]
      simp only [List.getElem_concat_length, List.reverse_nil]
      have := Pth.cons hk hfr (Pth.nil (l := L) (v := L[k].to))
      rw [ht] at this
      exact this
/-- Where each node stands on the way, from 1 on; 0: it isn't there. -/
def seenV (vs : List Nat) (j : Nat) : Int := if j ∈ vs then (vs.idxOf j : Int) + 1 else 0
theorem seenV_zero {vs : List Nat} {j : Nat} : seenV vs j = 0 ↔ j ∉ vs := by
  unfold seenV; split
  · constructor
    · intro h; omega
    · intro h; contradiction
  · simp [*]
theorem seenV_snoc {vs : List Nat} {v : Nat} (h : v ∉ vs) (j : Nat) : seenV (vs ++ [v]) j = if j = v then (vs.length : Int) + 1 else seenV vs j := by
  unfold seenV
  by_cases e : j = v
  · subst e
    rw [if_pos (by simp), if_pos rfl, List.idxOf_append, if_neg h]
    simp
  · rw [if_neg e]
    by_cases h2 : j ∈ vs
    · rw [if_pos (by simp [h2]), if_pos h2, List.idxOf_append, if_pos h2]
    · rw [if_neg (by simp [h2, e]), if_neg h2]
theorem seenV_mem {vs : List Nat} {v : Nat} (h : seenV vs v ≠ 0) : ∃ i, ∃ hi : i < vs.length, vs[i] = v ∧ seenV vs v = (i : Int) + 1 := by
  have hm : v ∈ vs := Classical.byContradiction fun hn => h (seenV_zero.2 hn)
  refine ⟨vs.idxOf v, List.idxOf_lt_length_of_mem hm, List.getElem_idxOf _, ?_⟩
  unfold seenV; rw [if_pos hm]
theorem trail_len {N : Nat} {vs : List Nat} (hd : vs.Nodup) (hb : ∀ u ∈ vs, u < N) : vs.length ≤ N := by
  have h := nodup_len (N := N) (out := vs.map fun u : Nat => (u : Int)) ?_ ?_
  · simpa using h
  · rw [List.nodup_iff_pairwise_ne, List.pairwise_map]
    exact (List.nodup_iff_pairwise_ne.1 hd).imp fun h e => h (by omega)
  · intro x hx
    obtain ⟨u, hu, rfl⟩ := List.mem_map.1 hx
    have := hb u hu
    omega
end Go.Proofs.Ytaaffahjlkfbgaa
