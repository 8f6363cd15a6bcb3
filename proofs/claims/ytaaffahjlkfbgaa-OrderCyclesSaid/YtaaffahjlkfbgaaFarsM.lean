/- Rounds side by side (law 07's Fars): when they stand still, and that they then tell what bend tells. No program in sight. -/
import Derived.Test.YtaaffahjlkfbgaaCycleM
namespace Go.Proofs.Ytaaffahjlkfbgaa
set_option linter.unusedVariables false
/-- One arc, in a round: what was told in the round ahead is `now`. -/
def stepF (now nx : Nat → Int) (a : ArcV) : Nat → Int := fun v => if now a.fr.toNat ≠ FAR ∧ v = a.to.toNat then min (nx v) (now a.fr.toNat + a.wt) else nx v
def roundF (l : List ArcV) (now : Nat → Int) (k : Nat) : Nat → Int := (l.take k).foldl (stepF now) now
def farsR (l : List ArcV) (f : Nat) : Nat → Nat → Int
  | 0 => fun v => if v = f then 0 else FAR
  | r + 1 => roundF l (farsR l f r) l.length
theorem roundF_succ {l : List ArcV} {now : Nat → Int} {k : Nat} (hk : k < l.length) : roundF l now (k + 1) = stepF now (roundF l now k) l[k] := by
  unfold roundF
  rw [List.take_succ_eq_append_getElem hk, List.foldl_append]
  rfl
theorem roundF_zero (l : List ArcV) (now : Nat → Int) : roundF l now 0 = now := by simp [roundF]
theorem stepF_le (now nx : Nat → Int) (a : ArcV) (v : Nat) : stepF now nx a v ≤ nx v := by unfold stepF; split <;> omega
theorem roundF_le (l : List ArcV) (now : Nat → Int) (v : Nat) : ∀ k, k ≤ l.length → roundF l now k v ≤ now v := by
  intro k
  induction k with
  | zero => intro _; rw [roundF_zero]; exact Int.le_refl _
  | succ k ih => intro hk; rw [roundF_succ (by omega)]; exact Int.le_trans (stepF_le _ _ _ _) (ih (by omega))
theorem roundF_mono (l : List ArcV) (now : Nat → Int) (v j : Nat) (hj : j ≤ l.length) : ∀ k, j ≤ k → k ≤ l.length → roundF l now k v ≤ roundF l now j v := by
  intro k
  induction k with
  | zero =>
    intro h1 _
    obtain rfl : j = 0 := by omega
    exact Int.le_refl _
  | succ k ih =>
    intro h1 h2
    by_cases e : j = k + 1
    · subst e; exact Int.le_refl _
    · rw [roundF_succ (by omega)]; exact Int.le_trans (stepF_le _ _ _ _) (ih (by omega) (by omega))
theorem farsR_le (l : List ArcV) (f r v : Nat) : farsR l f (r + 1) v ≤ farsR l f r v := roundF_le l _ v _ (Nat.le_refl _)
theorem farsR_dec (l : List ArcV) (f v : Nat) {r q : Nat} (h : r ≤ q) : farsR l f q v ≤ farsR l f r v := by
  obtain ⟨d, rfl⟩ : ∃ d, q = r + d := ⟨q - r, by omega⟩
  clear h
  induction d with
  | zero => exact Int.le_refl _
  | succ d ih => exact Int.le_trans (farsR_le l f (r + d) v) ih
/-- An arc makes no more than its sum. -/
theorem farsR_arc {l : List ArcV} {f r k : Nat} (hk : k < l.length) (h : farsR l f r l[k].fr.toNat ≠ FAR) : farsR l f (r + 1) l[k].to.toNat ≤ farsR l f r l[k].fr.toNat + l[k].wt := by
  have h1 : roundF l (farsR l f r) (k + 1) l[k].to.toNat ≤ farsR l f r l[k].fr.toNat + l[k].wt := by
    rw [roundF_succ hk]
    unfold stepF
    rw [if_pos ⟨h, rfl⟩]
    omega
  exact Int.le_trans (roundF_mono l _ _ (k + 1) (by omega) l.length (by omega) (Nat.le_refl _)) h1
/-- What a round tells was told in the round ahead, or is by one arc. -/
theorem roundF_from {l : List ArcV} {now : Nat → Int} {v : Nat} : ∀ k, k ≤ l.length → roundF l now k v = now v ∨ ∃ j, ∃ hj : j < l.length, l[j].to.toNat = v ∧ now l[j].fr.toNat ≠ FAR ∧ roundF l now k v = now l[j].fr.toNat + l[j].wt := by
  intro k
  induction k with
  | zero => intro _; left; rw [roundF_zero]
  | succ k ih =>
    intro hk
    rw [roundF_succ (by omega)]
    by_cases h : now l[k].fr.toNat ≠ FAR ∧ v = l[k].to.toNat
    · by_cases h2 : roundF l now k v ≤ now l[k].fr.toNat + l[k].wt
      · have e : stepF now (roundF l now k) l[k] v = roundF l now k v := by unfold stepF; rw [if_pos h]; omega
        rw [e]
        exact ih (by omega)
      · right
        refine ⟨k, by omega, h.2.symm, h.1, ?_⟩
        unfold stepF; rw [if_pos h]; omega
    · have e : stepF now (roundF l now k) l[k] v = roundF l now k v := by unfold stepF; rw [if_neg h]
      rw [e]
      exact ih (by omega)
/-- Each is FAR or what a walk of at most r arcs weighs. -/
theorem farsR_walk {N : Nat} {l : List ArcV} {f : Nat} (hN : InN N l) (r : Nat) : ∀ v, v < N → farsR l f r v = FAR ∨ ∃ q, q ≤ r ∧ Wk l f q v (farsR l f r v) := by
  induction r with
  | zero =>
    intro v hv
    show (if v = f then 0 else FAR) = FAR ∨ ∃ q, q ≤ 0 ∧ Wk l f q v (if v = f then 0 else FAR)
    by_cases e : v = f
    · subst e; right; rw [if_pos rfl]; exact ⟨0, Nat.le_refl _, .nil⟩
    · left; rw [if_neg e]
  | succ r ih =>
    intro v hv
    rcases roundF_from (l := l) (now := farsR l f r) (v := v) l.length (Nat.le_refl _) with h | ⟨j, hj, h1, h2, h3⟩
    · have e : farsR l f (r + 1) v = farsR l f r v := h
      rw [e]
      rcases ih v hv with h | ⟨q, hq, h⟩
      · exact .inl h
      · exact .inr ⟨q, by omega, h⟩
    · have e : farsR l f (r + 1) v = farsR l f r l[j].fr.toNat + l[j].wt := h3
      have hin := hN _ (List.getElem_mem hj)
      rcases ih l[j].fr.toNat (by omega) with h | ⟨q, hq, h⟩
      · exact absurd h h2
      · right
        refine ⟨q + 1, by omega, ?_⟩
        rw [e]
        have := Wk.snoc j hj h (by omega)
        rw [h1] at this
        exact this
theorem farsR_bnd {N : Nat} {l : List ArcV} {f : Nat} {W : Int} (hN : InN N l) (hW : ∀ a ∈ l, -W ≤ a.wt ∧ a.wt ≤ W) (hW0 : 0 ≤ W) {r R : Nat} (hr : r ≤ R) {v : Nat} (hv : v < N) : farsR l f r v = FAR ∨ (-(W * R) ≤ farsR l f r v ∧ farsR l f r v ≤ W * R) := by
  rcases farsR_walk (f := f) hN r v hv with h | ⟨q, hq, h⟩
  · exact .inl h
  · right
    have h1 := h.bound hW
    have h2 : W * (q : Int) ≤ W * (R : Int) := Int.mul_le_mul_of_nonneg_left (by omega) hW0
    omega
def StillF (N : Nat) (l : List ArcV) (f r : Nat) : Prop := ∀ v, v < N → farsR l f (r + 1) v = farsR l f r v
/-- Where the rounds stand still: no walk is lighter. -/
theorem StillF.least {N : Nat} {l : List ArcV} {f : Nat} {W : Int} {r : Nat} (hN : InN N l) (hf : f < N) (hW : ∀ a ∈ l, -W ≤ a.wt ∧ a.wt ≤ W) (hW0 : 0 ≤ W) (hB : W * ((r + 1 : Nat) : Int) < FAR) (h : StillF N l f r) {q v : Nat} {c : Int} (hw : Wk l f q v c) : farsR l f r v ≤ c ∧ farsR l f r v < FAR := by
  rw [Int.natCast_add, Int.natCast_one, Int.mul_add, Int.mul_one] at hB
  induction hw with
  | nil =>
    have h0 : farsR l f r f ≤ 0 := by
      have := farsR_dec l f f (Nat.zero_le r)
      have e : farsR l f 0 f = 0 := by show (if f = f then (0 : Int) else FAR) = 0; rw [if_pos rfl]
      omega
    exact ⟨h0, by unfold FAR; omega⟩
  | @snoc q v c k hk hw he ih =>
    have e : l[k].fr.toNat = v := by omega
    have hin := hN _ (List.getElem_mem hk)
    have hv := hw.lt hN hf
    have ha := farsR_arc (f := f) (r := r) hk (by rw [e]; omega)
    rw [e, h _ (by omega)] at ha
    have hb := farsR_bnd (f := f) hN hW hW0 (Nat.le_refl r) hv
    have hwk := hW _ (List.getElem_mem hk)
    refine ⟨by omega, ?_⟩
    rcases hb with hb | hb
    · omega
    · omega
/-- Both stand still: they tell the same. -/
theorem StillF.same {N : Nat} {l : List ArcV} {f : Nat} {W : Int} {r : Nat} {s : BS} (hN : InN N l) (hf : f < N) (hW : ∀ a ∈ l, -W ≤ a.wt ∧ a.wt ≤ W) (hW0 : 0 ≤ W) (hB : W * ((r + 1 : Nat) : Int) < FAR) (hB2 : W * ((s.clk + 1 : Nat) : Int) < FAR) (h : StillF N l f r) (g : Still N l f W s) : ∀ v, v < N → farsR l f r v = s.far v := by
  intro v hv
  have hb := g.inv.bnd v hv
  rcases farsR_walk (f := f) hN r v hv with h1 | ⟨q, _, h1⟩
  · rcases hb with hb | hb
    · omega
    · obtain ⟨q, hq⟩ := g.inv.att v hv hb.2.2
      have := (h.least hN hf hW hW0 hB hq).2
      omega
  · have h2 := g.least hN hf hW hB2 h1
    obtain ⟨q, hq⟩ := g.inv.att v hv h2.2
    have := (h.least hN hf hW hW0 hB hq).1
    omega
/-- A cycle that weighs less than nothing: the rounds don't stand still. -/
theorem StillF.no_cyc {N : Nat} {l : List ArcV} {f : Nat} {W : Int} {r c p : Nat} {s : BS} (hN : InN N l) (hf : f < N) (hW : ∀ a ∈ l, -W ≤ a.wt ∧ a.wt ≤ W) (hW0 : 0 ≤ W) (hB : W * ((r + 1 : Nat) : Int) < FAR) (hI : BInv N l f W s) (hc : Cyc N l s.by_ c p) (h : StillF N l f r) : False := by
  obtain ⟨q, hq⟩ := hI.att c (hc.led 0).1 (cyc_far hI hc)
  have hneg := cyc_weight hN hI hc
  have hreach := (h.least hN hf hW hW0 hB hq).2
  have key : ∀ m, m ≤ p → farsR l f r (pit l s.by_ (p - m) c) < FAR ∧ farsR l f r (pit l s.by_ (p - m) c) + backW l s.by_ c (p - m) ≤ farsR l f r c + backW l s.by_ c p := by
    intro m
    induction m with
    | zero => intro _; rw [Nat.sub_zero, hc.back]; exact ⟨hreach, Int.le_refl _⟩
    | succ m ih =>
      intro hm
      obtain ⟨i1, i2⟩ := ih (by omega)
      obtain ⟨n, hn⟩ : ∃ n, p - (m + 1) = n := ⟨_, rfl⟩
      have e : p - m = n + 1 := by omega
      rw [hn]
      rw [e] at i1 i2
      obtain ⟨hv, k, hk, h1, h2⟩ := hc.led n
      have e1 : pit l s.by_ (n + 1) c = l[k].fr.toNat := by rw [pit]; exact predF_at hk h1
      have e2 : wtAt l (s.by_ (pit l s.by_ n c)) = l[k].wt := by unfold wtAt; rw [h1, Int.toNat_natCast, List.getElem?_eq_getElem hk]
      have hin := hN _ (List.getElem_mem hk)
      rw [e1] at i1 i2
      rw [backW, e2] at i2
      have ha := farsR_arc (f := f) (r := r) hk (by omega)
      have et : l[k].to.toNat = pit l s.by_ n c := by omega
      rw [et, h _ hv] at ha
      have hb := farsR_bnd (f := f) hN hW hW0 (Nat.le_refl r) (v := l[k].fr.toNat) (by omega)
      have hwk := hW _ (List.getElem_mem hk)
      rw [Int.natCast_add, Int.natCast_one, Int.mul_add, Int.mul_one] at hB
      refine ⟨?_, by omega⟩
      rcases hb with hb | hb <;> omega
  have := (key p (Nat.le_refl _)).2
  rw [Nat.sub_self] at this
  have e : backW l s.by_ c 0 = 0 := rfl
  have e2 : pit l s.by_ 0 c = c := rfl
  rw [e, e2] at this
  omega
/-- A chain back of nodes that got nearer, in each round one. -/
theorem chain {N : Nat} {l : List ArcV} {f : Nat} {p : Nat → Int} (hN : InN N l) (hp : ∀ k, ∀ hk : k < l.length, p l[k].fr.toNat < FAR → p l[k].to.toNat ≤ p l[k].fr.toNat + l[k].wt) (hpf : ∀ r v, v < N → farsR l f r v ≠ FAR → p v < FAR) (R : Nat) {v : Nat} (hv : v < N) (h : farsR l f (R + 1) v < farsR l f R v) :
    ∃ g : Nat → Nat, g (R + 1) = v ∧ (∀ i, i ≤ R + 1 → g i < N) ∧ (∀ i, i ≤ R → farsR l f (i + 1) (g (i + 1)) < farsR l f i (g (i + 1))) ∧ ∀ i, i ≤ R → farsR l f i (g i) - p (g i) ≤ farsR l f (i + 1) (g (i + 1)) - p (g (i + 1)) := by
  induction R generalizing v with
  | zero =>
    rcases roundF_from (l := l) (now := farsR l f 0) (v := v) l.length (Nat.le_refl _) with e | ⟨j, hj, h1, h2, h3⟩
    · have e' : farsR l f (0 + 1) v = farsR l f 0 v := e
      omega
    · have e : farsR l f (0 + 1) v = farsR l f 0 l[j].fr.toNat + l[j].wt := h3
      have hin := hN _ (List.getElem_mem hj)
      have hpp := hp j hj (hpf 0 _ (by omega) h2)
      rw [h1] at hpp
      refine ⟨fun i => if i = 0 then l[j].fr.toNat else v, by simp, ?_, ?_, ?_⟩
      · intro i _; dsimp only; split <;> omega
      · intro i hi
        obtain rfl : i = 0 := by omega
        simpa using h
      · intro i hi
        obtain rfl : i = 0 := by omega
        show farsR l f 0 (if (0 : Nat) = 0 then l[j].fr.toNat else v) - p (if (0 : Nat) = 0 then l[j].fr.toNat else v) ≤ farsR l f (0 + 1) (if 0 + 1 = 0 then l[j].fr.toNat else v) - p (if 0 + 1 = 0 then l[j].fr.toNat else v)
        rw [if_pos rfl, if_neg (by omega)]
        omega
  | succ R ih =>
    rcases roundF_from (l := l) (now := farsR l f (R + 1)) (v := v) l.length (Nat.le_refl _) with e | ⟨j, hj, h1, h2, h3⟩
    · have e' : farsR l f (R + 1 + 1) v = farsR l f (R + 1) v := e
      omega
    · have e : farsR l f (R + 1 + 1) v = farsR l f (R + 1) l[j].fr.toNat + l[j].wt := h3
      have hin := hN _ (List.getElem_mem hj)
      have hu : farsR l f (R + 1) l[j].fr.toNat < farsR l f R l[j].fr.toNat := by
        have hle := farsR_le l f R l[j].fr.toNat
        apply Classical.byContradiction
        intro hn
        have heq : farsR l f R l[j].fr.toNat = farsR l f (R + 1) l[j].fr.toNat := by omega
        have ha := farsR_arc (f := f) (r := R) hj (by rw [heq]; exact h2)
        rw [h1] at ha
        omega
      obtain ⟨g, g1, g2, g3, g4⟩ := ih (v := l[j].fr.toNat) (by omega) hu
      have hpp := hp j hj (hpf (R + 1) _ (by omega) h2)
      rw [h1] at hpp
      have eo : ∀ i, i ≤ R + 1 → (if i = R + 2 then v else g i) = g i := fun i hi => if_neg (by omega)
      have en : (if R + 1 + 1 = R + 2 then v else g (R + 1 + 1)) = v := if_pos rfl
      refine ⟨fun i => if i = R + 2 then v else g i, en, ?_, ?_, ?_⟩
      · intro i hi
        dsimp only
        split
        · exact hv
        · exact g2 i (by omega)
      · intro i hi
        dsimp only
        by_cases ei : i = R + 1
        · subst ei; rw [en]; exact h
        · rw [eo (i + 1) (by omega)]; exact g3 i (by omega)
      · intro i hi
        dsimp only
        by_cases ei : i = R + 1
        · subst ei
          rw [en, eo (R + 1) (Nat.le_refl _), g1]
          omega
        · rw [eo (i + 1) (by omega), eo i (by omega)]; exact g4 i (by omega)
/-- Where bend stands still the rounds do, at last. -/
theorem stillF_of {N : Nat} {l : List ArcV} {f : Nat} {W : Int} {s : BS} (hN : InN N l) (hf : f < N) (hW : ∀ a ∈ l, -W ≤ a.wt ∧ a.wt ≤ W) (hB2 : W * ((s.clk + 1 : Nat) : Int) < FAR) (g : Still N l f W s) : StillF N l f N := by
  intro v hv
  apply Classical.byContradiction
  intro hne
  have hlt : farsR l f (N + 1) v < farsR l f N v := by have := farsR_le l f N v; omega
  obtain ⟨c, _, c2, c3, c4⟩ := chain (p := s.far) hN (by
    intro k hk hlt
    have := g.not_ k hk
    unfold goes at this
    omega) (by
    intro r u hu hne
    rcases farsR_walk (f := f) hN r u hu with h | ⟨q, _, h⟩
    · exact absurd h hne
    · exact (g.least hN hf hW hB2 h).2) N hv hlt
  obtain ⟨i, j, h1, h2, h3⟩ := pigeon N c (fun i hi => c2 i (by omega))
  have mono : ∀ d, i + d ≤ N → farsR l f i (c i) - s.far (c i) ≤ farsR l f (i + d) (c (i + d)) - s.far (c (i + d)) := by
    intro d
    induction d with
    | zero => intro _; exact Int.le_refl _
    | succ d ih => intro hd; exact Int.le_trans (ih (by omega)) (c4 (i + d) (by omega))
  have m1 := mono (j - i) (by omega)
  rw [show i + (j - i) = j from by omega, ← h3] at m1
  have m2 := c3 (j - 1) (by omega)
  rw [show j - 1 + 1 = j from by omega, ← h3] at m2
  have m3 := farsR_dec l f (c i) (show i ≤ j - 1 from by omega)
  omega
end Go.Proofs.Ytaaffahjlkfbgaa
