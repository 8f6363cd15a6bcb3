/- Ways by arcs that may weigh less than nothing, in plain Lean: rounds in place; when they end; by which arc one comes; the cycle where they don't. No program in sight. -/
import Derived.Test.YtjpejclfppbboaaReachM
namespace Go.Proofs.Ytjpejclfppbboaa
set_option linter.unusedVariables false
def FAR : Int := 1152921504606846976
/-- How far each node is; by which arc; (told besides: when it was last made nearer, in which round). -/
structure BS where
  far : Nat → Int
  by_ : Nat → Int
  tm : Nat → Nat
  rd : Nat → Nat
  clk : Nat
def BS.start (f : Nat) : BS := ⟨fun v => if v = f then 0 else FAR, fun _ => -1, fun _ => 0, fun _ => 0, 1⟩
def relax (a : ArcV) (k r : Nat) (s : BS) : BS :=
  ⟨fun v => if v = a.to.toNat then s.far a.fr.toNat + a.wt else s.far v, fun v => if v = a.to.toNat then (k : Int) else s.by_ v, fun v => if v = a.to.toNat then s.clk else s.tm v, fun v => if v = a.to.toNat then r else s.rd v, s.clk + 1⟩
def goes (a : ArcV) (s : BS) : Prop := s.far a.fr.toNat < FAR ∧ s.far a.fr.toNat + a.wt < s.far a.to.toNat
instance (a : ArcV) (s : BS) : Decidable (goes a s) := by unfold goes; infer_instance
/-- The first k arcs, once each, in round r; the last node that was made nearer. -/
def roundK (l : List ArcV) (r : Nat) (s : BS) : Nat → BS × Int
  | 0 => (s, -1)
  | k + 1 => match l[k]? with
    | none => roundK l r s k
    | some a => if goes a (roundK l r s k).1 then (relax a k r (roundK l r s k).1, a.to) else roundK l r s k
theorem roundK_yes {l : List ArcV} {r : Nat} {s : BS} {k : Nat} (hk : k < l.length) (h : goes l[k] (roundK l r s k).1) : roundK l r s (k + 1) = (relax l[k] k r (roundK l r s k).1, l[k].to) := by
  rw [roundK]
  simp only [List.getElem?_eq_getElem hk]
  exact if_pos h
theorem roundK_no {l : List ArcV} {r : Nat} {s : BS} {k : Nat} (hk : k < l.length) (h : ¬ goes l[k] (roundK l r s k).1) : roundK l r s (k + 1) = roundK l r s k := by
  rw [roundK]
  simp only [List.getElem?_eq_getElem hk]
  exact if_neg h
/-- A walk of q arcs from f to v that weighs c. -/
inductive Wk (l : List ArcV) (f : Nat) : Nat → Nat → Int → Prop
  | nil : Wk l f 0 f 0
  | snoc {q v : Nat} {c : Int} (k : Nat) (hk : k < l.length) : Wk l f q v c → l[k].fr = (v : Int) → Wk l f (q + 1) l[k].to.toNat (c + l[k].wt)
theorem Wk.add {l : List ArcV} {f q r v : Nat} {c d : Int} (h : Wk l f r f c) (g : Wk l f q v d) : Wk l f (r + q) v (c + d) := by
  induction g with
  | nil => simpa using h
  | snoc k hk _ he ih =>
    have := Wk.snoc k hk ih he
    rw [← Int.add_assoc]
    exact this
theorem Wk.lt {N : Nat} {l : List ArcV} {f q v : Nat} {c : Int} (hN : InN N l) (hf : f < N) (h : Wk l f q v c) : v < N := by
  cases h with
  | nil => exact hf
  | snoc k hk _ _ =>
    have := hN _ (List.getElem_mem hk)
    omega
theorem Wk.bound {l : List ArcV} {f q v : Nat} {c : Int} {W : Int} (hW : ∀ a ∈ l, -W ≤ a.wt ∧ a.wt ≤ W) (h : Wk l f q v c) : -(W * q) ≤ c ∧ c ≤ W * q := by
  induction h with
  | nil => simp
  | snoc k hk _ _ ih =>
    have := hW _ (List.getElem_mem hk)
    rw [Int.natCast_add, Int.natCast_one, Int.mul_add, Int.mul_one]
    omega
theorem Wk.rch {N : Nat} {l : List ArcV} {f q v : Nat} {c : Int} (hN : InN N l) (h : Wk l f q v c) : Rch l f v := by
  induction h with
  | nil => exact .refl
  | snoc k hk _ he ih =>
    have := hN _ (List.getElem_mem hk)
    have e : ((l[k].to.toNat : Nat) : Int) = l[k].to := Int.toNat_of_nonneg this.2.1
    rw [e]
    exact Rch.step (a := l[k]) (by rw [he]; exact ih) (List.getElem_mem hk)
/-- What holds at all times. -/
structure BInv (N : Nat) (l : List ArcV) (f : Nat) (W : Int) (s : BS) : Prop where
  src : s.far f ≤ 0
  srcby : s.by_ f ≠ -1 → s.far f < 0
  att : ∀ v, v < N → s.far v < FAR → ∃ q, Wk l f q v (s.far v)
  bnd : ∀ v, v < N → s.far v = FAR ∨ (-(W * s.clk) ≤ s.far v ∧ s.far v ≤ W * s.clk ∧ s.far v < FAR)
  none_ : ∀ v, v < N → s.by_ v = -1 → s.far v = FAR ∨ v = f
  some_ : ∀ v, v < N → s.by_ v ≠ -1 → ∃ k, ∃ hk : k < l.length, s.by_ v = (k : Int) ∧ l[k].to = (v : Int) ∧ s.far l[k].fr.toNat < FAR ∧ s.far l[k].fr.toNat + l[k].wt ≤ s.far v ∧ (s.tm v ≤ s.tm l[k].fr.toNat → s.far l[k].fr.toNat + l[k].wt < s.far v) ∧ s.rd v ≤ s.rd l[k].fr.toNat + 1
  rd0 : ∀ v, v < N → s.by_ v = -1 → s.rd v = 0
  tmlt : ∀ v, v < N → s.tm v < s.clk
theorem BInv.start {N : Nat} {l : List ArcV} {f : Nat} {W : Int} (hf : f < N) (hW : 0 ≤ W) : BInv N l f W (BS.start f) := by
  refine ⟨by simp [BS.start], by simp [BS.start], ?_, ?_, ?_, by simp [BS.start], by simp [BS.start], by simp [BS.start]⟩
  · intro v hv h
    unfold BS.start at h ⊢
    dsimp only at h ⊢
    by_cases e : v = f
    · subst e; rw [if_pos rfl]; exact ⟨0, .nil⟩
    · rw [if_neg e] at h; omega
  · intro v hv
    unfold BS.start
    dsimp only
    by_cases e : v = f
    · right; rw [if_pos e]; refine ⟨by simp; omega, by simp; omega, by unfold FAR; omega⟩
    · left; rw [if_neg e]
  · intro v hv _
    unfold BS.start
    dsimp only
    by_cases e : v = f
    · exact .inr e
    · left; rw [if_neg e]
theorem BInv.relax {N : Nat} {l : List ArcV} {f : Nat} {W : Int} {s : BS} {k r : Nat} (hN : InN N l) (hf : f < N) (hW : ∀ a ∈ l, -W ≤ a.wt ∧ a.wt ≤ W) (h : BInv N l f W s) (hk : k < l.length) (hg : goes l[k] s) (hr : ∀ v, v < N → s.rd v ≤ r) (hprev : r ≤ s.rd l[k].fr.toNat + 1) : BInv N l f W (relax l[k] k r s) := by
  obtain ⟨⟨a0, a1⟩, b0, b1⟩ := hN _ (List.getElem_mem hk)
  have hw := hW _ (List.getElem_mem hk)
  obtain ⟨g0, g1⟩ := hg
  generalize ha : l[k] = a at *
  have efr : ((a.fr.toNat : Nat) : Int) = a.fr := Int.toNat_of_nonneg a0
  have eto : ((a.to.toNat : Nat) : Int) = a.to := Int.toNat_of_nonneg b0
  generalize hu : a.fr.toNat = u at *
  generalize ht : a.to.toNat = t at *
  have huN : u < N := by omega
  have htN : t < N := by omega
  have hub : -(W * s.clk) ≤ s.far u ∧ s.far u ≤ W * s.clk := by
    rcases h.bnd u huN with h | h
    · omega
    · exact ⟨h.1, h.2.1⟩
  have e1 : W * ((s.clk + 1 : Nat) : Int) = W * s.clk + W := by rw [Int.natCast_add, Int.natCast_one, Int.mul_add, Int.mul_one]
  have hW0 : 0 ≤ W := by omega
  have htF : s.far t ≤ FAR := by
    rcases h.bnd t htN with h | h
    · omega
    · omega
  obtain ⟨s', hs'⟩ : ∃ s', s' = Go.Proofs.Ytjpejclfppbboaa.relax a k r s := ⟨_, rfl⟩
  rw [← hs']
  have ft : s'.far t = s.far u + a.wt := by rw [hs']; unfold Go.Proofs.Ytjpejclfppbboaa.relax; dsimp only; rw [ht, hu, if_pos rfl]
  have fo : ∀ v, v ≠ t → s'.far v = s.far v := by intro v hv; rw [hs']; unfold Go.Proofs.Ytjpejclfppbboaa.relax; dsimp only; rw [ht, if_neg hv]
  have bt : s'.by_ t = (k : Int) := by rw [hs']; unfold Go.Proofs.Ytjpejclfppbboaa.relax; dsimp only; rw [ht, if_pos rfl]
  have bo : ∀ v, v ≠ t → s'.by_ v = s.by_ v := by intro v hv; rw [hs']; unfold Go.Proofs.Ytjpejclfppbboaa.relax; dsimp only; rw [ht, if_neg hv]
  have tt : s'.tm t = s.clk := by rw [hs']; unfold Go.Proofs.Ytjpejclfppbboaa.relax; dsimp only; rw [ht, if_pos rfl]
  have to : ∀ v, v ≠ t → s'.tm v = s.tm v := by intro v hv; rw [hs']; unfold Go.Proofs.Ytjpejclfppbboaa.relax; dsimp only; rw [ht, if_neg hv]
  have rt : s'.rd t = r := by rw [hs']; unfold Go.Proofs.Ytjpejclfppbboaa.relax; dsimp only; rw [ht, if_pos rfl]
  have ro : ∀ v, v ≠ t → s'.rd v = s.rd v := by intro v hv; rw [hs']; unfold Go.Proofs.Ytjpejclfppbboaa.relax; dsimp only; rw [ht, if_neg hv]
  have hc : s'.clk = s.clk + 1 := by rw [hs']; rfl
  have dec : ∀ v, s'.far v ≤ s.far v := by
    intro v
    by_cases e : v = t
    · subst e; omega
    · rw [fo v e]; exact Int.le_refl _
  have rge : ∀ v, v < N → s.rd v ≤ s'.rd v := by
    intro v hv
    by_cases e : v = t
    · subst e; rw [rt]; exact hr v hv
    · rw [ro v e]; exact Nat.le_refl _
  clear hs'
  refine ⟨by have := dec f; have := h.src; omega, ?_, ?_, ?_, ?_, ?_, ?_, ?_⟩
  · intro hb
    by_cases e : f = t
    · subst e; have := h.src; omega
    · rw [bo f e] at hb; rw [fo f e]; exact h.srcby hb
  · intro v hv hvF
    by_cases e : v = t
    · subst e
      obtain ⟨q, hq⟩ := h.att u huN g0
      have := Wk.snoc k hk hq (by rw [ha]; omega)
      rw [ha, ht] at this
      rw [ft]
      exact ⟨_, this⟩
    · rw [fo v e] at hvF ⊢; exact h.att v hv hvF
  · intro v hv
    by_cases e : v = t
    · subst e; right; rw [ft, hc, e1]; omega
    · rw [fo v e, hc, e1]
      rcases h.bnd v hv with h | h
      · exact .inl h
      · right; omega
  · intro v hv hb
    by_cases e : v = t
    · subst e; omega
    · rw [bo v e] at hb; rw [fo v e]; exact h.none_ v hv hb
  · intro v hv hb
    by_cases e : v = t
    · subst e
      refine ⟨k, hk, bt, by rw [ha]; omega, ?_⟩
      rw [ha, hu]
      have du := dec u
      refine ⟨by omega, by omega, ?_, ?_⟩
      · intro htm
        by_cases e2 : u = v
        · subst e2; rw [ft]; omega
        · rw [tt, to u e2] at htm
          have := h.tmlt u huN
          omega
      · rw [rt]
        have := rge u huN
        omega
    · rw [bo v e] at hb ⊢
      obtain ⟨j, hj, h1, h2, h3, h4, h5, h6⟩ := h.some_ v hv hb
      have hjN := (hN _ (List.getElem_mem hj)).1
      have dj := dec l[j].fr.toNat
      refine ⟨j, hj, h1, h2, by omega, by rw [fo v e]; omega, ?_, ?_⟩
      · intro htm
        rw [fo v e]
        by_cases e2 : l[j].fr.toNat = t
        · rw [e2, ft]; rw [e2] at h4; omega
        · rw [to v e, to _ e2] at htm
          rw [fo _ e2]
          exact h5 htm
      · rw [ro v e]
        have := rge l[j].fr.toNat (by omega)
        omega
  · intro v hv hb
    by_cases e : v = t
    · subst e; omega
    · rw [bo v e] at hb; rw [ro v e]; exact h.rd0 v hv hb
  · intro v hv
    by_cases e : v = t
    · subst e; rw [tt, hc]; omega
    · rw [to v e, hc]; have := h.tmlt v hv; omega
end Go.Proofs.Ytjpejclfppbboaa
