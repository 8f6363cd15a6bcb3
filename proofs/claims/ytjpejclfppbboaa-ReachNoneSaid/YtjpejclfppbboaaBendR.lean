/- Rounds in place, one after the other: what holds in the middle of a round; how it ends; when no arc goes any more. No program in sight. -/
import Derived.Test.YtjpejclfppbboaaBendM
namespace Go.Proofs.Ytjpejclfppbboaa
set_option linter.unusedVariables false
/-- In round r, behind the first k arcs. -/
structure RInv (N : Nat) (l : List ArcV) (f : Nat) (W : Int) (r k : Nat) (s : BS) : Prop where
  inv : BInv N l f W s
  ex : ∀ j, ∀ h : j < l.length, (j < k → s.rd l[j].fr.toNat < r → FAR ≤ s.far l[j].fr.toNat ∨ s.far l[j].to.toNat ≤ s.far l[j].fr.toNat + l[j].wt) ∧ (¬ j < k → s.rd l[j].fr.toNat + 1 < r → FAR ≤ s.far l[j].fr.toNat ∨ s.far l[j].to.toNat ≤ s.far l[j].fr.toNat + l[j].wt)
  rdle : ∀ v, v < N → s.rd v ≤ r
  ub : ∀ q v c, Wk l f q v c → q < r → s.far v ≤ c
  ub2 : ∀ j, ∀ h : j < l.length, j < k → ∀ q (u : Nat) c, l[j].fr = (u : Int) → Wk l f q u c → q < r → s.far l[j].to.toNat ≤ c + l[j].wt
theorem RInv.start {N : Nat} {l : List ArcV} {f : Nat} {W : Int} (hf : f < N) (hW : 0 ≤ W) : RInv N l f W 1 0 (BS.start f) := by
  refine ⟨BInv.start hf hW, ?_, by simp [BS.start], ?_, ?_⟩
  · intro j h
    exact ⟨fun h => absurd h (by omega), fun _ h => absurd h (by omega)⟩
  · intro q v c h hq
    obtain rfl : q = 0 := by omega
    cases h
    simp [BS.start]
  · intro j h hj
    omega
theorem RInv.yes {N : Nat} {l : List ArcV} {f : Nat} {W : Int} {r k : Nat} {s : BS} (hN : InN N l) (hf : f < N) (hW : ∀ a ∈ l, -W ≤ a.wt ∧ a.wt ≤ W) (h : RInv N l f W r k s) (hk : k < l.length) (hg : goes l[k] s) : RInv N l f W r (k + 1) (relax l[k] k r s) := by
  have hprev : r ≤ s.rd l[k].fr.toNat + 1 := by
    apply Classical.byContradiction
    intro hn
    have := (h.ex k hk).2 (by omega) (by omega)
    obtain ⟨g0, g1⟩ := hg
    omega
  have hB := h.inv.relax hN hf hW hk hg h.rdle hprev
  obtain ⟨⟨a0, a1⟩, b0, b1⟩ := hN _ (List.getElem_mem hk)
  obtain ⟨g0, g1⟩ := hg
  have dec : ∀ v, (relax l[k] k r s).far v ≤ s.far v := by
    intro v
    unfold Go.Proofs.Ytjpejclfppbboaa.relax
    dsimp only
    split
    · rename_i e; subst e; omega
    · exact Int.le_refl _
  have ft : (relax l[k] k r s).far l[k].to.toNat = s.far l[k].fr.toNat + l[k].wt := by unfold Go.Proofs.Ytjpejclfppbboaa.relax; dsimp only; rw [if_pos rfl]
  have fo : ∀ v, v ≠ l[k].to.toNat → (relax l[k] k r s).far v = s.far v := by intro v hv; unfold Go.Proofs.Ytjpejclfppbboaa.relax; dsimp only; rw [if_neg hv]
  have rt : (relax l[k] k r s).rd l[k].to.toNat = r := by unfold Go.Proofs.Ytjpejclfppbboaa.relax; dsimp only; rw [if_pos rfl]
  have ro : ∀ v, v ≠ l[k].to.toNat → (relax l[k] k r s).rd v = s.rd v := by intro v hv; unfold Go.Proofs.Ytjpejclfppbboaa.relax; dsimp only; rw [if_neg hv]
  generalize relax l[k] k r s = s' at *
  refine ⟨hB, ?_, ?_, fun q v c hw hq => Int.le_trans (dec v) (h.ub q v c hw hq), ?_⟩
  · intro j hj
    have dt := dec l[j].to.toNat
    by_cases e : l[j].fr.toNat = l[k].to.toNat
    · rw [e, rt]
      exact ⟨fun _ h => absurd h (by omega), fun _ h => absurd h (by omega)⟩
    · rw [ro _ e, fo _ e]
      constructor
      · intro hjk hlt
        by_cases ejk : j = k
        · subst ejk; right; omega
        · have := (h.ex j hj).1 (by omega) hlt
          omega
      · intro hjk hlt
        have := (h.ex j hj).2 (by omega) hlt
        omega
  · intro v hv
    by_cases e : v = l[k].to.toNat
    · rw [e, rt]; exact Nat.le_refl _
    · rw [ro v e]; exact h.rdle v hv
  · intro j hj hjk q u c hu hw hq
    by_cases ejk : j = k
    · subst ejk
      have hh := h.ub q u c hw hq
      have eu : l[j].fr.toNat = u := by omega
      rw [eu] at ft
      omega
    · have := h.ub2 j hj (by omega) q u c hu hw hq
      have := dec l[j].to.toNat
      omega
theorem RInv.no {N : Nat} {l : List ArcV} {f : Nat} {W : Int} {r k : Nat} {s : BS} (hN : InN N l) (hf : f < N) (hW : ∀ a ∈ l, -W ≤ a.wt ∧ a.wt ≤ W) (hB : W * (r : Int) < FAR) (h : RInv N l f W r k s) (hk : k < l.length) (hg : ¬ goes l[k] s) : RInv N l f W r (k + 1) s := by
  unfold goes at hg
  refine ⟨h.inv, ?_, h.rdle, h.ub, ?_⟩
  · intro j hj
    constructor
    · intro hjk hlt
      by_cases ejk : j = k
      · subst ejk; omega
      · exact (h.ex j hj).1 (by omega) hlt
    · intro hjk hlt
      exact (h.ex j hj).2 (by omega) hlt
  · intro j hj hjk q u c hu hw hq
    by_cases ejk : j = k
    · subst ejk
      have hh := h.ub q u c hw hq
      have eu : l[j].fr.toNat = u := by omega
      rw [eu] at hg
      have hb := (hw.bound hW).2
      have hw0 := hW _ (List.getElem_mem hj)
      have : W * (q : Int) ≤ W * r := Int.mul_le_mul_of_nonneg_left (by omega) (by omega)
      omega
    · exact h.ub2 j hj (by omega) q u c hu hw hq
theorem RInv.next {N : Nat} {l : List ArcV} {f : Nat} {W : Int} {r : Nat} {s : BS} (hN : InN N l) (hr : 1 ≤ r) (h : RInv N l f W r l.length s) : RInv N l f W (r + 1) 0 s := by
  refine ⟨h.inv, ?_, fun v hv => Nat.le_succ_of_le (h.rdle v hv), ?_, fun j hj hj0 => absurd hj0 (by omega)⟩
  · intro j hj
    exact ⟨fun h => absurd h (by omega), fun _ hlt => (h.ex j hj).1 hj (by omega)⟩
  · intro q v c hw hq
    cases hw with
    | nil => exact h.ub 0 f 0 .nil (by omega)
    | snoc k hk hw he => exact h.ub2 k hk hk _ _ _ he hw (by omega)
/-- What a round leaves: the invariant; and, whether an arc went. -/
theorem roundK_inv {N : Nat} {l : List ArcV} {f : Nat} {W : Int} {r : Nat} {s : BS} (hN : InN N l) (hf : f < N) (hW : ∀ a ∈ l, -W ≤ a.wt ∧ a.wt ≤ W) (hB : W * (r : Int) < FAR) (hr : 1 ≤ r) (h : RInv N l f W r 0 s) : ∀ k, k ≤ l.length → RInv N l f W r k (roundK l r s k).1 ∧ (roundK l r s k).1.clk ≤ s.clk + k ∧
    (((roundK l r s k).2 = -1 ∧ (roundK l r s k).1 = s ∧ ∀ j, ∀ hj : j < l.length, j < k → ¬ goes l[j] s) ∨ (∃ v : Nat, v < N ∧ (roundK l r s k).2 = (v : Int) ∧ (roundK l r s k).1.rd v = r) ∧ ∃ j, ∃ hj : j < l.length, goes l[j] s) := by
  intro k
  induction k with
  | zero =>
    intro _
    exact ⟨h, by simp [roundK], .inl ⟨rfl, rfl, fun j hj hj0 => absurd hj0 (by omega)⟩⟩
  | succ k ih =>
    intro hk
    obtain ⟨h1, h2, h3⟩ := ih (by omega)
    by_cases hg : goes l[k] (roundK l r s k).1
    · rw [roundK_yes (by omega) hg]
      refine ⟨h1.yes hN hf hW (by omega) hg, ?_, .inr ⟨?_, ?_⟩⟩
      · show (roundK l r s k).1.clk + 1 ≤ _
        omega
      · have ht := (hN _ (List.getElem_mem (show k < l.length by omega))).2
        refine ⟨l[k].to.toNat, by omega, ?_, ?_⟩
        · show l[k].to = _
          omega
        · unfold relax
          dsimp only
          rw [if_pos rfl]
      · rcases h3 with ⟨_, e, _⟩ | ⟨_, hj⟩
        · rw [e] at hg
          exact ⟨k, by omega, hg⟩
        · exact hj
    · rw [roundK_no (by omega) hg]
      refine ⟨h1.no hN hf hW hB (by omega) hg, by omega, ?_⟩
      rcases h3 with ⟨h3, e, h4⟩ | h3
      · refine .inl ⟨h3, e, fun j hj hjk => ?_⟩
        by_cases ejk : j = k
        · subst ejk; rw [e] at hg; exact hg
        · exact h4 j hj (by omega)
      · exact .inr h3
/-- bend: at most so many rounds, and one more. -/
def bendK (l : List ArcV) : Nat → Nat → BS → BS × Int
  | 0, r, s => roundK l r s l.length
  | n + 1, r, s => if (roundK l r s l.length).2 < 0 then ((roundK l r s l.length).1, -1) else bendK l n (r + 1) (roundK l r s l.length).1
def bendM (N : Nat) (l : List ArcV) (f : Nat) : BS × Int := bendK l N 1 (BS.start f)
/-- No arc goes: all is told. -/
structure Still (N : Nat) (l : List ArcV) (f : Nat) (W : Int) (s : BS) : Prop where
  inv : BInv N l f W s
  not_ : ∀ j, ∀ hj : j < l.length, ¬ goes l[j] s
/-- It got nearer in each round. -/
structure Endless (N : Nat) (l : List ArcV) (f : Nat) (W : Int) (R : Nat) (s : BS) (v : Nat) : Prop where
  inv : BInv N l f W s
  lt : v < N
  rd : s.rd v = R
  rdle : ∀ u, u < N → s.rd u ≤ R
theorem bendK_spec {N : Nat} {l : List ArcV} {f : Nat} {W : Int} (hN : InN N l) (hf : f < N) (hW : ∀ a ∈ l, -W ≤ a.wt ∧ a.wt ≤ W) : ∀ (n r : Nat) (s : BS), 1 ≤ r → W * ((r + n : Nat) : Int) < FAR → 0 ≤ W → RInv N l f W r 0 s → (bendK l n r s).1.clk ≤ s.clk + (n + 1) * l.length ∧
    (((bendK l n r s).2 = -1 ∧ Still N l f W (bendK l n r s).1) ∨ (∃ v : Nat, (bendK l n r s).2 = (v : Int) ∧ Endless N l f W (r + n) (bendK l n r s).1 v) ∧ ∀ q, r ≤ q → q ≤ r + n → ∃ s', RInv N l f W q 0 s' ∧ ∃ j, ∃ hj : j < l.length, goes l[j] s') := by
  intro n
  induction n with
  | zero =>
    intro r s hr hB hW0 h
    obtain ⟨h1, h2, h3⟩ := roundK_inv hN hf hW (by simpa using hB) hr h l.length (Nat.le_refl _)
    show (roundK l r s l.length).1.clk ≤ _ ∧ (((roundK l r s l.length).2 = -1 ∧ Still N l f W (roundK l r s l.length).1) ∨ _)
    refine ⟨by omega, ?_⟩
    rcases h3 with ⟨h3, e, h4⟩ | ⟨⟨v, hv, e, hrd⟩, hj⟩
    · exact .inl ⟨h3, by rw [e]; exact ⟨h.inv, fun j hj => h4 j hj hj⟩⟩
    · refine .inr ⟨⟨v, e, h1.inv, hv, hrd, h1.rdle⟩, fun q hq1 hq2 => ?_⟩
      obtain rfl : q = r := by omega
      exact ⟨s, h, hj⟩
  | succ n ih =>
    intro r s hr hB hW0 h
    have hB1 : W * (r : Int) < FAR := by
      have : W * (r : Int) ≤ W * ((r + (n + 1) : Nat) : Int) := Int.mul_le_mul_of_nonneg_left (by omega) hW0
      omega
    obtain ⟨h1, h2, h3⟩ := roundK_inv hN hf hW hB1 hr h l.length (Nat.le_refl _)
    have e0 : (n + 1 + 1) * l.length = (n + 1) * l.length + l.length := by rw [Nat.add_mul (n + 1) 1, Nat.one_mul]
    rcases h3 with ⟨h3, e, h4⟩ | ⟨⟨v, hv, e, hrd⟩, hj⟩
    · have eb : bendK l (n + 1) r s = ((roundK l r s l.length).1, -1) := by
        rw [bendK, if_pos (by omega)]
      rw [eb]
      refine ⟨by rw [e0]; show (roundK l r s l.length).1.clk ≤ _; omega, .inl ⟨rfl, ?_⟩⟩
      show Still N l f W (roundK l r s l.length).1
      rw [e]
      exact ⟨h.inv, fun j hj => h4 j hj hj⟩
    · have eb : bendK l (n + 1) r s = bendK l n (r + 1) (roundK l r s l.length).1 := by
        rw [bendK, if_neg (by omega)]
      rw [eb]
      have er : r + 1 + n = r + (n + 1) := by omega
      obtain ⟨g1, g2⟩ := ih (r + 1) _ (by omega) (by rw [er]; exact hB) hW0 (h1.next hN hr)
      rw [er] at g2
      refine ⟨by rw [e0]; omega, ?_⟩
      rcases g2 with g2 | ⟨g2, g3⟩
      · exact .inl g2
      · refine .inr ⟨g2, fun q hq1 hq2 => ?_⟩
        by_cases eq : q = r
        · subst eq; exact ⟨s, h, hj⟩
        · exact g3 q (by omega) hq2
/-- Where no arc goes: no walk is lighter. -/
theorem Still.least {N : Nat} {l : List ArcV} {f : Nat} {W : Int} {s : BS} (hN : InN N l) (hf : f < N) (hW : ∀ a ∈ l, -W ≤ a.wt ∧ a.wt ≤ W) (hB : W * ((s.clk + 1 : Nat) : Int) < FAR) (h : Still N l f W s) {q v : Nat} {c : Int} (hw : Wk l f q v c) : s.far v ≤ c ∧ s.far v < FAR := by
  rw [Int.natCast_add, Int.natCast_one, Int.mul_add, Int.mul_one] at hB
  induction hw with
  | nil => have := h.inv.src; exact ⟨this, by unfold FAR; omega⟩
  | @snoc q v c k hk hw he ih =>
    have hg := h.not_ k hk
    unfold goes at hg
    have e : l[k].fr.toNat = v := by omega
    rw [e] at hg
    have hv := hw.lt hN hf
    have hb := h.inv.bnd v hv
    have hwk := hW _ (List.getElem_mem hk)
    refine ⟨by omega, ?_⟩
    rcases hb with hb | hb
    · omega
    · omega
theorem Still.zero {N : Nat} {l : List ArcV} {f : Nat} {W : Int} {s : BS} (hN : InN N l) (hf : f < N) (hW : ∀ a ∈ l, -W ≤ a.wt ∧ a.wt ≤ W) (hB : W * ((s.clk + 1 : Nat) : Int) < FAR) (h : Still N l f W s) : s.far f = 0 ∧ s.by_ f = -1 := by
  have h0 : s.far f = 0 := by
    have h1 := h.inv.src
    apply Classical.byContradiction
    intro hne
    obtain ⟨q, hq⟩ := h.inv.att f hf (by unfold FAR; omega)
    have := (h.least hN hf hW hB (hq.add hq)).1
    omega
  refine ⟨h0, ?_⟩
  apply Classical.byContradiction
  intro hne
  have := h.inv.srcby hne
  omega
/-- By which arc one comes at last: it is a tight one; the node ahead was told before. -/
theorem Still.tight {N : Nat} {l : List ArcV} {f : Nat} {W : Int} {s : BS} (h : Still N l f W s) {v : Nat} (hv : v < N) (hb : s.by_ v ≠ -1) : ∃ k, ∃ hk : k < l.length, s.by_ v = (k : Int) ∧ l[k].to = (v : Int) ∧ s.far l[k].fr.toNat < FAR ∧ s.far v = s.far l[k].fr.toNat + l[k].wt ∧ s.tm l[k].fr.toNat < s.tm v := by
  obtain ⟨k, hk, h1, h2, h3, h4, h5, h6⟩ := h.inv.some_ v hv hb
  have hg := h.not_ k hk
  unfold goes at hg
  have e : l[k].to.toNat = v := by omega
  rw [e] at hg
  refine ⟨k, hk, h1, h2, h3, by omega, ?_⟩
  apply Classical.byContradiction
  intro hn
  have := h5 (by omega)
  omega
end Go.Proofs.Ytjpejclfppbboaa
