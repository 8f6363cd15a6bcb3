/- What the laws on trees and cycles ask: arcs one behind the other, and what they weigh; that a tree leads to each node by tight arcs. -/
import Derived.Test.YtaaffahjlkfbgaaWay
import Derived.Test.YtaaffahjlkfbgaaFarsM
namespace Go.Proofs.Ytaaffahjlkfbgaa
set_option linter.unusedVariables false
/-- Arcs, by their numbers, from u to v, one behind the other; what they weigh. -/
inductive Pth (l : List ArcV) : List Int → Int → Int → Int → Prop
  | nil {v : Int} : Pth l [] v v 0
  | cons {k : Nat} {ks : List Int} {u v c : Int} (hk : k < l.length) : l[k].fr = u → Pth l ks l[k].to v c → Pth l ((k : Int) :: ks) u v (l[k].wt + c)
theorem Pth.snoc {l : List ArcV} {ks : List Int} {u v c : Int} {k : Nat} (h : Pth l ks u v c) (hk : k < l.length) (hv : l[k].fr = v) : Pth l (ks ++ [(k : Int)]) u l[k].to (c + l[k].wt) := by
  induction h with
  | nil =>
    have := Pth.cons hk hv (Pth.nil (l := l) (v := l[k].to))
    simpa using this
  | @cons k' ks' u' v' c' hk' hu' _ ih =>
    have := Pth.cons hk' hu' (ih hv)
    rw [Int.add_assoc]
    exact this
/-- Of so many nodes: how many were told ahead of t. -/
def lowT (tm : Nat → Nat) (t : Nat) : Nat → Nat
  | 0 => 0
  | n + 1 => lowT tm t n + if tm n < t then 1 else 0
theorem lowT_le (tm : Nat → Nat) (t n : Nat) : lowT tm t n ≤ n := by
  induction n with
  | zero => exact Nat.le_refl _
  | succ n ih => rw [lowT]; split <;> omega
theorem lowT_mono (tm : Nat → Nat) {t t' : Nat} (h : t ≤ t') (n : Nat) : lowT tm t n ≤ lowT tm t' n := by
  induction n with
  | zero => exact Nat.le_refl _
  | succ n ih => rw [lowT, lowT]; split <;> split <;> omega
theorem lowT_lt (tm : Nat → Nat) {t t' u : Nat} (h1 : t ≤ tm u) (h2 : tm u < t') (n : Nat) (hu : u < n) : lowT tm t n + 1 ≤ lowT tm t' n := by
  induction n with
  | zero => omega
  | succ n ih =>
    rw [lowT, lowT]
    by_cases e : u = n
    · subst e
      have := lowT_mono tm (show t ≤ t' by omega) u
      rw [if_neg (by omega), if_pos h2]
      omega
    · have := ih (by omega)
      split <;> split <;> omega
structure TreeOk (N : Nat) (l : List ArcV) (f : Nat) (far by_ : Nat → Int) : Prop where
  root : by_ f = -1
  zero : far f = 0
  none_ : ∀ i, i < N → far i = FAR → by_ i = -1
  some_ : ∀ i, i < N → far i ≠ FAR → i ≠ f → ∃ k, ∃ hk : k < l.length, by_ i = (k : Int) ∧ l[k].to = (i : Int) ∧ far l[k].fr.toNat + l[k].wt = far i
  way : ∀ i, i < N → far i ≠ FAR → ∃ ks, Back l by_ i ks ∧ ks.length ≤ N ∧ Pth l ks.reverse f i (far i)
theorem treeOk {N : Nat} {l : List ArcV} {f : Nat} {W : Int} {s : BS} (hN : InN N l) (hf : f < N) (hW : ∀ a ∈ l, -W ≤ a.wt ∧ a.wt ≤ W) (hB : W * ((s.clk + 1 : Nat) : Int) < FAR) (h : Still N l f W s) : TreeOk N l f s.far s.by_ := by
  obtain ⟨z1, z2⟩ := h.zero hN hf hW hB
  have hnone : ∀ i, i < N → s.far i = FAR → s.by_ i = -1 := by
    intro i hi hfar
    apply Classical.byContradiction
    intro hne
    obtain ⟨k, hk, h1, h2, h3, h4, h5⟩ := h.tight hi hne
    have hin := hN _ (List.getElem_mem hk)
    have hw := hW _ (List.getElem_mem hk)
    obtain ⟨q, hq⟩ := h.inv.att _ (by omega) h3
    have hs := Wk.snoc k hk hq (by omega)
    have := (h.least hN hf hW hB hs).2
    rw [h2, Int.toNat_natCast] at this
    omega
  have hsome : ∀ i, i < N → s.far i ≠ FAR → i ≠ f → ∃ k, ∃ hk : k < l.length, s.by_ i = (k : Int) ∧ l[k].to = (i : Int) ∧ s.far l[k].fr.toNat + l[k].wt = s.far i ∧ s.far l[k].fr.toNat < FAR ∧ s.tm l[k].fr.toNat < s.tm i := by
    intro i hi hfar hif
    have hne : s.by_ i ≠ -1 := by
      intro hb
      rcases h.inv.none_ i hi hb with h1 | h1
      · exact hfar h1
      · exact hif h1
    obtain ⟨k, hk, h1, h2, h3, h4, h5⟩ := h.tight hi hne
    exact ⟨k, hk, h1, h2, h4.symm, h3, h5⟩
  refine ⟨z2, z1, hnone, fun i hi h1 h2 => ?_, ?_⟩
  · obtain ⟨k, hk, g1, g2, g3, _⟩ := hsome i hi h1 h2
    exact ⟨k, hk, g1, g2, g3⟩
  · have key : ∀ m i, s.tm i < m → i < N → s.far i ≠ FAR → ∃ ks, Back l s.by_ i ks ∧ ks.length ≤ lowT s.tm (s.tm i) N ∧ Pth l ks.reverse f i (s.far i) := by
      intro m
      induction m with
      | zero => intro i h; omega
      | succ m ih =>
        intro i hm hi hfar
        by_cases hif : i = f
        · subst hif
          refine ⟨[], .stop z2, Nat.zero_le _, ?_⟩
          rw [z1]
          exact .nil
        · obtain ⟨k, hk, g1, g2, g3, g4, g5⟩ := hsome i hi hfar hif
          have hin := hN _ (List.getElem_mem hk)
          have eu : ((l[k].fr.toNat : Nat) : Int) = l[k].fr := by omega
          obtain ⟨ks, k1, k2, k3⟩ := ih l[k].fr.toNat (by omega) (by omega) (by omega)
          refine ⟨(k : Int) :: ks, .step hk g1 eu.symm k1, ?_, ?_⟩
          · have := lowT_lt s.tm (Nat.le_refl (s.tm l[k].fr.toNat)) g5 N (by omega)
            simp only [List.length_cons]
            omega
          · rw [List.reverse_cons]
            have := k3.snoc hk eu.symm
            rw [g2, g3] at this
            exact this
    intro i hi hfar
    obtain ⟨ks, k1, k2, k3⟩ := key (s.tm i + 1) i (by omega) hi hfar
    exact ⟨ks, k1, Nat.le_trans k2 (lowT_le _ _ _), k3⟩
end Go.Proofs.Ytaaffahjlkfbgaa
