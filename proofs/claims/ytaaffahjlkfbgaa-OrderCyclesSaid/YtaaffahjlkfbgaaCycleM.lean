/- The cycle that is found: back N arcs from a node that got nearer in the last round one is on a cycle; it weighs less than nothing. No program in sight. -/
import Derived.Test.YtaaffahjlkfbgaaBendR
namespace Go.Proofs.Ytaaffahjlkfbgaa
set_option linter.unusedVariables false
/-- The node ahead, as a tree tells. -/
def predF (l : List ArcV) (by_ : Nat → Int) (v : Nat) : Nat :=
  match l[(by_ v).toNat]? with
  | some a => a.fr.toNat
  | none => 0
def pit (l : List ArcV) (by_ : Nat → Int) : Nat → Nat → Nat
  | 0, v => v
  | n + 1, v => predF l by_ (pit l by_ n v)
theorem pit_add (l : List ArcV) (by_ : Nat → Int) (m n v : Nat) : pit l by_ (m + n) v = pit l by_ m (pit l by_ n v) := by
  induction m with
  | zero => simp [pit]
  | succ m ih => rw [show m + 1 + n = m + n + 1 from by omega, pit, pit, ih]
theorem predF_at {l : List ArcV} {by_ : Nat → Int} {v k : Nat} (hk : k < l.length) (h : by_ v = (k : Int)) : predF l by_ v = l[k].fr.toNat := by
  unfold predF
  rw [h, Int.toNat_natCast, List.getElem?_eq_getElem hk]
/-- One comes to a node by an arc that there is. -/
def Led (N : Nat) (l : List ArcV) (by_ : Nat → Int) (v : Nat) : Prop := v < N ∧ ∃ k, ∃ hk : k < l.length, by_ v = (k : Int) ∧ l[k].to = (v : Int)
theorem Led.pred {N : Nat} {l : List ArcV} {by_ : Nat → Int} {v : Nat} (hN : InN N l) (h : Led N l by_ v) : predF l by_ v < N := by
  obtain ⟨_, k, hk, h1, h2⟩ := h
  rw [predF_at hk h1]
  have := hN _ (List.getElem_mem hk)
  omega
/-- A cycle of p arcs, back from c to c. -/
structure Cyc (N : Nat) (l : List ArcV) (by_ : Nat → Int) (c p : Nat) : Prop where
  pos : 0 < p
  back : pit l by_ p c = c
  min : ∀ q, 0 < q → q < p → pit l by_ q c ≠ c
  led : ∀ m, Led N l by_ (pit l by_ m c)
theorem endless_led {N : Nat} {l : List ArcV} {f : Nat} {W : Int} {s : BS} {v : Nat} (hN : InN N l) (h : Endless N l f W (N + 1) s v) : ∀ m, m ≤ N → Led N l s.by_ (pit l s.by_ m v) ∧ N + 1 ≤ s.rd (pit l s.by_ m v) + m := by
  have key : ∀ u, u < N → 1 ≤ s.rd u → Led N l s.by_ u ∧ s.rd u ≤ s.rd (predF l s.by_ u) + 1 := by
    intro u hu hr
    have hb : s.by_ u ≠ -1 := fun hb => by have := h.inv.rd0 u hu hb; omega
    obtain ⟨k, hk, h1, h2, _, _, _, h6⟩ := h.inv.some_ u hu hb
    exact ⟨⟨hu, k, hk, h1, h2⟩, by rw [predF_at hk h1]; exact h6⟩
  intro m
  induction m with
  | zero =>
    intro _
    have := h.rd
    exact ⟨(key v h.lt (by omega)).1, by show N + 1 ≤ s.rd v + 0; omega⟩
  | succ m ih =>
    intro hm
    obtain ⟨h1, h2⟩ := ih (by omega)
    have hk := key _ h1.1 (by omega)
    have hp := h1.pred hN
    have hr : N + 1 ≤ s.rd (predF l s.by_ (pit l s.by_ m v)) + (m + 1) := by have := hk.2; omega
    exact ⟨(key _ hp (by omega)).1, hr⟩
/-- N + 1 nodes out of N: two are the same. -/
theorem pigeon (N : Nat) (g : Nat → Nat) (h : ∀ i, i ≤ N → g i < N) : ∃ i j, i < j ∧ j ≤ N ∧ g i = g j := by
  induction N generalizing g with
  | zero => exact absurd (h 0 (Nat.le_refl _)) (by omega)
  | succ N ih =>
    apply Classical.byContradiction
    intro hno
    have hne : ∀ i j, i < j → j ≤ N + 1 → g i ≠ g j := fun i j h1 h2 h3 => hno ⟨i, j, h1, h2, h3⟩
    obtain ⟨i, j, h1, h2, h3⟩ := ih (fun i => if g i = N then g (N + 1) else g i) (by
      intro i hi
      have a := h i (by omega)
      have b := h (N + 1) (Nat.le_refl _)
      have c := hne i (N + 1) (by omega) (Nat.le_refl _)
      split
      · omega
      · omega)
    have c1 := hne i (N + 1) (by omega) (Nat.le_refl _)
    have c2 := hne j (N + 1) (by omega) (Nat.le_refl _)
    have c3 := hne i j h1 (by omega)
    split at h3 <;> split at h3 <;> omega
theorem least_pos (P : Nat → Prop) (n : Nat) (hn : 0 < n) (h : P n) : ∃ p, 0 < p ∧ p ≤ n ∧ P p ∧ ∀ q, 0 < q → q < p → ¬ P q := by
  induction n using Nat.strongRecOn with
  | ind n ih =>
    by_cases hq : ∃ q, 0 < q ∧ q < n ∧ P q
    · obtain ⟨q, h1, h2, h3⟩ := hq
      obtain ⟨p, a, b, c, d⟩ := ih q h2 h1 h3
      exact ⟨p, a, by omega, c, d⟩
    · exact ⟨n, hn, Nat.le_refl _, h, fun q h1 h2 h3 => hq ⟨q, h1, h2, h3⟩⟩
theorem endless_cyc {N : Nat} {l : List ArcV} {f : Nat} {W : Int} {s : BS} {v : Nat} (hN : InN N l) (h : Endless N l f W (N + 1) s v) : ∃ p, p ≤ N ∧ Cyc N l s.by_ (pit l s.by_ N v) p := by
  obtain ⟨i, j, h1, h2, h3⟩ := pigeon N (fun m => pit l s.by_ m v) (fun m hm => (endless_led hN h m hm).1.1)
  have per : ∀ m, i ≤ m → pit l s.by_ (m + (j - i)) v = pit l s.by_ m v := by
    intro m hm
    have e1 : m + (j - i) = (m - i) + j := by omega
    have e2 : m = (m - i) + i := by omega
    rw [e1, pit_add, ← h3, ← pit_add, ← e2]
  have back : pit l s.by_ (j - i) (pit l s.by_ N v) = pit l s.by_ N v := by
    rw [← pit_add, Nat.add_comm]
    exact per N (by omega)
  obtain ⟨p, p0, p1, p2, p3⟩ := least_pos (fun q => pit l s.by_ q (pit l s.by_ N v) = pit l s.by_ N v) (j - i) (by omega) back
  refine ⟨p, by omega, p0, p2, p3, ?_⟩
  have all : ∀ m, Led N l s.by_ (pit l s.by_ m v) := by
    intro m
    induction m using Nat.strongRecOn with
    | ind m ih =>
      by_cases hm : m ≤ N
      · exact (endless_led hN h m hm).1
      · have e := per (m - (j - i)) (by omega)
        rw [show m - (j - i) + (j - i) = m from by omega] at e
        rw [e]
        exact ih _ (by omega)
  intro m
  rw [← pit_add]
  exact all _
def wtAt (l : List ArcV) (k : Int) : Int :=
  match l[k.toNat]? with
  | some a => a.wt
  | none => 0
/-- What the first m arcs back from c weigh. -/
def backW (l : List ArcV) (by_ : Nat → Int) (c : Nat) : Nat → Int
  | 0 => 0
  | m + 1 => backW l by_ c m + wtAt l (by_ (pit l by_ m c))
theorem cyc_weight {N : Nat} {l : List ArcV} {f : Nat} {W : Int} {s : BS} {c p : Nat} (hN : InN N l) (hI : BInv N l f W s) (h : Cyc N l s.by_ c p) : backW l s.by_ c p < 0 := by
  have key : ∀ m, (backW l s.by_ c m ≤ s.far c - s.far (pit l s.by_ m c)) ∧ (backW l s.by_ c m < s.far c - s.far (pit l s.by_ m c) ∨ s.tm (pit l s.by_ m c) + m ≤ s.tm c) := by
    intro m
    induction m with
    | zero => exact ⟨by show (0 : Int) ≤ s.far c - s.far c; omega, .inr (Nat.le_refl _)⟩
    | succ m ih =>
      obtain ⟨hv, k, hk, h1, h2⟩ := h.led m
      obtain ⟨k', hk', g1, g2, g3, g4, g5, _⟩ := hI.some_ _ hv (by rw [h1]; omega)
      obtain rfl : k = k' := by omega
      have e1 : pit l s.by_ (m + 1) c = l[k].fr.toNat := by rw [pit]; exact predF_at hk h1
      have e2 : wtAt l (s.by_ (pit l s.by_ m c)) = l[k].wt := by unfold wtAt; rw [h1, Int.toNat_natCast, List.getElem?_eq_getElem hk]
      rw [backW, e1, e2]
      refine ⟨by omega, ?_⟩
      by_cases ht : s.tm (pit l s.by_ m c) ≤ s.tm l[k].fr.toNat
      · have := g5 ht
        left; omega
      · rcases ih.2 with ih2 | ih2
        · left; omega
        · right; omega
  have := key p
  rw [h.back] at this
  have := h.pos
  omega
/-- All nodes of it are come to. -/
theorem cyc_far {N : Nat} {l : List ArcV} {f : Nat} {W : Int} {s : BS} {c p : Nat} (hI : BInv N l f W s) (h : Cyc N l s.by_ c p) : s.far c < FAR := by
  obtain ⟨q, hq⟩ : ∃ q, p = q + 1 := ⟨p - 1, by have := h.pos; omega⟩
  obtain ⟨hv, k, hk, h1, h2⟩ := h.led q
  obtain ⟨k', hk', g1, g2, g3, _⟩ := hI.some_ _ hv (by rw [h1]; omega)
  obtain rfl : k = k' := by omega
  have e1 : pit l s.by_ (q + 1) c = l[k].fr.toNat := by rw [pit]; exact predF_at hk h1
  rw [← hq, h.back] at e1
  rw [e1]
  exact g3
theorem cyc_comes {N : Nat} {l : List ArcV} {f : Nat} {W : Int} {s : BS} {c p : Nat} (hN : InN N l) (hI : BInv N l f W s) (h : Cyc N l s.by_ c p) : Rch l f c := by
  obtain ⟨q, hq⟩ := hI.att c (h.led 0).1 (cyc_far hI h)
  exact hq.rch hN
end Go.Proofs.Ytaaffahjlkfbgaa
