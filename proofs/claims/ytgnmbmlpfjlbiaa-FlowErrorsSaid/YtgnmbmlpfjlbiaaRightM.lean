/- The plain law of flow.Right: what it keeps in 'more'; all that flows in, over all nodes, is nothing. No program in sight. -/
import Derived.Test.YtgnmbmlpfjlbiaaCutM
namespace Go.Proofs.Ytgnmbmlpfjlbiaa
set_option linter.unusedVariables false
/-- more[from] -= x; more[to] += x. -/
def moveX (M : Nat → Int) (p : PipeV) (x : Int) : Nat → Int :=
  let M1 := fun j => if j = p.fr.toNat then M p.fr.toNat - x else M j
  fun j => if j = p.to.toNat then M1 p.to.toNat + x else M1 j
theorem moveX_inn {N : Nat} {ps : List PipeV} {X : Nat → Int} {k : Nat} (hP : InP N ps) (h : k < ps.length) (v : Nat) : moveX (fun u => innK ps X u k) ps[k] (X k) v = innK ps X v (k + 1) := by
  have hp := hP ps[k] (List.getElem_mem h)
  show _ = innK ps X v k + cont ps X v k
  rw [cont_at h]
  unfold moveX
  have a1 : v = ps[k].to.toNat ↔ ps[k].to = (v : Int) := by omega
  have a2 : v = ps[k].fr.toNat ↔ ps[k].fr = (v : Int) := by omega
  by_cases c1 : ps[k].to = (v : Int) <;> by_cases c2 : ps[k].fr = (v : Int)
  · have e1 := a1.2 c1
    have e2 := a2.2 c2
    simp only [if_pos e1, if_pos c1, if_pos c2]
    rw [← e1, if_pos e2, ← e2]; omega
  · have e1 := a1.2 c1
    have e2 : ¬ v = ps[k].fr.toNat := fun h => c2 (a2.1 h)
    simp only [if_pos e1, if_pos c1, if_neg c2]
    rw [← e1, if_neg e2]; omega
  · have e1 : ¬ v = ps[k].to.toNat := fun h => c1 (a1.1 h)
    have e2 := a2.2 c2
    simp only [if_neg e1, if_neg c1, if_pos c2, if_pos e2]
    rw [← e2]; omega
  · have e1 : ¬ v = ps[k].to.toNat := fun h => c1 (a1.1 h)
    have e2 : ¬ v = ps[k].fr.toNat := fun h => c2 (a2.1 h)
    simp only [if_neg e1, if_neg c1, if_neg c2, if_neg e2]; omega
/-- Over all nodes, nothing flows in. -/
theorem inn_all {N : Nat} {ps : List PipeV} {X : Nat → Int} (hP : InP N ps) : sumN (fun v => inn ps X v) N = 0 := by
  have h := outS_inn (y := X) (S := fun _ => false) hP ps.length (Nat.le_refl _)
  unfold outS at h
  simp only [Bool.false_eq_true, if_false] at h
  show sumN (fun v => innK ps X v ps.length) N = 0
  rw [h]
  have : ∀ k, crossK (fun _ => false) ps X k = 0 := by
    intro k
    induction k with
    | zero => rfl
    | succ k ih =>
      rw [crossK, ih]
      cases ps[k]? <;> simp [crossOne]
  exact this _
/-- Bounds, where the first k numbers fit. -/
theorem innK_bound {N : Nat} {ps : List PipeV} {X : Nat → Int} {k : Nat} (hP : InP N ps) (hk : k ≤ ps.length) (h : ∀ j, ∀ hj : j < ps.length, j < k → 0 ≤ X j ∧ X j ≤ ps[j].room) (v : Int) : innK ps X v k ≤ 1099511627776 * k ∧ - (1099511627776 * k) ≤ innK ps X v k := by
  have hF : Feas ps (fun j => if j < k then X j else 0) := by
    intro j hj
    dsimp only
    split
    · exact h j hj (by assumption)
    · exact ⟨Int.le_refl _, (hP ps[j] (List.getElem_mem hj)).2.2.1⟩
  have e : innK ps X v k = innK ps (fun j => if j < k then X j else 0) v k := innK_congr k fun j hj => by rw [if_pos hj]
  have b := innK_le hP hF v k hk
  rw [e]
  omega
theorem two_zero {N a b : Nat} {f : Nat → Int} (hab : a ≠ b) (ha : a < N) (hb : b < N) (h0 : ∀ v, v < N → v ≠ a → v ≠ b → f v = 0) (hs : sumN f N = 0) : f a + f b = 0 := by
  have e : sumN f N = sumN (fun v => (if v = b then 0 else f v) + (if v = b then f v else 0)) N := sumN_congr N fun v _ => by split <;> omega
  rw [e, sumN_add, sumN_one (a := a) N (fun v hv hne => by
    split
    · rfl
    · exact h0 v hv hne (by assumption)), sumN_one (a := b) N (fun v hv hne => if_neg hne), if_pos ha, if_pos hb, if_neg hab, if_pos rfl] at hs
  exact hs
/-- more[from], more[to] = more[from] + sum, 0. -/
def shutX (M : Nat → Int) (s t : Nat) : Nat → Int :=
  let M1 := fun j => if j = s then M s + M t else M j
  fun j => if j = t then 0 else M1 j
theorem shut_zero {N : Nat} {ps : List PipeV} {X : Nat → Int} {s t : Nat} (hP : InP N ps) (hst : s ≠ t) (hs : s < N) (ht : t < N) : (∃ x ∈ (List.range N).map (shutX (fun v => inn ps X v) s t), x ≠ 0) ↔ ¬ ∀ v : Nat, v < N → v ≠ s → v ≠ t → inn ps X v = 0 := by
  constructor
  · rintro ⟨x, hx, hne⟩ hall
    obtain ⟨v, hv, rfl⟩ := List.mem_map.1 hx
    have hvN : v < N := by simpa using hv
    apply hne
    unfold shutX
    dsimp only
    split
    · rfl
    · split
      · exact two_zero hst hs ht hall (inn_all hP)
      · exact hall v hvN (by assumption) (by assumption)
  · intro h
    apply Classical.byContradiction
    intro hno
    apply h
    intro v hv h1 h2
    apply Classical.byContradiction
    intro hne
    apply hno
    refine ⟨_, List.mem_map.2 ⟨v, by simpa using hv, rfl⟩, ?_⟩
    unfold shutX
    dsimp only
    rw [if_neg h2, if_neg h1]
    exact hne
end Go.Proofs.Ytgnmbmlpfjlbiaa
