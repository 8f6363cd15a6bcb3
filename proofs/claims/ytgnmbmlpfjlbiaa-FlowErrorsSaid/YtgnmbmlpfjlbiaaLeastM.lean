/- The plain law of law09.least: the least of all cuts, told by numbers' bits, is what a greatest flow comes to. No program in sight. -/
import Derived.Test.YtgnmbmlpfjlbiaaCutM
namespace Go.Proofs.Ytgnmbmlpfjlbiaa
set_option linter.unusedVariables false
theorem bits_of (S : Nat → Bool) : ∀ N : Nat, ∃ i : Nat, i < 2 ^ N ∧ ∀ v, v < N → i.testBit v = S v
  | 0 => ⟨0, by simp, fun v hv => absurd hv (by omega)⟩
  | N + 1 => by
    obtain ⟨i, hi, hb⟩ := bits_of S N
    cases hS : S N
    · refine ⟨i, by rw [Nat.pow_succ]; omega, fun v hv => ?_⟩
      by_cases e : v = N
      · subst e; rw [Nat.testBit_lt_two_pow hi, hS]
      · exact hb v (by omega)
    · refine ⟨2 ^ N + i, by rw [Nat.pow_succ]; omega, fun v hv => ?_⟩
      by_cases e : v = N
      · subst e; rw [Nat.testBit_two_pow_add_eq, Nat.testBit_lt_two_pow hi, hS]; rfl
      · rw [Nat.testBit_two_pow_add_gt (by omega)]; exact hb v (by omega)
theorem capK_congr {N : Nat} {S S' : Nat → Bool} {ps : List PipeV} (hP : InP N ps) (h : ∀ v, v < N → S v = S' v) : ∀ k, k ≤ ps.length → capK S ps k = capK S' ps k
  | 0, _ => rfl
  | k + 1, hk => by
    have hkl : k < ps.length := by omega
    have hp := hP ps[k] (List.getElem_mem hkl)
    rw [capK_succ hkl, capK_succ hkl, capK_congr hP h k (by omega), capOne, capOne, h _ (by omega), h ps[k].to.toNat (by omega)]
def bitsS (i : Nat) : Nat → Bool := fun v => i.testBit v
def Sep (i : Nat) (s t : Int) : Prop := i.testBit s.toNat = true ∧ i.testBit t.toNat = false
/-- What the loop keeps. -/
structure LeastK (ps : List PipeV) (s t : Int) (i : Nat) (b : Int) : Prop where
  low : ∀ j, j < i → Sep j s t → b ≤ cap (bitsS j) ps
  got : b = 4611686018427387904 ∨ ∃ j, j < i ∧ Sep j s t ∧ b = cap (bitsS j) ps
theorem least_start {ps : List PipeV} {s t : Int} : LeastK ps s t 0 4611686018427387904 := ⟨fun j hj => absurd hj (by omega), .inl rfl⟩
theorem least_pass {ps : List PipeV} {s t b : Int} {i : Nat} (h : LeastK ps s t i b) (hn : ¬ Sep i s t) : LeastK ps s t (i + 1) b := by
  refine ⟨fun j hj hs => ?_, ?_⟩
  · by_cases e : j = i
    · subst e; exact absurd hs hn
    · exact h.low j (by omega) hs
  · rcases h.got with h | ⟨j, hj, hs, e⟩
    · exact .inl h
    · exact .inr ⟨j, by omega, hs, e⟩
theorem least_take {ps : List PipeV} {s t b : Int} {i : Nat} (h : LeastK ps s t i b) (hn : Sep i s t) : LeastK ps s t (i + 1) (if cap (bitsS i) ps < b then cap (bitsS i) ps else b) := by
  refine ⟨fun j hj hs => ?_, ?_⟩
  · by_cases e : j = i
    · subst e; split <;> omega
    · have := h.low j (by omega) hs; split <;> omega
  · split
    · exact .inr ⟨i, by omega, hn, rfl⟩
    · rcases h.got with h | ⟨j, hj, hs, e⟩
      · exact .inl h
      · exact .inr ⟨j, by omega, hs, e⟩
theorem least_most {N : Nat} {ps : List PipeV} {s t b sum : Int} {y : Nat → Int} (hP : InP N ps) (hl : ps.length ≤ 20000) (hs0 : 0 ≤ s) (hs1 : s < N) (ht0 : 0 ≤ t) (ht1 : t < N) (h : LeastK ps s t (2 ^ N) b) (hM : MostOf N ps s t y sum) : b = sum := by
  obtain ⟨hf, seen, by_, hW, ht⟩ := hM
  have e1 := most_cap hP hf ht0 ht1 hs0 hW ht
  obtain ⟨i, hi, hb⟩ := bits_of seen N
  have e2 : cap (bitsS i) ps = sum := by rw [e1]; exact capK_congr hP hb _ (Nat.le_refl _)
  have l1 : b ≤ sum := by
    rw [← e2]
    exact h.low i hi ⟨by rw [hb _ (by omega)]; exact hW.start, by rw [hb _ (by omega)]; exact ht⟩
  have l2 := (inn_le hP hf.feas t)
  rw [hf.amount] at l2
  rcases h.got with e | ⟨j, _, hs, e⟩
  · omega
  · have := flow_le_cap (S := bitsS j) hP hf ht0 ht1 hs0 hs.1 hs.2
    omega
end Go.Proofs.Ytgnmbmlpfjlbiaa
