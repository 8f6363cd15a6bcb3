/- The plain law of cuts: what flows is what goes through a cut, less what comes back; the least cut. No program in sight. -/
import Derived.Test.YtgnmbmlpfjlbiaaMostM
namespace Go.Proofs.Ytgnmbmlpfjlbiaa
set_option linter.unusedVariables false
def sumN (f : Nat → Int) : Nat → Int
  | 0 => 0
  | n + 1 => sumN f n + f n
theorem sumN_congr {f g : Nat → Int} : ∀ n, (∀ v, v < n → f v = g v) → sumN f n = sumN g n
  | 0, _ => rfl
  | n + 1, h => by
    unfold sumN
    rw [sumN_congr n (fun v hv => h v (by omega)), h n (by omega)]
theorem sumN_add {f g : Nat → Int} : ∀ n, sumN (fun v => f v + g v) n = sumN f n + sumN g n
  | 0 => rfl
  | n + 1 => by unfold sumN; rw [sumN_add n]; omega
theorem sumN_sub {f g : Nat → Int} : ∀ n, sumN (fun v => f v - g v) n = sumN f n - sumN g n
  | 0 => rfl
  | n + 1 => by unfold sumN; rw [sumN_sub n]; omega
theorem sumN_zero : ∀ n, sumN (fun _ => 0) n = 0
  | 0 => rfl
  | n + 1 => by unfold sumN; rw [sumN_zero n]; rfl
/-- One of them alone. -/
theorem sumN_one {f : Nat → Int} {a : Nat} : ∀ n, (∀ v, v < n → v ≠ a → f v = 0) → sumN f n = if a < n then f a else 0
  | 0, _ => by simp [sumN]
  | n + 1, h => by
    unfold sumN
    rw [sumN_one n (fun v hv hne => h v (by omega) hne)]
    by_cases e : n = a
    · subst e; rw [if_neg (Nat.lt_irrefl n), if_pos (by omega)]; omega
    · rw [h n (by omega) e]
      by_cases h1 : a < n
      · rw [if_pos h1, if_pos (by omega)]; omega
      · rw [if_neg h1, if_neg (by omega)]; omega
/-- What flows into the nodes outside S, in all. -/
def outS (S : Nat → Bool) (f : Int → Int) (n : Nat) : Int := sumN (fun v => if S v then 0 else f v) n
theorem outS_pick {S : Nat → Bool} {p y : Int} {n : Nat} (h0 : 0 ≤ p) (h1 : p < n) : outS S (fun v => if p = v then y else 0) n = if S p.toNat then 0 else y := by
  unfold outS
  rw [sumN_one (a := p.toNat) n (fun v hv hne => by
    split
    · rfl
    · exact if_neg (by omega))]
  rw [if_pos (by omega)]
  split
  · rfl
  · exact if_pos (by omega)
theorem outS_sub {S : Nat → Bool} {f g : Int → Int} {n : Nat} : outS S (fun v => f v - g v) n = outS S f n - outS S g n := by
  unfold outS
  rw [← sumN_sub]
  exact sumN_congr n fun v _ => by dsimp only; split <;> omega
theorem outS_add {S : Nat → Bool} {f g : Int → Int} {n : Nat} : outS S (fun v => f v + g v) n = outS S f n + outS S g n := by
  unfold outS
  rw [← sumN_add]
  exact sumN_congr n fun v _ => by dsimp only; split <;> omega
/-- By one pipe: through the cut, less back. -/
def crossOne (S : Nat → Bool) (p : PipeV) (y : Int) : Int := (if S p.fr.toNat && !S p.to.toNat then y else 0) - (if S p.to.toNat && !S p.fr.toNat then y else 0)
def crossK (S : Nat → Bool) (ps : List PipeV) (y : Nat → Int) : Nat → Int
  | 0 => 0
  | k + 1 => crossK S ps y k + (match ps[k]? with | some p => crossOne S p (y k) | none => 0)
theorem crossK_succ {S : Nat → Bool} {ps : List PipeV} {y : Nat → Int} {k : Nat} (h : k < ps.length) : crossK S ps y (k + 1) = crossK S ps y k + crossOne S ps[k] (y k) := by
  rw [crossK, List.getElem?_eq_getElem h]
/-- What a cut has room for. -/
def capOne (S : Nat → Bool) (p : PipeV) : Int := if S p.fr.toNat && !S p.to.toNat then p.room else 0
def capK (S : Nat → Bool) (ps : List PipeV) : Nat → Int
  | 0 => 0
  | k + 1 => capK S ps k + (match ps[k]? with | some p => capOne S p | none => 0)
theorem capK_succ {S : Nat → Bool} {ps : List PipeV} {k : Nat} (h : k < ps.length) : capK S ps (k + 1) = capK S ps k + capOne S ps[k] := by
  rw [capK, List.getElem?_eq_getElem h]
theorem roomK_succ {ps : List PipeV} {k : Nat} (h : k < ps.length) : roomK ps (k + 1) = roomK ps k + ps[k].room := by
  rw [roomK, List.getElem?_eq_getElem h]
def cap (S : Nat → Bool) (ps : List PipeV) : Int := capK S ps ps.length
theorem outS_inn {N : Nat} {ps : List PipeV} {y : Nat → Int} {S : Nat → Bool} (hP : InP N ps) : ∀ k, k ≤ ps.length → outS S (fun v => innK ps y v k) N = crossK S ps y k
  | 0, _ => by
    unfold outS crossK
    rw [sumN_congr (g := fun _ => 0) N (fun v _ => by simp [innK])]
    exact sumN_zero N
  | k + 1, hk => by
    have hkl : k < ps.length := by omega
    have hp := hP ps[k] (List.getElem_mem hkl)
    have ih := outS_inn (y := y) (S := S) hP k (by omega)
    have e : (fun v => innK ps y v (k + 1)) = fun v => innK ps y v k + ((if ps[k].to = v then y k else 0) - (if ps[k].fr = v then y k else 0)) := by
      funext v
      show innK ps y v k + cont ps y v k = _
      rw [cont_at hkl]
    rw [e, outS_add, ih, outS_sub (f := fun v => if ps[k].to = v then y k else 0) (g := fun v => if ps[k].fr = v then y k else 0), outS_pick hp.2.1.1 hp.2.1.2, outS_pick hp.1.1 hp.1.2]
    rw [crossK_succ hkl, crossOne]
    cases S ps[k].to.toNat <;> cases S ps[k].fr.toNat <;> simp
/-- What flows is what goes through the cut, less what comes back. -/
theorem flow_cross {N : Nat} {ps : List PipeV} {y : Nat → Int} {S : Nat → Bool} {s t sum : Int} (hP : InP N ps) (h : FlowOf ps s t y sum) (ht0 : 0 ≤ t) (ht1 : t < N) (hs0 : 0 ≤ s) (hS : S s.toNat = true) (hT : S t.toNat = false) : sum = crossK S ps y ps.length := by
  rw [← outS_inn hP ps.length (Nat.le_refl _)]
  unfold outS
  rw [sumN_one (a := t.toNat) N (fun v hv hne => ?_)]
  · rw [if_pos (by omega), hT]
    simp only [Bool.false_eq_true, if_false]
    rw [Int.toNat_of_nonneg ht0]
    exact h.amount.symm
  · by_cases hv' : S v = true
    · rw [if_pos hv']
    · rw [if_neg hv']
      exact h.kept v (by intro e; apply hv'; rw [← hS, ← e]; simp) (by omega)
theorem cross_le {N : Nat} {ps : List PipeV} {y : Nat → Int} {S : Nat → Bool} (hF : Feas ps y) : ∀ k, k ≤ ps.length → crossK S ps y k ≤ capK S ps k
  | 0, _ => by simp [crossK, capK]
  | k + 1, hk => by
    have hkl : k < ps.length := by omega
    have hf := hF k hkl
    have ih := cross_le (N := N) (S := S) hF k (by omega)
    rw [crossK_succ hkl, capK_succ hkl, crossOne, capOne]
    cases S ps[k].to.toNat <;> cases S ps[k].fr.toNat <;> simp <;> omega
/-- No flow is more than a cut has room for. -/
theorem flow_le_cap {N : Nat} {ps : List PipeV} {y : Nat → Int} {S : Nat → Bool} {s t sum : Int} (hP : InP N ps) (h : FlowOf ps s t y sum) (ht0 : 0 ≤ t) (ht1 : t < N) (hs0 : 0 ≤ s) (hS : S s.toNat = true) (hT : S t.toNat = false) : sum ≤ cap S ps := by
  rw [flow_cross hP h ht0 ht1 hs0 hS hT]
  exact cross_le (N := N) h.feas _ (Nat.le_refl _)
theorem cross_full {N : Nat} {ps : List PipeV} {y : Nat → Int} {s : Int} {seen : Nat → Bool} {by_ : Nat → Int × Bool} (hP : InP N ps) (hF : Feas ps y) (hW : Walked N ps y s seen by_) : ∀ k, k ≤ ps.length → crossK seen ps y k = capK seen ps k
  | 0, _ => rfl
  | k + 1, hk => by
    have hkl : k < ps.length := by omega
    have hf := hF k hkl
    have hp := hP ps[k] (List.getElem_mem hkl)
    have ih := cross_full hP hF hW k (by omega)
    rw [crossK_succ hkl, capK_succ hkl, ih, crossOne, capOne]
    have a1 : seen ps[k].fr.toNat = true → seen ps[k].to.toNat = false → y k = ps[k].room := by
      intro h1 h2
      rcases (show y k < ps[k].room ∨ y k = ps[k].room by omega) with h | h
      · exfalso
        have r1 := (hW.rch ps[k].fr.toNat (by omega)).1 h1
        rw [Int.toNat_of_nonneg hp.1.1] at r1
        have r2 := Rch.step (a := ⟨ps[k].fr, ps[k].to, 0⟩) r1 (res_fwd hkl h)
        have := (hW.rch ps[k].to.toNat (by omega)).2 (by rw [Int.toNat_of_nonneg hp.2.1.1]; exact r2)
        rw [h2] at this; cases this
      · exact h
    have a2 : seen ps[k].to.toNat = true → seen ps[k].fr.toNat = false → y k = 0 := by
      intro h1 h2
      rcases (show 0 < y k ∨ y k = 0 by omega) with h | h
      · exfalso
        have r1 := (hW.rch ps[k].to.toNat (by omega)).1 h1
        rw [Int.toNat_of_nonneg hp.2.1.1] at r1
        have r2 := Rch.step (a := ⟨ps[k].to, ps[k].fr, 0⟩) r1 (res_back hkl h)
        have := (hW.rch ps[k].fr.toNat (by omega)).2 (by rw [Int.toNat_of_nonneg hp.1.1]; exact r2)
        rw [h2] at this; cases this
      · exact h
    cases h1 : seen ps[k].to.toNat <;> cases h2 : seen ps[k].fr.toNat <;> simp
    · exact a1 h2 h1
    · have := a2 h1 h2; omega
/-- A greatest flow: as much as the cut of what one comes to has room for. -/
theorem most_cap {N : Nat} {ps : List PipeV} {y : Nat → Int} {s t sum : Int} {seen : Nat → Bool} {by_ : Nat → Int × Bool} (hP : InP N ps) (h : FlowOf ps s t y sum) (ht0 : 0 ≤ t) (ht1 : t < N) (hs0 : 0 ≤ s) (hW : Walked N ps y s seen by_) (hT : seen t.toNat = false) : sum = cap seen ps := by
  rw [flow_cross hP h ht0 ht1 hs0 hW.start hT]
  exact cross_full hP h.feas hW _ (Nat.le_refl _)
theorem capK_rooms {N : Nat} {S : Nat → Bool} {ps : List PipeV} (hP : InP N ps) : ∀ k, k ≤ ps.length → 0 ≤ capK S ps k ∧ capK S ps k ≤ roomK ps k
  | 0, _ => by simp [capK, roomK]
  | k + 1, hk => by
    have hkl : k < ps.length := by omega
    have hp := hP ps[k] (List.getElem_mem hkl)
    have ih := capK_rooms (S := S) hP k (by omega)
    rw [capK_succ hkl, roomK_succ hkl, capOne]
    split <;> omega
/-! all pipes the other way -/
def turnP (p : PipeV) : PipeV := ⟨p.to, p.fr, p.room, 0⟩
theorem capK_turn {S : Nat → Bool} {ps : List PipeV} : ∀ k, k ≤ ps.length → capK (fun v => !S v) (ps.map turnP) k = capK S ps k
  | 0, _ => rfl
  | k + 1, hk => by
    have hkl : k < ps.length := by omega
    rw [capK_succ hkl, capK_succ (by simpa using hkl), capK_turn k (by omega), List.getElem_map]
    congr 1
    simp only [capOne, turnP]
    have e : ∀ a b : Bool, (!a && !!b) = (b && !a) := by decide
    simp only [e]
theorem cap_turn {S : Nat → Bool} {ps : List PipeV} : cap (fun v => !S v) (ps.map turnP) = cap S ps := by
  unfold cap
  rw [List.length_map]
  exact capK_turn _ (Nat.le_refl _)
theorem turn_in {N : Nat} {ps : List PipeV} (h : InP N ps) : InP N (ps.map turnP) := by
  intro p hp
  obtain ⟨q, hq, rfl⟩ := List.mem_map.1 hp
  have := h q hq
  exact ⟨this.2.1, this.1, this.2.2⟩
/-- As much flows the other way. -/
theorem most_turned {N : Nat} {ps : List PipeV} {y z : Nat → Int} {s t m k : Int} (hP : InP N ps) (hs0 : 0 ≤ s) (hs1 : s < N) (ht0 : 0 ≤ t) (ht1 : t < N) (h1 : MostOf N ps s t y m) (h2 : MostOf N (ps.map turnP) t s z k) : m = k := by
  obtain ⟨f1, seen1, by1, w1, t1⟩ := h1
  obtain ⟨f2, seen2, by2, w2, t2⟩ := h2
  have hP2 := turn_in hP
  have e1 := most_cap hP f1 ht0 ht1 hs0 w1 t1
  have e2 := most_cap hP2 f2 hs0 hs1 ht0 w2 t2
  have l1 : m ≤ k := by
    rw [e2, ← cap_turn (S := seen2)]
    have : ((ps.map turnP).map turnP).length = ps.length := by simp
    have h := flow_le_cap (S := fun v => !seen2 v) hP f1 ht0 ht1 hs0 (by simp [t2]) (by simp [w2.start])
    have e : cap (fun v => !seen2 v) ((ps.map turnP).map turnP) = cap (fun v => !seen2 v) ps := by
      unfold cap
      rw [this]
      have key : ∀ j, capK (fun v => !seen2 v) ((ps.map turnP).map turnP) j = capK (fun v => !seen2 v) ps j := by
        intro j
        induction j with
        | zero => rfl
        | succ j ih =>
          rw [capK, capK, ih, List.getElem?_map, List.getElem?_map]
          cases ps[j]? <;> rfl
      exact key _
    rw [e]; exact h
  have l2 : k ≤ m := by
    rw [e1, ← cap_turn (S := seen1)]
    exact flow_le_cap (S := fun v => !seen1 v) hP2 f2 hs0 hs1 ht0 (by simp [t1]) (by simp [w1.start])
  omega
end Go.Proofs.Ytgnmbmlpfjlbiaa
