/- The plain law of flow.along: a way back from a node, how much more it takes, what flows then. No program in sight. -/
import Derived.Test.YtgnmbmlpfjlbiaaWalkM
namespace Go.Proofs.Ytgnmbmlpfjlbiaa
set_option linter.unusedVariables false
/-- By one pipe: what flows into a node less what flows out of it. -/
def cont (ps : List PipeV) (x : Nat → Int) (v : Int) (k : Nat) : Int := if h : k < ps.length then (if ps[k].to = v then x k else 0) - (if ps[k].fr = v then x k else 0) else 0
/-- What flows into a node less what flows out of it, by the first k pipes. -/
def innK (ps : List PipeV) (x : Nat → Int) (v : Int) : Nat → Int
  | 0 => 0
  | k + 1 => innK ps x v k + cont ps x v k
def inn (ps : List PipeV) (x : Nat → Int) (v : Int) : Int := innK ps x v ps.length
theorem cont_congr {ps : List PipeV} {x y : Nat → Int} {v : Int} {k : Nat} (h : x k = y k) : cont ps x v k = cont ps y v k := by unfold cont; rw [h]
theorem innK_congr {ps : List PipeV} {x y : Nat → Int} {v : Int} : ∀ k, (∀ j, j < k → x j = y j) → innK ps x v k = innK ps y v k
  | 0, _ => rfl
  | k + 1, h => by
    unfold innK
    rw [innK_congr k (fun j hj => h j (by omega)), cont_congr (h k (by omega))]
theorem cont_at {ps : List PipeV} {x : Nat → Int} {v : Int} {k : Nat} (h : k < ps.length) : cont ps x v k = (if ps[k].to = v then x k else 0) - (if ps[k].fr = v then x k else 0) := by unfold cont; rw [dif_pos h]
theorem innK_set {ps : List PipeV} {x : Nat → Int} {v d : Int} {j : Nat} (hj : j < ps.length) : ∀ k, innK ps (fun i => if i = j then x i + d else x i) v k = innK ps x v k + (if j < k then (if ps[j].to = v then d else 0) - (if ps[j].fr = v then d else 0) else 0)
  | 0 => by simp [innK]
  | k + 1 => by
    have ih := innK_set (ps := ps) (x := x) (v := v) (d := d) hj k
    unfold innK
    rw [ih]
    by_cases e : k = j
    · subst e
      rw [cont_at hj, cont_at hj, if_neg (Nat.lt_irrefl k), if_pos (Nat.lt_succ_self k)]
      have hx : (if k = k then x k + d else x k) = x k + d := if_pos rfl
      skip
      generalize x k = a
      generalize innK ps x v k = z
      have e3 : ∀ b : Int, (if ps[k].to = v then b else 0) = if ps[k].to = v then b else 0 := fun _ => rfl
      generalize hp : ps[k].to = p
      generalize hq : ps[k].fr = q
      repeat' split
      all_goals (first | omega | simp_all)
    · have hx : (fun i => if i = j then x i + d else x i) k = x k := by simp [e]
      rw [cont_congr hx]
      generalize ((if ps[j].to = v then d else 0) - if ps[j].fr = v then d else 0) = y
      by_cases h : j < k
      · rw [if_pos h, if_pos (by omega)]; omega
      · rw [if_neg h, if_neg (by omega)]; omega
theorem inn_set {ps : List PipeV} {x : Nat → Int} {v d : Int} {j : Nat} (hj : j < ps.length) : inn ps (fun i => if i = j then x i + d else x i) v = inn ps x v + ((if ps[j].to = v then d else 0) - (if ps[j].fr = v then d else 0)) := by
  unfold inn
  rw [innK_set hj, if_pos hj]
def Feas (ps : List PipeV) (x : Nat → Int) : Prop := ∀ k, ∀ h : k < ps.length, 0 ≤ x k ∧ x k ≤ ps[k].room
/-- The pipe of a step; the node ahead; how much more it takes. -/
def kOf (by_ : Nat → Int × Bool) (j : Nat) : Nat := (by_ j).1.toNat
def prd (ps : List PipeV) (by_ : Nat → Int × Bool) (j : Nat) : Nat := match ps[kOf by_ j]? with | some p => if (by_ j).2 then p.to.toNat else p.fr.toNat | none => 0
def resd (ps : List PipeV) (x : Nat → Int) (by_ : Nat → Int × Bool) (j : Nat) : Int := match ps[kOf by_ j]? with | some p => if (by_ j).2 then x (kOf by_ j) else p.room - x (kOf by_ j) | none => 0
theorem step_pack {N : Nat} {ps : List PipeV} {x : Nat → Int} {seen : Nat → Bool} {rank : Nat → Nat} {by_ : Nat → Int × Bool} {j : Nat} (hP : InP N ps) (hF : Feas ps x) (h : Step ps x seen rank (by_ j) j) :
    ∃ (k : Nat) (p : PipeV) (bb : Bool) (q : Nat) (r : Int), kOf by_ j = k ∧ by_ j = ((k : Int), bb) ∧ prd ps by_ j = q ∧ resd ps x by_ j = r ∧ (∃ hk : k < ps.length, ps[k] = p) ∧ rank q < rank j ∧ 0 ≤ x k ∧ x k ≤ p.room ∧ p.room ≤ 1099511627776 ∧ q < N ∧ 1 ≤ r ∧
      ((bb = false ∧ p.fr = (q : Int) ∧ r = p.room - x k) ∨ (bb = true ∧ p.to = (q : Int) ∧ r = x k)) := by
  obtain ⟨k, hk, h1, h2⟩ := h
  have hp := hP ps[k] (List.getElem_mem hk)
  have hf := hF k hk
  have ek : kOf by_ j = k := by unfold kOf; rw [h1]; simp
  rcases h2 with ⟨a, b, c, d, f⟩ | ⟨a, b, c, d, f⟩
  · exact ⟨k, ps[k], false, ps[k].fr.toNat, ps[k].room - x k, ek, Prod.ext h1 a, by unfold prd; rw [ek, List.getElem?_eq_getElem hk]; simp [a], by unfold resd; rw [ek, List.getElem?_eq_getElem hk]; simp [a], ⟨hk, rfl⟩, f, hf.1, hf.2, hp.2.2.2, by omega, by omega, .inl ⟨rfl, by omega, rfl⟩⟩
  · exact ⟨k, ps[k], true, ps[k].to.toNat, x k, ek, Prod.ext h1 a, by unfold prd; rw [ek, List.getElem?_eq_getElem hk]; simp [a], by unfold resd; rw [ek, List.getElem?_eq_getElem hk]; simp [a], ⟨hk, rfl⟩, f, hf.1, hf.2, hp.2.2.2, by omega, by omega, .inr ⟨rfl, by omega, rfl⟩⟩
def nd (ps : List PipeV) (by_ : Nat → Int × Bool) (t : Nat) : Nat → Nat
  | 0 => t
  | m + 1 => prd ps by_ (nd ps by_ t m)
/-- What a step tells. -/
theorem step_tells {N : Nat} {ps : List PipeV} {x : Nat → Int} {seen : Nat → Bool} {rank : Nat → Nat} {by_ : Nat → Int × Bool} {j : Nat} (hP : InP N ps) (h : Step ps x seen rank (by_ j) j) :
    ∃ hk : kOf by_ j < ps.length, (by_ j).1 = (kOf by_ j : Int) ∧ seen (prd ps by_ j) = true ∧ rank (prd ps by_ j) < rank j ∧ prd ps by_ j < N ∧ 1 ≤ resd ps x by_ j ∧
      (((by_ j).2 = false ∧ ps[kOf by_ j].to = (j : Int) ∧ ps[kOf by_ j].fr = (prd ps by_ j : Int) ∧ resd ps x by_ j = ps[kOf by_ j].room - x (kOf by_ j)) ∨
       ((by_ j).2 = true ∧ ps[kOf by_ j].fr = (j : Int) ∧ ps[kOf by_ j].to = (prd ps by_ j : Int) ∧ resd ps x by_ j = x (kOf by_ j))) := by
  obtain ⟨k, hk, h1, h2⟩ := h
  have hp := hP ps[k] (List.getElem_mem hk)
  have e : kOf by_ j = k := by unfold kOf; rw [h1]; simp
  subst e
  rcases h2 with ⟨a, b, c, d, f⟩ | ⟨a, b, c, d, f⟩
  · have e1 : prd ps by_ j = ps[kOf by_ j].fr.toNat := by unfold prd; rw [List.getElem?_eq_getElem hk]; simp [a]
    have e2 : resd ps x by_ j = ps[kOf by_ j].room - x (kOf by_ j) := by unfold resd; rw [List.getElem?_eq_getElem hk]; simp [a]
    rw [e1, e2]
    exact ⟨hk, h1, d, f, by omega, by omega, .inl ⟨a, b, by omega, rfl⟩⟩
  · have e1 : prd ps by_ j = ps[kOf by_ j].to.toNat := by unfold prd; rw [List.getElem?_eq_getElem hk]; simp [a]
    have e2 : resd ps x by_ j = x (kOf by_ j) := by unfold resd; rw [List.getElem?_eq_getElem hk]; simp [a]
    rw [e1, e2]
    exact ⟨hk, h1, d, f, by omega, by omega, .inr ⟨a, b, by omega, rfl⟩⟩
/-- The first m nodes of the way: none of them is s; all are seen. -/
structure WayTo (N : Nat) (ps : List PipeV) (x : Nat → Int) (s : Int) (seen : Nat → Bool) (by_ : Nat → Int × Bool) (rank : Nat → Nat) (t m : Nat) : Prop where
  ne : ∀ i, i < m → (nd ps by_ t i : Int) ≠ s
  seen : ∀ i, i ≤ m → seen (nd ps by_ t i) = true ∧ nd ps by_ t i < N
  rank : ∀ i, i < m → rank (nd ps by_ t (i + 1)) < rank (nd ps by_ t i)
def TreeR (N : Nat) (ps : List PipeV) (x : Nat → Int) (s : Int) (seen : Nat → Bool) (by_ : Nat → Int × Bool) (rank : Nat → Nat) : Prop := ∀ j, j < N → seen j = true → (j : Int) ≠ s → Step ps x seen rank (by_ j) j
theorem way_start {N : Nat} {ps : List PipeV} {x : Nat → Int} {s : Int} {seen : Nat → Bool} {by_ : Nat → Int × Bool} {rank : Nat → Nat} {t : Nat} (h : seen t = true) (ht : t < N) : WayTo N ps x s seen by_ rank t 0 :=
  ⟨fun i hi => absurd hi (by omega), fun i hi => by rw [show i = 0 by omega]; exact ⟨h, ht⟩, fun i hi => absurd hi (by omega)⟩
theorem way_step {N : Nat} {ps : List PipeV} {x : Nat → Int} {s : Int} {seen : Nat → Bool} {by_ : Nat → Int × Bool} {rank : Nat → Nat} {t m : Nat} (hP : InP N ps) (hT : TreeR N ps x s seen by_ rank) (h : WayTo N ps x s seen by_ rank t m) (hn : (nd ps by_ t m : Int) ≠ s) : WayTo N ps x s seen by_ rank t (m + 1) := by
  have hs := h.seen m (Nat.le_refl _)
  obtain ⟨hk, _, h1, h2, h3, _⟩ := step_tells hP (hT _ hs.2 hs.1 hn)
  refine ⟨fun i hi => ?_, fun i hi => ?_, fun i hi => ?_⟩
  · by_cases e : i = m
    · subst e; exact hn
    · exact h.ne i (by omega)
  · by_cases e : i = m + 1
    · subst e; exact ⟨h1, h3⟩
    · exact h.seen i (by omega)
  · by_cases e : i = m
    · subst e; exact h2
    · exact h.rank i (by omega)
theorem way_rank {N : Nat} {ps : List PipeV} {x : Nat → Int} {s : Int} {seen : Nat → Bool} {by_ : Nat → Int × Bool} {rank : Nat → Nat} {t m : Nat} (h : WayTo N ps x s seen by_ rank t m) : ∀ j, ∀ i, i < j → j ≤ m → rank (nd ps by_ t j) < rank (nd ps by_ t i)
  | 0, i, hi, _ => by omega
  | j + 1, i, hi, hj => by
    have h1 := h.rank j (by omega)
    by_cases e : i = j
    · subst e; exact h1
    · have := way_rank h j i (by omega) (by omega)
      omega
/-- No pipe is gone along twice. -/
theorem way_once {N : Nat} {ps : List PipeV} {x : Nat → Int} {s : Int} {seen : Nat → Bool} {by_ : Nat → Int × Bool} {rank : Nat → Nat} {t m : Nat} (hP : InP N ps) (hT : TreeR N ps x s seen by_ rank) (h : WayTo N ps x s seen by_ rank t m) {i j : Nat} (hij : i < j) (hj : j < m) : kOf by_ (nd ps by_ t i) ≠ kOf by_ (nd ps by_ t j) := by
  intro e
  have hi' := h.seen i (by omega)
  have hj' := h.seen j (by omega)
  obtain ⟨k1, _, _, r1, _, _, c1⟩ := step_tells hP (hT _ hi'.2 hi'.1 (h.ne i (by omega)))
  obtain ⟨k2, _, _, r2, _, _, c2⟩ := step_tells hP (hT _ hj'.2 hj'.1 (h.ne j (by omega)))
  have hr := way_rank h j i hij (by omega)
  have hne : nd ps by_ t i ≠ nd ps by_ t j := by intro e; rw [e] at hr; omega
  have ek : ps[kOf by_ (nd ps by_ t i)] = ps[kOf by_ (nd ps by_ t j)] := by congr 1
  rcases c1 with ⟨_, a1, b1, _⟩ | ⟨_, a1, b1, _⟩ <;> rcases c2 with ⟨_, a2, b2, _⟩ | ⟨_, a2, b2, _⟩
  · rw [ek] at a1; omega
  · rw [ek] at a1 b1
    have e1 : nd ps by_ t i = prd ps by_ (nd ps by_ t j) := by omega
    have e2 : nd ps by_ t j = prd ps by_ (nd ps by_ t i) := by omega
    rw [← e2] at r1; rw [← e1] at r2; omega
  · rw [ek] at a1 b1
    have e1 : nd ps by_ t i = prd ps by_ (nd ps by_ t j) := by omega
    have e2 : nd ps by_ t j = prd ps by_ (nd ps by_ t i) := by omega
    rw [← e2] at r1; rw [← e1] at r2; omega
  · rw [ek] at a1; omega
/-- What flows after m steps. -/
def flowM (ps : List PipeV) (x : Nat → Int) (by_ : Nat → Int × Bool) (t : Nat) (d : Int) : Nat → Nat → Int
  | 0 => x
  | m + 1 => fun i => if i = kOf by_ (nd ps by_ t m) then flowM ps x by_ t d m i + (if (by_ (nd ps by_ t m)).2 then -d else d) else flowM ps x by_ t d m i
theorem flowM_same {ps : List PipeV} {x : Nat → Int} {by_ : Nat → Int × Bool} {t k : Nat} {d : Int} : ∀ m, (∀ i, i < m → kOf by_ (nd ps by_ t i) ≠ k) → flowM ps x by_ t d m k = x k
  | 0, _ => rfl
  | m + 1, h => by
    unfold flowM
    rw [if_neg (fun e => h m (by omega) e.symm)]
    exact flowM_same m fun i hi => h i (by omega)
theorem flowM_feas {N : Nat} {ps : List PipeV} {x : Nat → Int} {s : Int} {seen : Nat → Bool} {by_ : Nat → Int × Bool} {rank : Nat → Nat} {t M : Nat} {d : Int} (hP : InP N ps) (hT : TreeR N ps x s seen by_ rank) (h : WayTo N ps x s seen by_ rank t M) (hF : Feas ps x) (hd : 0 ≤ d) (hm : ∀ i, i < M → d ≤ resd ps x by_ (nd ps by_ t i)) : ∀ m, m ≤ M → Feas ps (flowM ps x by_ t d m)
  | 0, _ => hF
  | m + 1, hle => by
    have ih := flowM_feas hP hT h hF hd hm m (by omega)
    have hs := h.seen m (by omega)
    obtain ⟨hk, _, _, _, _, _, hc⟩ := step_tells hP (hT _ hs.2 hs.1 (h.ne m (by omega)))
    have hsame : flowM ps x by_ t d m (kOf by_ (nd ps by_ t m)) = x (kOf by_ (nd ps by_ t m)) := flowM_same m fun i hi => way_once hP hT h hi (by omega)
    have hres := hm m (by omega)
    intro k hkl
    unfold flowM
    by_cases e : k = kOf by_ (nd ps by_ t m)
    · subst e
      have hf := hF _ hkl
      simp only []
      rw [hsame]
      rcases hc with ⟨a, _, _, r⟩ | ⟨a, _, _, r⟩
      · rw [a]; simp only [Bool.false_eq_true, if_false]; omega
      · rw [a]; simp only [if_true]; omega
    · simp only [if_neg e]
      exact ih k hkl
theorem flowM_inn {N : Nat} {ps : List PipeV} {x : Nat → Int} {s : Int} {seen : Nat → Bool} {by_ : Nat → Int × Bool} {rank : Nat → Nat} {t M : Nat} {d : Int} (hP : InP N ps) (hT : TreeR N ps x s seen by_ rank) (h : WayTo N ps x s seen by_ rank t M) (v : Int) :
    ∀ m, m ≤ M → inn ps (flowM ps x by_ t d m) v = inn ps x v + (if (t : Int) = v then d else 0) - (if (nd ps by_ t m : Int) = v then d else 0)
  | 0, _ => by show inn ps x v = _; simp only [nd]; omega
  | m + 1, hle => by
    have ih := flowM_inn (d := d) hP hT h v m (by omega)
    have hs := h.seen m (by omega)
    obtain ⟨hk, _, _, _, _, _, hc⟩ := step_tells hP (hT _ hs.2 hs.1 (h.ne m (by omega)))
    have e : flowM ps x by_ t d (m + 1) = fun i => if i = kOf by_ (nd ps by_ t m) then flowM ps x by_ t d m i + (if (by_ (nd ps by_ t m)).2 then -d else d) else flowM ps x by_ t d m i := rfl
    rw [e, inn_set hk, ih]
    rcases hc with ⟨a, b, c, _⟩ | ⟨a, b, c, _⟩
    · rw [a, b, c]
      simp only [Bool.false_eq_true, if_false, nd]
      omega
    · rw [a, b, c]
      simp only [if_true, nd]
      by_cases h1 : (nd ps by_ t m : Int) = v <;> by_cases h2 : (prd ps by_ (nd ps by_ t m) : Int) = v <;> simp [h1, h2] <;> omega
end Go.Proofs.Ytgnmbmlpfjlbiaa
