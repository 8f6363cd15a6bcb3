/- The plain law of wharfagelaw14.apart: rounds over all pairs and all nodes between tell the lightest ways. No program in sight. -/
import Derived.Test.YtjpejclfppbboaaNearD
import Derived.Test.YtjpejclfppbboaaTurned
namespace Go.Proofs.Ytjpejclfppbboaa
set_option linter.unusedVariables false
def setD (D : Nat → Nat → Int) (i k : Nat) (x : Int) : Nat → Nat → Int := fun a b => if a = i ∧ b = k then x else D a b
def stepD (I : Nat → Bool) (st : Nat → Int) (i k j : Nat) (D : Nat → Nat → Int) : Nat → Nat → Int :=
 if i ≠ j ∧ j ≠ k ∧ I j = true ∧ I i = true ∧ I k = true then setD D i k (min (D i k) (D i j + st j + D j k)) else D
def loopJ (I : Nat → Bool) (st : Nat → Int) (i k : Nat) : Nat → (Nat → Nat → Int) → Nat → Nat → Int
 | 0, D => D
 | j + 1, D => stepD I st i k j (loopJ I st i k j D)
def loopK (I : Nat → Bool) (st : Nat → Int) (n i : Nat) : Nat → (Nat → Nat → Int) → Nat → Nat → Int
 | 0, D => D
 | k + 1, D => loopJ I st i k n (loopK I st n i k D)
def loopI (I : Nat → Bool) (st : Nat → Int) (n : Nat) : Nat → (Nat → Nat → Int) → Nat → Nat → Int
 | 0, D => D
 | i + 1, D => loopK I st n i n (loopI I st n i D)
def loopR (I : Nat → Bool) (st : Nat → Int) (n : Nat) : Nat → (Nat → Nat → Int) → Nat → Nat → Int
 | 0, D => D
 | r + 1, D => loopI I st n n (loopR I st n r D)
def startD (I : Nat → Bool) (T : Nat → Nat → Int) : Nat → Nat → Int := fun i k => if i = k then 0 else if I i = true ∧ I k = true then T i k else FarI
def apartM (n : Nat) (T : Nat → Nat → Int) (st : Nat → Int) (I : Nat → Bool) : Nat → Nat → Int := loopR I st n n (startD I T)
section
variable {I : Nat → Bool} {st : Nat → Int} {n : Nat} {T : Nat → Nat → Int}
theorem step_mono (i k j : Nat) (D : Nat → Nat → Int) (a b : Nat) : stepD I st i k j D a b ≤ D a b := by
 unfold stepD
 split
 · unfold setD
   split
   · rename_i h; obtain ⟨rfl, rfl⟩ := h; omega
   · exact Int.le_refl _
 · exact Int.le_refl _
theorem loopJ_mono (i k : Nat) : ∀ (m : Nat) (D : Nat → Nat → Int) (a b : Nat), loopJ I st i k m D a b ≤ D a b
 | 0, D, a, b => Int.le_refl _
 | m + 1, D, a, b => Int.le_trans (step_mono i k m _ a b) (loopJ_mono i k m D a b)
theorem loopK_mono (i : Nat) : ∀ (m : Nat) (D : Nat → Nat → Int) (a b : Nat), loopK I st n i m D a b ≤ D a b
 | 0, D, a, b => Int.le_refl _
 | m + 1, D, a, b => Int.le_trans (loopJ_mono i m n _ a b) (loopK_mono i m D a b)
theorem loopI_mono : ∀ (m : Nat) (D : Nat → Nat → Int) (a b : Nat), loopI I st n m D a b ≤ D a b
 | 0, D, a, b => Int.le_refl _
 | m + 1, D, a, b => Int.le_trans (loopK_mono m n _ a b) (loopI_mono m D a b)
theorem loopR_mono : ∀ (m : Nat) (D : Nat → Nat → Int) (a b : Nat), loopR I st n m D a b ≤ D a b
 | 0, D, a, b => Int.le_refl _
 | m + 1, D, a, b => Int.le_trans (loopI_mono n _ a b) (loopR_mono m D a b)
/-- What each step keeps all rounds keep. -/
theorem loopJ_keep {P : (Nat → Nat → Int) → Prop} (i k : Nat) (h : ∀ j D, j < n → P D → P (stepD I st i k j D)) : ∀ m, m ≤ n → ∀ D, P D → P (loopJ I st i k m D)
 | 0, _, D, hD => hD
 | m + 1, hm, D, hD => h m _ (by omega) (loopJ_keep i k h m (by omega) D hD)
theorem loopK_keep {P : (Nat → Nat → Int) → Prop} (i : Nat) (h : ∀ k j D, k < n → j < n → P D → P (stepD I st i k j D)) : ∀ m, m ≤ n → ∀ D, P D → P (loopK I st n i m D)
 | 0, _, D, hD => hD
 | m + 1, hm, D, hD => loopJ_keep i m (fun j D hj => h m j D (by omega) hj) n (Nat.le_refl n) _ (loopK_keep i h m (by omega) D hD)
theorem loopI_keep {P : (Nat → Nat → Int) → Prop} (h : ∀ i k j D, i < n → k < n → j < n → P D → P (stepD I st i k j D)) : ∀ m, m ≤ n → ∀ D, P D → P (loopI I st n m D)
 | 0, _, D, hD => hD
 | m + 1, hm, D, hD => loopK_keep m (fun k j D hk hj => h m k j D (by omega) hk hj) n (Nat.le_refl n) _ (loopI_keep h m (by omega) D hD)
theorem loopR_keep {P : (Nat → Nat → Int) → Prop} (h : ∀ i k j D, i < n → k < n → j < n → P D → P (stepD I st i k j D)) : ∀ m D, P D → P (loopR I st n m D)
 | 0, D, hD => hD
 | m + 1, D, hD => loopI_keep h n (Nat.le_refl n) _ (loopR_keep h m D hD)
/-- By each node between it is looked at. -/
theorem loopJ_le {i k j : Nat} (hc : i ≠ j ∧ j ≠ k ∧ I j = true ∧ I i = true ∧ I k = true) : ∀ (m : Nat) (D : Nat → Nat → Int), j < m → loopJ I st i k m D i k ≤ D i j + st j + D j k
 | 0, D, h => by omega
 | m + 1, D, h => by
   by_cases e : j = m
   · subst e
     have h1 := loopJ_mono (I := I) (st := st) i k j D i j
     have h2 := loopJ_mono (I := I) (st := st) i k j D j k
     show stepD I st i k j (loopJ I st i k j D) i k ≤ _
     unfold stepD
     rw [if_pos hc]
     unfold setD
     rw [if_pos ⟨rfl, rfl⟩]
     omega
   · exact Int.le_trans (step_mono i k m _ i k) (loopJ_le hc m D (by omega))
theorem loopK_le {i k j : Nat} (hj : j < n) (hc : i ≠ j ∧ j ≠ k ∧ I j = true ∧ I i = true ∧ I k = true) : ∀ (m : Nat) (D : Nat → Nat → Int), k < m → loopK I st n i m D i k ≤ D i j + st j + D j k
 | 0, D, h => by omega
 | m + 1, D, h => by
   by_cases e : k = m
   · subst e
     have h1 := loopK_mono (I := I) (st := st) (n := n) i k D i j
     have h2 := loopK_mono (I := I) (st := st) (n := n) i k D j k
     have h3 := loopJ_le (st := st) hc n (loopK I st n i k D) hj
     show loopJ I st i k n (loopK I st n i k D) i k ≤ _
     omega
   · exact Int.le_trans (loopJ_mono i m n _ i k) (loopK_le hj hc m D (by omega))
theorem loopI_le {i k j : Nat} (hk : k < n) (hj : j < n) (hc : i ≠ j ∧ j ≠ k ∧ I j = true ∧ I i = true ∧ I k = true) : ∀ (m : Nat) (D : Nat → Nat → Int), i < m → loopI I st n m D i k ≤ D i j + st j + D j k
 | 0, D, h => by omega
 | m + 1, D, h => by
   by_cases e : i = m
   · subst e
     have h1 := loopI_mono (I := I) (st := st) (n := n) i D i j
     have h2 := loopI_mono (I := I) (st := st) (n := n) i D j k
     have h3 := loopK_le (st := st) hj hc n (loopI I st n i D) hk
     show loopK I st n i n (loopI I st n i D) i k ≤ _
     omega
   · exact Int.le_trans (loopK_mono m n _ i k) (loopI_le hk hj hc m D (by omega))
end
/-- A way by m arcs, that weighs c. -/
inductive Wlk (A : Nat → Nat → Int → Prop) : Nat → Nat → Nat → Int → Prop
 | none (i : Nat) : Wlk A i i 0 0
 | more {i j k m : Nat} {c d : Int} : Wlk A i j m c → A j k d → Wlk A i k (m + 1) (c + d)
theorem Wlk.join {A : Nat → Nat → Int → Prop} {i j k m m' : Nat} {c c' : Int} (h : Wlk A i j m c) (h' : Wlk A j k m' c') : Wlk A i k (m + m') (c + c') := by
 induction h' with
 | none => simpa using h
 | more h1 h2 ih =>
   have := Wlk.more ih h2
   rw [Int.add_assoc] at this
   exact this
theorem Wlk.pos {A : Nat → Nat → Int → Prop} (hA : ∀ u v c, A u v c → 0 ≤ c) {i k m : Nat} {c : Int} (h : Wlk A i k m c) : 0 ≤ c := by
 induction h with
 | none => exact Int.le_refl _
 | more h1 h2 ih => have := hA _ _ _ h2; omega
theorem Wlk.turn {A : Nat → Nat → Int → Prop} {i k m : Nat} {c : Int} (h : Wlk A i k m c) : Wlk (fun u v c => A v u c) k i m c := by
 induction h with
 | none => exact .none i
 | more h1 h2 ih =>
   rename_i j k m c d
   have h3 : Wlk (fun u v c => A v u c) k j (0 + 1) (0 + d) := .more (.none k) h2
   have h4 := h3.join ih
   rw [show 0 + 1 + m = m + 1 by omega, show 0 + d + c = c + d by omega] at h4
   exact h4
/-- By how much an arc weighs, with the stay where it begins. -/
def ArcA (n : Nat) (T : Nat → Nat → Int) (st : Nat → Int) (I : Nat → Bool) (u v : Nat) (c : Int) : Prop := u < n ∧ v < n ∧ u ≠ v ∧ I u = true ∧ I v = true ∧ c = T u v + st u
structure Ways (n : Nat) (T : Nat → Nat → Int) (st : Nat → Int) (I : Nat → Bool) (D : Nat → Nat → Int) : Prop where
 self : ∀ i, D i i = 0
 pos : ∀ i k, 0 ≤ D i k
 way : ∀ i k, i < n → k < n → i ≠ k → I i = true → I k = true → ∃ m, Wlk (ArcA n T st I) i k m (D i k + st i)
section
variable {I : Nat → Bool} {st : Nat → Int} {n : Nat} {T : Nat → Nat → Int}
theorem ways_start (hT : ∀ i k, 0 ≤ T i k) : Ways n T st I (startD I T) := by
 refine ⟨fun i => if_pos rfl, fun i k => ?_, fun i k hi hk hne h1 h2 => ⟨0 + 1, ?_⟩⟩
 · unfold startD
   split
   · exact Int.le_refl _
   · split
     · exact hT i k
     · decide
 · have e : startD I T i k = T i k := by unfold startD; rw [if_neg hne, if_pos ⟨h1, h2⟩]
   rw [e]
   have := Wlk.more (A := ArcA n T st I) (.none i) (⟨hi, hk, hne, h1, h2, rfl⟩ : ArcA n T st I i k (T i k + st i))
   rw [Int.zero_add] at this
   exact this
theorem ways_step (hst : ∀ i, 0 ≤ st i) {i k j : Nat} {D : Nat → Nat → Int} (hi : i < n) (hk : k < n) (hj : j < n) (h : Ways n T st I D) : Ways n T st I (stepD I st i k j D) := by
 unfold stepD
 split
 · rename_i hc
   obtain ⟨c1, c2, c3, c4, c5⟩ := hc
   have p1 := h.pos i j
   have p2 := h.pos j k
   have p3 := hst j
   have p4 := h.pos i k
   refine ⟨fun a => ?_, fun a b => ?_, fun a b ha hb hne h1 h2 => ?_⟩
   · unfold setD
     split
     · rename_i e
       obtain ⟨rfl, rfl⟩ := e
       have := h.self a
       omega
     · exact h.self a
   · unfold setD
     split
     · omega
     · exact h.pos a b
   · unfold setD
     split
     · rename_i e
       obtain ⟨rfl, rfl⟩ := e
       by_cases hlt : D a b ≤ D a j + st j + D j b
       · rw [show min (D a b) (D a j + st j + D j b) = D a b by omega]
         exact h.way a b ha hb hne h1 h2
       · rw [show min (D a b) (D a j + st j + D j b) = D a j + st j + D j b by omega]
         obtain ⟨m1, w1⟩ := h.way a j ha hj c1 h1 c3
         obtain ⟨m2, w2⟩ := h.way j b hj hb c2 c3 h2
         refine ⟨m1 + m2, ?_⟩
         have := w1.join w2
         rw [show D a j + st a + (D j b + st j) = D a j + st j + D j b + st a by omega] at this
         exact this
     · exact h.way a b ha hb hne h1 h2
 · exact h
theorem ways_apart (hT : ∀ i k, 0 ≤ T i k) (hst : ∀ i, 0 ≤ st i) : Ways n T st I (apartM n T st I) :=
 loopR_keep (fun i k j D hi hk hj => ways_step hst hi hk hj) n _ (ways_start hT)
/-- No way by few arcs is lighter. -/
theorem rounds_least (hT : ∀ i k, 0 ≤ T i k) (hst : ∀ i, 0 ≤ st i) : ∀ r m i k c, i ≠ k → m ≤ r + 1 → Wlk (ArcA n T st I) i k m c → loopR I st n r (startD I T) i k + st i ≤ c := by
 have hA : ∀ u v c, ArcA n T st I u v c → 0 ≤ c := fun u v c h => by have := hT u v; have := hst u; have := h.2.2.2.2.2; omega
 have h0 : ∀ r i k c, ArcA n T st I i k c → loopR I st n r (startD I T) i k + st i ≤ c := fun r i k c h => by
  obtain ⟨_, _, hne, h1, h2, rfl⟩ := h
  have h3 := loopR_mono (I := I) (st := st) (n := n) r (startD I T) i k
  have e : startD I T i k = T i k := by unfold startD; rw [if_neg hne, if_pos ⟨h1, h2⟩]
  omega
 intro r
 induction r with
 | zero =>
   intro m i k c hne hm hw
   cases hw with
   | none => exact absurd rfl hne
   | more h1 h2 =>
     cases h1 with
     | none => have := h0 0 i k _ h2; omega
     | more => omega
 | succ r ih =>
   intro m i k c hne hm hw
   cases hw with
   | none => exact absurd rfl hne
   | more h1 h2 =>
     rename_i j m c d
     by_cases e : j = i
     · subst e
       have h3 := h0 (r + 1) j k _ h2
       have h4 := h1.pos hA
       omega
     · have h3 := ih m i j c (fun h => e h.symm) (by omega) h1
       obtain ⟨hj, hk, hjk, i1, i2, rfl⟩ := h2
       have h5 : i < n ∧ I i = true := by
        cases m with
        | zero => cases h1; exact absurd rfl e
        | succ m =>
          have : ∀ {a b m c}, Wlk (ArcA n T st I) a b (m + 1) c → a < n ∧ I a = true := by
           intro a b m
           induction m generalizing b with
           | zero => intro c h; cases h with | more h h' => cases h; exact ⟨h'.1, h'.2.2.2.1⟩
           | succ m ihm => intro c h; cases h with | more h h' => exact ihm h
          exact this h1
       have h6 := loopI_le (I := I) (st := st) (i := i) (k := k) (j := j) hk hj ⟨fun h => e h.symm, hjk, i1, h5.2, i2⟩ n (loopR I st n r (startD I T)) h5.1
       have h7 := loopR_mono (I := I) (st := st) (n := n) r (startD I T) j k
       have e2 : startD I T j k = T j k := by unfold startD; rw [if_neg hjk, if_pos ⟨i1, i2⟩]
       show loopI I st n n (loopR I st n r (startD I T)) i k + st i ≤ _
       omega
end
/-- How far each node is, by arcs. -/
structure LookedA (N : Nat) (A : Nat → Nat → Int → Prop) (s : Nat) (far : Nat → Int) : Prop where
 start : far s = 0
 tree : ∃ rank : Nat → Nat, (∀ j, j < N → far j < FarI → rank j ≤ N) ∧ ∀ j, j < N → far j < FarI → j ≠ s → ∃ (u : Nat) (c : Int), u < N ∧ A u j c ∧ far u < FarI ∧ far j = far u + c ∧ rank u < rank j
 closed : ∀ u, u < N → far u < FarI → ∀ v c, A u v c → far v ≤ far u + c
theorem LookedA.least {N : Nat} {A : Nat → Nat → Int → Prop} {s : Nat} {far : Nat → Int} (h : LookedA N A s far) (hA : ∀ u v c, A u v c → 0 ≤ c ∧ u < N) {v m : Nat} {c : Int} (hw : Wlk A s v m c) (hc : c < FarI) : far v ≤ c := by
 induction hw with
 | none => rw [h.start]; exact Int.le_refl _
 | more h1 h2 ih =>
   obtain ⟨p1, p2⟩ := hA _ _ _ h2
   have h3 := ih (by omega)
   have h4 := h.closed _ p2 (by omega) _ _ h2
   omega
theorem LookedA.way {N : Nat} {A : Nat → Nat → Int → Prop} {s : Nat} {far : Nat → Int} (h : LookedA N A s far) {v : Nat} (hv : v < N) (hf : far v < FarI) : ∃ m, m ≤ N ∧ Wlk A s v m (far v) := by
 obtain ⟨rank, hr, ht⟩ := h.tree
 have key : ∀ r v, rank v = r → v < N → far v < FarI → ∃ m, m ≤ r ∧ Wlk A s v m (far v) := by
  intro r
  induction r using Nat.strongRecOn with
  | ind r ih =>
    intro v e hv hf
    by_cases hs : v = s
    · subst hs; rw [h.start]; exact ⟨0, Nat.zero_le _, .none _⟩
    · obtain ⟨u, c, hu, ha, hfu, e2, hlt⟩ := ht v hv hf hs
      obtain ⟨m, hm, hw⟩ := ih (rank u) (by omega) u rfl hu hfu
      refine ⟨m + 1, by omega, ?_⟩
      rw [e2]
      exact .more hw ha
 obtain ⟨m, hm, hw⟩ := key (rank v) v rfl hv hf
 exact ⟨m, Nat.le_trans hm (hr v hv hf), hw⟩
/-- What Near tells is what apart tells: from a node. -/
theorem near_apart {n N : Nat} (hNn : N ≤ n) {T : Nat → Nat → Int} {st : Nat → Int} {I : Nat → Bool} {s : Nat} {far : Nat → Int} (hT : ∀ i k, 0 ≤ T i k ∧ T i k ≤ 1000000) (hst : ∀ i, 0 ≤ st i ∧ st i ≤ 1000000) (hIN : ∀ i, I i = true → i < N) (hL : LookedA N (ArcA n T st I) s far) (his : I s = true) {v : Nat} (hiv : I v = true) (hne : s ≠ v) : far v = apartM n T st I s v + st s := by
 have hW := ways_apart (n := n) (I := I) (fun i k => (hT i k).1) (fun i => (hst i).1)
 have hv := hIN v hiv
 have hs := hIN s his
 have hA : ∀ u v c, ArcA n T st I u v c → 0 ≤ c ∧ u < N := fun u v c h => by have := hT u v; have := hst u; have := h.2.2.2.2.2; have := hIN u h.2.2.2.1; omega
 obtain ⟨m, hw⟩ := hW.way s v (by omega) (by omega) hne his hiv
 have hb : apartM n T st I s v ≤ T s v := by
  have h3 := loopR_mono (I := I) (st := st) (n := n) n (startD I T) s v
  have e : startD I T s v = T s v := by unfold startD; rw [if_neg hne, if_pos ⟨his, hiv⟩]
  unfold apartM
  omega
 have h1 := hT s v
 have h2 := hst s
 have h3 : far v ≤ apartM n T st I s v + st s := hL.least hA hw (by unfold FarI; omega)
 obtain ⟨m2, hm2, hw2⟩ := hL.way hv (by unfold FarI; omega)
 have h4 := rounds_least (fun i k => (hT i k).1) (fun i => (hst i).1) n m2 s v _ hne (by omega) hw2
 unfold apartM at h3 ⊢
 omega
/-- And to a node, with all arcs turned. -/
theorem near_apart_back {n N : Nat} (hNn : N ≤ n) {T : Nat → Nat → Int} {st : Nat → Int} {I : Nat → Bool} {s : Nat} {far : Nat → Int} (hT : ∀ i k, 0 ≤ T i k ∧ T i k ≤ 1000000) (hst : ∀ i, 0 ≤ st i ∧ st i ≤ 1000000) (hIN : ∀ i, I i = true → i < N) (hL : LookedA N (fun u v c => ArcA n T st I v u c) s far) (his : I s = true) {v : Nat} (hiv : I v = true) (hne : v ≠ s) : far v = apartM n T st I v s + st v := by
 have hW := ways_apart (n := n) (I := I) (fun i k => (hT i k).1) (fun i => (hst i).1)
 have hv := hIN v hiv
 have hs := hIN s his
 have hA : ∀ u v c, (fun u v c => ArcA n T st I v u c) u v c → 0 ≤ c ∧ u < N := fun u v c h => by have := hT v u; have := hst v; have := h.2.2.2.2.2; have := hIN u h.2.2.2.2.1; omega
 obtain ⟨m, hw⟩ := hW.way v s (by omega) (by omega) hne hiv his
 have hb : apartM n T st I v s ≤ T v s := by
  have h3 := loopR_mono (I := I) (st := st) (n := n) n (startD I T) v s
  have e : startD I T v s = T v s := by unfold startD; rw [if_neg hne, if_pos ⟨hiv, his⟩]
  unfold apartM
  omega
 have h1 := hT v s
 have h2 := hst v
 have h3 : far v ≤ apartM n T st I v s + st v := hL.least hA hw.turn (by unfold FarI; omega)
 obtain ⟨m2, hm2, hw2⟩ := hL.way hv (by unfold FarI; omega)
 have h4 := rounds_least (fun i k => (hT i k).1) (fun i => (hst i).1) n m2 v s _ hne (by omega) hw2.turn
 unfold apartM at h3 ⊢
 omega
/-! the arcs between nodes that are let through, in the order in which they are laid down -/
def arcRow (I : Nat → Bool) (w : Nat → Nat → Int) (i m : Nat) : List ArcV := ((List.range m).filter fun k => decide (i ≠ k) && (I i && I k)).map fun (k : Nat) => (⟨(i : Int), (k : Int), w i k⟩ : ArcV)
def arcsUp (I : Nat → Bool) (w : Nat → Nat → Int) (N m : Nat) : List ArcV := (List.range m).flatMap fun i => arcRow I w i N
theorem arcRow_succ (I : Nat → Bool) (w : Nat → Nat → Int) (i m : Nat) : arcRow I w i (m + 1) = arcRow I w i m ++ if (decide (i ≠ m) && (I i && I m)) = true then [(⟨(i : Int), (m : Int), w i m⟩ : ArcV)] else [] := by
 unfold arcRow
 rw [List.range_succ, List.filter_append, List.map_append]
 congr 1
 rw [List.filter_cons]
 split <;> simp
theorem arcsUp_succ (I : Nat → Bool) (w : Nat → Nat → Int) (N m : Nat) : arcsUp I w N (m + 1) = arcsUp I w N m ++ arcRow I w m N := by
 unfold arcsUp
 rw [List.range_succ, List.flatMap_append]
 simp
theorem arcRow_len (I : Nat → Bool) (w : Nat → Nat → Int) (i m : Nat) : (arcRow I w i m).length ≤ m := by
 unfold arcRow
 rw [List.length_map]
 exact Nat.le_trans (List.length_filter_le _ _) (by simp)
theorem arcsUp_len (I : Nat → Bool) (w : Nat → Nat → Int) (N : Nat) : ∀ m, (arcsUp I w N m).length ≤ m * N
 | 0 => by simp [arcsUp]
 | m + 1 => by
   rw [arcsUp_succ, List.length_append, Nat.succ_mul]
   have := arcsUp_len I w N m
   have := arcRow_len I w m N
   omega
theorem arcs_mem {I : Nat → Bool} {w : Nat → Nat → Int} {N m : Nat} {a : ArcV} : a ∈ arcsUp I w N m ↔ ∃ i k : Nat, i < m ∧ k < N ∧ i ≠ k ∧ I i = true ∧ I k = true ∧ a = ⟨(i : Int), (k : Int), w i k⟩ := by
 unfold arcsUp arcRow
 simp only [List.mem_flatMap, List.mem_range, List.mem_map, List.mem_filter, Bool.and_eq_true, decide_eq_true_eq]
 constructor
 · rintro ⟨i, hi, k, ⟨hk, h1, h2, h3⟩, rfl⟩
   exact ⟨i, k, hi, hk, h1, h2, h3, rfl⟩
 · rintro ⟨i, k, hi, hk, h1, h2, h3, rfl⟩
   exact ⟨i, hi, k, ⟨hk, h1, h2, h3⟩, rfl⟩
theorem arcs_check {I : Nat → Bool} {w : Nat → Nat → Int} {N : Nat} (hN : N ≤ 100) (hw : ∀ i k, 0 ≤ w i k ∧ w i k ≤ 1000000) : checkG (N : Int) (arcsUp I w N N) = 0 := by
 have hl := arcsUp_len I w N N
 have h2 : N * N ≤ 100 * 100 := Nat.mul_le_mul hN hN
 unfold checkG
 rw [if_neg (by omega)]
 apply rangeG_ok
 rw [List.any_eq_false]
 intro a ha
 obtain ⟨i, k, hi, hk, _, _, _, rfl⟩ := arcs_mem.1 ha
 have := hw i k
 unfold badArc
 simp only [decide_eq_true_eq]
 omega
theorem turn_check {l : List ArcV} {N : Int} (h : checkG N l = 0) : checkG N (l.map ArcV.turn) = 0 := by
 unfold checkG at h ⊢
 rw [List.length_map]
 split at h
 · cases h
 · rename_i h1
   rw [if_neg h1]
   apply rangeG_ok
   unfold rangeG at h
   split at h
   · cases h
   · rename_i h2
     rw [List.any_map]
     simp only [Bool.not_eq_true] at h2
     rw [List.any_eq_false] at h2 ⊢
     intro a ha
     have h3 := h2 a ha
     show ¬ badArc N a.turn = true
     unfold badArc ArcV.turn
     unfold badArc at h3
     simp only [decide_eq_true_eq] at h3 ⊢
     omega
theorem looked_arcs {N : Nat} {l : List ArcV} {A : Nat → Nat → Int → Prop} {s : Nat} {far by_ : Nat → Int} (hL : Looked N l s far by_) (hN : InN N l) (h1 : ∀ k u v c, ArcG l k u v c → A u v c) (h2 : ∀ u v c, A u v c → ∃ k, ArcG l k u v c) : LookedA N A s far := by
 obtain ⟨rank, hr, ht⟩ := hL.tree
 refine ⟨hL.start, ⟨rank, hr, fun j hj hf hne => ?_⟩, fun u hu hf v c ha => ?_⟩
 · obtain ⟨k, u, c, _, ha, hfu, e, hlt⟩ := ht j hj hf hne
   exact ⟨u, c, (ha.lt hN).1, h1 _ _ _ _ ha, hfu, e, hlt⟩
 · obtain ⟨k, hk⟩ := h2 u v c ha
   exact hL.closed u hu hf k v c hk
theorem arcG_up {I : Nat → Bool} {w : Nat → Nat → Int} {N k u v : Nat} {c : Int} (h : ArcG (arcsUp I w N N) k u v c) : u < N ∧ v < N ∧ u ≠ v ∧ I u = true ∧ I v = true ∧ c = w u v := by
 obtain ⟨hk, e1, e2, rfl⟩ := h
 obtain ⟨i, j, hi, hj, hne, i1, i2, e⟩ := arcs_mem.1 (List.getElem_mem hk)
 rw [e] at e1 e2 ⊢
 simp only at e1 e2 ⊢
 obtain rfl : i = u := by omega
 obtain rfl : j = v := by omega
 exact ⟨hi, hj, hne, i1, i2, rfl⟩
theorem arcG_of {I : Nat → Bool} {w : Nat → Nat → Int} {N u v : Nat} (hu : u < N) (hv : v < N) (hne : u ≠ v) (h1 : I u = true) (h2 : I v = true) : ∃ k, ArcG (arcsUp I w N N) k u v (w u v) := by
 obtain ⟨k, hk, e⟩ := List.getElem_of_mem (arcs_mem.2 ⟨u, v, hu, hv, hne, h1, h2, rfl⟩ : (⟨(u : Int), (v : Int), w u v⟩ : ArcV) ∈ arcsUp I w N N)
 exact ⟨k, hk, by rw [e], by rw [e], by rw [e]⟩
theorem arcG_turn {l : List ArcV} {k u v : Nat} {c : Int} : ArcG (l.map ArcV.turn) k u v c ↔ ArcG l k v u c := by
 unfold ArcG
 constructor
 · rintro ⟨hk, e1, e2, e3⟩
   have hk' : k < l.length := by simpa using hk
   exact ⟨hk', by simpa [ArcV.turn] using e2, by simpa [ArcV.turn] using e1, by simpa [ArcV.turn] using e3⟩
 · rintro ⟨hk, e1, e2, e3⟩
   exact ⟨by simpa using hk, by simpa [ArcV.turn] using e2, by simpa [ArcV.turn] using e1, by simpa [ArcV.turn] using e3⟩
theorem inN_turn {N : Nat} {l : List ArcV} (h : InN N l) : InN N (l.map ArcV.turn) := fun a ha => by
 obtain ⟨b, hb, rfl⟩ := List.mem_map.1 ha
 exact ⟨(h b hb).2, (h b hb).1⟩
/-- What Near tells over the arcs is what apart tells. -/
theorem near_out {n N s : Nat} {T : Nat → Nat → Int} {st : Nat → Int} {I : Nat → Bool} {far by_ : Nat → Int} (hNn : N ≤ n) (hN : N ≤ 100) (hIN : ∀ i, I i = true → i < N) (hT : ∀ i k, 0 ≤ T i k ∧ T i k ≤ 500000) (hst : ∀ i, 0 ≤ st i ∧ st i ≤ 500000) (hL : Looked N (arcsUp I (fun i k => T i k + st i) N N) s far by_) (his : I s = true) {v : Nat} (hiv : I v = true) (hne : s ≠ v) : far v = apartM n T st I s v + st s := by
 have hin := (inN_of_check (arcs_check (I := I) (w := fun i k => T i k + st i) hN (fun i k => by have := hT i k; have := hst i; omega))).2.2.2
 exact near_apart hNn (fun i k => by have := hT i k; omega) (fun i => by have := hst i; omega) hIN (looked_arcs hL (by simpa using hin) (fun k u v c h => by
  obtain ⟨h1, h2, h3, h4, h5, h6⟩ := arcG_up h
  exact ⟨by omega, by omega, h3, h4, h5, h6⟩) (fun u v c h => by
  obtain ⟨_, _, h3, h4, h5, rfl⟩ := h
  exact arcG_of (w := fun i k => T i k + st i) (hIN u h4) (hIN v h5) h3 h4 h5)) his hiv hne
theorem near_back {n N s : Nat} {T : Nat → Nat → Int} {st : Nat → Int} {I : Nat → Bool} {far by_ : Nat → Int} (hNn : N ≤ n) (hN : N ≤ 100) (hIN : ∀ i, I i = true → i < N) (hT : ∀ i k, 0 ≤ T i k ∧ T i k ≤ 500000) (hst : ∀ i, 0 ≤ st i ∧ st i ≤ 500000) (hL : Looked N ((arcsUp I (fun i k => T i k + st i) N N).map ArcV.turn) s far by_) (his : I s = true) {v : Nat} (hiv : I v = true) (hne : v ≠ s) : far v = apartM n T st I v s + st v := by
 have hin := (inN_of_check (arcs_check (I := I) (w := fun i k => T i k + st i) hN (fun i k => by have := hT i k; have := hst i; omega))).2.2.2
 exact near_apart_back hNn (fun i k => by have := hT i k; omega) (fun i => by have := hst i; omega) hIN (looked_arcs hL (inN_turn (by simpa using hin)) (fun k u v c h => by
  obtain ⟨h1, h2, h3, h4, h5, h6⟩ := arcG_up (arcG_turn.1 h)
  exact ⟨by omega, by omega, h3, h4, h5, h6⟩) (fun u v c h => by
  obtain ⟨_, _, h3, h4, h5, rfl⟩ := h
  obtain ⟨k, hk⟩ := arcG_of (I := I) (w := fun i k => T i k + st i) (hIN v h4) (hIN u h5) h3 h4 h5
  exact ⟨k, arcG_turn.2 hk⟩)) his hiv hne
end Go.Proofs.Ytjpejclfppbboaa
