/- What must be ahead of what, in plain Lean: each time the least node to which nothing leads from those that are left. No program in sight. -/
import Derived.Test.YtaaffahjlkfbgaaCycleM
import Derived.Test.YtaaffahjlkfbgaaHeapM
namespace Go.Proofs.Ytaaffahjlkfbgaa
set_option linter.unusedVariables false
/-- Nothing leads to it from those that are left, and it is left. -/
def FreeN (l : List ArcV) (done : List Int) (i : Nat) : Prop := (i : Int) ∉ done ∧ ∀ a ∈ l, a.to = (i : Int) → a.fr ∈ done
instance (l : List ArcV) (done : List Int) (i : Nat) : Decidable (FreeN l done i) := by unfold FreeN; infer_instance
/-- The least that is free. -/
def NextN (N : Nat) (l : List ArcV) (done : List Int) (i : Nat) : Prop := i < N ∧ FreeN l done i ∧ ∀ j, j < i → ¬ FreeN l done j
/-- Nodes in order, each time the least that is free. -/
inductive Grd (N : Nat) (l : List ArcV) : List Int → Prop
  | nil : Grd N l []
  | snoc {out : List Int} {i : Nat} : Grd N l out → NextN N l out i → Grd N l (out ++ [(i : Int)])
theorem NextN.same {N : Nat} {l : List ArcV} {out : List Int} {i j : Nat} (h : NextN N l out i) (g : NextN N l out j) : i = j := by
  rcases Nat.lt_trichotomy i j with h1 | h1 | h1
  · exact absurd h.2.1 (g.2.2 i h1)
  · exact h1
  · exact absurd g.2.1 (h.2.2 j h1)
theorem Grd.inN {N : Nat} {l : List ArcV} {out : List Int} (h : Grd N l out) : ∀ x ∈ out, 0 ≤ x ∧ x < N := by
  induction h with
  | nil => intro x hx; simp at hx
  | @snoc out i _ hn ih =>
    intro x hx
    rcases List.mem_append.1 hx with h | h
    · exact ih x h
    · have := hn.1; simp at h; omega
theorem Grd.nodup {N : Nat} {l : List ArcV} {out : List Int} (h : Grd N l out) : out.Nodup := by
  induction h with
  | nil => exact .nil
  | @snoc out i _ hn ih =>
    rw [List.nodup_append]
    refine ⟨ih, by simp, ?_⟩
    intro a ha b hb e
    subst e
    simp at hb
    subst hb
    exact hn.2.1.1 ha
/-- Of as many nodes: one list alone. -/
theorem Grd.same {N : Nat} {l : List ArcV} {a b : List Int} (h : Grd N l a) (g : Grd N l b) (hl : a.length = b.length) : a = b := by
  induction h generalizing b with
  | nil => exact (List.eq_nil_of_length_eq_zero hl.symm).symm
  | @snoc a i ha hi ih =>
    cases g with
    | nil => simp at hl
    | @snoc b j hb hj =>
      simp only [List.length_append, List.length_cons, List.length_nil] at hl
      have e := ih hb (by omega)
      subst e
      rw [hi.same hj]
theorem Grd.ahead {N : Nat} {l : List ArcV} {a : List Int} (h : Grd N l a) : ∀ k, k < a.length → ∃ out i, Grd N l out ∧ out.length = k ∧ NextN N l out i := by
  induction h with
  | nil => intro k hk; simp at hk
  | @snoc a i ha hi ih =>
    intro k hk
    by_cases e : k = a.length
    · exact ⟨a, i, ha, e.symm, hi⟩
    · simp at hk; exact ih k (by omega)
def Stop (N : Nat) (l : List ArcV) (out : List Int) : Prop := ∀ i, i < N → ¬ FreeN l out i
/-- Where no more is free: one list alone. -/
theorem Grd.one {N : Nat} {l : List ArcV} {a b : List Int} (h : Grd N l a) (g : Grd N l b) (sa : Stop N l a) (sb : Stop N l b) : a = b := by
  refine h.same g ?_
  rcases Nat.lt_trichotomy a.length b.length with h1 | h1 | h1
  · obtain ⟨out, i, k1, k2, k3⟩ := g.ahead _ h1
    have := k1.same h k2
    subst this
    exact absurd k3.2.1 (sa i k3.1)
  · exact h1
  · obtain ⟨out, i, k1, k2, k3⟩ := h.ahead _ h1
    have := k1.same g k2
    subst this
    exact absurd k3.2.1 (sb i k3.1)
theorem nodup_len {N : Nat} {out : List Int} (h : out.Nodup) (hb : ∀ x ∈ out, 0 ≤ x ∧ x < N) : out.length ≤ N := by
  apply Classical.byContradiction
  intro hn
  obtain ⟨i, j, h1, h2, h3⟩ := pigeon N (fun i => (out.getD i 0).toNat) (fun i hi => by
    have hl : i < out.length := by omega
    have := hb _ (List.getElem_mem hl)
    simp only [List.getD_eq_getElem?_getD, List.getElem?_eq_getElem hl, Option.getD_some]
    omega)
  have hi : i < out.length := by omega
  have hj : j < out.length := by omega
  have b1 := hb _ (List.getElem_mem hi)
  have b2 := hb _ (List.getElem_mem hj)
  simp only [List.getD_eq_getElem?_getD, List.getElem?_eq_getElem hi, List.getElem?_eq_getElem hj, Option.getD_some] at h3
  exact List.pairwise_iff_getElem.1 h i j hi hj h1 (by omega)
theorem Grd.len {N : Nat} {l : List ArcV} {out : List Int} (h : Grd N l out) : out.length ≤ N := nodup_len h.nodup h.inN
/-- All are in it: no more is free. -/
theorem Grd.full {N : Nat} {l : List ArcV} {out : List Int} (h : Grd N l out) (hl : out.length = N) : ∀ i, i < N → (i : Int) ∈ out := by
  intro i hi
  apply Classical.byContradiction
  intro hn
  have h1 : ((i : Int) :: out).Nodup := List.nodup_cons.2 ⟨hn, h.nodup⟩
  have := nodup_len (N := N) h1 (by
    intro x hx
    rcases List.mem_cons.1 hx with rfl | hx
    · omega
    · exact h.inN x hx)
  simp at this
  omega
theorem Grd.stop_full {N : Nat} {l : List ArcV} {out : List Int} (h : Grd N l out) (hl : out.length = N) : Stop N l out := fun i hi hf => hf.1 (h.full hl i hi)
/-- How many of the first k arcs lead to j from nodes that are left. -/
def ledF (l : List ArcV) (done : List Int) (j : Nat) : Nat → Nat
  | 0 => 0
  | k + 1 => ledF l done j k + match l[k]? with
    | some a => if a.to = (j : Int) ∧ a.fr ∉ done then 1 else 0
    | none => 0
theorem ledF_succ {l : List ArcV} {done : List Int} {j k : Nat} (hk : k < l.length) : ledF l done j (k + 1) = ledF l done j k + if l[k].to = (j : Int) ∧ l[k].fr ∉ done then 1 else 0 := by
  rw [ledF]; simp only [List.getElem?_eq_getElem hk]
theorem ledF_zero {l : List ArcV} {done : List Int} {j : Nat} : ∀ k, k ≤ l.length → (ledF l done j k = 0 ↔ ∀ i, ∀ h : i < l.length, i < k → l[i].to = (j : Int) → l[i].fr ∈ done) := by
  intro k
  induction k with
  | zero => intro _; simp [ledF]
  | succ k ih =>
    intro hk
    rw [ledF_succ (by omega)]
    have ih := ih (by omega)
    constructor
    · intro h i hi hik hto
      by_cases e : i = k
      · subst e
        apply Classical.byContradiction
        intro hn
        rw [if_pos ⟨hto, hn⟩] at h
        omega
      · exact ih.1 (by omega) i hi (by omega) hto
    · intro h
      have h1 := ih.2 fun i hi hik hto => h i hi (by omega) hto
      rw [h1, if_neg (fun hc => hc.2 (h k (by omega) (by omega) hc.1))]
theorem ledF_free {l : List ArcV} {done : List Int} {j : Nat} (hj : (j : Int) ∉ done) : ledF l done j l.length = 0 ↔ FreeN l done j := by
  rw [ledF_zero l.length (Nat.le_refl _)]
  constructor
  · intro h
    refine ⟨hj, fun a ha hto => ?_⟩
    obtain ⟨i, hi, rfl⟩ := List.getElem_of_mem ha
    exact h i hi hi hto
  · intro h i hi _ hto
    exact h.2 _ (List.getElem_mem hi) hto
theorem ledF_le (l : List ArcV) (done : List Int) (j : Nat) (k : Nat) : ledF l done j k ≤ k := by
  induction k with
  | zero => exact Nat.le_refl _
  | succ k ih =>
    rw [ledF]
    split
    · split <;> omega
    · omega
def toAt (l : List ArcV) (k : Int) : Int := match l[k.toNat]? with | some a => a.to | none => -1
theorem toAt_at {l : List ArcV} {k : Nat} (hk : k < l.length) : toAt l (k : Int) = l[k].to := by
  unfold toAt; rw [Int.toNat_natCast, List.getElem?_eq_getElem hk]
/-- How many of these arcs lead to j. -/
def hits (l : List ArcV) (ks : List Int) (j : Nat) : Nat := (ks.filter fun m => decide (toAt l m = (j : Int))).length
theorem hits_nil (l : List ArcV) (j : Nat) : hits l [] j = 0 := rfl
theorem hits_snoc (l : List ArcV) (ks : List Int) (k : Int) (j : Nat) : hits l (ks ++ [k]) j = hits l ks j + if toAt l k = (j : Int) then 1 else 0 := by
  unfold hits
  rw [List.filter_append, List.length_append]
  by_cases h : toAt l k = (j : Int)
  · simp [h]
  · simp [h]
theorem hits_take_le (l : List ArcV) (ks : List Int) (t j : Nat) : hits l (ks.take t) j ≤ hits l ks j := by
  unfold hits
  exact ((List.take_sublist t ks).filter _).length_le
/-- A node more that is done: its arcs lead no more. -/
theorem ledF_done {l : List ArcV} {done : List Int} {i : Nat} (hi : (i : Int) ∉ done) (j : Nat) : ∀ k, k ≤ l.length → ledF l (done ++ [(i : Int)]) j k + hits l (outK l i k) j = ledF l done j k := by
  intro k
  induction k with
  | zero => intro _; simp [ledF, outK, hits]
  | succ k ih =>
    intro hk
    have := ih (by omega)
    rw [ledF_succ (by omega), ledF_succ (by omega)]
    by_cases e2 : l[k].fr = (i : Int)
    · rw [outK_yes (by omega) e2, hits_snoc, toAt_at (by omega)]
      have f1 : ¬ (l[k].to = (j : Int) ∧ l[k].fr ∉ done ++ [(i : Int)]) := fun h => h.2 (by rw [e2]; simp)
      rw [if_neg f1]
      by_cases e1 : l[k].to = (j : Int)
      · rw [if_pos e1, if_pos ⟨e1, by rw [e2]; exact hi⟩]; omega
      · rw [if_neg e1, if_neg (fun h => e1 h.1)]; omega
    · rw [outK_no (by omega) e2]
      have f4 : (l[k].fr ∉ done ++ [(i : Int)]) ↔ l[k].fr ∉ done := by simp [e2]
      simp only [f4]
      omega
/-- What is done: all that leads to it is done. -/
theorem Grd.closed {N : Nat} {l : List ArcV} {out : List Int} (h : Grd N l out) : ∀ a ∈ l, a.to ∈ out → a.fr ∈ out := by
  induction h with
  | nil => intro a _ h; simp at h
  | @snoc out i _ hn ih =>
    intro a ha hto
    rcases List.mem_append.1 hto with h | h
    · exact List.mem_append_left _ (ih a ha h)
    · simp at h
      exact List.mem_append_left _ (hn.2.1.2 a ha h)
/-- What the pile holds: the nodes that are left and to which nothing leads, as the row of numbers tells. -/
def PM (N : Nat) (out : List Int) (inf : Nat → Int) (x : ItemV) : Nat := if x.key = x.id ∧ 0 ≤ x.id ∧ x.id < N ∧ x.id ∉ out ∧ inf x.id.toNat = 0 then 1 else 0
theorem PM_pos {N : Nat} {out : List Int} {inf : Nat → Int} {x : ItemV} (h : 0 < PM N out inf x) : ∃ j : Nat, x = ⟨j, j⟩ ∧ j < N ∧ (j : Int) ∉ out ∧ inf j = 0 := by
  unfold PM at h
  split at h
  · rename_i h1
    obtain ⟨h1, h2, h3, h4, h5⟩ := h1
    refine ⟨x.id.toNat, ItemV.ext' (by show x.key = (x.id.toNat : Int); omega) (by show x.id = (x.id.toNat : Int); omega), by omega, ?_, h5⟩
    rw [Int.toNat_of_nonneg h2]; exact h4
  · omega
theorem PM_at {N : Nat} {out : List Int} {inf : Nat → Int} {j : Nat} (h1 : j < N) (h2 : (j : Int) ∉ out) (h3 : inf j = 0) : PM N out inf ⟨j, j⟩ = 1 := by
  unfold PM
  exact if_pos ⟨rfl, by show (0 : Int) ≤ (j : Int); omega, by show (j : Int) < (N : Int); omega, h2, by show inf (j : Int).toNat = 0; rw [Int.toNat_natCast]; exact h3⟩
/-- What is taken first: the least that is free. -/
theorem PM_first {N : Nat} {l : List ArcV} {out : List Int} {inf : Nat → Int} {x : ItemV} (hinf : ∀ j, j < N → inf j = (ledF l out j l.length : Int)) (h1 : 0 < PM N out inf x) (h2 : ∀ y, 0 < PM N out inf y → ¬ y.lt x) : ∃ i : Nat, x = ⟨i, i⟩ ∧ NextN N l out i := by
  obtain ⟨i, rfl, hi, hio, hz⟩ := PM_pos h1
  refine ⟨i, rfl, hi, ?_, ?_⟩
  · rw [hinf i hi] at hz
    exact (ledF_free hio).1 (by omega)
  · intro j hj hf
    have hz' : inf j = 0 := by rw [hinf j (by omega), (ledF_free hf.1).2 hf]; rfl
    have := h2 ⟨j, j⟩ (by rw [PM_at (by omega) hf.1 hz']; omega)
    unfold ItemV.lt at this
    simp only at this
    omega
theorem PM_none {N : Nat} {l : List ArcV} {out : List Int} {inf : Nat → Int} (hinf : ∀ j, j < N → inf j = (ledF l out j l.length : Int)) (h : ∀ x, PM N out inf x = 0) : Stop N l out := by
  intro i hi hf
  have hz' : inf i = 0 := by rw [hinf i hi, (ledF_free hf.1).2 hf]; rfl
  have := h ⟨i, i⟩
  rw [PM_at hi hf.1 hz'] at this
  omega
/-- One is taken. -/
theorem PM_take {N : Nat} {out : List Int} {inf : Nat → Int} {i : Nat} (hi : i < N) (hio : (i : Int) ∉ out) (hz : inf i = 0) (x : ItemV) : PM N out inf x - (if (⟨i, i⟩ : ItemV) = x then 1 else 0) = PM N (out ++ [(i : Int)]) inf x := by
  by_cases e : (⟨i, i⟩ : ItemV) = x
  · subst e
    rw [if_pos rfl, PM_at hi hio hz]
    unfold PM
    rw [if_neg]
    intro h
    exact h.2.2.2.1 (by simp)
  · rw [if_neg e]
    unfold PM
    have : (x.key = x.id ∧ 0 ≤ x.id ∧ x.id < N ∧ x.id ∉ out ∧ inf x.id.toNat = 0) ↔ (x.key = x.id ∧ 0 ≤ x.id ∧ x.id < N ∧ x.id ∉ out ++ [(i : Int)] ∧ inf x.id.toNat = 0) := by
      constructor
      · rintro ⟨h1, h2, h3, h4, h5⟩
        refine ⟨h1, h2, h3, ?_, h5⟩
        intro hm
        rcases List.mem_append.1 hm with h | h
        · exact h4 h
        · simp at h
          exact e (ItemV.ext' (by show (i : Int) = x.key; omega) (by show (i : Int) = x.id; omega))
      · rintro ⟨h1, h2, h3, h4, h5⟩
        exact ⟨h1, h2, h3, fun hm => h4 (List.mem_append_left _ hm), h5⟩
    by_cases c : x.key = x.id ∧ 0 ≤ x.id ∧ x.id < N ∧ x.id ∉ out ∧ inf x.id.toNat = 0
    · rw [if_pos c, if_pos (this.1 c)]
    · rw [if_neg c, if_neg (fun h => c (this.2 h))]
/-- A number turns: to one that is not zero, from one that is not. -/
theorem PM_keep {N : Nat} {out : List Int} {inf : Nat → Int} {j : Nat} {v : Int} (h1 : inf j ≠ 0) (h2 : v ≠ 0) (x : ItemV) : PM N out (fun k => if k = j then v else inf k) x = PM N out inf x := by
  unfold PM
  by_cases e : x.id.toNat = j
  · have a1 : ¬ (x.key = x.id ∧ 0 ≤ x.id ∧ x.id < N ∧ x.id ∉ out ∧ (if x.id.toNat = j then v else inf x.id.toNat) = 0) := by rw [if_pos e]; exact fun h => h2 h.2.2.2.2
    have a2 : ¬ (x.key = x.id ∧ 0 ≤ x.id ∧ x.id < N ∧ x.id ∉ out ∧ inf x.id.toNat = 0) := by rw [e]; exact fun h => h1 h.2.2.2.2
    rw [if_neg a1, if_neg a2]
  · simp only [if_neg e]
/-- A number turns to zero: one more is free. -/
theorem PM_put {N : Nat} {out : List Int} {inf : Nat → Int} {j : Nat} (hj : j < N) (hjo : (j : Int) ∉ out) (h1 : inf j ≠ 0) (x : ItemV) : PM N out inf x + (if (⟨j, j⟩ : ItemV) = x then 1 else 0) = PM N out (fun k => if k = j then 0 else inf k) x := by
  by_cases e : (⟨j, j⟩ : ItemV) = x
  · subst e
    rw [if_pos rfl, PM_at (inf := fun k => if k = j then 0 else inf k) hj hjo (if_pos rfl)]
    unfold PM
    rw [if_neg]
    intro h
    refine h1 ?_
    have := h.2.2.2.2
    simpa using this
  · rw [if_neg e]
    unfold PM
    by_cases e2 : x.id.toNat = j
    · have a1 : ¬ (x.key = x.id ∧ 0 ≤ x.id ∧ x.id < N ∧ x.id ∉ out ∧ (if x.id.toNat = j then (0 : Int) else inf x.id.toNat) = 0) := by
        rintro ⟨h1, h2, _⟩
        exact e (ItemV.ext' (by show (j : Int) = x.key; omega) (by show (j : Int) = x.id; omega))
      have a2 : ¬ (x.key = x.id ∧ 0 ≤ x.id ∧ x.id < N ∧ x.id ∉ out ∧ inf x.id.toNat = 0) := by
        rintro ⟨h1, h2, _⟩
        exact e (ItemV.ext' (by show (j : Int) = x.key; omega) (by show (j : Int) = x.id; omega))
      rw [if_neg a1, if_neg a2]
    · simp only [if_neg e2]
      rfl
end Go.Proofs.Ytaaffahjlkfbgaa
