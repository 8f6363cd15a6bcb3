/- The least numbers that keep to all beginnings and arcs, in plain Lean: relaxed arc by arc, in the order of the nodes. No program in sight. -/
import Derived.Test.YtaaffahjlkfbgaaOrderM
namespace Go.Proofs.Ytaaffahjlkfbgaa
set_option linter.unusedVariables false
/-- One arc kept to. -/
def relaxA (v : Nat → Int) (a : ArcV) : Nat → Int := fun j => if j = a.to.toNat then max (v a.to.toNat) (v a.fr.toNat + a.wt) else v j
theorem relaxA_at (v : Nat → Int) (a : ArcV) : relaxA v a a.to.toNat = max (v a.to.toNat) (v a.fr.toNat + a.wt) := if_pos rfl
theorem relaxA_ne (v : Nat → Int) (a : ArcV) {j : Nat} (h : j ≠ a.to.toNat) : relaxA v a j = v j := if_neg h
theorem relaxA_ge (v : Nat → Int) (a : ArcV) (j : Nat) : v j ≤ relaxA v a j := by
  by_cases h : j = a.to.toNat
  · subst h; rw [relaxA_at]; omega
  · rw [relaxA_ne _ _ h]; omega
theorem relaxA_mono {v u : Nat → Int} (a : ArcV) (h : ∀ j, v j ≤ u j) (j : Nat) : relaxA v a j ≤ relaxA u a j := by
  by_cases e : j = a.to.toNat
  · subst e; rw [relaxA_at, relaxA_at]; have := h a.to.toNat; have := h a.fr.toNat; omega
  · rw [relaxA_ne _ _ e, relaxA_ne _ _ e]; exact h j
/-- What is told: beginnings and arcs are kept to, and each number is its beginning, or tight at an arc. -/
structure LateOf (N : Nat) (l : List ArcV) (beg v : Nat → Int) : Prop where
  low : ∀ j, beg j ≤ v j
  arc : ∀ a ∈ l, v a.fr.toNat + a.wt ≤ v a.to.toNat
  tight : ∀ j, v j = beg j ∨ ∃ a ∈ l, a.to.toNat = j ∧ v j = v a.fr.toNat + a.wt
/-- So far: of the arcs of p. -/
structure LateK (l : List ArcV) (beg v : Nat → Int) (p : Nat → Prop) : Prop where
  low : ∀ j, beg j ≤ v j
  arc : ∀ m, ∀ h : m < l.length, p m → v l[m].fr.toNat + l[m].wt ≤ v l[m].to.toNat
  tight : ∀ j, v j = beg j ∨ ∃ m, ∃ h : m < l.length, p m ∧ l[m].to.toNat = j ∧ v j = v l[m].fr.toNat + l[m].wt
theorem LateK.start {l : List ArcV} {beg : Nat → Int} {p : Nat → Prop} (h : ∀ m, m < l.length → ¬ p m) : LateK l beg beg p :=
  ⟨fun _ => by omega, fun m hm hp => absurd hp (h m hm), fun _ => .inl rfl⟩
theorem LateK.of {l : List ArcV} {beg v : Nat → Int} {p q : Nat → Prop} (h : LateK l beg v p) (e : ∀ m, m < l.length → (p m ↔ q m)) : LateK l beg v q :=
  ⟨h.low, fun m hm hq => h.arc m hm ((e m hm).2 hq), fun j => (h.tight j).imp id fun ⟨m, hm, hp, r⟩ => ⟨m, hm, (e m hm).1 hp, r⟩⟩
theorem LateK.step {l : List ArcV} {beg v : Nat → Int} {p : Nat → Prop} (h : LateK l beg v p) {m : Nat} (hm : m < l.length) (h1 : l[m].fr.toNat ≠ l[m].to.toNat) (h2 : ∀ m', ∀ hm' : m' < l.length, p m' → l[m'].fr.toNat ≠ l[m].to.toNat) : LateK l beg (relaxA v l[m]) (fun k => p k ∨ k = m) := by
  refine ⟨fun j => Int.le_trans (h.low j) (relaxA_ge _ _ _), ?_, ?_⟩
  · rintro m' hm' (hp | rfl)
    · rw [relaxA_ne _ _ (h2 m' hm' hp)]
      exact Int.le_trans (h.arc m' hm' hp) (relaxA_ge _ _ _)
    · rw [relaxA_ne _ _ h1, relaxA_at]; omega
  · intro j
    by_cases e : j = l[m].to.toNat
    · rw [e, relaxA_at]
      by_cases c : v l[m].fr.toNat + l[m].wt ≤ v l[m].to.toNat
      · rw [show max (v l[m].to.toNat) (v l[m].fr.toNat + l[m].wt) = v l[m].to.toNat by omega]
        rcases h.tight l[m].to.toNat with t | ⟨m', hm', hp, t1, t2⟩
        · exact .inl t
        · exact .inr ⟨m', hm', .inl hp, t1, by rw [relaxA_ne _ _ (h2 m' hm' hp)]; exact t2⟩
      · exact .inr ⟨m, hm, .inr rfl, rfl, by rw [relaxA_ne _ _ h1]; omega⟩
    · rw [relaxA_ne _ _ e]
      rcases h.tight j with t | ⟨m', hm', hp, t1, t2⟩
      · exact .inl t
      · exact .inr ⟨m', hm', .inl hp, t1, by rw [relaxA_ne _ _ (h2 m' hm' hp)]; exact t2⟩
theorem LateK.all {N : Nat} {l : List ArcV} {beg v : Nat → Int} {p : Nat → Prop} (h : LateK l beg v p) (hp : ∀ m, ∀ hm : m < l.length, p m) : LateOf N l beg v :=
  ⟨h.low, fun a ha => by
    obtain ⟨m, hm, rfl⟩ := List.getElem_of_mem ha
    exact h.arc m hm (hp m hm), fun j => (h.tight j).imp id fun ⟨m, hm, _, t1, t2⟩ => ⟨l[m], List.getElem_mem hm, t1, t2⟩⟩
/-- Each node of an order, with those ahead of it. -/
theorem Grd.at_ {N : Nat} {l : List ArcV} {out : List Int} (h : Grd N l out) : ∀ t, ∀ ht : t < out.length, ∃ i : Nat, out[t] = (i : Int) ∧ Grd N l (out.take t) ∧ NextN N l (out.take t) i := by
  induction h with
  | nil => intro t ht; simp at ht
  | @snoc out i hg hn ih =>
    intro t ht
    by_cases e : t < out.length
    · obtain ⟨j, h1, h2, h3⟩ := ih t e
      refine ⟨j, ?_, ?_, ?_⟩
      · rw [List.getElem_append_left e]; exact h1
      · rw [List.take_append_of_le_length (by omega)]; exact h2
      · rw [List.take_append_of_le_length (by omega)]; exact h3
    · have et : t = out.length := by simp at ht; omega
      subst et
      refine ⟨i, by simp, ?_, ?_⟩
      · rw [List.take_left]; exact hg
      · rw [List.take_left]; exact hn
/-- All arcs, so many times. -/
def roundA (l : List ArcV) (v : Nat → Int) : Nat → Int := l.foldl relaxA v
def roundsA (l : List ArcV) (v : Nat → Int) : Nat → Nat → Int
  | 0 => v
  | n + 1 => roundA l (roundsA l v n)
theorem foldA_ge : ∀ (l : List ArcV) (v : Nat → Int) (j : Nat), v j ≤ l.foldl relaxA v j
  | [], _, _ => Int.le_refl _
  | a :: r, v, j => Int.le_trans (relaxA_ge v a j) (foldA_ge r _ j)
theorem foldA_mono : ∀ (l : List ArcV) (v u : Nat → Int), (∀ j, v j ≤ u j) → ∀ j, l.foldl relaxA v j ≤ l.foldl relaxA u j
  | [], _, _, h, j => h j
  | a :: r, v, u, h, j => foldA_mono r _ _ (relaxA_mono a h) j
theorem foldA_keeps : ∀ (l : List ArcV) (u : Nat → Int), (∀ a ∈ l, u a.fr.toNat + a.wt ≤ u a.to.toNat) → ∀ v : Nat → Int, (∀ j, v j ≤ u j) → ∀ j, l.foldl relaxA v j ≤ u j
  | [], _, _, _, h, j => h j
  | a :: r, u, hu, v, h, j => foldA_keeps r u (fun b hb => hu b (List.mem_cons_of_mem _ hb)) (relaxA v a) (fun j => by
      by_cases e : j = a.to.toNat
      · subst e; rw [relaxA_at]
        have h1 := h a.to.toNat
        have h2 := h a.fr.toNat
        have h3 := hu a List.mem_cons_self
        omega
      · rw [relaxA_ne _ _ e]; exact h j) j
/-- Behind a round each arc is kept to, as of ahead of the round. -/
theorem foldA_arc : ∀ (l : List ArcV) (v : Nat → Int) (a : ArcV), a ∈ l → v a.fr.toNat + a.wt ≤ l.foldl relaxA v a.to.toNat
  | [], _, _, h => absurd h (by simp)
  | b :: r, v, a, h => by
    rcases List.mem_cons.1 h with rfl | h
    · refine Int.le_trans ?_ (foldA_ge r _ _)
      rw [relaxA_at]; omega
    · refine Int.le_trans ?_ (foldA_arc r (relaxA v b) a h)
      have := relaxA_ge v b a.fr.toNat
      omega
theorem roundsA_ge (l : List ArcV) (v : Nat → Int) (n j : Nat) : v j ≤ roundsA l v n j := by
  induction n with
  | zero => exact Int.le_refl _
  | succ n ih => exact Int.le_trans ih (foldA_ge _ _ _)
theorem roundsA_mono (l : List ArcV) {v u : Nat → Int} (h : ∀ j, v j ≤ u j) (n : Nat) : ∀ j, roundsA l v n j ≤ roundsA l u n j := by
  induction n with
  | zero => exact h
  | succ n ih => exact foldA_mono _ _ _ ih
theorem roundsA_keeps {l : List ArcV} {u : Nat → Int} (hu : ∀ a ∈ l, u a.fr.toNat + a.wt ≤ u a.to.toNat) {v : Nat → Int} (h : ∀ j, v j ≤ u j) (n : Nat) : ∀ j, roundsA l v n j ≤ u j := by
  induction n with
  | zero => exact h
  | succ n ih => exact foldA_keeps _ _ hu _ ih
/-- As many rounds as nodes come to the numbers that are told. -/
theorem late_rounds {N : Nat} {l : List ArcV} {beg v : Nat → Int} (h : LateOf N l beg v) {out : List Int} (hg : Grd N l out) (hN : out.length = N) (hin : ∀ a ∈ l, (0 ≤ a.fr ∧ a.fr < N) ∧ 0 ≤ a.to ∧ a.to < N) : ∀ j, j < N → roundsA l beg N j = v j := by
  have key : ∀ n t, ∀ ht : t < out.length, t ≤ n → v out[t].toNat ≤ roundsA l beg n out[t].toNat := by
    intro n
    induction n with
    | zero =>
      intro t ht htn
      have e : t = 0 := by omega
      subst e
      obtain ⟨i, h1, h2, h3⟩ := hg.at_ 0 ht
      rcases h.tight out[0].toNat with t | ⟨a, ha, t1, t2⟩
      · rw [t]; exact Int.le_refl _
      · have := h3.2.1.2 a ha (by rw [h1] at t1; have := (hin a ha).2; omega)
        simp at this
    | succ n ih =>
      intro t ht htn
      by_cases e : t ≤ n
      · exact Int.le_trans (ih t ht e) (foldA_ge _ _ _)
      · obtain ⟨i, h1, h2, h3⟩ := hg.at_ t ht
        rcases h.tight out[t].toNat with t' | ⟨a, ha, t1, t2⟩
        · rw [t']; exact roundsA_ge _ _ _ _
        · have hfr := h3.2.1.2 a ha (by rw [h1] at t1; have := (hin a ha).2; omega)
          obtain ⟨s, hs, es⟩ := List.getElem_of_mem hfr
          rw [List.getElem_take] at es
          have hst : s < t := by have := hs; simp at this; omega
          have := ih s (by omega) (by omega)
          rw [es] at this
          rw [t2, ← t1]
          refine Int.le_trans ?_ (foldA_arc l (roundsA l beg n) a ha)
          omega
  intro j hj
  have hm := hg.full hN j hj
  obtain ⟨t, ht, et⟩ := List.getElem_of_mem hm
  have h1 := key N t ht (by omega)
  rw [et] at h1
  simp only [Int.toNat_natCast] at h1
  have h2 := roundsA_keeps h.arc h.low N j
  omega
/-- What keeps to all beginnings is, behind as many rounds, nowhere less. -/
theorem late_least {N : Nat} {l : List ArcV} {beg v any : Nat → Int} (h : LateOf N l beg v) {out : List Int} (hg : Grd N l out) (hN : out.length = N) (hin : ∀ a ∈ l, (0 ≤ a.fr ∧ a.fr < N) ∧ 0 ≤ a.to ∧ a.to < N) (ha : ∀ j, beg j ≤ any j) : ∀ j, j < N → v j ≤ roundsA l any N j := by
  intro j hj
  rw [← late_rounds h hg hN hin j hj]
  exact roundsA_mono l ha N j
/-- Some bound on what is told. -/
theorem foldA_le (l : List ArcV) (K : Int) (hw : ∀ a ∈ l, a.wt ≤ K) (hK : 0 ≤ K) : ∀ (v : Nat → Int) (b : Int), (∀ j, v j ≤ b) → ∀ j, l.foldl relaxA v j ≤ b + l.length * K := by
  induction l with
  | nil => intro v b h j; simpa using h j
  | cons a r ih =>
    intro v b h j
    have := ih (fun x hx => hw x (List.mem_cons_of_mem _ hx)) (relaxA v a) (b + K) (fun j => by
      by_cases e : j = a.to.toNat
      · subst e; rw [relaxA_at]
        have h1 := h a.to.toNat
        have h2 := h a.fr.toNat
        have h3 := hw a List.mem_cons_self
        omega
      · rw [relaxA_ne _ _ e]; have := h j; omega) j
    rw [List.length_cons, Int.natCast_add, Int.add_mul]
    simp only [List.foldl_cons]
    omega
end Go.Proofs.Ytaaffahjlkfbgaa
