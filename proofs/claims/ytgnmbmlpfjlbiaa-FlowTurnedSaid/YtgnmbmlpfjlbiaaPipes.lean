/- Pipes in memory; rows of steps; what is left as arcs. No program in sight. -/
import Derived.Test.YtgnmbmlpfjlbiaaBfs
import Derived.Test.YtgnmbmlpfjlbiaaIarr
namespace Go.Proofs.Ytgnmbmlpfjlbiaa
open Go.ChangeShapes Go.WideShapes Go.ChangeAt Go.RowKit
set_option linter.unusedVariables false
structure PipeV where
  fr : Int
  to : Int
  room : Int
  cost : Int
def PipeV.cells (a : PipeV) : List Value := [.int .i64 a.fr, .int .i64 a.to, .int .i64 a.room, .int .i64 a.cost]
def pipeCells (l : List PipeV) : List Value := l.flatMap PipeV.cells
def Pipes (w : World) (B : Nat) (A : Option Addr) (l : List PipeV) : Prop := Reads w B 4 A l.length (pipeCells l)
theorem pipeCells_get (l : List PipeV) (k : Nat) (h : k < l.length) : (pipeCells l)[k * 4]? = some (.int .i64 l[k].fr) ∧ (pipeCells l)[k * 4 + 1]? = some (.int .i64 l[k].to) ∧ (pipeCells l)[k * 4 + 2]? = some (.int .i64 l[k].room) ∧ (pipeCells l)[k * 4 + 3]? = some (.int .i64 l[k].cost) := by
  induction l generalizing k with
  | nil => simp at h
  | cons a r ih =>
    cases k with
    | zero => exact ⟨rfl, rfl, rfl, rfl⟩
    | succ k =>
      have := ih k (by simpa using h)
      unfold pipeCells at this ⊢
      rw [List.flatMap_cons]
      have e0 : (k + 1) * 4 = a.cells.length + k * 4 := by simp [PipeV.cells]; omega
      rw [e0, List.getElem?_append_right (by omega), List.getElem?_append_right (by omega), List.getElem?_append_right (by omega), List.getElem?_append_right (by omega)]
      simp only [Nat.add_sub_cancel_left, List.getElem_cons_succ]
      have e1 : a.cells.length + k * 4 + 1 - a.cells.length = k * 4 + 1 := by omega
      have e2 : a.cells.length + k * 4 + 2 - a.cells.length = k * 4 + 2 := by omega
      have e3 : a.cells.length + k * 4 + 3 - a.cells.length = k * 4 + 3 := by omega
      rw [e1, e2, e3]
      exact this
theorem pipeCells_len (l : List PipeV) : (pipeCells l).length = l.length * 4 := by
  induction l with
  | nil => rfl
  | cons x r ih => unfold pipeCells at ih ⊢; rw [List.flatMap_cons, List.length_append, ih]; simp [PipeV.cells]; omega
theorem pipeCells_snoc (l : List PipeV) (a : PipeV) : pipeCells (l ++ [a]) = pipeCells l ++ a.cells := by
  unfold pipeCells; simp
theorem pipes_at {w : World} {B : Nat} {A : Option Addr} {l : List PipeV} (h : Pipes w B A l) {k : Nat} (hk : k < l.length) :
    ∃ b o, A = some ⟨b, o, none⟩ ∧ b < B ∧ w.cell? ⟨b, o + k * 4, none⟩ = some (.int .i64 l[k].fr) ∧ w.cell? ⟨b, o + k * 4 + 1, none⟩ = some (.int .i64 l[k].to) ∧ w.cell? ⟨b, o + k * 4 + 2, none⟩ = some (.int .i64 l[k].room) ∧ w.cell? ⟨b, o + k * 4 + 3, none⟩ = some (.int .i64 l[k].cost) := by
  obtain ⟨b, o, e, hb, hc⟩ := reads_plain h (by omega) (by omega)
  obtain ⟨g0, g1, g2, g3⟩ := pipeCells_get l k hk
  exact ⟨b, o, e, hb, hc _ _ g0, hc _ _ g1, hc _ _ g2, hc _ _ g3⟩
/-- The pipes lie between nodes of the net; there is room in each, and what one costs may be. -/
def InP (N : Nat) (l : List PipeV) : Prop := ∀ p ∈ l, (0 ≤ p.fr ∧ p.fr < N) ∧ (0 ≤ p.to ∧ p.to < N) ∧ 0 ≤ p.room ∧ p.room ≤ 1099511627776
/-! a row of steps: (pipe, back) -/
def sarr (f : Nat → Int × Bool) (n : Nat) : Array Value := Array.ofFn (n := n * 2) fun i => if i.val % 2 = 0 then Value.int .i64 (f (i.val / 2)).1 else Value.bool (f (i.val / 2)).2
theorem sarr_size (f : Nat → Int × Bool) (n : Nat) : (sarr f n).size = n * 2 := by simp [sarr]
theorem sarr_get0 (f : Nat → Int × Bool) (n i : Nat) (h : i < n) : (sarr f n)[i * 2]? = some (Value.int .i64 (f i).1) := by
  have : i * 2 < n * 2 := by omega
  simp [sarr, this]
theorem sarr_get1 (f : Nat → Int × Bool) (n i : Nat) (h : i < n) : (sarr f n)[i * 2 + 1]? = some (Value.bool (f i).2) := by
  have : i * 2 + 1 < n * 2 := by omega
  have e1 : (i * 2 + 1) % 2 = 1 := by omega
  have e2 : (i * 2 + 1) / 2 = i := by omega
  simp [sarr, this, e1, e2]
theorem sarr_made (n : Nat) : madeCells #[Value.int .i64 0, .bool false] (n * 2) = sarr (fun _ => (0, false)) n := by
  apply Array.ext
  · rw [size_madeCells, sarr_size]
  · intro i h1 h2
    have e2 : i % 2 = 0 ∨ i % 2 = 1 := by omega
    rcases e2 with e | e <;> simp [madeCells, sarr, e]
def setS (f : Nat → Int × Bool) (k : Nat) (v : Int × Bool) : Nat → Int × Bool := fun i => if i = k then v else f i
theorem sarr_set (f : Nat → Int × Bool) (n k : Nat) (v : Int × Bool) : ((sarr f n).setIfInBounds (k * 2) (.int .i64 v.1)).setIfInBounds (k * 2 + 1) (.bool v.2) = sarr (setS f k v) n := by
  apply Array.ext_getElem?
  intro i
  rw [Array.getElem?_setIfInBounds, Array.getElem?_setIfInBounds]
  simp only [Array.size_setIfInBounds, sarr_size]
  by_cases hi : i < n * 2
  · have hd : i / 2 < n := by omega
    rcases (show i % 2 = 0 ∨ i % 2 = 1 by omega) with e | e
    · have ei : i = i / 2 * 2 := by omega
      by_cases hk : i / 2 = k
      · subst hk
        rw [if_neg (by omega), if_pos (by omega), if_pos (by omega), ei, sarr_get0 _ _ _ hd]
        have : i / 2 * 2 / 2 = i / 2 := by omega
        simp [setS]
      · rw [if_neg (by omega), if_neg (by omega)]
        conv => lhs; rw [ei]
        conv => rhs; rw [ei]
        rw [sarr_get0 _ _ _ hd, sarr_get0 _ _ _ hd]
        simp [setS, hk]
    · have ei : i = i / 2 * 2 + 1 := by omega
      by_cases hk : i / 2 = k
      · subst hk
        rw [if_pos (by omega), if_pos (by omega)]
        conv => rhs; rw [ei]
        rw [sarr_get1 _ _ _ hd]
        have e3 : (i / 2 * 2 + 1) / 2 = i / 2 := by omega
        simp [setS, e3]
      · rw [if_neg (by omega), if_neg (by omega)]
        conv => lhs; rw [ei]
        conv => rhs; rw [ei]
        rw [sarr_get1 _ _ _ hd, sarr_get1 _ _ _ hd]
        simp [setS, hk]
  · have h1 : (sarr f n)[i]? = none := Array.getElem?_eq_none (by rw [sarr_size]; omega)
    have h2 : (sarr (setS f k v) n)[i]? = none := Array.getElem?_eq_none (by rw [sarr_size]; omega)
    rw [h1, h2]
    split
    · split
      · omega
      · rfl
    · split
      · split
        · omega
        · rfl
      · rfl
theorem SL.setStep {W w : World} {B : Nat} {l : List Rs} (h : SL W B l w) (i : Nat) {g n : Nat} {f : Nat → Int × Bool} {t : TypeId} (hi : l[i]? = some (.blk g (sarr f n) t)) (k : Nat) (a : Int) (b : Bool) : SL W B (l.set i (.blk g (sarr (setS f k (a, b)) n) t)) ((w.setCell ⟨g, k * 2, none⟩ (.int .i64 a)).setCell ⟨g, k * 2 + 1, none⟩ (.bool b)) := by
  have h1 := h.setCell i hi (k * 2) (.int .i64 a)
  have hil := (List.getElem?_eq_some_iff.1 hi).1
  have hi2 : (l.set i (.blk g ((sarr f n).setIfInBounds (k * 2) (.int .i64 a)) t))[i]? = some (.blk g ((sarr f n).setIfInBounds (k * 2) (.int .i64 a)) t) := by simp [hil]
  have h2 := h1.setCell i hi2 (k * 2 + 1) (.bool b)
  rw [List.set_set, sarr_set f n k (a, b)] at h2
  exact h2
/-! what is left, as arcs -/
def resOne (p : PipeV) (f : Int) : List ArcV := (if f < p.room then [⟨p.fr, p.to, 0⟩] else []) ++ (if 0 < f then [⟨p.to, p.fr, 0⟩] else [])
/-- The arcs by which more may flow, out of the first k pipes. -/
def resK (ps : List PipeV) (x : Nat → Int) (k : Nat) : List ArcV := ((List.range k).map fun j => match ps[j]? with | some p => resOne p (x j) | none => []).flatten
def resArcs (ps : List PipeV) (x : Nat → Int) : List ArcV := resK ps x ps.length
theorem resK_succ {ps : List PipeV} {x : Nat → Int} {k : Nat} (hk : k < ps.length) : resK ps x (k + 1) = resK ps x k ++ resOne ps[k] (x k) := by
  unfold resK
  rw [List.range_succ, List.map_append, List.flatten_append]
  simp [hk]
theorem resK_mem {ps : List PipeV} {x : Nat → Int} {k : Nat} {a : ArcV} (hk : k ≤ ps.length) : a ∈ resK ps x k ↔ ∃ j, ∃ h : j < ps.length, j < k ∧ a ∈ resOne ps[j] (x j) := by
  unfold resK
  rw [List.mem_flatten]
  constructor
  · rintro ⟨l, hl, ha⟩
    obtain ⟨j, hj, rfl⟩ := List.mem_map.1 hl
    have hjk : j < k := by simpa using hj
    have hjl : j < ps.length := by omega
    refine ⟨j, hjl, hjk, ?_⟩
    simpa [hjl] using ha
  · rintro ⟨j, h, hjk, ha⟩
    exact ⟨_, List.mem_map.2 ⟨j, by simpa using hjk, rfl⟩, by simpa [h] using ha⟩
theorem res_in {N : Nat} {ps : List PipeV} {x : Nat → Int} (h : InP N ps) : InN N (resArcs ps x) := by
  intro a ha
  obtain ⟨j, hj, _, ha⟩ := (resK_mem (Nat.le_refl _)).1 ha
  have hp := h ps[j] (List.getElem_mem hj)
  unfold resOne at ha
  rcases List.mem_append.1 ha with ha | ha
  · split at ha
    · simp at ha; subst ha; exact ⟨hp.1, hp.2.1⟩
    · cases ha
  · split at ha
    · simp at ha; subst ha; exact ⟨hp.2.1, hp.1⟩
    · cases ha
theorem res_fwd {ps : List PipeV} {x : Nat → Int} {k : Nat} (hk : k < ps.length) (h : x k < ps[k].room) : (⟨ps[k].fr, ps[k].to, 0⟩ : ArcV) ∈ resArcs ps x :=
  (resK_mem (Nat.le_refl _)).2 ⟨k, hk, hk, by unfold resOne; rw [if_pos h]; simp⟩
theorem res_back {ps : List PipeV} {x : Nat → Int} {k : Nat} (hk : k < ps.length) (h : 0 < x k) : (⟨ps[k].to, ps[k].fr, 0⟩ : ArcV) ∈ resArcs ps x :=
  (resK_mem (Nat.le_refl _)).2 ⟨k, hk, hk, by unfold resOne; rw [if_pos h]; simp⟩
theorem res_cases {ps : List PipeV} {x : Nat → Int} {a : ArcV} (ha : a ∈ resArcs ps x) : ∃ k, ∃ h : k < ps.length, (a.fr = ps[k].fr ∧ a.to = ps[k].to ∧ x k < ps[k].room) ∨ (a.fr = ps[k].to ∧ a.to = ps[k].fr ∧ 0 < x k) := by
  obtain ⟨j, hj, _, ha⟩ := (resK_mem (Nat.le_refl _)).1 ha
  unfold resOne at ha
  rcases List.mem_append.1 ha with ha | ha
  · split at ha
    · simp at ha; subst ha; exact ⟨j, hj, .inl ⟨rfl, rfl, by assumption⟩⟩
    · cases ha
  · split at ha
    · simp at ha; subst ha; exact ⟨j, hj, .inr ⟨rfl, rfl, by assumption⟩⟩
    · cases ha
end Go.Proofs.Ytgnmbmlpfjlbiaa
