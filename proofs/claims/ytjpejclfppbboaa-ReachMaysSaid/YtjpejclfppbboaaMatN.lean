/- A matrix that is owned, of which all rows are as long; how wharfagelaw14.apart fills it. No program in sight. -/
import Derived.Test.YtjpejclfppbboaaMatO
import Derived.Test.YtjpejclfppbboaaMakeW
import Derived.Test.YtjpejclfppbboaaReachA
namespace Go.Proofs.Ytjpejclfppbboaa
open Go.ChangeShapes Go.WideShapes Go.ChangeAt Go.RowKit
set_option linter.unusedVariables false
section
variable {W w : World} {B : Nat} {v v' : Value} {ps : List (List Int × Value)} {R : List Rs} {g off c gk ok k N j b L m n : Nat} {l : List Int} {r : Rs}
theorem mo_nils (n : Nat) (h : SL W B (r :: R) w) : SL W B (r :: (List.replicate n (Rs.row 2 1 (.slice none 0 0) 0 []) ++ R)) w := by
 induction n with
 | zero => simpa using h
 | succ n ih => exact (ih.nil 2 1).perm (List.Perm.swap _ _ _)
theorem mo_made (h : SL W B (.blk g (Array.replicate n (.slice none 0 0)) 51 :: R) w) (hn : n ≤ maxLen) : SL W B (MO (.slice (some ⟨g, 0, none⟩) n n) (List.replicate n (([] : List Int), .slice none 0 0)) R) w := by
 have h1 := mo_nils n (h.blkRow 0 rfl n 1 hn (by simp))
 have e : MO (.slice (some ⟨g, 0, none⟩) n n) (List.replicate n (([] : List Int), .slice none 0 0)) R = .row 51 1 (.slice (some ⟨g, 0, none⟩) n n) n (Array.replicate n (Value.slice none 0 0)).toList :: (List.replicate n (Rs.row 2 1 (.slice none 0 0) 0 []) ++ R) := by
  unfold MO Nest.own
  rw [mo_heads, List.map_replicate, List.map_replicate, List.length_replicate, Array.toList_replicate]
  rfl
 rw [e]
 exact h1
theorem mo_headN (hl : ps.length = N) (h : SL W B (MO (.slice (some ⟨g, 0, none⟩) N c) ps R) w) (hk : k < ps.length) {u : Value} (hu : (ps[k]'hk).2 = u) : w.cell? ⟨g, k, none⟩ = some u := by
 subst hl
 have := mo_head h hk hu
 rwa [Nat.zero_add] at this
theorem mo_freeN (hl : ps.length = N) (h : SL W B (MO (.slice (some ⟨g, 0, none⟩) N c) ps R) w) (h0 : 0 < N) (j : Nat) : w.frozen? ⟨g, j, none⟩ = false := by
 subst hl
 exact mo_free h h0 j
theorem mo_putN (hl : ps.length = N) (hl' : l.length = m) (h : SL W B (.row 2 1 v' m (l.map (.int .i64)) :: MO (.slice (some ⟨g, 0, none⟩) N c) ps R) w) (hk : k < ps.length) : SL W B (MO (.slice (some ⟨g, 0, none⟩) N c) (ps.set k (l, v')) R) (w.setCell ⟨g, k, none⟩ v') := by
 subst hl hl'
 have := mo_put h hk
 rwa [Nat.zero_add] at this
theorem mo_rowset (hk : k < ps.length) (h : SL W B (MO v (ps.set k (l, .slice (some ⟨gk, ok, none⟩) L b)) R) w) (hj : j < l.length) (x : Int) : SL W B (MO v (ps.set k (l.set j x, .slice (some ⟨gk, ok, none⟩) L b)) R) (w.setCell ⟨gk, ok + j, none⟩ (.int .i64 x)) := by
 have hk' : k < (ps.set k (l, Value.slice (some ⟨gk, ok, none⟩) L b)).length := by simpa using hk
 have h1 := mo_set1 h hk' (gk := gk) (ok := ok) (L := L) (b := b) (by simp) (j := j) (by simpa using hj) x
 rw [List.set_set] at h1
 simpa using h1
theorem mo_rownum (hk : k < ps.length) (h : SL W B (MO v (ps.set k (l, .slice (some ⟨gk, ok, none⟩) L b)) R) w) (hj : j < l.length) : w.cell? ⟨gk, ok + j, none⟩ = some (.int .i64 (l.getD j 0)) := by
 have hk' : k < (ps.set k (l, Value.slice (some ⟨gk, ok, none⟩) L b)).length := by simpa using hk
 have h1 := mo_num h hk' (gk := gk) (ok := ok) (L := L) (b := b) (by simp) (j := j) (by simpa using hj)
 simpa using h1
theorem mo_rowfree (hk : k < ps.length) (h : SL W B (MO v (ps.set k (l, .slice (some ⟨gk, ok, none⟩) L b)) R) w) (h0 : 0 < l.length) (j : Nat) : w.frozen? ⟨gk, j, none⟩ = false := by
 have hk' : k < (ps.set k (l, Value.slice (some ⟨gk, ok, none⟩) L b)).length := by simpa using hk
 exact mo_nfree h hk' (gk := gk) (ok := ok) (L := L) (b := b) (by simp) (by simpa using h0) j
theorem mo_valN {D : Nat → Nat → Int} (hM : MtxIs N D ps) (h : SL W B (MO v ps R) w) (hk : k < ps.length) (h0 : 0 < N) : ∃ gk ok b, (ps[k]'hk).2 = .slice (some ⟨gk, ok, none⟩) N b := by
 obtain ⟨a, b, e, _⟩ := mo_val h hk
 have hr := mtx_row hM hk
 obtain ⟨gk, ok, rfl⟩ := mo_vaddr h hk e (by omega)
 rw [hr] at e
 exact ⟨gk, ok, b, e⟩
theorem mo_numN {D : Nat → Nat → Int} (hM : MtxIs N D ps) (h : SL W B (MO v ps R) w) (hk : k < ps.length) (hv : (ps[k]'hk).2 = .slice (some ⟨gk, ok, none⟩) N b) (hj : j < N) : w.cell? ⟨gk, ok + j, none⟩ = some (.int .i64 (D k j)) := by
 have hr := mtx_row hM hk
 rw [mo_num h hk hv (j := j) (by omega), mtx_get hM hk hj]
theorem mo_freeR {D : Nat → Nat → Int} (hM : MtxIs N D ps) (h : SL W B (MO v ps R) w) (hk : k < ps.length) (hv : (ps[k]'hk).2 = .slice (some ⟨gk, ok, none⟩) N b) (h0 : 0 < N) (j : Nat) : w.frozen? ⟨gk, j, none⟩ = false := by
 have hr := mtx_row hM hk
 exact mo_nfree h hk hv (by omega) j
theorem mo_setN {D : Nat → Nat → Int} (hM : MtxIs N D ps) (h : SL W B (MO v ps R) w) (hk : k < ps.length) (hv : (ps[k]'hk).2 = .slice (some ⟨gk, ok, none⟩) N b) (hj : j < N) (x : Int) : ∃ ps', MtxIs N (setD D k j x) ps' ∧ SL W B (MO v ps' R) (w.setCell ⟨gk, ok + j, none⟩ (.int .i64 x)) := by
 have hr := mtx_row hM hk
 exact ⟨_, mtx_set hM hk hj x, mo_set1 h hk hv (j := j) (by omega) x⟩
end
/-! how it is filled -/
def rowK (N : Nat) (T : Nat → Nat → Int) (I : Nat → Bool) (i m : Nat) : List Int := (List.range N).map fun b => if b < m ∧ ¬ (I i = true ∧ I b = true) then FarI else T i b
section
variable {N : Nat} {T : Nat → Nat → Int} {I : Nat → Bool} {i m : Nat}
theorem rowK_len : (rowK N T I i m).length = N := by unfold rowK; simp
theorem rowK_zero : rowK N T I i 0 = (List.range N).map (T i) := by unfold rowK; simp
theorem rowK_skip (h : I i = true ∧ I m = true) : rowK N T I i (m + 1) = rowK N T I i m := by
 unfold rowK
 apply List.map_congr_left
 intro b hb
 by_cases e : b = m
 · subst e; simp [h]
 · simp only [show (b < m + 1) ↔ (b < m) from by omega]
theorem rowK_put (h : ¬ (I i = true ∧ I m = true)) (hm : m < N) : rowK N T I i (m + 1) = (rowK N T I i m).set m FarI := by
 unfold rowK
 rw [range_set _ _ hm]
 apply List.map_congr_left
 intro b hb
 by_cases e : b = m
 · subst e; simp [h]
 · rw [if_neg e]
   simp only [show (b < m + 1) ↔ (b < m) from by omega]
theorem rowK_end (hi : i < N) : (rowK N T I i N).set i 0 = (List.range N).map (startD I T i) := by
 unfold rowK
 rw [range_set _ _ hi]
 apply List.map_congr_left
 intro b hb
 have hb' : b < N := by simpa using hb
 unfold startD
 by_cases e : b = i
 · subst e; simp
 · have e2 : ¬ i = b := fun h => e h.symm
   rw [if_neg e, if_neg e2]
   by_cases h : I i = true ∧ I b = true
   · rw [if_neg (fun h2 => h2.2 h), if_pos h]
   · rw [if_pos ⟨hb', h⟩, if_neg h]
end
def FillIs (N i : Nat) (I : Nat → Bool) (T : Nat → Nat → Int) (ps : List (List Int × Value)) : Prop := ps.length = N ∧ ∀ a (ha : a < ps.length), a < i → (ps[a]'ha).1 = (List.range N).map (startD I T a)
theorem fill_zero {N : Nat} {I : Nat → Bool} {T : Nat → Nat → Int} : FillIs N 0 I T (List.replicate N (([] : List Int), .slice none 0 0)) := ⟨by simp, fun a ha h => absurd h (by omega)⟩
theorem fill_set {N i : Nat} {I : Nat → Bool} {T : Nat → Nat → Int} {ps : List (List Int × Value)} (h : FillIs N i I T ps) (v : Value) : FillIs N (i + 1) I T (ps.set i ((List.range N).map (startD I T i), v)) := by
 refine ⟨by rw [List.length_set]; exact h.1, fun a ha hlt => ?_⟩
 have ha' : a < ps.length := by simpa using ha
 rw [List.getElem_set]
 by_cases e : i = a
 · subst e; rw [if_pos rfl]
 · rw [if_neg e]; exact h.2 a ha' (by omega)
theorem fill_end {N : Nat} {I : Nat → Bool} {T : Nat → Nat → Int} {ps : List (List Int × Value)} (h : FillIs N N I T ps) : MtxIs N (startD I T) ps := ⟨h.1, fun a ha => h.2 a ha (by have := h.1; omega)⟩
def Bnd (D : Nat → Nat → Int) : Prop := ∀ a b, 0 ≤ D a b ∧ D a b ≤ FarI
theorem bnd_start {I : Nat → Bool} {T : Nat → Nat → Int} (hT : ∀ i k, 0 ≤ T i k ∧ T i k ≤ 10000) : Bnd (startD I T) := fun a b => by
 have := hT a b
 unfold startD FarI
 split
 · omega
 · split <;> omega
theorem bnd_step {I : Nat → Bool} {st : Nat → Int} (hst : ∀ i, 0 ≤ st i) {D : Nat → Nat → Int} (h : Bnd D) (i k j : Nat) : Bnd (stepD I st i k j D) := fun a b => by
 unfold stepD
 split
 · unfold setD
   split
   · have h1 := h i k; have h2 := h i j; have h3 := h j k; have h4 := hst j
     omega
   · exact h a b
 · exact h a b
theorem time_row {x : InstV} (h : x.Fit) {i : Nat} (hi : i < x.time.length) : x.time[i] = (List.range x.n).map (timeF x i) := by
 have hl := h.timeLen.2 _ (List.getElem_mem hi)
 apply List.ext_getElem
 · rw [hl]; simp
 · intro k h1 h2
   rw [List.getElem_map, List.getElem_range]
   unfold timeF
   have e : x.time.getD i [] = x.time[i] := by simp [hi]
   have e2 : x.time[i].getD k 0 = x.time[i][k] := by simp [h1]
   rw [e, e2]
end Go.Proofs.Ytjpejclfppbboaa
