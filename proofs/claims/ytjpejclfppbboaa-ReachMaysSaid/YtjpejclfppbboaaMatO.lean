/- A matrix that is owned: rows of numbers, each its own slice. No program in sight. -/
import Derived.Test.YtjpejclfppbboaaNest
import Derived.Test.YtjpejclfppbboaaApartM
namespace Go.Proofs.Ytjpejclfppbboaa
open Go.ChangeShapes Go.WideShapes Go.ChangeAt Go.RowKit
set_option linter.unusedVariables false
def MO (v : Value) (ps : List (List Int × Value)) (R : List Rs) : List Rs := (listN 51 2).own v ps ++ R
theorem set_permM (l : List Rs) (k : Nat) (h : k < l.length) (r : Rs) : (l.set k r).Perm (r :: l.eraseIdx k) := by
 induction l generalizing k with
 | nil => simp at h
 | cons a t ih =>
   cases k with
   | zero => simp
   | succ k =>
     simp only [List.set_cons_succ, List.eraseIdx_cons_succ]
     exact (List.Perm.cons a (ih k (by simpa using h))).trans (List.Perm.swap r a _)
theorem SL.exch {W w : World} {B : Nat} {l : List Rs} {r o : Rs} (h : SL W B (r :: l) w) (it : Nat) (hi : l[it]? = some o) : SL W B (o :: l.set it r) w := by
 obtain ⟨hit, e⟩ := List.getElem?_eq_some_iff.1 hi
 have p1 : (l.set it r).Perm (r :: l.eraseIdx it) := set_permM l it hit r
 have p2 : l.Perm (o :: l.eraseIdx it) := by
  have := set_permM l it hit o
  rwa [set_self' hi] at this
 exact h.perm ((List.Perm.cons r p2).trans ((List.Perm.swap o r _).trans (List.Perm.cons o p1.symm)))
section
variable {W w : World} {B : Nat} {v : Value} {ps : List (List Int × Value)} {R : List Rs} {g off c gk ok k : Nat}
theorem mo_heads (ps : List (List Int × Value)) : (listN 51 2).heads ps = ps.map (·.2) := by
 induction ps with
 | nil => rfl
 | cons q qs ih =>
   have e : (listN 51 2).heads (q :: qs) = q.2 :: (listN 51 2).heads qs := rfl
   rw [e, ih]; rfl
theorem mo_outer : (MO v ps R)[0]? = some (.row 51 1 v ps.length (ps.map (·.2))) := by
 have h := gn_outer (listN 51 2) [] R v ps
 rw [mo_heads] at h
 exact h
theorem mo_inner (hk : k < ps.length) : (MO v ps R)[k + 1]? = some (.row 2 1 ps[k].2 ps[k].1.length (ps[k].1.map (.int .i64))) := by
 have h := gn_inner (listN 51 2) [] R v ps hk
 rw [List.length_nil, Nat.zero_add] at h
 exact h
theorem mo_val (h : SL W B (MO v ps R) w) (hk : k < ps.length) : ∃ a b, ps[k].2 = .slice a ps[k].1.length b ∧ ps[k].1.length ≤ b := by
 obtain ⟨a, b, e, hl, _⟩ := (h.row _ (mo_inner hk)).slice_
 exact ⟨a, b, e, hl⟩
theorem mo_vaddr {a : Option Addr} {L b : Nat} (h : SL W B (MO v ps R) w) (hk : k < ps.length) (hv : ps[k].2 = .slice a L b) (h0 : 0 < ps[k].1.length) : ∃ g off, a = some ⟨g, off, none⟩ := by
 rcases (h.row _ (mo_inner hk)).in_ with e | ⟨g, off, cap, e, _⟩
 · omega
 · rw [hv] at e; simp only [Value.slice.injEq] at e; exact ⟨g, off, e.1⟩
theorem mo_head (h : SL W B (MO (.slice (some ⟨g, off, none⟩) ps.length c) ps R) w) (hk : k < ps.length) {u : Value} (hu : ps[k].2 = u) : w.cell? ⟨g, off + k, none⟩ = some u :=
 h.rowCell 0 mo_outer k (by simp [hk, hu])
theorem mo_free (h : SL W B (MO (.slice (some ⟨g, off, none⟩) ps.length c) ps R) w) (h0 : 0 < ps.length) (j : Nat) : w.frozen? ⟨g, j, none⟩ = false := h.rowFree 0 mo_outer j h0
theorem mo_num {b L : Nat} (h : SL W B (MO v ps R) w) (hk : k < ps.length) (hv : ps[k].2 = .slice (some ⟨gk, ok, none⟩) L b) {j : Nat} (hj : j < ps[k].1.length) : w.cell? ⟨gk, ok + j, none⟩ = some (.int .i64 (ps[k].1.getD j 0)) := by
 obtain ⟨a', c', e, _⟩ := mo_val h hk
 rw [hv] at e
 simp only [Value.slice.injEq] at e
 obtain ⟨rfl, rfl, rfl⟩ := e
 exact h.rowCell _ (by rw [mo_inner hk, hv]) j (by simp [hj])
theorem mo_nfree {b L : Nat} (h : SL W B (MO v ps R) w) (hk : k < ps.length) (hv : ps[k].2 = .slice (some ⟨gk, ok, none⟩) L b) (h0 : 0 < ps[k].1.length) (j : Nat) : w.frozen? ⟨gk, j, none⟩ = false := by
 obtain ⟨a', c', e, _⟩ := mo_val h hk
 rw [hv] at e
 simp only [Value.slice.injEq] at e
 obtain ⟨rfl, rfl, rfl⟩ := e
 exact h.rowFree _ (by rw [mo_inner hk, hv]) j h0
/-- One row is another one, of a slice by itself. -/
theorem mo_put {v' : Value} {l' : List Int} (h : SL W B (.row 2 1 v' l'.length (l'.map (.int .i64)) :: MO (.slice (some ⟨g, off, none⟩) ps.length c) ps R) w) (hk : k < ps.length) :
 SL W B (MO (.slice (some ⟨g, off, none⟩) ps.length c) (ps.set k (l', v')) R) (w.setCell ⟨g, off + k, none⟩ v') := by
 have h1 := (SL.exch h _ (mo_inner hk)).tail
 have h2 := gn_turn (N := listN 51 2) (P := []) (R := R) (c := c) (n := ps.length) (listN_ok _ _) rfl hk l' v' rfl (by
  rw [List.length_nil, Nat.zero_add]
  exact h1)
 have e3 : off + (k * (listN 51 2).S + ((listN 51 2).S - 1)) = off + k := by show off + (k * 1 + (1 - 1)) = off + k; omega
 rw [e3] at h2
 exact h2
/-- One number of one row is another one. -/
theorem mo_set1 {b L : Nat} (h : SL W B (MO v ps R) w) (hk : k < ps.length) (hv : ps[k].2 = .slice (some ⟨gk, ok, none⟩) L b) {j : Nat} (hj : j < ps[k].1.length) (x : Int) :
 SL W B (MO v (ps.set k (ps[k].1.set j x, ps[k].2)) R) (w.setCell ⟨gk, ok + j, none⟩ (.int .i64 x)) := by
 obtain ⟨a', c', e, _⟩ := mo_val h hk
 rw [hv] at e
 simp only [Value.slice.injEq] at e
 obtain ⟨rfl, rfl, rfl⟩ := e
 have h1 := h.setRowCell _ (by rw [mo_inner hk, hv]) j (by omega) (.int .i64 x)
 have h2 := gn_same (N := listN 51 2) (listN_ok _ _) (ps := ps) hk v (ps[k].1.set j x) rfl [] R
 have e4 : (ps[k].1.map (Value.int .i64)).set j (.int .i64 x) = (ps[k].1.set j x).map (.int .i64) := by rw [List.map_set]
 rw [e4] at h1
 rw [List.length_nil, Nat.zero_add] at h2
 have e5 : (ps[k].1.set j x).length = ps[k].1.length := List.length_set ..
 rw [show Rs.row (listN 51 2).t (listN 51 2).s ps[k].2 ((listN 51 2).len (ps[k].1.set j x)) ((listN 51 2).cells (ps[k].1.set j x)) = .row 2 1 (.slice (some ⟨gk, ok, none⟩) ps[k].1.length b) ps[k].1.length ((ps[k].1.set j x).map (.int .i64)) by rw [← hv, ← e5]; rfl] at h2
 unfold MO at h1 ⊢
 rw [show (listN 51 2).own v (ps.set k (ps[k].1.set j x, ps[k].2)) ++ R = ([] : List Rs) ++ ((listN 51 2).own v (ps.set k (ps[k].1.set j x, ps[k].2)) ++ R) from rfl, ← h2]
 exact h1
end
/-- The rows are those of a function. -/
def MtxIs (n : Nat) (D : Nat → Nat → Int) (ps : List (List Int × Value)) : Prop := ps.length = n ∧ ∀ i (hi : i < ps.length), (ps[i]'hi).1 = (List.range n).map (D i)
theorem mtx_row {n : Nat} {D : Nat → Nat → Int} {ps : List (List Int × Value)} (h : MtxIs n D ps) {i : Nat} (hi : i < ps.length) : (ps[i]'hi).1.length = n := by rw [h.2 i hi]; simp
theorem mtx_get {n : Nat} {D : Nat → Nat → Int} {ps : List (List Int × Value)} (h : MtxIs n D ps) {i k : Nat} (hi : i < ps.length) (hk : k < n) : (ps[i]'hi).1.getD k 0 = D i k := by rw [h.2 i hi]; simp [hk]
theorem range_set (n : Nat) (f : Nat → Int) {k : Nat} (hk : k < n) (x : Int) : ((List.range n).map f).set k x = (List.range n).map fun j => if j = k then x else f j := by
 apply List.ext_getElem
 · simp
 · intro i h1 h2
   have hi : i < n := by simpa using h2
   rw [List.getElem_set]
   by_cases e : k = i
   · subst e; simp
   · rw [if_neg e]
     have e2 : ¬ i = k := fun h => e h.symm
     simp [e2]
theorem mtx_set {n : Nat} {D : Nat → Nat → Int} {ps : List (List Int × Value)} (h : MtxIs n D ps) {i k : Nat} (hi : i < ps.length) (hk : k < n) (x : Int) : MtxIs n (setD D i k x) (ps.set i ((ps[i]'hi).1.set k x, (ps[i]'hi).2)) := by
 refine ⟨by rw [List.length_set]; exact h.1, fun a ha => ?_⟩
 have ha' : a < ps.length := by simpa using ha
 rw [List.getElem_set]
 by_cases e : i = a
 · subst e
   rw [if_pos rfl]
   simp only
   rw [h.2 i hi, range_set n _ hk]
   apply List.map_congr_left
   intro j hj
   unfold setD
   by_cases e2 : j = k <;> simp [e2]
 · rw [if_neg e, h.2 a ha']
   apply List.map_congr_left
   intro j hj
   unfold setD
   rw [if_neg (fun h => e h.1.symm)]
end Go.Proofs.Ytjpejclfppbboaa
