/- Rows of rows of any kind that a call owns, behind other things: where their cells lie, and a change of one. No program in sight. -/
import Derived.Test.YtjpejclfppbboaaNest
import Derived.Test.YtjpejclfppbboaaRowRun
namespace Go.Proofs.Ytjpejclfppbboaa
open Go.ChangeShapes Go.WideShapes Go.ChangeAt Go.RowKit
set_option linter.unusedVariables false
theorem gn_left (P : List Rs) (x : Rs) (rest : List Rs) (k : Nat) (r : Rs) : (P ++ (x :: rest)).set (P.length + (k + 1)) r = P ++ (x :: rest.set k r) := by
  rw [List.set_append_right _ _ (by omega), Nat.add_sub_cancel_left]; rfl
section gn
variable {α : Type} {N : Nest α} {W w : World} {B : Nat} {P R : List Rs} {ps : List (α × Value)} {c g off n : Nat}
theorem gn_outer (N : Nest α) (P R : List Rs) (v : Value) (ps : List (α × Value)) : (P ++ (N.own v ps ++ R))[P.length]? = some (.row N.T N.S v ps.length (N.heads ps)) := by
  rw [List.getElem?_append_right (Nat.le_refl _), Nat.sub_self]; rfl
theorem gn_inner (N : Nest α) (P R : List Rs) (v : Value) (ps : List (α × Value)) {k : Nat} (hk : k < ps.length) : (P ++ (N.own v ps ++ R))[P.length + (k + 1)]? = some (N.inner ps[k]) := by
  rw [List.getElem?_append_right (by omega), Nat.add_sub_cancel_left]
  exact N.own_get v ps k hk R
theorem gn_mem (N : Nest α) (P R : List Rs) (v : Value) (ps : List (α × Value)) : ∀ r ∈ N.own v ps, r ∈ P ++ (N.own v ps ++ R) := fun r hr => List.mem_append_right _ (List.mem_append_left _ hr)
theorem gn_heads (hN : N.Ok) (l : List (α × Value)) (k j : Nat) (hk : k < l.length) (hj : j < N.S) : (N.heads l)[k * N.S + j]? = (N.head l[k])[j]? := flat_get N.head N.S (Nest.head_len hN) l k j hk hj
theorem gn_addr {A : Option Addr} (hS : SL W B (P ++ (N.own (.slice A n c) ps ++ R)) w) (hn : ps.length = n) (h0 : 0 < n) : ∃ g off, A = some ⟨g, off, none⟩ := by
  rcases (own_outer hS (gn_mem N P R _ ps)).in_ with h | ⟨g, off, cap, h, _⟩
  · omega
  · simp only [Value.slice.injEq] at h; exact ⟨g, off, h.1⟩
theorem gn_open {v : Value} (hS : SL W B (P ++ (N.own v ps ++ R)) w) : ∃ A c, v = .slice A ps.length c ∧ ps.length ≤ c := by
  obtain ⟨A, c, e, h, _⟩ := (own_outer hS (gn_mem N P R _ ps)).slice_
  exact ⟨A, c, e, h⟩
theorem gn_val {k : Nat} (hk : k < ps.length) {v : Value} (hS : SL W B (P ++ (N.own v ps ++ R)) w) : ∃ a b, ps[k].2 = .slice a (N.len ps[k].1) b ∧ N.len ps[k].1 ≤ b := by
  obtain ⟨a, b, e, h, _⟩ := (hS.row (P.length + (k + 1)) (gn_inner N P R _ ps hk)).slice_
  exact ⟨a, b, e, h⟩
theorem gn_vaddr {k L b : Nat} {a : Option Addr} (hk : k < ps.length) {v : Value} (hS : SL W B (P ++ (N.own v ps ++ R)) w) (hv : ps[k].2 = .slice a L b) (h0 : 0 < N.len ps[k].1) : ∃ g off, a = some ⟨g, off, none⟩ := by
  rcases (hS.row (P.length + (k + 1)) (gn_inner N P R _ ps hk)).in_ with h | ⟨g, off, cap, h, _⟩
  · omega
  · rw [hv] at h; simp only [Value.slice.injEq] at h; exact ⟨g, off, h.1⟩
theorem gn_head (hN : N.Ok) (hn : ps.length = n) {k j : Nat} (hk : k < ps.length) (hj : j < N.S) {u : Value} (hu : (N.head ps[k])[j]? = some u) (hS : SL W B (P ++ (N.own (.slice (some ⟨g, off, none⟩) n c) ps ++ R)) w) : w.cell? ⟨g, off + (k * N.S + j), none⟩ = some u := by
  subst hn
  exact hS.rowCell P.length (gn_outer N P R _ ps) (k * N.S + j) ((gn_heads hN ps k j hk hj).trans hu)
/-- The element's slice, at the end of its head. -/
theorem gn_sl (hN : N.Ok) (hn : ps.length = n) {k : Nat} (hk : k < ps.length) (hS : SL W B (P ++ (N.own (.slice (some ⟨g, off, none⟩) n c) ps ++ R)) w) : w.cell? ⟨g, off + (k * N.S + (N.S - 1)), none⟩ = some ps[k].2 := by
  have hl := hN.pre ps[k].1
  refine gn_head hN hn hk (by omega) ?_ hS
  unfold Nest.head
  rw [List.getElem?_append_right (by omega), show N.S - 1 - (N.pre ps[k].1).length = 0 by omega]; rfl
theorem gn_free (hN : N.Ok) (hn : ps.length = n) (h0 : 0 < n) (hS : SL W B (P ++ (N.own (.slice (some ⟨g, off, none⟩) n c) ps ++ R)) w) (j : Nat) : w.frozen? ⟨g, j, none⟩ = false := by
  subst hn
  exact hS.rowFree P.length (gn_outer N P R _ ps) j h0
theorem gn_row {k : Nat} (hk : k < ps.length) {v : Value} (P R : List Rs) {a : Value} (ha : ps[k].2 = a) : (P ++ (N.own v ps ++ R))[P.length + (k + 1)]? = some (.row N.t N.s a (N.len ps[k].1) (N.cells ps[k].1)) := by
  rw [gn_inner N P R _ ps hk, ← ha]; rfl
/-- One element's slice is new, and holds what a' tells; its head tells so. -/
theorem gn_turn (hN : N.Ok) (hn : ps.length = n) {k : Nat} (hk : k < ps.length) (a' : α) (v' : Value) (hp : N.pre a' = N.pre ps[k].1) (hS : SL W B ((P ++ (N.own (.slice (some ⟨g, off, none⟩) n c) ps ++ R)).set (P.length + (k + 1)) (.row N.t N.s v' (N.len a') (N.cells a'))) w) :
    SL W B (P ++ (N.own (.slice (some ⟨g, off, none⟩) n c) (ps.set k (a', v')) ++ R)) (w.setCell ⟨g, off + (k * N.S + (N.S - 1)), none⟩ v') := by
  subst hn
  have hl := hN.pre a'
  have hkS : k * N.S + N.S ≤ ps.length * N.S := by rw [← Nat.succ_mul]; exact Nat.mul_le_mul_right _ hk
  have e1 : (P ++ (N.own (.slice (some ⟨g, off, none⟩) ps.length c) ps ++ R)).set (P.length + (k + 1)) (.row N.t N.s v' (N.len a') (N.cells a')) = P ++ ((N.own (.slice (some ⟨g, off, none⟩) ps.length c) ps ++ R).set (k + 1) (N.inner (a', v'))) := by
    rw [List.set_append_right _ _ (by omega), Nat.add_sub_cancel_left]; rfl
  rw [e1] at hS
  have h := hS.setRowCell P.length (by rw [List.getElem?_append_right (Nat.le_refl _), Nat.sub_self, List.getElem?_set_ne (by omega)]; rfl) (k * N.S + (N.S - 1)) (by omega) v'
  rw [List.set_append_right _ _ (Nat.le_refl _), Nat.sub_self] at h
  have e2 := N.own_set hN (.slice (some ⟨g, off, none⟩) ps.length c) ps k hk a' v' hp R
  rw [e2] at h
  exact h
/-- One element's slice holds what a' tells, in place. -/
theorem gn_same (hN : N.Ok) {k : Nat} (hk : k < ps.length) (v : Value) (a' : α) (hp : N.pre a' = N.pre ps[k].1) (P R : List Rs) :
    (P ++ (N.own v ps ++ R)).set (P.length + (k + 1)) (.row N.t N.s ps[k].2 (N.len a') (N.cells a')) = P ++ (N.own v (ps.set k (a', ps[k].2)) ++ R) := by
  have hl := hN.pre ps[k].1
  rw [List.set_append_right _ _ (by omega), Nat.add_sub_cancel_left]
  have e2 := N.own_set hN v ps k hk a' ps[k].2 hp R
  rw [← e2]
  have e3 : (N.heads ps).set (k * N.S + (N.S - 1)) ps[k].2 = N.heads ps := by
    refine set_self' ?_
    rw [gn_heads hN ps k _ hk (by omega)]
    unfold Nest.head
    rw [List.getElem?_append_right (by omega), show N.S - 1 - (N.pre ps[k].1).length = 0 by omega]; rfl
  rw [e3]
  congr 1
/-- What stands ahead of one element's slice is another. -/
theorem gn_repre (hN : N.Ok) (hn : ps.length = n) {k j : Nat} (hk : k < ps.length) (hj : j + 1 < N.S) (a' : α) (u : Value) (hp : N.pre a' = (N.pre ps[k].1).set j u) (h1 : N.len a' = N.len ps[k].1) (h2 : N.cells a' = N.cells ps[k].1) (hS : SL W B (P ++ (N.own (.slice (some ⟨g, off, none⟩) n c) ps ++ R)) w) :
    SL W B (P ++ (N.own (.slice (some ⟨g, off, none⟩) n c) (ps.set k (a', ps[k].2)) ++ R)) (w.setCell ⟨g, off + (k * N.S + j), none⟩ u) := by
  subst hn
  have hl := hN.pre ps[k].1
  have hkS : k * N.S + N.S ≤ ps.length * N.S := by rw [← Nat.succ_mul]; exact Nat.mul_le_mul_right _ hk
  have h := hS.setRowCell P.length (gn_outer N P R _ ps) (k * N.S + j) (by omega) u
  rw [List.set_append_right _ _ (Nat.le_refl _), Nat.sub_self] at h
  have e1 : (N.heads ps).set (k * N.S + j) u = N.heads (ps.set k (a', ps[k].2)) := by
    refine (flat_set N.head N.S (Nest.head_len hN) ps k j hk (a', ps[k].2) u (by omega) ?_).symm
    unfold Nest.head
    rw [List.set_append, if_pos (by omega), hp]
  have e2 : (ps.set k (a', ps[k].2)).map N.inner = ps.map N.inner := by
    rw [List.map_set]
    exact set_self' (by rw [List.getElem?_map, List.getElem?_eq_getElem hk]; unfold Nest.inner; simp [h1, h2])
  have e3 : (N.own (.slice (some ⟨g, off, none⟩) ps.length c) ps ++ R).set 0 (.row N.T N.S (.slice (some ⟨g, off, none⟩) ps.length c) ps.length ((N.heads ps).set (k * N.S + j) u)) = N.own (.slice (some ⟨g, off, none⟩) ps.length c) (ps.set k (a', ps[k].2)) ++ R := by
    rw [e1]
    unfold Nest.own
    rw [e2, List.length_set]
    rfl
  rw [e3] at h
  exact h
/-- Some of what stands ahead, and the outer row: left alone by a change of an inner one. -/
theorem gn_sub (hn : ps.length = n) (v : Value) (Q P R : List Rs) (hQ : Q.Sublist P) : (Q ++ [Rs.row N.T N.S v n (N.heads ps)]).Sublist (P ++ (N.own v ps ++ R)) := by
  subst hn
  exact hQ.append (.cons_cons _ (List.nil_sublist _))
theorem gn_subset (hn : ps.length = n) (v : Value) (Q P R : List Rs) (hQ : Q.Sublist P) (k : Nat) (r : Rs) : (Q ++ [Rs.row N.T N.S v n (N.heads ps)]).Sublist ((P ++ (N.own v ps ++ R)).set (P.length + (k + 1)) r) := by
  subst hn
  rw [List.set_append_right _ _ (by omega), Nat.add_sub_cancel_left]
  exact hQ.append (.cons_cons _ (List.nil_sublist _))
end gn
end Go.Proofs.Ytjpejclfppbboaa
