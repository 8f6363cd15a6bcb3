/- What law23.Apply owns while it runs: the count, the lists' variable, the satellites, the move, the lists; each its own slice. No program in sight. -/
import Derived.Test.YtpbhbmdghafkmaaLawAll
import Derived.Test.YtpbhbmdghafkmaaDelta24
namespace Go.Proofs.Ytpbhbmdghafkmaa
open Go.ChangeShapes Go.WideShapes Go.ChangeAt Go.RowKit
set_option linter.unusedVariables false
def satsOf (qs : List (BikeV × Value)) : List Value := qs.map fun q => .int .i64 q.1.sat
def rowsOf (qs : List (BikeV × Value)) : List (List Int × Value) := qs.map fun q => (q.1.stops, q.2)
def innOf (qs : List (BikeV × Value)) : List Rs := (rowsOf qs).map (listN 42 3).inner
def LRQ (Q : List Rs) (lb mb : Nat) (MC : Array Value) (v8 v : Value) (qs : List (BikeV × Value)) (R : List Rs) : List Rs :=
 (Q ++ [.blk lb #[v] 81, .row 3 1 v8 qs.length (satsOf qs), .blk mb MC 33]) ++ ((listN 42 3).own v (rowsOf qs) ++ R)
def LR (nb lb mb n : Nat) (MC : Array Value) (v8 v : Value) (qs : List (BikeV × Value)) (R : List Rs) : List Rs :=
 [.blk nb #[.int .i64 n] 3, .blk lb #[v] 81, .row 3 1 v8 qs.length (satsOf qs), .blk mb MC 33] ++ ((listN 42 3).own v (rowsOf qs) ++ R)
def LK (nb lb mb n : Nat) (MC : Array Value) (v : Value) (qs : List (BikeV × Value)) : List Rs :=
 [.blk nb #[.int .i64 n] 3, .blk lb #[v] 81, .blk mb MC 33, .row 42 1 v qs.length (qs.map (·.2))]
theorem rows_len (qs : List (BikeV × Value)) : (rowsOf qs).length = qs.length := by unfold rowsOf; simp
theorem rows_heads (qs : List (BikeV × Value)) : (listN 42 3).heads (rowsOf qs) = qs.map (·.2) := by
 induction qs with
 | nil => rfl
 | cons q qs ih =>
   have e : (listN 42 3).heads (rowsOf (q :: qs)) = q.2 :: (listN 42 3).heads (rowsOf qs) := rfl
   rw [e, ih]; rfl
section
variable {W w : World} {B nb lb mb n : Nat} {MC : Array Value} {v8 v : Value} {qs : List (BikeV × Value)} {g off c gs os sc gk ok ck k : Nat} {R : List Rs}
theorem lk_sub : (LK nb lb mb n MC v qs).Sublist (LR nb lb mb n MC v8 v qs R) := by
 unfold LK LR
 refine .cons_cons _ (.cons_cons _ (.cons _ (.cons_cons _ ?_)))
 have e : Rs.row 42 1 v qs.length (qs.map (·.2)) = .row 42 1 v (rowsOf qs).length ((listN 42 3).heads (rowsOf qs)) := by rw [rows_len, rows_heads]
 rw [e]
 exact .cons_cons _ (List.nil_sublist _)
theorem lk_n (h : SL W B (LK nb lb mb n MC v qs) w) : w.cell? ⟨nb, 0, none⟩ = some (.int .i64 n) := h.cell 0 rfl 0 rfl
theorem lk_l (h : SL W B (LK nb lb mb n MC v qs) w) : w.cell? ⟨lb, 0, none⟩ = some v := h.cell 1 rfl 0 rfl
theorem lk_m (h : SL W B (LK nb lb mb n MC v qs) w) (j : Nat) {u : Value} (hj : MC[j]? = some u) : w.cell? ⟨mb, j, none⟩ = some u := h.cell 2 rfl j hj
theorem lk_row (h : SL W B (LK nb lb mb n MC (.slice (some ⟨g, off, none⟩) qs.length c) qs) w) (hk : k < qs.length) {u : Value} (hu : qs[k].2 = u) : w.cell? ⟨g, off + k, none⟩ = some u :=
 h.rowCell 3 rfl k (by simp [hk, hu])
theorem lk_free (h : SL W B (LK nb lb mb n MC (.slice (some ⟨g, off, none⟩) qs.length c) qs) w) (h0 : 0 < qs.length) (j : Nat) : w.frozen? ⟨g, j, none⟩ = false := h.rowFree 3 rfl j h0
theorem lr_k (h : SL W B (LR nb lb mb n MC v8 v qs R) w) : SL W B (LK nb lb mb n MC v qs) w := h.sub lk_sub
theorem lr_open (h : SL W B (LR nb lb mb n MC v8 v qs R) w) : ∃ A c, v = .slice A qs.length c ∧ qs.length ≤ c := by
 obtain ⟨A, c, e, hl, _⟩ := ((lr_k h).row 3 rfl).slice_
 exact ⟨A, c, e, hl⟩
theorem lr_addr {A : Option Addr} (h : SL W B (LR nb lb mb n MC v8 (.slice A qs.length c) qs R) w) (h0 : 0 < qs.length) : ∃ g off, A = some ⟨g, off, none⟩ := by
 rcases ((lr_k h).row 3 rfl).in_ with e | ⟨g, off, cap, e, _⟩
 · omega
 · simp only [Value.slice.injEq] at e; exact ⟨g, off, e.1⟩
theorem lr_sopen (h : SL W B (LR nb lb mb n MC v8 v qs R) w) : ∃ A c, v8 = .slice A qs.length c ∧ qs.length ≤ c := by
 obtain ⟨A, c, e, hl, _⟩ := (h.row 2 rfl).slice_
 exact ⟨A, c, e, hl⟩
theorem lr_saddr {A : Option Addr} (h : SL W B (LR nb lb mb n MC (.slice A qs.length c) v qs R) w) (h0 : 0 < qs.length) : ∃ g off, A = some ⟨g, off, none⟩ := by
 rcases (h.row 2 rfl).in_ with e | ⟨g, off, cap, e, _⟩
 · omega
 · simp only [Value.slice.injEq] at e; exact ⟨g, off, e.1⟩
theorem lr_sat (h : SL W B (LR nb lb mb n MC (.slice (some ⟨gs, os, none⟩) qs.length sc) v qs R) w) (hk : k < qs.length) : w.cell? ⟨gs, os + k, none⟩ = some (.int .i64 qs[k].1.sat) :=
 h.rowCell 2 rfl k (by unfold satsOf; simp [hk])
theorem lr_sfree (h : SL W B (LR nb lb mb n MC (.slice (some ⟨gs, os, none⟩) qs.length sc) v qs R) w) (h0 : 0 < qs.length) (j : Nat) : w.frozen? ⟨gs, j, none⟩ = false := h.rowFree 2 rfl j h0
theorem rows_get (hk : k < qs.length) : (rowsOf qs)[k]'(by rw [rows_len]; exact hk) = (qs[k].1.stops, qs[k].2) := by unfold rowsOf; simp
theorem lr_inner (hk : k < qs.length) : (LR nb lb mb n MC v8 v qs R)[4 + (k + 1)]? = some (.row 3 1 qs[k].2 qs[k].1.stops.length (qs[k].1.stops.map (.int .i64))) := by
 have h := gn_inner (listN 42 3) [.blk nb #[.int .i64 n] 3, .blk lb #[v] 81, .row 3 1 v8 qs.length (satsOf qs), .blk mb MC 33] R v (rowsOf qs) (k := k) (by rw [rows_len]; exact hk)
 rw [rows_get hk] at h
 exact h
theorem lr_val (h : SL W B (LR nb lb mb n MC v8 v qs R) w) (hk : k < qs.length) : ∃ a b, qs[k].2 = .slice a qs[k].1.stops.length b ∧ qs[k].1.stops.length ≤ b := by
 obtain ⟨a, b, e, hl, _⟩ := (h.row _ (lr_inner hk)).slice_
 exact ⟨a, b, e, hl⟩
theorem lr_vaddr {a : Option Addr} {L b : Nat} (h : SL W B (LR nb lb mb n MC v8 v qs R) w) (hk : k < qs.length) (hv : qs[k].2 = .slice a L b) (h0 : 0 < qs[k].1.stops.length) : ∃ g off, a = some ⟨g, off, none⟩ := by
 rcases (h.row _ (lr_inner hk)).in_ with e | ⟨g, off, cap, e, _⟩
 · omega
 · rw [hv] at e; simp only [Value.slice.injEq] at e; exact ⟨g, off, e.1⟩
theorem lr_ints {a : Option Addr} {L b : Nat} (h : SL W B (LR nb lb mb n MC v8 v qs R) w) (hk : k < qs.length) (hv : qs[k].2 = .slice a L b) : IntsAt w w.heap.size a qs[k].1.stops := by
 have h1 := h.row _ (lr_inner hk)
 obtain ⟨a', c', e, _⟩ := h1.slice_
 rw [e] at h1 hv
 simp only [Value.slice.injEq] at hv
 obtain ⟨rfl, _, _⟩ := hv
 exact h1.reads
theorem lr_num {b L : Nat} (h : SL W B (LR nb lb mb n MC v8 v qs R) w) (hk : k < qs.length) (hv : qs[k].2 = .slice (some ⟨gk, ok, none⟩) L b) {j : Nat} (hj : j < qs[k].1.stops.length) : w.cell? ⟨gk, ok + j, none⟩ = some (.int .i64 (qs[k].1.stops.getD j 0)) := by
 obtain ⟨a', c', e, _⟩ := lr_val h hk
 rw [hv] at e
 simp only [Value.slice.injEq] at e
 obtain ⟨rfl, rfl, rfl⟩ := e
 exact h.rowCell _ (by rw [lr_inner hk, hv]) j (by simp [hj])
theorem lr_nfree {b L : Nat} (h : SL W B (LR nb lb mb n MC v8 v qs R) w) (hk : k < qs.length) (hv : qs[k].2 = .slice (some ⟨gk, ok, none⟩) L b) (h0 : 0 < qs[k].1.stops.length) (j : Nat) : w.frozen? ⟨gk, j, none⟩ = false := by
 obtain ⟨a', c', e, _⟩ := lr_val h hk
 rw [hv] at e
 simp only [Value.slice.injEq] at e
 obtain ⟨rfl, rfl, rfl⟩ := e
 exact h.rowFree _ (by rw [lr_inner hk, hv]) j h0
/-- One list is another one, of a slice by itself. -/
theorem lr_put {v' : Value} {l' : List Int} (h : SL W B (.row 3 1 v' l'.length (l'.map (.int .i64)) :: LR nb lb mb n MC v8 (.slice (some ⟨g, off, none⟩) qs.length c) qs R) w) (hk : k < qs.length) :
 SL W B (LR nb lb mb n MC v8 (.slice (some ⟨g, off, none⟩) (qs.set k (⟨qs[k].1.sat, l'⟩, v')).length c) (qs.set k (⟨qs[k].1.sat, l'⟩, v')) R) (w.setCell ⟨g, off + k, none⟩ v') := by
 have h1 := (SL.swap h _ (lr_inner hk)).tail
 have hk' : k < (rowsOf qs).length := by rw [rows_len]; exact hk
 have h2 := gn_turn (N := listN 42 3) (P := [.blk nb #[.int .i64 n] 3, .blk lb #[.slice (some ⟨g, off, none⟩) qs.length c] 81, .row 3 1 v8 qs.length (satsOf qs), .blk mb MC 33]) (R := R) (c := c) (n := qs.length) (listN_ok _ _) (rows_len qs) hk' l' v' rfl h1
 have e1 : (rowsOf qs).set k (l', v') = rowsOf (qs.set k (⟨qs[k].1.sat, l'⟩, v')) := by unfold rowsOf; rw [List.map_set]
 have e2 : satsOf (qs.set k (⟨qs[k].1.sat, l'⟩, v')) = satsOf qs := by
  unfold satsOf; rw [List.map_set]; exact set_self' (by simp [hk])
 rw [e1] at h2
 unfold LR
 rw [e2, List.length_set]
 have e3 : off + (k * (listN 42 3).S + ((listN 42 3).S - 1)) = off + k := by show off + (k * 1 + (1 - 1)) = off + k; omega
 rw [e3] at h2
 exact h2
/-- One number of one list is another one. -/
theorem lr_set1 {b L : Nat} (h : SL W B (LR nb lb mb n MC v8 v qs R) w) (hk : k < qs.length) (hv : qs[k].2 = .slice (some ⟨gk, ok, none⟩) L b) {j : Nat} (hj : j < qs[k].1.stops.length) (x : Int) :
 SL W B (LR nb lb mb n MC v8 v (qs.set k (⟨qs[k].1.sat, qs[k].1.stops.set j x⟩, qs[k].2)) R) (w.setCell ⟨gk, ok + j, none⟩ (.int .i64 x)) := by
 obtain ⟨a', c', e, _⟩ := lr_val h hk
 rw [hv] at e
 simp only [Value.slice.injEq] at e
 obtain ⟨rfl, rfl, rfl⟩ := e
 have h1 := h.setRowCell _ (by rw [lr_inner hk, hv]) j (by omega) (.int .i64 x)
 have hk' : k < (rowsOf qs).length := by rw [rows_len]; exact hk
 have h2 := gn_same (N := listN 42 3) (listN_ok _ _) (ps := rowsOf qs) hk' v (qs[k].1.stops.set j x) rfl [.blk nb #[.int .i64 n] 3, .blk lb #[v] 81, .row 3 1 v8 qs.length (satsOf qs), .blk mb MC 33] R
 rw [rows_get hk] at h2
 have e1 : (rowsOf qs).set k (qs[k].1.stops.set j x, qs[k].2) = rowsOf (qs.set k (⟨qs[k].1.sat, qs[k].1.stops.set j x⟩, qs[k].2)) := by unfold rowsOf; rw [List.map_set]
 have e2 : satsOf (qs.set k (⟨qs[k].1.sat, qs[k].1.stops.set j x⟩, qs[k].2)) = satsOf qs := by
  unfold satsOf; rw [List.map_set]; exact set_self' (by simp [hk])
 have e4 : (qs[k].1.stops.map (Value.int .i64)).set j (.int .i64 x) = (qs[k].1.stops.set j x).map (.int .i64) := by rw [List.map_set]
 rw [e1] at h2
 rw [e4] at h1
 unfold LR at h1 ⊢
 rw [e2, List.length_set]
 rw [← h2]
 have e5 : (qs[k].1.stops.set j x).length = qs[k].1.stops.length := List.length_set ..
 rw [show Rs.row (listN 42 3).t (listN 42 3).s qs[k].2 ((listN 42 3).len (qs[k].1.stops.set j x)) ((listN 42 3).cells (qs[k].1.stops.set j x)) = .row 3 1 (.slice (some ⟨gk, ok, none⟩) qs[k].1.stops.length b) qs[k].1.stops.length ((qs[k].1.stops.set j x).map (.int .i64)) by rw [← hv, ← e5]; rfl]
 exact h1
/-- One satellite is another one. -/
theorem lr_resat (h : SL W B (LR nb lb mb n MC (.slice (some ⟨gs, os, none⟩) qs.length sc) v qs R) w) (hk : k < qs.length) (x : Int) :
 SL W B (LR nb lb mb n MC (.slice (some ⟨gs, os, none⟩) (qs.set k (⟨x, qs[k].1.stops⟩, qs[k].2)).length sc) v (qs.set k (⟨x, qs[k].1.stops⟩, qs[k].2)) R) (w.setCell ⟨gs, os + k, none⟩ (.int .i64 x)) := by
 have h1 := h.setRowCell 2 rfl k (by omega) (.int .i64 x)
 have e1 : rowsOf (qs.set k (⟨x, qs[k].1.stops⟩, qs[k].2)) = rowsOf qs := by
  unfold rowsOf; rw [List.map_set]; exact set_self' (by simp [hk])
 have e2 : satsOf (qs.set k (⟨x, qs[k].1.stops⟩, qs[k].2)) = (satsOf qs).set k (.int .i64 x) := by unfold satsOf; rw [List.map_set]
 unfold LR at h1 ⊢
 rw [e1, e2, List.length_set]
 exact h1
theorem lr_mat {A : Option Addr} (h : SL W B (LR nb lb mb n MC v8 (.slice A qs.length c) qs R) w) : Mat w w.heap.size A (qs.map fun q => q.1.stops) := by
 refine ⟨qs.map (·.2), ?_, fun i hi => ?_⟩
 · have h1 := ((lr_k h).row 3 rfl).reads
   rw [List.length_map]
   exact h1
 · have hi' : i < qs.length := by simpa using hi
   obtain ⟨a, b, e, _⟩ := lr_val h hi'
   refine ⟨a, b, by simp [hi', e], ?_⟩
   have := lr_ints h hi' e
   simpa [IntsAt] using this
/-- What is owned, and rows behind it, read: bikes. -/
theorem lr_heads (h : SL W B (LR nb lb mb n MC v8 v qs R) w) : Heads w w.heap.size qs := fun q hq => by
 obtain ⟨k, hk, rfl⟩ := List.getElem_of_mem hq
 obtain ⟨a, b, e, _⟩ := lr_val h hk
 exact ⟨a, b, e, lr_ints h hk e⟩
/-- A row on top goes behind all of it, and comes back. -/
theorem lr_bury {r : Rs} (h : SL W B (r :: LR nb lb mb n MC v8 v qs R) w) : SL W B (LR nb lb mb n MC v8 v qs (r :: R)) w := by
 refine h.perm ?_
 unfold LR
 refine (List.perm_middle (a := r) (l₁ := [.blk nb #[.int .i64 n] 3, .blk lb #[v] 81, .row 3 1 v8 qs.length (satsOf qs), .blk mb MC 33]) (l₂ := (listN 42 3).own v (rowsOf qs) ++ R)).symm.trans ?_
 exact List.Perm.append_left _ List.perm_middle.symm
theorem lr_raise {r : Rs} (h : SL W B (LR nb lb mb n MC v8 v qs (r :: R)) w) : SL W B (r :: LR nb lb mb n MC v8 v qs R) w := by
 refine h.perm ?_
 unfold LR
 refine (List.Perm.append_left _ List.perm_middle).trans ?_
 exact List.perm_middle
theorem lr_q (nb lb mb n : Nat) (MC : Array Value) (v8 v : Value) (qs : List (BikeV × Value)) (R : List Rs) : LR nb lb mb n MC v8 v qs R = LRQ [.blk nb #[.int .i64 n] 3] lb mb MC v8 v qs R := rfl
theorem lrq_open (Q : List Rs) (lb mb : Nat) (MC : Array Value) (v8 v : Value) (qs : List (BikeV × Value)) (R : List Rs) : LRQ Q lb mb MC v8 v qs R = Q ++ ([.blk lb #[v] 81, .row 3 1 v8 qs.length (satsOf qs), .blk mb MC 33] ++ (.row 42 1 v qs.length (qs.map (·.2)) :: (innOf qs ++ R))) := by
 unfold LRQ Nest.own innOf
 rw [rows_len, rows_heads, List.append_assoc]
 rfl
theorem satsOf_snoc (qs : List (BikeV × Value)) (q : BikeV × Value) : satsOf (qs ++ [q]) = satsOf qs ++ [.int .i64 q.1.sat] := by unfold satsOf; rw [List.map_append]; rfl
/-- One more. -/
theorem lrq_snoc {Q : List Rs} {u v8' v2 v' : Value} {sat : Int} {l : List Int} (h : SL W B (.row 3 1 v' l.length (l.map (.int .i64)) :: (Q ++ ([.blk lb #[u] 81, .row 3 1 v8' (qs.length + 1) (satsOf qs ++ [.int .i64 sat]), .blk mb MC 33] ++ (.row 42 1 v2 (qs.length + 1) (qs.map (·.2) ++ [v']) :: (innOf qs ++ R))))) w) :
 SL W B (LRQ Q lb mb MC v8' v2 (qs ++ [(⟨sat, l⟩, v')]) R) (w.setCell ⟨lb, 0, none⟩ v2) := by
 have h1 := h.setCell (Q.length + 1) (g := lb) (cs := #[u]) (t := 81) (by rw [List.getElem?_cons_succ, List.getElem?_append_right (Nat.le_refl _), Nat.sub_self]; rfl) 0 v2
 rw [List.set_cons_succ, List.set_append_right _ _ (Nat.le_refl _), Nat.sub_self] at h1
 have h2 := SL.nestSnoc (N := listN 42 3) (P := Q ++ [.blk lb #[v2] 81, .row 3 1 v8' (qs.length + 1) (satsOf qs ++ [.int .i64 sat]), .blk mb MC 33]) (R := R) (v := v2) (ps := rowsOf qs) (q := (l, v')) (w := w.setCell ⟨lb, 0, none⟩ v2) (W := W) (B := B) (by
  rw [rows_len, rows_heads, List.append_assoc]
  exact h1)
 unfold LRQ
 have e1 : rowsOf (qs ++ [((⟨sat, l⟩ : BikeV), v')]) = rowsOf qs ++ [(l, v')] := by unfold rowsOf; rw [List.map_append]; rfl
 rw [satsOf_snoc, e1, List.length_append]
 exact h2
end
def HdOk (w : World) (l : List Int) (v : Value) : Prop := ∃ a c, v = .slice a l.length c ∧ IntsAt w w.heap.size a l
theorem hd_blk {w : World} {g : Nat} {t : TypeId} {m : List (List Int)} {hs : List Value} (h : w.heap[g]? = some (.cells hs.toArray t (0, 0))) (hl : hs.length = m.length) (hr : ∀ i (hi : i < m.length), ∃ v, hs[i]? = some v ∧ HdOk w m[i] v) : Mat w w.heap.size (some ⟨g, 0, none⟩) m :=
 mat_blk m hs h hl fun i hi => by
  obtain ⟨v, e, a, c, rfl, hx⟩ := hr i hi
  exact ⟨a, c, e, hx⟩
theorem all1_any (g : Nat) (t : TypeId) (l : List Int) (v : Value) (w : World) (h : w.heap[g]? = some (.cells #[v] t (0, 0))) (h1 : HdOk w l v) (hl : l.length ≤ 1000000) :
 Calls Try.prog 37 #[.slice (some ⟨g, 0, none⟩) 1 1] w (RowL w l) := by
 have h := all_any (some ⟨g, 0, none⟩) 1 [l] w (hd_blk (hs := [v]) h rfl (fun i hi => by
  obtain rfl : i = 0 := by simpa using hi
  exact ⟨v, rfl, h1⟩)) (by simp) (by simpa using hl)
 simpa using h
theorem all2_any (g : Nat) (t : TypeId) (l1 l2 : List Int) (v1 v2 : Value) (w : World) (h : w.heap[g]? = some (.cells #[v1, v2] t (0, 0))) (h1 : HdOk w l1 v1) (h2 : HdOk w l2 v2) (hl : l1.length + l2.length ≤ 1000000) :
 Calls Try.prog 37 #[.slice (some ⟨g, 0, none⟩) 2 2] w (RowL w (l1 ++ l2)) := by
 have h := all_any (some ⟨g, 0, none⟩) 2 [l1, l2] w (hd_blk (hs := [v1, v2]) h rfl (fun i hi => by
  have : i < 2 := by simpa using hi
  obtain rfl | rfl : i = 0 ∨ i = 1 := by omega
  · exact ⟨v1, rfl, h1⟩
  · exact ⟨v2, rfl, h2⟩)) (by simp) (by simpa using hl)
 simpa using h
theorem all3_any (g : Nat) (t : TypeId) (l1 l2 l3 : List Int) (v1 v2 v3 : Value) (w : World) (h : w.heap[g]? = some (.cells #[v1, v2, v3] t (0, 0))) (h1 : HdOk w l1 v1) (h2 : HdOk w l2 v2) (h3 : HdOk w l3 v3) (hl : l1.length + (l2.length + l3.length) ≤ 1000000) :
 Calls Try.prog 37 #[.slice (some ⟨g, 0, none⟩) 3 3] w (RowL w (l1 ++ l2 ++ l3)) := by
 have h := all_any (some ⟨g, 0, none⟩) 3 [l1, l2, l3] w (hd_blk (hs := [v1, v2, v3]) h rfl (fun i hi => by
  have : i < 3 := by simpa using hi
  obtain rfl | rfl | rfl : i = 0 ∨ i = 1 ∨ i = 2 := by omega
  · exact ⟨v1, rfl, h1⟩
  · exact ⟨v2, rfl, h2⟩
  · exact ⟨v3, rfl, h3⟩)) (by simp) (by simpa using hl)
 simpa using h
theorem hd_row {W w : World} {B : Nat} {l : List Rs} (hS : SL W B l w) (i : Nat) {v : Value} {xs : List Int} (hi : l[i]? = some (.row 3 1 v xs.length (xs.map (.int .i64)))) : HdOk w xs v := by
 have h1 := hS.row i hi
 obtain ⟨a, c, rfl, _⟩ := h1.slice_
 exact ⟨a, c, rfl, h1.reads⟩
theorem hd_ints {w : World} {a : Option Addr} {c : Nat} {l : List Int} (h : IntsAt w w.heap.size a l) : HdOk w l (.slice a l.length c) := ⟨a, c, rfl, h⟩
theorem HdOk.to {w w' : World} {l : List Int} {v : Value} (h : HdOk w l v) (hb : Below w.heap.size w w') : HdOk w' l v := by
 obtain ⟨a, c, e, h⟩ := h
 exact ⟨a, c, e, reads_more (Reads.below h hb) hb.size⟩
theorem run_append_one {P : Program} {W w : World} {B : Nat} {l : List Rs} {e : TypeId} (t ty : TypeId) (h : SL W B l w) (it : Nat) (i : TypeInfo) (z : Value) (bytes : Nat) (ht : P.underlying t = some (.slice e)) (hi : P.info? e = some i) (hz : i.zero = some z)
 (hsize : i.size = 1) (hby : i.bytes = bytes) (hzs : z.cells.size = 1) (v : Value) (n : Nat) (xs : List Value) (hit : l[it]? = some (.row e 1 v n xs)) (g : Nat) (u : Value) (hg : w.cell? ⟨g, 0, none⟩ = some u) (h1 : u.oneCell' = true) (hn : n + 1 ≤ 1000000000) (hb1 : bytes ≤ 1024) :
 ∃ v' w', (Builtin.append_ #[t, t] ty #[v, .slice (some ⟨g, 0, none⟩) 1 1]).run P w = .ok v' w' ∧ SL W B (l.set it (.row e 1 v' (n + 1) (xs ++ [u]))) w' :=
 run_append_from t ty h it i z 1 bytes ht hi hz hsize hby hzs Nat.one_pos v n 1 1 xs [u] hit Nat.one_pos ⟨g, 0, none⟩ rfl (fun j x hj => by
  have : j < 1 := by have := (List.getElem?_eq_some_iff.1 hj).1; simpa using this
  obtain rfl : j = 0 := by omega
  simp only [List.getElem?_cons_zero, Option.some.injEq] at hj
  subst hj
  rw [Addr.add_mid]; exact hg) (fun x hx => by
  obtain rfl : x = u := by simpa using hx
  exact h1) hn hb1
end Go.Proofs.Ytpbhbmdghafkmaa
