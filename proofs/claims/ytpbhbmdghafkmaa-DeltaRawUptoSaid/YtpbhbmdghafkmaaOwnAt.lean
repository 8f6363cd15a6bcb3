/- Rows of rows that a call owns, behind other things: where their cells lie, and a change of one. -/
import Derived.Test.YtpbhbmdghafkmaaMoveP
import Derived.Test.YtpbhbmdghafkmaaRowRun
import Derived.Test.YtpbhbmdghafkmaaFilled
namespace Go.Proofs.Ytpbhbmdghafkmaa
open Go.ChangeShapes Go.WideShapes Go.ChangeAt Go.RowKit
set_option linter.unusedVariables false
theorem nest_outer {α : Type} (N : Nest α) (P R : List Rs) (v : Value) (ps : List (α × Value)) : (P ++ (N.own v ps ++ R))[P.length]? = some (.row N.T N.S v ps.length (N.heads ps)) := by
 rw [List.getElem?_append_right (Nat.le_refl _), Nat.sub_self]; rfl
theorem nest_inner {α : Type} (N : Nest α) (P R : List Rs) (v : Value) (ps : List (α × Value)) {k : Nat} (hk : k < ps.length) : (P ++ (N.own v ps ++ R))[P.length + (k + 1)]? = some (N.inner ps[k]) := by
 rw [List.getElem?_append_right (by omega), Nat.add_sub_cancel_left]
 exact N.own_get v ps k hk R
theorem own_mem {α : Type} (N : Nest α) (P R : List Rs) (v : Value) (ps : List (α × Value)) : ∀ r ∈ N.own v ps, r ∈ P ++ (N.own v ps ++ R) := fun r hr => List.mem_append_right _ (List.mem_append_left _ hr)
theorem own_left (P : List Rs) (x : Rs) (rest : List Rs) (k : Nat) (r : Rs) : (P ++ (x :: rest)).set (P.length + (k + 1)) r = P ++ (x :: rest.set k r) := by
 rw [List.set_append_right _ _ (by omega), Nat.add_sub_cancel_left]; rfl
section bikes
variable {T t : TypeId} {W w : World} {B : Nat} {P R : List Rs} {ps : List (BikeV × Value)} {c g off n : Nat}
theorem own_addr {A : Option Addr} (hS : SL W B (P ++ ((bikeN T t).own (.slice A n c) ps ++ R)) w) (hn : ps.length = n) (h0 : 0 < n) : ∃ g off, A = some ⟨g, off, none⟩ := by
 rcases (own_outer hS (own_mem _ P R _ ps)).in_ with h | ⟨g, off, cap, h, _⟩
 · omega
 · simp only [Value.slice.injEq] at h; exact ⟨g, off, h.1⟩
theorem own_open {v : Value} (hS : SL W B (P ++ ((bikeN T t).own v ps ++ R)) w) : ∃ A c, v = .slice A ps.length c ∧ ps.length ≤ c := by
 obtain ⟨A, c, e, h, _⟩ := (own_outer hS (own_mem _ P R _ ps)).slice_
 exact ⟨A, c, e, h⟩
theorem own_bikes {A : Option Addr} (hn : ps.length = n) (hS : SL W B (P ++ ((bikeN T t).own (.slice A n c) ps ++ R)) w) : Bikes w w.heap.size A (ps.map (·.1)) := by
 subst hn
 exact bikes_own hS (own_mem _ P R _ ps)
theorem own_val {k : Nat} (hk : k < ps.length) {v : Value} (hS : SL W B (P ++ ((bikeN T t).own v ps ++ R)) w) : ∃ a b, ps[k].2 = .slice a ps[k].1.stops.length b ∧ ps[k].1.stops.length ≤ b := by
 obtain ⟨a, b, e, h, _⟩ := (hS.row (P.length + (k + 1)) (nest_inner _ P R _ ps hk)).slice_
 exact ⟨a, b, e, h⟩
theorem own_vaddr {k L b : Nat} {a : Option Addr} (hk : k < ps.length) {v : Value} (hS : SL W B (P ++ ((bikeN T t).own v ps ++ R)) w) (hv : ps[k].2 = .slice a L b) (h0 : 0 < ps[k].1.stops.length) : ∃ g off, a = some ⟨g, off, none⟩ := by
 rcases (hS.row (P.length + (k + 1)) (nest_inner _ P R _ ps hk)).in_ with h | ⟨g, off, cap, h, _⟩
 · exact absurd h (by simp only [bikeN]; omega)
 · rw [hv] at h; simp only [Value.slice.injEq] at h; exact ⟨g, off, h.1⟩
theorem heads_sl {l : List Rs} (hS : SL W B l w) (i : Nat) (hi : l[i]? = some (.row T 2 (.slice (some ⟨g, off, none⟩) n c) n ((bikeN T t).heads ps))) {k : Nat} (hk : k < ps.length) : w.cell? ⟨g, off + k * 2 + 1, none⟩ = some ps[k].2 :=
 hS.rowCell i hi (k * 2 + 1) (heads_get (bikeN_ok T t) ps k 1 hk (Nat.one_lt_two))
theorem own_cons (hn : ps.length = n) (v : Value) : (bikeN T t).own v ps ++ R = .row T 2 v n ((bikeN T t).heads ps) :: (ps.map (bikeN T t).inner ++ R) := by subst hn; rfl
theorem own_sat (hn : ps.length = n) {k : Nat} (hk : k < ps.length) (hS : SL W B (P ++ ((bikeN T t).own (.slice (some ⟨g, off, none⟩) n c) ps ++ R)) w) : w.cell? ⟨g, off + k * 2, none⟩ = some (.int .i64 ps[k].1.sat) := by
 subst hn
 exact hS.rowCell P.length (nest_outer _ P R _ ps) (k * 2) (heads_get (bikeN_ok T t) ps k 0 hk (Nat.zero_lt_two))
theorem own_sl (hn : ps.length = n) {k : Nat} (hk : k < ps.length) (hS : SL W B (P ++ ((bikeN T t).own (.slice (some ⟨g, off, none⟩) n c) ps ++ R)) w) : w.cell? ⟨g, off + k * 2 + 1, none⟩ = some ps[k].2 := by
 subst hn
 exact hS.rowCell P.length (nest_outer _ P R _ ps) (k * 2 + 1) (heads_get (bikeN_ok T t) ps k 1 hk (Nat.one_lt_two))
theorem own_free (hn : ps.length = n) {k : Nat} (hk : k < ps.length) (hS : SL W B (P ++ ((bikeN T t).own (.slice (some ⟨g, off, none⟩) n c) ps ++ R)) w) (j : Nat) : w.frozen? ⟨g, j, none⟩ = false := by
 subst hn
 exact hS.rowFree P.length (nest_outer _ P R _ ps) j (by omega)
theorem own_row {k : Nat} (hk : k < ps.length) {v : Value} (P R : List Rs) {a : Value} (ha : ps[k].2 = a) : (P ++ ((bikeN T t).own v ps ++ R))[P.length + (k + 1)]? = some (.row t 1 a ps[k].1.stops.length (ps[k].1.stops.map (.int .i64))) := by
 rw [nest_inner _ P R _ ps hk, ← ha]; rfl
/-- One bike's stops are new; its head tells so. -/
theorem own_turn (hn : ps.length = n) {k : Nat} (hk : k < ps.length) (l : List Int) (v' : Value) (hS : SL W B ((P ++ ((bikeN T t).own (.slice (some ⟨g, off, none⟩) n c) ps ++ R)).set (P.length + (k + 1)) (.row t 1 v' l.length (l.map (.int .i64)))) w) :
 SL W B (P ++ ((bikeN T t).own (.slice (some ⟨g, off, none⟩) n c) (ps.set k (⟨ps[k].1.sat, l⟩, v')) ++ R)) (w.setCell ⟨g, off + k * 2 + 1, none⟩ v') := by
 subst hn
 have e1 : (P ++ ((bikeN T t).own (.slice (some ⟨g, off, none⟩) ps.length c) ps ++ R)).set (P.length + (k + 1)) (.row t 1 v' l.length (l.map (.int .i64))) = P ++ (((bikeN T t).own (.slice (some ⟨g, off, none⟩) ps.length c) ps ++ R).set (k + 1) ((bikeN T t).inner (⟨ps[k].1.sat, l⟩, v'))) := by
  rw [List.set_append_right _ _ (by omega), Nat.add_sub_cancel_left]; rfl
 rw [e1] at hS
 have h := hS.setRowCell P.length (by rw [List.getElem?_append_right (Nat.le_refl _), Nat.sub_self, List.getElem?_set_ne (by omega)]; rfl) (k * 2 + 1) (by show _ < ps.length * 2; omega) v'
 rw [List.set_append_right _ _ (Nat.le_refl _), Nat.sub_self] at h
 have e2 := (bikeN T t).own_set (bikeN_ok T t) (.slice (some ⟨g, off, none⟩) ps.length c) ps k hk (⟨ps[k].1.sat, l⟩ : BikeV) v' rfl R
 change (((bikeN T t).own (.slice (some ⟨g, off, none⟩) ps.length c) ps ++ R).set (k + 1) _).set 0 (.row T 2 _ ps.length (((bikeN T t).heads ps).set (k * 2 + 1) v')) = _ at e2
 change SL W B (P ++ (((bikeN T t).own (.slice (some ⟨g, off, none⟩) ps.length c) ps ++ R).set (k + 1) _).set 0 (.row T 2 _ ps.length (((bikeN T t).heads ps).set (k * 2 + 1) v'))) _ at h
 rw [e2] at h
 exact h
end bikes
theorem put_map (ps : List (BikeV × Value)) {k : Nat} (hk : k < ps.length) (l : List Int) (v : Value) : (ps.set k (⟨ps[k].1.sat, l⟩, v)).map (·.1) = putStops (ps.map (·.1)) (k : Int) l := by
 unfold putStops
 rw [List.map_set, satAt_lt (by simpa using hk), Int.toNat_natCast]
 simp
theorem reads_sub {w : World} {B n g off : Nat} {xs : List Value} (h : Reads w B 1 (some ⟨g, off, none⟩) n xs) (i m : Nat) (him : i + m ≤ n) : Reads w B 1 (some ⟨g, off + i, none⟩) m ((xs.drop i).take m) := by
 have hl := h.1
 refine ⟨by rw [List.length_take, List.length_drop]; omega, fun hm => ?_⟩
 obtain ⟨ad, e, hb, hc⟩ := h.2 (by omega)
 cases e
 refine ⟨_, rfl, hb, fun j u hu => ?_⟩
 rw [List.getElem?_take] at hu
 by_cases hj : j < m
 · rw [if_pos hj, List.getElem?_drop] at hu
   have := hc (i + j) u hu
   rw [Addr.add_mid] at this ⊢
   rw [Nat.add_assoc]; exact this
 · rw [if_neg hj] at hu; cases hu
/-- A part of a row of numbers, as news. -/
theorem reads_part {w : World} {B n g off : Nat} {xs : List Int} (h : Reads w B 1 (some ⟨g, off, none⟩) n (xs.map (.int .i64))) (i m : Nat) (him : i + m ≤ n) : Reads w B 1 (some ⟨g, off + i, none⟩) m (((xs.drop i).take m).map (.int .i64)) := by
 rw [List.map_take, List.map_drop]; exact reads_sub h i m him
end Go.Proofs.Ytpbhbmdghafkmaa
