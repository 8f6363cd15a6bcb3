/- Rows of rows that a call owns: a change of one number of one row, of a row in place, of a bike's satellite. -/
import Derived.Test.YtpbhbmdghafkmaaOwnAt
namespace Go.Proofs.Ytpbhbmdghafkmaa
open Go.ChangeShapes Go.WideShapes Go.ChangeAt Go.RowKit
set_option linter.unusedVariables false
section bikes
variable {T t : TypeId} {W w : World} {B : Nat} {P R : List Rs} {ps : List (BikeV × Value)} {c g off n : Nat}
/-- A row's numbers are new, its place is the old one. -/
theorem own_same {k : Nat} (hk : k < ps.length) (v : Value) (l : List Int) (P R : List Rs) :
 (P ++ ((bikeN T t).own v ps ++ R)).set (P.length + (k + 1)) (.row t 1 ps[k].2 l.length (l.map (.int .i64))) = P ++ ((bikeN T t).own v (ps.set k (⟨ps[k].1.sat, l⟩, ps[k].2)) ++ R) := by
 rw [List.set_append_right _ _ (by omega), Nat.add_sub_cancel_left]
 have e2 := (bikeN T t).own_set (bikeN_ok T t) v ps k hk (⟨ps[k].1.sat, l⟩ : BikeV) ps[k].2 rfl R
 rw [← e2]
 have e3 : ((bikeN T t).heads ps).set (k * (bikeN T t).S + ((bikeN T t).S - 1)) ps[k].2 = (bikeN T t).heads ps :=
  set_self' (heads_get (bikeN_ok T t) ps k 1 hk Nat.one_lt_two)
 rw [e3]
 congr 1
theorem own_resat (hn : ps.length = n) {k : Nat} (hk : k < ps.length) (b : Int) (hS : SL W B (P ++ ((bikeN T t).own (.slice (some ⟨g, off, none⟩) n c) ps ++ R)) w) :
 SL W B (P ++ ((bikeN T t).own (.slice (some ⟨g, off, none⟩) n c) (ps.set k (⟨b, ps[k].1.stops⟩, ps[k].2)) ++ R)) (w.setCell ⟨g, off + k * 2, none⟩ (.int .i64 b)) := by
 subst hn
 have h := hS.setRowCell P.length (nest_outer _ P R _ ps) (k * 2) (by show _ < ps.length * 2; omega) (.int .i64 b)
 rw [List.set_append_right _ _ (Nat.le_refl _), Nat.sub_self] at h
 have e1 : ((bikeN T t).heads ps).set (k * 2) (.int .i64 b) = (bikeN T t).heads (ps.set k (⟨b, ps[k].1.stops⟩, ps[k].2)) :=
  (flat_set (bikeN T t).head 2 (Nest.head_len (bikeN_ok T t)) ps k 0 hk (⟨b, ps[k].1.stops⟩, ps[k].2) (.int .i64 b) (Nat.zero_lt_two) rfl).symm
 have e2 : (ps.set k ((⟨b, ps[k].1.stops⟩ : BikeV), ps[k].2)).map (bikeN T t).inner = ps.map (bikeN T t).inner := by
  rw [List.map_set]
  exact set_self' (by rw [List.getElem?_map, List.getElem?_eq_getElem hk]; rfl)
 have e3 : ((bikeN T t).own (.slice (some ⟨g, off, none⟩) ps.length c) ps ++ R).set 0 (.row (bikeN T t).T (bikeN T t).S (.slice (some ⟨g, off, none⟩) ps.length c) ps.length (((bikeN T t).heads ps).set (k * 2) (.int .i64 b))) = (bikeN T t).own (.slice (some ⟨g, off, none⟩) ps.length c) (ps.set k (⟨b, ps[k].1.stops⟩, ps[k].2)) ++ R := by
  rw [e1]
  unfold Nest.own
  rw [e2, List.length_set]
  rfl
 rw [e3] at h
 exact h
/-- One number of one row. -/
theorem own_put1 {k i L ck gk ok : Nat} (hk : k < ps.length) {v : Value} (hv : ps[k].2 = .slice (some ⟨gk, ok, none⟩) L ck) (hL : ps[k].1.stops.length = L) (hi : i < L) (y : Int) (hS : SL W B (P ++ ((bikeN T t).own v ps ++ R)) w) :
 SL W B (P ++ ((bikeN T t).own v (ps.set k (⟨ps[k].1.sat, ps[k].1.stops.set i y⟩, ps[k].2)) ++ R)) (w.setCell ⟨gk, ok + i, none⟩ (.int .i64 y)) := by
 have hr := own_row (T := T) (t := t) hk (v := v) P R hv
 rw [hL] at hr
 have h := hS.setRowCell _ hr i (by omega) (.int .i64 y)
 rw [← own_same hk v (ps[k].1.stops.set i y) P R, hv, List.length_set, hL, List.map_set]
 exact h
theorem own_num {k i L ck gk ok : Nat} (hk : k < ps.length) {v : Value} (hv : ps[k].2 = .slice (some ⟨gk, ok, none⟩) L ck) (hL : ps[k].1.stops.length = L) (hi : i < L) (hS : SL W B (P ++ ((bikeN T t).own v ps ++ R)) w) : w.cell? ⟨gk, ok + i, none⟩ = some (.int .i64 (ps[k].1.stops.getD i 0)) := by
 have hr := own_row (T := T) (t := t) hk (v := v) P R hv
 rw [hL] at hr
 exact hS.rowCell _ hr i (by rw [List.getElem?_map, List.getElem?_eq_getElem (by omega), List.getD_eq_getElem?_getD, List.getElem?_eq_getElem (by omega)]; rfl)
theorem own_nfree {k L ck gk ok : Nat} (hk : k < ps.length) {v : Value} (hv : ps[k].2 = .slice (some ⟨gk, ok, none⟩) L ck) (hL : ps[k].1.stops.length = L) (h0 : 0 < L) (hS : SL W B (P ++ ((bikeN T t).own v ps ++ R)) w) (j : Nat) : w.frozen? ⟨gk, j, none⟩ = false := by
 have hr := own_row (T := T) (t := t) hk (v := v) P R hv
 rw [hL] at hr
 exact hS.rowFree _ hr j h0
end bikes
theorem resat_map (ps : List (BikeV × Value)) {k : Nat} (hk : k < ps.length) (b : Int) (v : Value) : (ps.set k (⟨b, ps[k].1.stops⟩, v)).map (·.1) = (ps.map (·.1)).set k ⟨b, stopsAt (ps.map (·.1)) (k : Int)⟩ := by
 rw [List.map_set, stopsAt_lt (by simpa using hk)]
 simp
end Go.Proofs.Ytpbhbmdghafkmaa
