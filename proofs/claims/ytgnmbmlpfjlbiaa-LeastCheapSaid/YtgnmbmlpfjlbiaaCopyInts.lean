/- copy of numbers into a block of the call's own. No program in sight. -/
import Derived.Test.YtgnmbmlpfjlbiaaPipes
import Derived.Laws.CopyOwn
namespace Go.Proofs.Ytgnmbmlpfjlbiaa
open Go.ChangeShapes Go.WideShapes Go.ChangeAt Go.RowKit
set_option linter.unusedVariables false
/-- The numbers of l, laid over f from 0 on. -/
def laidOver (l : List Int) (f : Nat → Int) : Nat → Int := fun k => match l[k]? with | some x => x | none => f k
theorem laid_row (l : List Int) (f : Nat → Int) (n : Nat) : ((iarr f n).toList.take 0 ++ (((l.take n).map (Value.int .i64)) ++ (iarr f n).toList.drop (0 + ((l.take n).map (Value.int .i64)).length))).toArray = iarr (laidOver l f) n := by
  apply Array.ext_getElem?
  intro i
  rw [List.getElem?_toArray, List.take_zero, List.nil_append, Nat.zero_add]
  by_cases hi : i < n
  · rw [iarr_get _ _ _ hi]
    by_cases hl : i < l.length
    · rw [List.getElem?_append_left (by simp; omega)]
      simp [hi, hl, laidOver]
    · have hlen : ((l.take n).map (Value.int .i64)).length = l.length := by simp; omega
      rw [List.getElem?_append_right (by omega), hlen, List.getElem?_drop, show l.length + (i - l.length) = i by omega, Array.getElem?_toList, iarr_get _ _ _ hi]
      simp [laidOver, show l.length ≤ i by omega]
  · rw [Array.getElem?_eq_none (by rw [iarr_size]; omega), List.getElem?_eq_none]
    simp [iarr_size]
    omega
theorem wpList_copy_ints {P : Program} {w : World} {ops : Array Oper} {rest : List Oper} {o : Oper} {a : Act} {Q : Exit → Act → World → Prop} (hgd : o.guard = none) (d s : Operand) (dT sT : TypeId)
    (ho : o.op = .call { callee := .builtin .copy, args := #[d, s], argTypes := #[dT, sT] }) (elem : TypeId) (hu : P.underlying dT = some (.slice elem)) (hsz : (P.info? elem).map (·.size) = some 1)
    (g n dCap : Nat) (hd : a.eval d = .slice (some ⟨g, 0, none⟩) n dCap) (AL : Option Addr) (l : List Int) (c : Nat) (hs : a.eval s = .slice AL l.length c) (B : Nat) (hr : Reads w B 1 AL l.length (l.map (.int .i64)))
    (f : Nat → Int) (t : TypeId) (hg : w.heap[g]? = some (.cells (iarr f n) t (0, 0)))
    (h : ∀ w' v, Only g w w' → w'.heap[g]? = some (.cells (iarr (laidOver l f) n) t (0, 0)) → wpList P ops Q rest (a.put o.dst v) w') : wpList P ops Q (o :: rest) a w := by
  by_cases h0 : Nat.min l.length n = 0
  · refine wpList_copy_nothing hgd d s dT sT ho elem hu hsz _ _ _ _ _ _ hd hs h0 (h _ _ ⟨rfl, rfl, rfl, rfl, fun _ _ => rfl⟩ ?_)
    rw [hg, iarr_ext (g := laidOver l f) (fun i hi => ?_)]
    have : l = [] := by
      have : l.length = 0 := by rcases Nat.min_eq_zero_iff.1 h0 with h | h <;> omega
      exact List.eq_nil_of_length_eq_zero this
    subst this
    rfl
  · have hmin : Nat.min l.length n = min l.length n := rfl
    obtain ⟨b, o', rfl, hb, hc⟩ := reads_plain hr (by omega) Nat.one_pos
    have := wpList_copy_own (P := P) (w := w) (ops := ops) (rest := rest) (Q := Q) hgd d s dT sT ho elem hu hsz g 0 n dCap ⟨b, o', none⟩ l.length c hd hs (iarr f n) t hg ((l.take n).map (Value.int .i64)) (by simp [hmin, Nat.min_comm]) (fun j v hv => by
      rw [Addr.add_mid]
      refine hc j v ?_
      rw [List.map_take, List.getElem?_take] at hv
      split at hv
      · exact hv
      · cases hv) (by rw [iarr_size]; simp; omega) (by
      intro v hv
      obtain ⟨x, _, rfl⟩ := List.mem_map.1 hv
      rfl)
    refine this ?_
    rw [laid_row]
    exact h _ _ (only_setRow _ _ _) (setRow_heap _ _ _ _ _ _ hg)
/-- The same as the one step of its statement. -/
theorem wp_copy_ints {P : Program} {w : World} {o : Oper} {a : Act} {K : Act → World → Prop} {Q : Exit → Act → World → Prop} (d s : Operand) (dT sT : TypeId)
    (ho : o.op = .call { callee := .builtin .copy, args := #[d, s], argTypes := #[dT, sT] }) (elem : TypeId) (hu : P.underlying dT = some (.slice elem)) (hsz : (P.info? elem).map (·.size) = some 1)
    (g n dCap : Nat) (hd : a.eval d = .slice (some ⟨g, 0, none⟩) n dCap) (AL : Option Addr) (l : List Int) (c : Nat) (hs : a.eval s = .slice AL l.length c) (B : Nat) (hr : Reads w B 1 AL l.length (l.map (.int .i64)))
    (f : Nat → Int) (t : TypeId) (hg : w.heap[g]? = some (.cells (iarr f n) t (0, 0)))
    (h : ∀ w' v, Only g w w' → w'.heap[g]? = some (.cells (iarr (laidOver l f) n) t (0, 0)) → K (a.put o.dst v) w') : o.wp P a w K Q := by
  by_cases h0 : Nat.min l.length n = 0
  · have hrun := run_copy_none (P := P) w dT sT o.type elem (some ⟨g, 0, none⟩) AL n dCap l.length c hu hsz h0
    have hk := h w (goInt 0) ⟨rfl, rfl, rfl, rfl, fun _ _ => rfl⟩ (by
      rw [hg, iarr_ext (g := laidOver l f) (fun i hi => ?_)]
      have : l = [] := by
        have : l.length = 0 := by rcases Nat.min_eq_zero_iff.1 h0 with h | h <;> omega
        exact List.eq_nil_of_length_eq_zero this
      subst this
      rfl)
    unfold Oper.wp
    simp [execOp, ho, resolve, invoke, builtin, hd, hs, hrun, Result.andThen]
    exact hk
  · have hmin : Nat.min l.length n = min l.length n := rfl
    obtain ⟨b, o', rfl, hb, hc⟩ := reads_plain hr (by omega) Nat.one_pos
    have hrun := run_copy_row (P := P) w dT sT o.type elem g 0 n dCap ⟨b, o', none⟩ l.length c (iarr f n) t ((l.take n).map (Value.int .i64)) hu hsz hg (by simp [hmin, Nat.min_comm]) (fun j v hv => by
      rw [Addr.add_mid]
      refine hc j v ?_
      rw [List.map_take, List.getElem?_take] at hv
      split at hv
      · exact hv
      · cases hv) (by rw [iarr_size]; simp; omega) (by
      intro v hv
      obtain ⟨x, _, rfl⟩ := List.mem_map.1 hv
      rfl)
    rw [List.append_assoc, laid_row] at hrun
    have hk := h _ (goInt ((l.take n).map (Value.int .i64)).length) (only_setRow _ _ _) (setRow_heap _ _ _ _ _ _ hg)
    unfold Oper.wp
    simp only [execOp, ho, resolve, invoke, builtin, Sem.run_bind, Sem.run_pure, Result.andThen_ok, List.map_toArray, List.map_cons, List.map_nil, hd, hs, hrun]
    exact hk
end Go.Proofs.Ytgnmbmlpfjlbiaa
