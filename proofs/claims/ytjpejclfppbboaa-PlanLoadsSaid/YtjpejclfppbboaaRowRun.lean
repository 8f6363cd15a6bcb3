/- Runs of stores into an owned row; a row cut short; an append whose run is known. No program in sight. -/
import Derived.Test.YtjpejclfppbboaaRowSet
import Derived.Test.YtjpejclfppbboaaPlanS
import Derived.ArgAppend
import Derived.Laws.IdiomCopy
namespace Go.Proofs.Ytjpejclfppbboaa
open Go.ChangeShapes Go.WideShapes Go.ChangeAt Go.RowKit
set_option linter.unusedVariables false
theorem set_self' {α : Type} {l : List α} {i : Nat} {a : α} (h : l[i]? = some a) : l.set i a = l := by
  obtain ⟨h1, rfl⟩ := List.getElem?_eq_some_iff.1 h
  exact List.set_getElem_self h1
theorem SL.setRun {W : World} {B : Nat} (i : Nat) {e : TypeId} {size n c g off : Nat} : ∀ (vs : List Value) (k : Nat) (xs : List Value) (l : List Rs) (w : World), SL W B l w → l[i]? = some (.row e size (.slice (some ⟨g, off, none⟩) n c) n xs) → k + vs.length ≤ n * size →
    SL W B (l.set i (.row e size (.slice (some ⟨g, off, none⟩) n c) n (xs.take k ++ vs ++ xs.drop (k + vs.length)))) (w.setCells g (off + k) vs)
  | [], k, xs, l, w, h, hi, hk => by
    have e1 : xs.take k ++ [] ++ xs.drop (k + ([] : List Value).length) = xs := by simp
    rw [e1, set_self' hi]
    exact h
  | v :: r, k, xs, l, w, h, hi, hk => by
    simp only [List.length_cons] at hk
    have hl := (h.row i hi).1
    have h1 := h.setRowCell i hi k (by omega) v
    have h2 := SL.setRun i r (k + 1) (xs.set k v) _ _ h1 (List.getElem?_set_self (List.getElem?_eq_some_iff.1 hi).1) (by omega)
    rw [List.set_set] at h2
    have e1 : (xs.set k v).take (k + 1) ++ r ++ (xs.set k v).drop (k + 1 + r.length) = xs.take k ++ (v :: r) ++ xs.drop (k + (v :: r).length) := by
      rw [List.drop_set_of_lt (by omega), List.take_succ_eq_append_getElem (by rw [List.length_set]; omega), List.take_set_of_le (Nat.le_refl k)]
      simp [Nat.add_assoc, Nat.add_comm 1]
    rw [e1] at h2
    exact h2
theorem SL.cutRow {W w : World} {B : Nat} {l : List Rs} (h : SL W B l w) (i : Nat) {e : TypeId} {size n c g off : Nat} {xs : List Value} (hi : l[i]? = some (.row e size (.slice (some ⟨g, off, none⟩) n c) n xs)) (m : Nat) (hm : m ≤ n) (hn : 0 < n) :
    SL W B (l.set i (.row e size (.slice (some ⟨g, off, none⟩) m c) m (xs.take (m * size)))) w := by
  have hb := h.block _ (List.mem_of_getElem? hi) g rfl
  have hms : m * size ≤ n * size := Nat.mul_le_mul_right _ hm
  refine h.turn i hi rfl rfl rfl (Nat.le_refl _) (fun _ _ _ => rfl) ?_ (fun g' hg' => ?_)
  · have hr := h.row i hi
    refine ⟨by rw [List.length_take, hr.1]; omega, ?_⟩
    rcases hr.2 with ⟨h0, h1⟩ | ⟨g', off', cap, cur, e1, hb', hg, hnc, hcm, hcs, ht⟩
    · omega
    · simp only [Value.slice.injEq, Option.some.injEq, Addr.mk.injEq] at e1
      obtain ⟨⟨rfl, rfl, _⟩, _, rfl⟩ := e1
      refine .inr ⟨g, off, c, cur, rfl, hb', hg, by omega, hcm, hcs, ?_⟩
      rw [← ht, List.take_take, Nat.min_eq_left hms]
  · simp only [Rs.block, Value.ownBlock, Option.some.injEq] at hg'
    subst hg'
    exact ⟨.inl rfl, hb.2⟩
section
variable {P : Program} {Pn : List PanicEntry → World → Prop} {lo : List Oper} {K : World → Prop} {Lm : Act → World → Prop} {rest : List Nat} {i : Nat} {o : Oper} {a : Act} {w : World}
/-- An append whose run is known. -/
theorem pm_append_run (hi0 : lo[i]? = some o) (hgd : o.guard = none) (s x : Operand) (t : TypeId) (ho : o.op = .call { callee := .builtin .append, args := #[s, x], argTypes := #[t, t] }) (v y v' : Value) (w2 : World) (hs : a.eval s = v) (hx : a.eval x = y)
    (hr : (Builtin.append_ #[t, t] o.type #[v, y]).run P w = .ok v' w2) (hk : K w2) (hK : ∀ Kv : Act → World → Prop, (∀ a w, wpPlanM P lo.toArray K Pn Lm rest a w → Kv a w) → Kv (a.put o.dst v') w2) : wpPlanM P lo.toArray K Pn Lm (i :: rest) a w := by
  refine pm_eff hi0 hgd fun Kv hKv => ?_
  unfold execOp
  simp only [ho, resolve, invoke, builtin, Sem.run_bind, Sem.run_pure, Result.andThen_ok, List.map_toArray, List.map_cons, List.map_nil, hs, hx, hr]
  exact ⟨hk, hK Kv hKv⟩
end

theorem zeroCells_one (z : Value) (hz : z.cells = #[z]) (n : Nat) : (Builtin.zeroCells z.cells n).toList = List.replicate n z := by
  rw [hz]
  unfold Builtin.zeroCells
  apply List.ext_getElem
  · simp
  · intro i h1 h2
    simp [Nat.mod_one]
end Go.Proofs.Ytjpejclfppbboaa
