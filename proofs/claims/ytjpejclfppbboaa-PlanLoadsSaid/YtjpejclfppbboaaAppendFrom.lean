/- append(row, s...): the elements are read wherever they lie. No program in sight. -/
import Derived.Test.YtjpejclfppbboaaRowSet
namespace Go.Proofs.Ytjpejclfppbboaa
open Go.ChangeShapes Go.WideShapes Go.ChangeAt Go.RowKit
set_option linter.unusedVariables false
theorem run_append_from {P : Program} {W w : World} {B : Nat} {l : List Rs} {e : TypeId} (t ty : TypeId) (h : SL W B l w) (it : Nat) (i : TypeInfo) (z : Value) (size bytes : Nat) (ht : P.underlying t = some (.slice e)) (hi : P.info? e = some i) (hz : i.zero = some z)
    (hsize : i.size = size) (hby : i.bytes = bytes) (hzs : z.cells.size = size) (hsz : 0 < size)
    (v : Value) (n m c : Nat) (xs news : List Value) (hit : l[it]? = some (.row e size v n xs)) (hm : 0 < m) (a : Addr) (hl : news.length = m * size) (hnews : ∀ j u, news[j]? = some u → w.cell? (a.add j) = some u) (h1 : ∀ u ∈ news, u.oneCell' = true) (hn : n + m ≤ 1000000000) (hb1 : bytes ≤ 1024) :
    ∃ v' w', (Builtin.append_ #[t, t] ty #[v, .slice (some a) m c]).run P w = .ok v' w' ∧ SL W B (l.set it (.row e size v' (n + m) (xs ++ news))) w' := by
  have hrow := h.row it hit
  obtain ⟨v', w', hr, h2, h3, h4⟩ := run_append_q (P := P) w 0 t ty e i z size bytes ht hi hz hsize hby hzs hsz v n xs hrow a m c news hm hl hnews h1 (by unfold maxLen; omega)
    (by calc (n + m) * bytes ≤ 1000000000 * 1024 := Nat.mul_le_mul hn hb1
          _ ≤ 140737488355328 := by omega) (Nat.zero_le _)
  refine ⟨v', w', hr, h.turn it hit h3.os h3.tape h3.output h3.size (fun k hk hne => h3.block k hk (fun e => hne e.symm)) h2 ?_⟩
  intro g hg
  have hg' : v'.ownBlock = some g := hg
  refine ⟨?_, ?_⟩
  · rcases h4 with h4 | ⟨k, h4, h5⟩
    · left; show v.ownBlock = some g; rw [← h4]; exact hg'
    · right
      rw [h4] at hg'
      injection hg' with hg'
      omega
  · rcases h2.in_ with h0 | ⟨g', off, cap, hv, hlt⟩
    · omega
    · rw [hv] at hg'
      simp [Value.ownBlock] at hg'
      omega
theorem run_append_none {P : Program} {w : World} {e t ty : TypeId} {i : TypeInfo} (ht : P.underlying t = some (.slice e)) (hi : P.info? e = some i) (b : Addr) (A : Option Addr) (c : Nat) :
    (Builtin.append_ #[t, t] ty #[.slice (some b) 0 0, .slice A 0 c]).run P w = .ok (.slice (some b) 0 0) w := by
  cases A with
  | none => simp [Builtin.append_, run_underlying ht, sizeOf, typeInfo, hi, Builtin.lenOf, Builtin.firstCells, storeCells]
  | some a =>
    have hf := run_firstCells_some (P := P) w i.size 0 a 0 c [] (by simp) (by simp)
    simp [Builtin.append_, run_underlying ht, sizeOf, typeInfo, hi, Builtin.lenOf, hf, storeCells]
theorem wpList_append_run {P : Program} {ops : Array Oper} {rest : List Oper} {o : Oper} {a : Act} {w w' : World} {v' : Value} {Q : Exit → Act → World → Prop} (hgd : o.guard = none) (s x : Operand) (t : TypeId)
    (ho : o.op = .call { callee := .builtin .append, args := #[s, x], argTypes := #[t, t] }) (v u : Value) (hs : a.eval s = v) (hx : a.eval x = u) (hr : (Builtin.append_ #[t, t] o.type #[v, u]).run P w = .ok v' w') (hK : wpList P ops Q rest (a.put o.dst v') w') : wpList P ops Q (o :: rest) a w := by
  refine wpList_plain hgd fun K hK' => ?_
  unfold Oper.wp execOp
  simp only [ho, resolve, invoke, builtin, Sem.run_bind, Sem.run_pure, Result.andThen_ok, List.map_toArray, List.map_cons, List.map_nil, hs, hx, hr]
  exact hK' _ _ hK
/-- A made row of no elements. -/
theorem SL.empty {W w : World} {B : Nat} {l : List Rs} (h : SL W B l w) (e : TypeId) (size : Nat) : SL W B (.row e size (.slice (some ⟨w.heap.size, 0, none⟩) 0 0) 0 [] :: l) (w.alloc (.cells #[] e)) :=
  h.more ((Below.refl _ _).alloc (Nat.le_refl _) _) (.row e size (.slice (some ⟨w.heap.size, 0, none⟩) 0 0) 0 []) ⟨by simp, .inl ⟨rfl, .inr ⟨_, rfl, Nat.zero_le _⟩⟩⟩ (by intro g hg; simp [Rs.block, Value.ownBlock] at hg; subst hg; simp)
end Go.Proofs.Ytjpejclfppbboaa
