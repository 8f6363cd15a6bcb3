/- append as a step of a plan whose operations may come in several orders. No program in sight. -/
import Derived.Test.YtjpejclfppbboaaRowRun
namespace Go.Proofs.Ytjpejclfppbboaa
open Go
set_option linter.unusedVariables false
theorem kOp_append {P : Program} {lo : List Oper} {K : World → Prop} {Pn : List PanicEntry → World → Prop} {Kont : Act → World → Prop} {a : Act} {i : Nat} {o : Oper} {W w0 : World} {B : Nat} {l : List Rs} {cs : Array Value} {e : TypeId} (hi0 : lo[i]? = some o) (hgd : o.guard = none) (s x : Operand) (t : TypeId)
    (ho : o.op = .call { callee := .builtin .append, args := #[s, x], argTypes := #[t, t] }) (h : SL W B l w0) (it : Nat)
    (ti : TypeInfo) (z : Value) (size bytes : Nat) (ht : P.underlying t = some (.slice e)) (hi : P.info? e = some ti) (hz : ti.zero = some z)
    (hsize : ti.size = size) (hby : ti.bytes = bytes) (hzs : z.cells.size = size) (hsz : 0 < size)
    (v : Value) (n m : Nat) (xs : List Value) (hit : l[it]? = some (.row e size v n xs)) (hs : a.eval s = v) (G : Nat) (hx : a.eval x = .slice (some ⟨G, 0, none⟩) m m) (hG : w0.heap.size = G) (hm : 0 < m) (hcs : cs.size = m * size) (h1 : ∀ u ∈ cs.toList, u.oneCell' = true)
    (hn : n + m ≤ 1000000000) (hb1 : bytes ≤ 1024)
    (hK : ∀ v' w', SL W B (l.set it (.row e size v' (n + m) (xs ++ cs.toList))) w' → w0.heap.size < w'.heap.size → K w' ∧ Kont (a.put o.dst v') w') : kOp P lo.toArray K Pn i Kont a (w0.alloc (.cells cs e)) := by
  subst hG
  obtain ⟨v', w', hr, h2, h3⟩ := run_append_sl (P := P) t o.type h it ti z size bytes ht hi hz hsize hby hzs hsz v n m xs hit hm hcs h1 hn hb1
  refine kOp_eff hi0 hgd fun Kv hKv => ?_
  unfold execOp
  simp only [ho, resolve, invoke, builtin, Sem.run_bind, Sem.run_pure, Result.andThen_ok, List.map_toArray, List.map_cons, List.map_nil, hs, hx, hr]
  exact ⟨(hK v' w' h2 h3).1, hKv _ _ (hK v' w' h2 h3).2⟩
theorem pl_nil' {P : Program} {lo : List Oper} {K : World → Prop} {Lq : Act → Prop} {a : Act} {i : Nat} {rest : List Nat} {o : Oper} (x : Operand) (A : Addr) (hi : lo[i]? = some o) (hw : Region.wanted o (yielded lo.toArray a.tmps) = true) (ho : o.op = .nilCheck x) (hx : a.eval x = .pointer (some A))
    (hk : ∀ Kv : Act → Prop, (∀ a, wpPlanL P lo.toArray K Lq rest a → Kv a) → Kv (a.put o.dst (.pointer (some A)))) : wpPlanL P lo.toArray K Lq (i :: rest) a :=
  pl_told (.pointer (some A)) hi hw (fun w _ => by
    unfold execOp
    simp only [ho, hx]
    rfl) hk
end Go.Proofs.Ytjpejclfppbboaa
