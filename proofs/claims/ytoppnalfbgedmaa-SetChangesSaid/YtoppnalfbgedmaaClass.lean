/- A region that draws its order, walked once in the order of the text, in a class C of worlds: an operation yields one value in each world of the class; a call may leave another world of the class. -/
import Derived.Test.YtoppnalfbgedmaaMem
import Derived.Deep.QuietTactic
import Derived.BigQuiet
namespace Go.Proofs.Ytoppnalfbgedmaa
open Go.ChangeShapes Go.WideShapes Go.ChangeAt Go.RowKit
section
variable {P : Program} {ops : Array Oper} {C : World → Prop} {Q : Act → Prop} {a : Act} {o : Oper} {rest : List Oper}
theorem qc_skip (hw : Region.wanted o (yielded ops a.tmps) = false) (h : wpQuiet P ops C Q rest (a.put o.dst undef)) : wpQuiet P ops C Q (o :: rest) a :=
  wpQuiet_step fun K hK => by rw [if_neg (by rw [hw]; exact Bool.false_ne_true)]; exact hK _ h
/-- One operation or call: the value v is found on the way. -/
theorem qc_step (hw : Region.wanted o (yielded ops a.tmps) = true) (h : ∃ v, (∀ w, C w → Oper.quietUpon P C w v ((execOp a.eval o).run P w)) ∧ wpQuiet P ops C Q rest (a.put o.dst v)) : wpQuiet P ops C Q (o :: rest) a :=
  wpQuiet_step fun K hK => by rw [if_pos hw]; obtain ⟨v, h1, h2⟩ := h; exact ⟨v, h1, hK _ h2⟩
theorem qc_move (x : Operand) (h : o.op = .move x) (hw : Region.wanted o (yielded ops a.tmps) = true) (hk : wpQuiet P ops C Q rest (a.put o.dst (a.eval x))) : wpQuiet P ops C Q (o :: rest) a :=
  qc_step hw ⟨_, fun w _ => by rw [BigFrame.run_move x h]; exact ⟨rfl, rfl⟩, hk⟩
theorem qc_assign (x : Operand) (h : o.op = .assign x) (hw : Region.wanted o (yielded ops a.tmps) = true) (hk : wpQuiet P ops C Q rest (a.put o.dst (a.eval x))) : wpQuiet P ops C Q (o :: rest) a :=
  qc_step hw ⟨_, fun w _ => by rw [BigFrame.run_assign x h]; exact ⟨rfl, rfl⟩, hk⟩
/-- A load of a whole row. -/
theorem qc_load_row (ty : TypeId) (x : Operand) (h : o.op = .load ty x) (hw : Region.wanted o (yielded ops a.tmps) = true) (b : Nat) (hx : a.eval x = .pointer (some ⟨b, 0, none⟩)) (F : Array Value)
    (hC : ∀ w, C w → (loadVar ty ⟨b, 0, none⟩).run P w = .ok (.agg F) w) (hk : wpQuiet P ops C Q rest (a.put o.dst (.agg F))) : wpQuiet P ops C Q (o :: rest) a :=
  qc_step hw ⟨_, fun w hw => by
    unfold execOp
    simp only [h, hx, Instr.loadAt, Instr.sureAddr, Sem.run_bind, Sem.run_pure, Result.andThen_ok, hC w hw]
    exact ⟨rfl, rfl⟩, hk⟩
end
theorem run_load_range {P : Program} {w : World} {b : Nat} {F : Array Value} {ty : TypeId} {n : Nat} {e : TypeId} (hc : w.rangeAt b 0 F.toList) (hu : P.underlying ty = some (.array n e)) (hi : (P.info? ty).map (·.size) = some F.size) :
    (loadVar ty ⟨b, 0, none⟩).run P w = .ok (.agg F) w := by
  have := run_loadVar_mid (P := P) w b 0 ty F.toList (.array n e) hc hu rfl (by simpa using hi)
  simpa using this
end Go.Proofs.Ytoppnalfbgedmaa
