/- A region that draws its order, walked once in the order of the text, in a class C of worlds: an operation yields one value in each world of the class; a call may leave another world of the class. -/
import Derived.Test.YtoppnalfbgedmaaMem
import Derived.Deep.QuietTactic
import Derived.BigQuiet
import Derived.StillTailTactics
namespace Go.Proofs.Ytoppnalfbgedmaa
open Go.ChangeShapes Go.WideShapes Go.ChangeAt Go.RowKit
set_option linter.unusedVariables false
section
variable {P : Program} {ops : Array Oper} {C : World → Prop} {Q : Act → Prop} {a : Act} {o : Oper} {rest : List Oper}
theorem qc_skip (hw : Region.wanted o (yielded ops a.tmps) = false) (h : ∃ a', a.put o.dst undef = a' ∧ wpQuiet P ops C Q rest a') : wpQuiet P ops C Q (o :: rest) a :=
  wpQuiet_step fun K hK => by rw [if_neg (by rw [hw]; exact Bool.false_ne_true)]; obtain ⟨_, rfl, h⟩ := h; exact hK _ h
/-- One operation or call: the value v is found on the way. -/
theorem qc_step (hw : Region.wanted o (yielded ops a.tmps) = true) (h : ∃ v, (∀ w, C w → Oper.quietUpon P C w v ((execOp a.eval o).run P w)) ∧ ∃ a', a.put o.dst v = a' ∧ wpQuiet P ops C Q rest a') : wpQuiet P ops C Q (o :: rest) a :=
  wpQuiet_step fun K hK => by rw [if_pos hw]; obtain ⟨v, h1, _, rfl, h2⟩ := h; exact ⟨v, h1, hK _ h2⟩
theorem qc_move (x : Operand) (h : o.op = .move x) (hw : Region.wanted o (yielded ops a.tmps) = true) (hk : ∃ a', a.put o.dst (a.eval x) = a' ∧ wpQuiet P ops C Q rest a') : wpQuiet P ops C Q (o :: rest) a :=
  qc_step hw ⟨_, fun w _ => by rw [BigFrame.run_move x h]; exact ⟨rfl, rfl⟩, hk⟩
theorem qc_assign (x : Operand) (h : o.op = .assign x) (hw : Region.wanted o (yielded ops a.tmps) = true) (hk : ∃ a', a.put o.dst (a.eval x) = a' ∧ wpQuiet P ops C Q rest a') : wpQuiet P ops C Q (o :: rest) a :=
  qc_step hw ⟨_, fun w _ => by rw [BigFrame.run_assign x h]; exact ⟨rfl, rfl⟩, hk⟩
/-- A load of a whole row. -/
theorem qc_load_row (ty : TypeId) (x : Operand) (h : o.op = .load ty x) (hw : Region.wanted o (yielded ops a.tmps) = true) (b : Nat) (hx : a.eval x = .pointer (some ⟨b, 0, none⟩)) (F : Array Value)
    (hC : ∀ w, C w → (loadVar ty ⟨b, 0, none⟩).run P w = .ok (.agg F) w) (hk : ∃ a', a.put o.dst (.agg F) = a' ∧ wpQuiet P ops C Q rest a') : wpQuiet P ops C Q (o :: rest) a :=
  qc_step hw ⟨_, fun w hw => by
    unfold execOp
    simp only [h, hx, Instr.loadAt, Instr.sureAddr, Sem.run_bind, Sem.run_pure, Result.andThen_ok, hC w hw]
    exact ⟨rfl, rfl⟩, hk⟩
end
theorem run_load_range {P : Program} {w : World} {b : Nat} {F : Array Value} {ty : TypeId} {n : Nat} {e : TypeId} (hc : w.rangeAt b 0 F.toList) (hu : P.underlying ty = some (.array n e)) (hi : (P.info? ty).map (·.size) = some F.size) :
    (loadVar ty ⟨b, 0, none⟩).run P w = .ok (.agg F) w := by
  have := run_loadVar_mid (P := P) w b 0 ty F.toList (.array n e) hc hu rfl (by simpa using hi)
  simpa using this
/-! the head of a region whose operations leave the world alone, before a forced tail (Derived/StillTail.lean) -/
section
variable {P : Program} {ops : Array Oper} {w : World} {Q : Act → Prop} {a : Act} {o : Oper} {rest : List Oper}
theorem st_skip (hw : Region.wanted o (yielded ops a.tmps) = false) (h : ∃ a', a.put o.dst undef = a' ∧ wpStill P ops w Q rest a') : wpStill P ops w Q (o :: rest) a :=
  wpStill_step fun K hK => by rw [if_neg (by rw [hw]; exact Bool.false_ne_true)]; obtain ⟨_, rfl, h⟩ := h; exact hK _ h
theorem st_step (hw : Region.wanted o (yielded ops a.tmps) = true) (h : ∃ v, (execOp a.eval o).run P w = .ok (.value v) w ∧ ∃ a', a.put o.dst v = a' ∧ wpStill P ops w Q rest a') : wpStill P ops w Q (o :: rest) a :=
  wpStill_step fun K hK => by
    rw [if_pos hw]
    obtain ⟨v, h1, _, rfl, h2⟩ := h
    unfold Oper.still
    rw [h1, Oper.stillUpon_value]
    exact hK _ h2
theorem st_move (x : Operand) (h : o.op = .move x) (hw : Region.wanted o (yielded ops a.tmps) = true) (hk : ∃ a', a.put o.dst (a.eval x) = a' ∧ wpStill P ops w Q rest a') : wpStill P ops w Q (o :: rest) a :=
  st_step hw ⟨_, BigFrame.run_move x h w, hk⟩
theorem st_index_array (ty : TypeId) (x i : Operand) (h : o.op = .indexAddr ty x i) (hw : Region.wanted o (yielded ops a.tmps) = true) (b k : Nat) (hx : a.eval x = .pointer (some ⟨b, 0, none⟩))
    (hi : a.eval i = .int .i64 (k : Int)) (hrun : (Instr.indexAt ty (.pointer (some ⟨b, 0, none⟩)) (.int .i64 (k : Int))).run P w = .ok (.pointer (some ⟨b, k, none⟩)) w)
    (hk : ∃ a', a.put o.dst (.pointer (some ⟨b, k, none⟩)) = a' ∧ wpStill P ops w Q rest a') : wpStill P ops w Q (o :: rest) a := by
  exact st_step hw ⟨_, by unfold execOp; simp only [h, hx, hi, Sem.run_bind, hrun, Result.andThen_ok, Sem.run_pure], hk⟩
theorem st_load (ty : TypeId) (x : Operand) (h : o.op = .load ty x) (hw : Region.wanted o (yielded ops a.tmps) = true) (p : Addr) (v : Value) (hx : a.eval x = .pointer (some p))
    (hrun : (Instr.loadAt ty (.pointer (some p))).run P w = .ok v w) (hk : ∃ a', a.put o.dst v = a' ∧ wpStill P ops w Q rest a') : wpStill P ops w Q (o :: rest) a := by
  exact st_step hw ⟨_, by unfold execOp; simp only [h, hx, Sem.run_bind, hrun, Result.andThen_ok, Sem.run_pure], hk⟩
end
end Go.Proofs.Ytoppnalfbgedmaa
