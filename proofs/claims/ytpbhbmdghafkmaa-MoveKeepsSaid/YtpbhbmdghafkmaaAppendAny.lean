/- append(row, s...) for any s, none of its elements or some; a byte of a row that came in; a whole struct's load as a stated value. No program in sight. -/
import Derived.Test.YtpbhbmdghafkmaaAppendFrom
import Derived.BigFrame
namespace Go.Proofs.Ytpbhbmdghafkmaa
open Go.ChangeShapes Go.WideShapes Go.ChangeAt Go.RowKit
set_option linter.unusedVariables false
theorem run_append_zero {P : Program} {w : World} {e t ty : TypeId} {i : TypeInfo} (ht : P.underlying t = some (.slice e)) (hi : P.info? e = some i) (A A' : Option Addr) (n c c' : Nat) (hnc : n ≤ c) :
    (Builtin.append_ #[t, t] ty #[.slice A n c, .slice A' 0 c']).run P w = .ok (.slice A n c) w := by
  cases A' with
  | none => cases A <;> simp [Builtin.append_, run_underlying ht, sizeOf, typeInfo, hi, Builtin.lenOf, Builtin.firstCells, storeCells, hnc]
  | some a =>
    have hf := run_firstCells_some (P := P) w i.size 0 a 0 c' [] (by simp) (by simp)
    cases A <;> simp [Builtin.append_, run_underlying ht, sizeOf, typeInfo, hi, Builtin.lenOf, hf, storeCells, hnc]
/-- append(row, s...), s a row that reads as news. -/
theorem run_append_reads {P : Program} {W w : World} {B B' : Nat} {l : List Rs} {e : TypeId} (t ty : TypeId) (h : SL W B l w) (it : Nat) (i : TypeInfo) (z : Value) (size bytes : Nat) (ht : P.underlying t = some (.slice e)) (hi : P.info? e = some i) (hz : i.zero = some z)
    (hsize : i.size = size) (hby : i.bytes = bytes) (hzs : z.cells.size = size) (hsz : 0 < size)
    (v : Value) (n m c : Nat) (xs news : List Value) (hit : l[it]? = some (.row e size v n xs)) (A : Option Addr) (hr : Reads w B' size A m news) (h1 : ∀ u ∈ news, u.oneCell' = true) (hn : n + m ≤ 1000000000) (hb1 : bytes ≤ 1024) :
    ∃ v' w', (Builtin.append_ #[t, t] ty #[v, .slice A m c]).run P w = .ok v' w' ∧ SL W B (l.set it (.row e size v' (n + m) (xs ++ news))) w' := by
  rcases Nat.eq_zero_or_pos m with rfl | hm
  · obtain ⟨A0, c0, rfl, hnc, _⟩ := (h.row it hit).slice_
    have hn0 : news = [] := List.eq_nil_of_length_eq_zero (by rw [hr.1]; simp)
    subst hn0
    refine ⟨_, w, run_append_zero ht hi A0 A n c0 c hnc, ?_⟩
    have e1 : l.set it (.row e size (.slice A0 n c0) (n + 0) (xs ++ [])) = l := by
      rw [List.append_nil, Nat.add_zero]
      have hl := (List.getElem?_eq_some_iff.1 hit)
      rw [← hl.2]
      exact List.set_getElem_self hl.1
    rw [e1]; exact h
  · obtain ⟨a, rfl, _, hc⟩ := hr.2 hm
    exact run_append_from t ty h it i z size bytes ht hi hz hsize hby hzs hsz v n m c xs news hit hm a hr.1 hc h1 hn hb1
theorem bytes_at {w : World} {B : Nat} {A : Option Addr} {l : List Int} {kd : IntKind} (h : Reads w B 1 A l.length (l.map (.int kd))) {k : Nat} (hk : k < l.length) : ∃ b o, A = some ⟨b, o, none⟩ ∧ b < B ∧ w.cell? ⟨b, o + k, none⟩ = some (.int kd l[k]) := by
  obtain ⟨b, o, e, hb, hc⟩ := reads_plain h (by omega) Nat.one_pos
  exact ⟨b, o, e, hb, hc k _ (by simp [hk])⟩
theorem ints_one (l : List Int) (kd : IntKind) : ∀ u ∈ l.map (Value.int kd), u.oneCell' = true := by
  intro u hu
  obtain ⟨n, _, rfl⟩ := List.mem_map.1 hu
  rfl
/-- A whole struct is loaded, behind a guard or not. -/
theorem wpList_load_row_g {P : Program} {ops : Array Oper} {rest : List Oper} {o : Oper} {a : Act} {w : World} {Q : Exit → Act → World → Prop} (hw : Region.wanted o (yielded ops a.tmps) = true) (ty : TypeId) (x : Operand) (ho : o.op = .load ty x)
    (g : Nat) (hx : a.eval x = .pointer (some ⟨g, 0, none⟩)) (t : TypeId) (cs : Array Value) (fr : Nat × Nat) (d : TypeDesc) (hg : w.heap[g]? = some (.cells cs t fr))
    (hu : P.underlying ty = some d) (hd : (match d with | .struct _ | .array _ _ => true | _ => false) = true) (hi : (P.info? ty).map (·.size) = some cs.size)
    (h : wpList P ops Q rest (a.put o.dst (.agg cs)) w) : wpList P ops Q (o :: rest) a w :=
  BigFrame.wpList_want hw fun _ hK => wp_load_row ty x ho g hx t cs fr d hg hu hd hi (hK _ _ h)
end Go.Proofs.Ytpbhbmdghafkmaa
