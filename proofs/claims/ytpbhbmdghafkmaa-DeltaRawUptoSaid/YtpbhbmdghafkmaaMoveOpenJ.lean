/- law23.Bikes. (printed by gen/bikes23.py) law23.Small.Move. (printed by gen/smallmove.py) A move, and a small one, that came in, opened. (printed by gen/moveopen.py; open_agg5 is extra-structs.md's block) -/
import Derived.Test.YtpbhbmdghafkmaaAwake23
import Derived.Lib.SmallJoins
import Derived.WalkKit
import Derived.ProofKit
import Derived.OpenShut
namespace Go.Proofs.Ytpbhbmdghafkmaa
open Go.ChangeShapes Go.WideShapes Go.ChangeAt Go.RowKit
set_option linter.unusedVariables false
end Go.Proofs.Ytpbhbmdghafkmaa
namespace Go.Proofs.Ytpbhbmdghafkmaa
open Go.ChangeShapes Go.WideShapes Go.ChangeAt Go.RowKit
set_option linter.unusedVariables false
end Go.Proofs.Ytpbhbmdghafkmaa
namespace Go.Proofs.Ytpbhbmdghafkmaa
open Go.ChangeShapes Go.WideShapes Go.Deep Go.Joins Go.RowKit
set_option linter.unusedVariables false
section
variable {H : Type} {enc : TypeId × Value → H} {P : Program} {w : World} {base : Nat} {spare : Nat → Bool} {held : Bool}
theorem open_agg5 {r : Reach} {b0 : Nat} {t : TypeId} {f0 f1 f2 f3 f4 : Field} {v : Value} {d : DataW H} {p : List MemPlace} (hs : P.underlying t = some (.struct #[f0, f1, f2, f3, f4])) (hone : oneCellFields P #[f0, f1, f2, f3, f4] = true) (hC : P.cellsOf t = 5)
 (hv : Value.okWide P w r b0 t v) (h : DataW.Trod enc P w base spare held t v d p) :
 ∃ (v0 v1 v2 v3 v4 : Value) (y0 y1 y2 y3 y4 : DataW H × List MemPlace) (n : Nat), v = .agg #[v0, v1, v2, v3, v4] ∧ d = .agg [y0.1, y1.1, y2.1, y3.1, y4.1] ∧ p = y0.2 ++ (y1.2 ++ (y2.2 ++ (y3.2 ++ y4.2))) ∧
  DataW.trod enc P w base spare held n f0.type [v0] = some y0 ∧ DataW.trod enc P w base spare held n f1.type [v1] = some y1 ∧ DataW.trod enc P w base spare held n f2.type [v2] = some y2 ∧ DataW.trod enc P w base spare held n f3.type [v3] = some y3 ∧ DataW.trod enc P w base spare held n f4.type [v4] = some y4 := by
 obtain ⟨cs, rfl, hsz⟩ := okWide_struct hs hv
 obtain ⟨l⟩ := cs
 match l, hsz.trans hC with
 | [c0, c1, c2, c3, c4], _ =>
   obtain ⟨fuel, hf⟩ := h
   obtain ⟨xs, n, _, hx, _, hlen, hg⟩ := DataW.trod_struct hs hf
   obtain ⟨o0, k0⟩ := hone_of hone 0 f0 rfl
   obtain ⟨o1, k1⟩ := hone_of hone 1 f1 rfl
   obtain ⟨o2, k2⟩ := hone_of hone 2 f2 rfl
   obtain ⟨o3, k3⟩ := hone_of hone 3 f3 rfl
   obtain ⟨o4, k4⟩ := hone_of hone 4 f4 rfl
   match xs, hlen with
   | [y0, y1, y2, y3, y4], _ =>
     simp only [Prod.mk.injEq] at hx
     exact ⟨c0, c1, c2, c3, c4, y0, y1, y2, y3, y4, n, rfl, by simpa using hx.1, by simpa using hx.2, by simpa [Value.cells, o0, k0] using hg 0 f0 rfl, by simpa [Value.cells, o1, k1] using hg 1 f1 rfl, by simpa [Value.cells, o2, k2] using hg 2 f2 rfl, by simpa [Value.cells, o3, k3] using hg 3 f3 rfl, by simpa [Value.cells, o4, k4] using hg 4 f4 rfl⟩
end
section
variable {H : Type} {enc : TypeId × Value → H} {W : World} {base : Nat} {v : Value} {d : DataW H} {p : List MemPlace}
set_option maxRecDepth 100000 in
theorem move_open (o : Value.okWide Try.prog W .any base 33 v) (k : DataW.Trod enc Try.prog W 0 (fun _ => true) true 33 v d p) : ∃ m : MoveV, v = .agg m.cells ∧ ∀ x ∈ [m.kind, m.a, m.i, m.b, m.j], -9223372036854775808 ≤ x ∧ x ≤ 9223372036854775807 := by
 obtain ⟨v0, v1, v2, v3, v4, y0, y1, y2, y3, y4, n, rfl, _, _, h0, h1, h2, h3, h4⟩ := open_agg5 Try.underlying33 (by kernel_rfl) (by kernel_rfl) o k
 obtain ⟨a0, e0, _, w0⟩ := DataW.trod_int Try.underlying31 h0
 simp only [List.cons.injEq, and_true] at e0
 subst e0
 simp [Lit.wf, IntKind.min, IntKind.max, IntKind.signed, IntKind.bits] at w0
 obtain ⟨a1, e1, _, w1⟩ := DataW.trod_int Try.underlying3 h1
 simp only [List.cons.injEq, and_true] at e1
 subst e1
 simp [Lit.wf, IntKind.min, IntKind.max, IntKind.signed, IntKind.bits] at w1
 obtain ⟨a2, e2, _, w2⟩ := DataW.trod_int Try.underlying3 h2
 simp only [List.cons.injEq, and_true] at e2
 subst e2
 simp [Lit.wf, IntKind.min, IntKind.max, IntKind.signed, IntKind.bits] at w2
 obtain ⟨a3, e3, _, w3⟩ := DataW.trod_int Try.underlying3 h3
 simp only [List.cons.injEq, and_true] at e3
 subst e3
 simp [Lit.wf, IntKind.min, IntKind.max, IntKind.signed, IntKind.bits] at w3
 obtain ⟨a4, e4, _, w4⟩ := DataW.trod_int Try.underlying3 h4
 simp only [List.cons.injEq, and_true] at e4
 subst e4
 simp [Lit.wf, IntKind.min, IntKind.max, IntKind.signed, IntKind.bits] at w4
 refine ⟨⟨a0, a1, a2, a3, a4⟩, rfl, ?_⟩
 simp only [List.mem_cons, List.not_mem_nil, or_false]
 rintro x (rfl | rfl | rfl | rfl | rfl) <;> omega
end
end Go.Proofs.Ytpbhbmdghafkmaa
