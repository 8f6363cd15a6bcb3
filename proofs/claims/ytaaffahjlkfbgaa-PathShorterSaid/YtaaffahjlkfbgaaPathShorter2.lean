/- PathShorter, its arguments opened. -/
import Derived.Test.YtaaffahjlkfbgaaPathShorter
namespace Go.Proofs.Ytaaffahjlkfbgaa
open Go.ChangeShapes Go.WideShapes Go.ChangeAt Go.RowKit
set_option linter.unusedVariables false
set_option maxRecDepth 100000 in
theorem link_open {H : Type} {enc : TypeId × Value → H} {W : World} {base : Nat} {v : Value} {d : DataW H} {p : List MemPlace} (o : Value.okWide Try.prog W .any base 42 v) (k : DataW.Trod enc Try.prog W 0 (fun _ => true) true 42 v d p) :
    ∃ m : LinkV, v = .agg #[.int .u8 m.fr, .int .u8 m.to, .int .i16 m.wt] ∧ m.ok := by
  obtain ⟨v0, v1, v2, y0, y1, y2, n, rfl, _, _, h0, h1, h2⟩ := Joins.open_agg3 Try.underlying42 (by kernel_rfl) (by kernel_rfl) o k
  obtain ⟨f, e0, _, w0⟩ := DataW.trod_int Try.underlying5 h0
  obtain ⟨t, e1, _, w1⟩ := DataW.trod_int Try.underlying5 h1
  obtain ⟨wt, e2, _, w2⟩ := DataW.trod_int Try.underlying40 h2
  simp only [List.cons.injEq, and_true] at e0 e1 e2
  subst e0 e1 e2
  refine ⟨⟨f, t, wt⟩, rfl, ?_⟩
  simp only [LinkV.ok]
  simp [Lit.wf, IntKind.min, IntKind.max, IntKind.signed, IntKind.bits] at w0 w1 w2
  omega
set_option maxRecDepth 100000 in
theorem pathShorter_walk {H : Type} {enc : TypeId × Value → H} {base : Nat} (W : World) (n : Int) (_hn : (Lit.int .u8 n).wf = true) (v : Value) (d : DataW H) (p : List MemPlace) (o : Value.okWide Try.prog W .any base 39 v) (k : DataW.Trod enc Try.prog W 0 (fun _ => true) true 39 v d p)
    (v2 : Value) (d2 : DataW H) (p2 : List MemPlace) (o2 : Value.okWide Try.prog W .any base 42 v2) (k2 : DataW.Trod enc Try.prog W 0 (fun _ => true) true 42 v2 d2 p2) (a : Int) (_ha : (Lit.int .u8 a).wf = true) :
    Calls Try.prog 5 #[.int .u8 n, v, v2, .int .u8 a] W fun e w' => e = .returned (.bool true) ∧ Below W.heap.size W w' := by
  obtain ⟨A, cap, l, rfl, hr, hl, hok⟩ := links_open o k
  obtain ⟨m, rfl, hm⟩ := link_open o2 k2
  simp [Lit.wf, IntKind.min, IntKind.max, IntKind.signed, IntKind.bits] at _hn _ha
  exact pathShorter0 W n A cap l m a hr hl hok hm _hn.1 _hn.2 _ha.1 _ha.2
end Go.Proofs.Ytaaffahjlkfbgaa
