/- FlowErrors, its arguments opened. -/
import Derived.Test.YtgnmbmlpfjlbiaaFlowErrors
import Derived.Test.YtgnmbmlpfjlbiaaNetOpen
namespace Go.Proofs.Ytgnmbmlpfjlbiaa
open Go.ChangeShapes Go.WideShapes Go.ChangeAt Go.RowKit
set_option maxRecDepth 100000 in
theorem flowErrors_walk {H : Type} {enc : TypeId × Value → H} {base : Nat} (W : World) (v : Value) (d : DataW H) (p : List MemPlace) (o : Value.okWide Try.prog W .any base 26 v) (k : DataW.Trod enc Try.prog W 0 (fun _ => true) true 26 v d p)
    (a : Int) (_ha : (Lit.int .i64 a).wf = true) (b : Int) (_hb : (Lit.int .i64 b).wf = true) (AR : Option Addr) (rc : Nat) (raw : List Int) (hraw : Reads W W.heap.size 1 AR raw.length (raw.map (.int .i64))) (hrl : raw.length ≤ maxLen) (_hw : ∀ n ∈ raw, (Lit.int .i64 n).wf = true) :
    Calls Try.prog 7 #[v, .int .i64 a, .int .i64 b, .slice AR raw.length rc] W fun e w' => e = .returned (.bool true) ∧ Below W.heap.size W w' := by
  obtain ⟨N, A, cap, l, rfl, hr, hl, _⟩ := net_open o k
  exact flowErrors0 W N A cap l a b AR rc raw hr hl hraw hrl
end Go.Proofs.Ytgnmbmlpfjlbiaa
