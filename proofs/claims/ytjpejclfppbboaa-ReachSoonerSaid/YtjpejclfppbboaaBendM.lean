/- Ways by arcs that may weigh less than nothing, in plain Lean: rounds in place; when they end; by which arc one comes; the cycle where they don't. No program in sight. -/
import Derived.Test.YtjpejclfppbboaaReachM
namespace Go.Proofs.Ytjpejclfppbboaa
set_option linter.unusedVariables false
def FAR : Int := 1152921504606846976
/-- How far each node is; by which arc; (told besides: when it was last made nearer, in which round). -/
structure BS where
 far : Nat → Int
 by_ : Nat → Int
 tm : Nat → Nat
 rd : Nat → Nat
 clk : Nat
def BS.start (f : Nat) : BS := ⟨fun v => if v = f then 0 else FAR, fun _ => -1, fun _ => 0, fun _ => 0, 1⟩
def goes (a : ArcV) (s : BS) : Prop := s.far a.fr.toNat < FAR ∧ s.far a.fr.toNat + a.wt < s.far a.to.toNat
instance (a : ArcV) (s : BS) : Decidable (goes a s) := by unfold goes; infer_instance
end Go.Proofs.Ytjpejclfppbboaa
