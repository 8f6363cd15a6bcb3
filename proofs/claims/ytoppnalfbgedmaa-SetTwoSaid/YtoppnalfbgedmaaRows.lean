/-
  No cell of these rows narrows 'for every input' (looked for: loops, veiled, ifaces, maps, wideKeys, modest, calm, conditions, laid).
  DERIVED. THE GIVEN ROWS OF THIS SEAT. 3 by the template 'for every input the law returns true; each argument reads behind the call as it read before'; 0 by the template 'total and deterministic' (their statements: YtoppnalfbgedmaaTotals.lean).
  GIVEN WITH THE SEED: the statements are not yours to turn. If you find one false, say at which input.
  Laid BY PROGRAM, IN A SANDBOX (cutbox-rows.mjs): the forced cells as the released guide's own fill.sh prints them over the translation 1ca180d6a536ffe2… (all of the seat's roots in one cut). By AI agents, Wed Nov 11 2026. No macro, syntax, notation, axiom, sorry.
-/
import Derived.Test.YtoppnalfbgedmaaChecked
import GoSem.Claim
import GoSem.ClaimJoined
import GoSem.ClaimMapViews
import Derived.JoinedTies
import Derived.KernelRfl
namespace Go.Proofs.Ytoppnalfbgedmaa
/- THE CELL 'sum', in the pinned program and in every row, IS THE sha256 OF THE DUMP (.gsa) THAT YtoppnalfbgedmaaProg.lean LOADS. Nothing in Lean hashes anything: it is a label: what it is worth is what the hold of that sum in a sandbox is worth. -/
noncomputable def Try.pinned : Pinned := { name := "ytoppnalfbgedmaa", sum := "1ca180d6a536ffe2cccdb244a3ecbd2658fd802a2a0de6eb63850363516dcdd0", checked := Try.checked }
namespace Rows
def none {H : Type} : Left H := { results := [], args := [] }

/-- 'wharfagelaw03.SetMakes': WHATEVER THE INPUT: true; the input reads as it did. -/
def setMakesSpec : ChangeSpec := { name := "setMakes", fn := fun _ => fun
  | [d] => { results := [.lit (.bool true)], args := [d] }
  | _ => none }
def setMakesRow : OpenClaim := { program := "ytoppnalfbgedmaa", sum := "1ca180d6a536ffe2cccdb244a3ecbd2658fd802a2a0de6eb63850363516dcdd0", func := "wharfage/wharfagelaw03.SetMakes", spec := "setMakes", apart := false }
def SetMakesSaid : Prop := setMakesRow.holds Try.pinned (OpenSpec.ofChange setMakesSpec)

/-- ITS FALSE NEIGHBOUR: 'it returns false'. Refute it at one input. -/
def setMakesWrong : ChangeSpec := { name := "setMakes", fn := fun _ => fun
  | [d] => { results := [.lit (.bool false)], args := [d] }
  | _ => none }
def SetMakesWrongFalsely : Prop := setMakesRow.holds Try.pinned (OpenSpec.ofChange setMakesWrong)

/-- 'wharfagelaw03.SetTwo': WHATEVER THE INPUT: true; the input reads as it did. -/
def setTwoSpec : ChangeSpec := { name := "setTwo", fn := fun _ => fun
  | [d1, d2] => { results := [.lit (.bool true)], args := [d1, d2] }
  | _ => none }
def setTwoRow : OpenClaim := { program := "ytoppnalfbgedmaa", sum := "1ca180d6a536ffe2cccdb244a3ecbd2658fd802a2a0de6eb63850363516dcdd0", func := "wharfage/wharfagelaw03.SetTwo", spec := "setTwo", apart := false }
def SetTwoSaid : Prop := setTwoRow.holds Try.pinned (OpenSpec.ofChange setTwoSpec)

/-- ITS FALSE NEIGHBOUR: 'it returns false'. Refute it at one input. -/
def setTwoWrong : ChangeSpec := { name := "setTwo", fn := fun _ => fun
  | [d1, d2] => { results := [.lit (.bool false)], args := [d1, d2] }
  | _ => none }
def SetTwoWrongFalsely : Prop := setTwoRow.holds Try.pinned (OpenSpec.ofChange setTwoWrong)

/-- 'wharfagelaw03.SetChanges': WHATEVER THE INPUT: true; the input reads as it did. -/
def setChangesSpec : ChangeSpec := { name := "setChanges", fn := fun _ => fun
  | [d1, d2] => { results := [.lit (.bool true)], args := [d1, d2] }
  | _ => none }
def setChangesRow : OpenClaim := { program := "ytoppnalfbgedmaa", sum := "1ca180d6a536ffe2cccdb244a3ecbd2658fd802a2a0de6eb63850363516dcdd0", func := "wharfage/wharfagelaw03.SetChanges", spec := "setChanges", apart := false }
def SetChangesSaid : Prop := setChangesRow.holds Try.pinned (OpenSpec.ofChange setChangesSpec)

/-- ITS FALSE NEIGHBOUR: 'it returns false'. Refute it at one input. -/
def setChangesWrong : ChangeSpec := { name := "setChanges", fn := fun _ => fun
  | [d1, d2] => { results := [.lit (.bool false)], args := [d1, d2] }
  | _ => none }
def SetChangesWrongFalsely : Prop := setChangesRow.holds Try.pinned (OpenSpec.ofChange setChangesWrong)

/- THE SECOND FORM. 'bulk': how many values and letters a reading holds, each counted each time it is reached (what is shared counts as often as it is met; a slice's spare places count too). A statement '..UptoSaid' is the law's where the arguments, and the package variables that the reading takes, are together of bulk at most 1048576: NARROWER than '..Said'. Prove '..Said' where nothing that the law and all that it calls make is longer than what came in: it says more and counts as full. Else prove '..UptoSaid'. A law counts once. -/
mutual
def uptoBulk {H : Type} : DataW H → Nat
  | .lit (.string bytes) => bytes.length + 1
  | .lit _ => 1
  | .nil => 1
  | .ptr d => uptoBulk d + 1
  | .slice elems spare => uptoBulkAll elems + uptoBulkAll spare + 1
  | .agg parts => uptoBulkAll parts + 1
  | .iface _ d => uptoBulk d + 1
  | .map entries => uptoBulkEntries entries + 1
  | .held _ => 1
def uptoBulkAll {H : Type} : List (DataW H) → Nat
  | [] => 0
  | d :: r => uptoBulk d + uptoBulkAll r
def uptoBulkEntries {H : Type} : List (Lit × DataW H) → Nat
  | [] => 0
  | x :: r => uptoBulkEntry x + uptoBulkEntries r
def uptoBulkEntry {H : Type} : Lit × DataW H → Nat
  | (.string bytes, d) => bytes.length + uptoBulk d + 1
  | (_, d) => uptoBulk d + 1
 end
def uptoSmall : (H : Type) → List (DataW H) → Bool := fun _ ds => decide (uptoBulkAll ds ≤ 1048576)
def OpenSpec.upto (s : _root_.Go.ChangeSpec) : _root_.Go.OpenSpec := { _root_.Go.OpenSpec.ofChange s with cond := some uptoSmall }

/-- 'wharfagelaw03.SetMakes', WHERE WHAT IT READS IS OF BULK AT MOST 1048576: true; the input reads as it did. -/
def setMakesUptoRow : OpenClaim := { program := "ytoppnalfbgedmaa", sum := "1ca180d6a536ffe2cccdb244a3ecbd2658fd802a2a0de6eb63850363516dcdd0", func := "wharfage/wharfagelaw03.SetMakes", spec := "setMakes", apart := false, narrowed := true }
def SetMakesUptoSaid : Prop := setMakesUptoRow.holds Try.pinned (OpenSpec.upto setMakesSpec)

/-- 'wharfagelaw03.SetTwo', WHERE WHAT IT READS IS OF BULK AT MOST 1048576: true; the input reads as it did. -/
def setTwoUptoRow : OpenClaim := { program := "ytoppnalfbgedmaa", sum := "1ca180d6a536ffe2cccdb244a3ecbd2658fd802a2a0de6eb63850363516dcdd0", func := "wharfage/wharfagelaw03.SetTwo", spec := "setTwo", apart := false, narrowed := true }
def SetTwoUptoSaid : Prop := setTwoUptoRow.holds Try.pinned (OpenSpec.upto setTwoSpec)

/-- 'wharfagelaw03.SetChanges', WHERE WHAT IT READS IS OF BULK AT MOST 1048576: true; the input reads as it did. -/
def setChangesUptoRow : OpenClaim := { program := "ytoppnalfbgedmaa", sum := "1ca180d6a536ffe2cccdb244a3ecbd2658fd802a2a0de6eb63850363516dcdd0", func := "wharfage/wharfagelaw03.SetChanges", spec := "setChanges", apart := false, narrowed := true }
def SetChangesUptoSaid : Prop := setChangesUptoRow.holds Try.pinned (OpenSpec.upto setChangesSpec)

end Rows
end Go.Proofs.Ytoppnalfbgedmaa
