/-
  No cell of these rows narrows 'for every input' (looked for: loops, veiled, ifaces, maps, wideKeys, modest, calm, conditions, laid).
  DERIVED. THE GIVEN ROWS OF THIS SEAT. 8 by the template 'for every input the law returns true; each argument reads behind the call as it read before'; 0 by the template 'total and deterministic' (their statements: YthdjmljoiflkjaaTotals.lean).
  GIVEN WITH THE SEED: the statements are not yours to turn. If you find one false, say at which input.
  Laid BY PROGRAM, IN A SANDBOX (cutbox-rows.mjs): the forced cells as the released guide's own fill.sh prints them over the translation d26b306fc3c0ce58… (all of the seat's roots in one cut). By AI agents, Wed Nov 11 2026. No macro, syntax, notation, axiom, sorry.
-/
import Derived.Test.YthdjmljoiflkjaaChecked
import GoSem.Claim
import GoSem.ClaimJoined
import GoSem.ClaimMapViews
import Derived.JoinedTies
import Derived.KernelRfl
namespace Go.Proofs.Ythdjmljoiflkjaa
/- THE CELL 'sum', in the pinned program and in every row, IS THE sha256 OF THE DUMP (.gsa) THAT YthdjmljoiflkjaaProg.lean LOADS. Nothing in Lean hashes anything: it is a label: what it is worth is what the hold of that sum in a sandbox is worth. -/
noncomputable def Try.pinned : Pinned := { name := "ythdjmljoiflkjaa", sum := "d26b306fc3c0ce58d3e53329079ddee9a01cbac14dafc253747d81b935b0385b", checked := Try.checked }
namespace Rows
def none {H : Type} : Left H := { results := [], args := [] }

/-- 'wharfagelaw25.DicePicks': WHATEVER THE INPUT: true; the input reads as it did. -/
def dicePicksSpec : ChangeSpec := { name := "dicePicks", fn := fun _ => fun
  | [d1, d2] => { results := [.lit (.bool true)], args := [d1, d2] }
  | _ => none }
def dicePicksRow : OpenClaim := { program := "ythdjmljoiflkjaa", sum := "d26b306fc3c0ce58d3e53329079ddee9a01cbac14dafc253747d81b935b0385b", func := "wharfage/wharfagelaw25.DicePicks", spec := "dicePicks", unfollowed := true, recurses := true, apart := false }
def DicePicksSaid : Prop := dicePicksRow.holds Try.pinned (OpenSpec.ofChange dicePicksSpec)

/-- ITS FALSE NEIGHBOUR: 'it returns false'. Refute it at one input. -/
def dicePicksWrong : ChangeSpec := { name := "dicePicks", fn := fun _ => fun
  | [d1, d2] => { results := [.lit (.bool false)], args := [d1, d2] }
  | _ => none }
def DicePicksWrongFalsely : Prop := dicePicksRow.holds Try.pinned (OpenSpec.ofChange dicePicksWrong)

/-- 'wharfagelaw25.DiceThrows': WHATEVER THE INPUT: true; the input reads as it did. -/
def diceThrowsSpec : ChangeSpec := { name := "diceThrows", fn := fun _ => fun
  | [d1, d2] => { results := [.lit (.bool true)], args := [d1, d2] }
  | _ => none }
def diceThrowsRow : OpenClaim := { program := "ythdjmljoiflkjaa", sum := "d26b306fc3c0ce58d3e53329079ddee9a01cbac14dafc253747d81b935b0385b", func := "wharfage/wharfagelaw25.DiceThrows", spec := "diceThrows", unfollowed := true, recurses := true, apart := false }
def DiceThrowsSaid : Prop := diceThrowsRow.holds Try.pinned (OpenSpec.ofChange diceThrowsSpec)

/-- ITS FALSE NEIGHBOUR: 'it returns false'. Refute it at one input. -/
def diceThrowsWrong : ChangeSpec := { name := "diceThrows", fn := fun _ => fun
  | [d1, d2] => { results := [.lit (.bool false)], args := [d1, d2] }
  | _ => none }
def DiceThrowsWrongFalsely : Prop := diceThrowsRow.holds Try.pinned (OpenSpec.ofChange diceThrowsWrong)

/-- 'wharfagelaw25.DiceWithin': WHATEVER THE INPUT: true; the input reads as it did. -/
def diceWithinSpec : ChangeSpec := { name := "diceWithin", fn := fun _ => fun
  | [d1, d2, d3, d4] => { results := [.lit (.bool true)], args := [d1, d2, d3, d4] }
  | _ => none }
def diceWithinRow : OpenClaim := { program := "ythdjmljoiflkjaa", sum := "d26b306fc3c0ce58d3e53329079ddee9a01cbac14dafc253747d81b935b0385b", func := "wharfage/wharfagelaw25.DiceWithin", spec := "diceWithin", unfollowed := true, recurses := true, apart := false }
def DiceWithinSaid : Prop := diceWithinRow.holds Try.pinned (OpenSpec.ofChange diceWithinSpec)

/-- ITS FALSE NEIGHBOUR: 'it returns false'. Refute it at one input. -/
def diceWithinWrong : ChangeSpec := { name := "diceWithin", fn := fun _ => fun
  | [d1, d2, d3, d4] => { results := [.lit (.bool false)], args := [d1, d2, d3, d4] }
  | _ => none }
def DiceWithinWrongFalsely : Prop := diceWithinRow.holds Try.pinned (OpenSpec.ofChange diceWithinWrong)

/-- 'wharfagelaw25.DiceChecks': WHATEVER THE INPUT: true; the input reads as it did. -/
def diceChecksSpec : ChangeSpec := { name := "diceChecks", fn := fun _ => fun
  | [d1, d2] => { results := [.lit (.bool true)], args := [d1, d2] }
  | _ => none }
def diceChecksRow : OpenClaim := { program := "ythdjmljoiflkjaa", sum := "d26b306fc3c0ce58d3e53329079ddee9a01cbac14dafc253747d81b935b0385b", func := "wharfage/wharfagelaw25.DiceChecks", spec := "diceChecks", unfollowed := true, recurses := true, apart := false }
def DiceChecksSaid : Prop := diceChecksRow.holds Try.pinned (OpenSpec.ofChange diceChecksSpec)

/-- ITS FALSE NEIGHBOUR: 'it returns false'. Refute it at one input. -/
def diceChecksWrong : ChangeSpec := { name := "diceChecks", fn := fun _ => fun
  | [d1, d2] => { results := [.lit (.bool false)], args := [d1, d2] }
  | _ => none }
def DiceChecksWrongFalsely : Prop := diceChecksRow.holds Try.pinned (OpenSpec.ofChange diceChecksWrong)

/-- 'wharfagelaw06.GraphChecks': WHATEVER THE INPUT: true; the input reads as it did. -/
def graphChecksSpec : ChangeSpec := { name := "graphChecks", fn := fun _ => fun
  | [d1, d2] => { results := [.lit (.bool true)], args := [d1, d2] }
  | _ => none }
def graphChecksRow : OpenClaim := { program := "ythdjmljoiflkjaa", sum := "d26b306fc3c0ce58d3e53329079ddee9a01cbac14dafc253747d81b935b0385b", func := "wharfage/wharfagelaw06.GraphChecks", spec := "graphChecks", apart := false }
def GraphChecksSaid : Prop := graphChecksRow.holds Try.pinned (OpenSpec.ofChange graphChecksSpec)

/-- ITS FALSE NEIGHBOUR: 'it returns false'. Refute it at one input. -/
def graphChecksWrong : ChangeSpec := { name := "graphChecks", fn := fun _ => fun
  | [d1, d2] => { results := [.lit (.bool false)], args := [d1, d2] }
  | _ => none }
def GraphChecksWrongFalsely : Prop := graphChecksRow.holds Try.pinned (OpenSpec.ofChange graphChecksWrong)

/-- 'wharfagelaw06.GraphNone': WHATEVER THE INPUT: true; the input reads as it did. -/
def graphNoneSpec : ChangeSpec := { name := "graphNone", fn := fun _ => fun
  | [d1, d2] => { results := [.lit (.bool true)], args := [d1, d2] }
  | _ => none }
def graphNoneRow : OpenClaim := { program := "ythdjmljoiflkjaa", sum := "d26b306fc3c0ce58d3e53329079ddee9a01cbac14dafc253747d81b935b0385b", func := "wharfage/wharfagelaw06.GraphNone", spec := "graphNone", apart := false }
def GraphNoneSaid : Prop := graphNoneRow.holds Try.pinned (OpenSpec.ofChange graphNoneSpec)

/-- ITS FALSE NEIGHBOUR: 'it returns false'. Refute it at one input. -/
def graphNoneWrong : ChangeSpec := { name := "graphNone", fn := fun _ => fun
  | [d1, d2] => { results := [.lit (.bool false)], args := [d1, d2] }
  | _ => none }
def GraphNoneWrongFalsely : Prop := graphNoneRow.holds Try.pinned (OpenSpec.ofChange graphNoneWrong)

/-- 'wharfagelaw06.GraphReaches': WHATEVER THE INPUT: true; the input reads as it did. -/
def graphReachesSpec : ChangeSpec := { name := "graphReaches", fn := fun _ => fun
  | [d1, d2, d3] => { results := [.lit (.bool true)], args := [d1, d2, d3] }
  | _ => none }
def graphReachesRow : OpenClaim := { program := "ythdjmljoiflkjaa", sum := "d26b306fc3c0ce58d3e53329079ddee9a01cbac14dafc253747d81b935b0385b", func := "wharfage/wharfagelaw06.GraphReaches", spec := "graphReaches", apart := false }
def GraphReachesSaid : Prop := graphReachesRow.holds Try.pinned (OpenSpec.ofChange graphReachesSpec)

/-- ITS FALSE NEIGHBOUR: 'it returns false'. Refute it at one input. -/
def graphReachesWrong : ChangeSpec := { name := "graphReaches", fn := fun _ => fun
  | [d1, d2, d3] => { results := [.lit (.bool false)], args := [d1, d2, d3] }
  | _ => none }
def GraphReachesWrongFalsely : Prop := graphReachesRow.holds Try.pinned (OpenSpec.ofChange graphReachesWrong)

/-- 'wharfagelaw06.GraphOuts': WHATEVER THE INPUT: true; the input reads as it did. -/
def graphOutsSpec : ChangeSpec := { name := "graphOuts", fn := fun _ => fun
  | [d1, d2] => { results := [.lit (.bool true)], args := [d1, d2] }
  | _ => none }
def graphOutsRow : OpenClaim := { program := "ythdjmljoiflkjaa", sum := "d26b306fc3c0ce58d3e53329079ddee9a01cbac14dafc253747d81b935b0385b", func := "wharfage/wharfagelaw06.GraphOuts", spec := "graphOuts", apart := false }
def GraphOutsSaid : Prop := graphOutsRow.holds Try.pinned (OpenSpec.ofChange graphOutsSpec)

/-- ITS FALSE NEIGHBOUR: 'it returns false'. Refute it at one input. -/
def graphOutsWrong : ChangeSpec := { name := "graphOuts", fn := fun _ => fun
  | [d1, d2] => { results := [.lit (.bool false)], args := [d1, d2] }
  | _ => none }
def GraphOutsWrongFalsely : Prop := graphOutsRow.holds Try.pinned (OpenSpec.ofChange graphOutsWrong)

/- THE SECOND FORM. 'bulk': how many values and letters a reading holds, each counted each time it is reached (what is shared counts as often as it is met; a slice's spare places count too). A statement '..UptoSaid' is the law's where the arguments, and the package variables that the reading takes, are together of bulk at most 1048576: NARROWER than '..Said'. Prove '..Said' where nothing that the law and all that it calls make is longer than what came in: it says more and counts as full. Else prove '..UptoSaid'. A law counts once. -/
mutual
def uptoBulk {H : Type} : DataW H → Nat
  | .lit (.string bytes) => bytes.length + 1
  | .lit _ => 1
  | .nil => 1
  | .ptr d => uptoBulk d + 1
  | .slice elems spare => uptoBulkAll elems + uptoBulkAll spare + 1
  | .agg parts => uptoBulkAll parts + 1
  | .iface _ d => uptoBulk d + 1
  | .map entries => uptoBulkEntries entries + 1
  | .held _ => 1
def uptoBulkAll {H : Type} : List (DataW H) → Nat
  | [] => 0
  | d :: r => uptoBulk d + uptoBulkAll r
def uptoBulkEntries {H : Type} : List (Lit × DataW H) → Nat
  | [] => 0
  | x :: r => uptoBulkEntry x + uptoBulkEntries r
def uptoBulkEntry {H : Type} : Lit × DataW H → Nat
  | (.string bytes, d) => bytes.length + uptoBulk d + 1
  | (_, d) => uptoBulk d + 1
 end
def uptoSmall : (H : Type) → List (DataW H) → Bool := fun _ ds => decide (uptoBulkAll ds ≤ 1048576)
def OpenSpec.upto (s : _root_.Go.ChangeSpec) : _root_.Go.OpenSpec := { _root_.Go.OpenSpec.ofChange s with cond := some uptoSmall }

/-- 'wharfagelaw25.DicePicks', WHERE WHAT IT READS IS OF BULK AT MOST 1048576: true; the input reads as it did. -/
def dicePicksUptoRow : OpenClaim := { program := "ythdjmljoiflkjaa", sum := "d26b306fc3c0ce58d3e53329079ddee9a01cbac14dafc253747d81b935b0385b", func := "wharfage/wharfagelaw25.DicePicks", spec := "dicePicks", unfollowed := true, recurses := true, apart := false, narrowed := true }
def DicePicksUptoSaid : Prop := dicePicksUptoRow.holds Try.pinned (OpenSpec.upto dicePicksSpec)

/-- 'wharfagelaw25.DiceThrows', WHERE WHAT IT READS IS OF BULK AT MOST 1048576: true; the input reads as it did. -/
def diceThrowsUptoRow : OpenClaim := { program := "ythdjmljoiflkjaa", sum := "d26b306fc3c0ce58d3e53329079ddee9a01cbac14dafc253747d81b935b0385b", func := "wharfage/wharfagelaw25.DiceThrows", spec := "diceThrows", unfollowed := true, recurses := true, apart := false, narrowed := true }
def DiceThrowsUptoSaid : Prop := diceThrowsUptoRow.holds Try.pinned (OpenSpec.upto diceThrowsSpec)

/-- 'wharfagelaw25.DiceWithin', WHERE WHAT IT READS IS OF BULK AT MOST 1048576: true; the input reads as it did. -/
def diceWithinUptoRow : OpenClaim := { program := "ythdjmljoiflkjaa", sum := "d26b306fc3c0ce58d3e53329079ddee9a01cbac14dafc253747d81b935b0385b", func := "wharfage/wharfagelaw25.DiceWithin", spec := "diceWithin", unfollowed := true, recurses := true, apart := false, narrowed := true }
def DiceWithinUptoSaid : Prop := diceWithinUptoRow.holds Try.pinned (OpenSpec.upto diceWithinSpec)

/-- 'wharfagelaw25.DiceChecks', WHERE WHAT IT READS IS OF BULK AT MOST 1048576: true; the input reads as it did. -/
def diceChecksUptoRow : OpenClaim := { program := "ythdjmljoiflkjaa", sum := "d26b306fc3c0ce58d3e53329079ddee9a01cbac14dafc253747d81b935b0385b", func := "wharfage/wharfagelaw25.DiceChecks", spec := "diceChecks", unfollowed := true, recurses := true, apart := false, narrowed := true }
def DiceChecksUptoSaid : Prop := diceChecksUptoRow.holds Try.pinned (OpenSpec.upto diceChecksSpec)

/-- 'wharfagelaw06.GraphChecks', WHERE WHAT IT READS IS OF BULK AT MOST 1048576: true; the input reads as it did. -/
def graphChecksUptoRow : OpenClaim := { program := "ythdjmljoiflkjaa", sum := "d26b306fc3c0ce58d3e53329079ddee9a01cbac14dafc253747d81b935b0385b", func := "wharfage/wharfagelaw06.GraphChecks", spec := "graphChecks", apart := false, narrowed := true }
def GraphChecksUptoSaid : Prop := graphChecksUptoRow.holds Try.pinned (OpenSpec.upto graphChecksSpec)

/-- 'wharfagelaw06.GraphNone', WHERE WHAT IT READS IS OF BULK AT MOST 1048576: true; the input reads as it did. -/
def graphNoneUptoRow : OpenClaim := { program := "ythdjmljoiflkjaa", sum := "d26b306fc3c0ce58d3e53329079ddee9a01cbac14dafc253747d81b935b0385b", func := "wharfage/wharfagelaw06.GraphNone", spec := "graphNone", apart := false, narrowed := true }
def GraphNoneUptoSaid : Prop := graphNoneUptoRow.holds Try.pinned (OpenSpec.upto graphNoneSpec)

/-- 'wharfagelaw06.GraphReaches', WHERE WHAT IT READS IS OF BULK AT MOST 1048576: true; the input reads as it did. -/
def graphReachesUptoRow : OpenClaim := { program := "ythdjmljoiflkjaa", sum := "d26b306fc3c0ce58d3e53329079ddee9a01cbac14dafc253747d81b935b0385b", func := "wharfage/wharfagelaw06.GraphReaches", spec := "graphReaches", apart := false, narrowed := true }
def GraphReachesUptoSaid : Prop := graphReachesUptoRow.holds Try.pinned (OpenSpec.upto graphReachesSpec)

/-- 'wharfagelaw06.GraphOuts', WHERE WHAT IT READS IS OF BULK AT MOST 1048576: true; the input reads as it did. -/
def graphOutsUptoRow : OpenClaim := { program := "ythdjmljoiflkjaa", sum := "d26b306fc3c0ce58d3e53329079ddee9a01cbac14dafc253747d81b935b0385b", func := "wharfage/wharfagelaw06.GraphOuts", spec := "graphOuts", apart := false, narrowed := true }
def GraphOutsUptoSaid : Prop := graphOutsUptoRow.holds Try.pinned (OpenSpec.upto graphOutsSpec)

end Rows
end Go.Proofs.Ythdjmljoiflkjaa
