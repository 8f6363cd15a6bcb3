/-
  No cell of these rows narrows 'for every input' (looked for: loops, veiled, ifaces, maps, wideKeys, modest, calm, conditions, laid).
  DERIVED. THE GIVEN ROWS OF THIS SEAT. 10 by the template 'for every input the law returns true; each argument reads behind the call as it read before'; 0 by the template 'total and deterministic' (their statements: YtgnmbmlpfjlbiaaTotals.lean).
  GIVEN WITH THE SEED: the statements are not yours to turn. If you find one false, say at which input.
  Laid BY PROGRAM, IN A SANDBOX (cutbox-rows.mjs): the forced cells as the released guide's own fill.sh prints them over the translation 34022f5a001300ca… (all of the seat's roots in one cut). By AI agents, Wed Nov 11 2026. No macro, syntax, notation, axiom, sorry.
-/
import Derived.Test.YtgnmbmlpfjlbiaaChecked
import GoSem.Claim
import GoSem.ClaimJoined
import GoSem.ClaimMapViews
import Derived.JoinedTies
import Derived.KernelRfl
namespace Go.Proofs.Ytgnmbmlpfjlbiaa
/- THE CELL 'sum', in the pinned program and in every row, IS THE sha256 OF THE DUMP (.gsa) THAT YtgnmbmlpfjlbiaaProg.lean LOADS. Nothing in Lean hashes anything: it is a label: what it is worth is what the hold of that sum in a sandbox is worth. -/
noncomputable def Try.pinned : Pinned := { name := "ytgnmbmlpfjlbiaa", sum := "34022f5a001300cadf58d18d2aa951d1bfc88a9e94902415ce35927878d20085", checked := Try.checked }
namespace Rows
def none {H : Type} : Left H := { results := [], args := [] }

/-- 'wharfagelaw09.FlowMosts': WHATEVER THE INPUT: true; the input reads as it did. -/
def flowMostsSpec : ChangeSpec := { name := "flowMosts", fn := fun _ => fun
  | [d1, d2, d3, d4] => { results := [.lit (.bool true)], args := [d1, d2, d3, d4] }
  | _ => none }
def flowMostsRow : OpenClaim := { program := "ytgnmbmlpfjlbiaa", sum := "34022f5a001300cadf58d18d2aa951d1bfc88a9e94902415ce35927878d20085", func := "wharfage/wharfagelaw09.FlowMosts", spec := "flowMosts", apart := false }
def FlowMostsSaid : Prop := flowMostsRow.holds Try.pinned (OpenSpec.ofChange flowMostsSpec)

/-- ITS FALSE NEIGHBOUR: 'it returns false'. Refute it at one input. -/
def flowMostsWrong : ChangeSpec := { name := "flowMosts", fn := fun _ => fun
  | [d1, d2, d3, d4] => { results := [.lit (.bool false)], args := [d1, d2, d3, d4] }
  | _ => none }
def FlowMostsWrongFalsely : Prop := flowMostsRow.holds Try.pinned (OpenSpec.ofChange flowMostsWrong)

/-- 'wharfagelaw09.FlowCuts': WHATEVER THE INPUT: true; the input reads as it did. -/
def flowCutsSpec : ChangeSpec := { name := "flowCuts", fn := fun _ => fun
  | [d1, d2, d3, d4, d5] => { results := [.lit (.bool true)], args := [d1, d2, d3, d4, d5] }
  | _ => none }
def flowCutsRow : OpenClaim := { program := "ytgnmbmlpfjlbiaa", sum := "34022f5a001300cadf58d18d2aa951d1bfc88a9e94902415ce35927878d20085", func := "wharfage/wharfagelaw09.FlowCuts", spec := "flowCuts", apart := false }
def FlowCutsSaid : Prop := flowCutsRow.holds Try.pinned (OpenSpec.ofChange flowCutsSpec)

/-- ITS FALSE NEIGHBOUR: 'it returns false'. Refute it at one input. -/
def flowCutsWrong : ChangeSpec := { name := "flowCuts", fn := fun _ => fun
  | [d1, d2, d3, d4, d5] => { results := [.lit (.bool false)], args := [d1, d2, d3, d4, d5] }
  | _ => none }
def FlowCutsWrongFalsely : Prop := flowCutsRow.holds Try.pinned (OpenSpec.ofChange flowCutsWrong)

/-- 'wharfagelaw09.FlowTurned': WHATEVER THE INPUT: true; the input reads as it did. -/
def flowTurnedSpec : ChangeSpec := { name := "flowTurned", fn := fun _ => fun
  | [d1, d2, d3, d4] => { results := [.lit (.bool true)], args := [d1, d2, d3, d4] }
  | _ => none }
def flowTurnedRow : OpenClaim := { program := "ytgnmbmlpfjlbiaa", sum := "34022f5a001300cadf58d18d2aa951d1bfc88a9e94902415ce35927878d20085", func := "wharfage/wharfagelaw09.FlowTurned", spec := "flowTurned", apart := false }
def FlowTurnedSaid : Prop := flowTurnedRow.holds Try.pinned (OpenSpec.ofChange flowTurnedSpec)

/-- ITS FALSE NEIGHBOUR: 'it returns false'. Refute it at one input. -/
def flowTurnedWrong : ChangeSpec := { name := "flowTurned", fn := fun _ => fun
  | [d1, d2, d3, d4] => { results := [.lit (.bool false)], args := [d1, d2, d3, d4] }
  | _ => none }
def FlowTurnedWrongFalsely : Prop := flowTurnedRow.holds Try.pinned (OpenSpec.ofChange flowTurnedWrong)

/-- 'wharfagelaw09.FlowRights': WHATEVER THE INPUT: true; the input reads as it did. -/
def flowRightsSpec : ChangeSpec := { name := "flowRights", fn := fun _ => fun
  | [d1, d2, d3, d4, d5, d6] => { results := [.lit (.bool true)], args := [d1, d2, d3, d4, d5, d6] }
  | _ => none }
def flowRightsRow : OpenClaim := { program := "ytgnmbmlpfjlbiaa", sum := "34022f5a001300cadf58d18d2aa951d1bfc88a9e94902415ce35927878d20085", func := "wharfage/wharfagelaw09.FlowRights", spec := "flowRights", unfollowed := true, recurses := true, apart := false }
def FlowRightsSaid : Prop := flowRightsRow.holds Try.pinned (OpenSpec.ofChange flowRightsSpec)

/-- ITS FALSE NEIGHBOUR: 'it returns false'. Refute it at one input. -/
def flowRightsWrong : ChangeSpec := { name := "flowRights", fn := fun _ => fun
  | [d1, d2, d3, d4, d5, d6] => { results := [.lit (.bool false)], args := [d1, d2, d3, d4, d5, d6] }
  | _ => none }
def FlowRightsWrongFalsely : Prop := flowRightsRow.holds Try.pinned (OpenSpec.ofChange flowRightsWrong)

/-- 'wharfagelaw09.FlowErrors': WHATEVER THE INPUT: true; the input reads as it did. -/
def flowErrorsSpec : ChangeSpec := { name := "flowErrors", fn := fun _ => fun
  | [d1, d2, d3, d4] => { results := [.lit (.bool true)], args := [d1, d2, d3, d4] }
  | _ => none }
def flowErrorsRow : OpenClaim := { program := "ytgnmbmlpfjlbiaa", sum := "34022f5a001300cadf58d18d2aa951d1bfc88a9e94902415ce35927878d20085", func := "wharfage/wharfagelaw09.FlowErrors", spec := "flowErrors", unfollowed := true, recurses := true, apart := false }
def FlowErrorsSaid : Prop := flowErrorsRow.holds Try.pinned (OpenSpec.ofChange flowErrorsSpec)

/-- ITS FALSE NEIGHBOUR: 'it returns false'. Refute it at one input. -/
def flowErrorsWrong : ChangeSpec := { name := "flowErrors", fn := fun _ => fun
  | [d1, d2, d3, d4] => { results := [.lit (.bool false)], args := [d1, d2, d3, d4] }
  | _ => none }
def FlowErrorsWrongFalsely : Prop := flowErrorsRow.holds Try.pinned (OpenSpec.ofChange flowErrorsWrong)

/-- 'wharfagelaw10.LeastMore': WHATEVER THE INPUT: true; the input reads as it did. -/
def leastMoreSpec : ChangeSpec := { name := "leastMore", fn := fun _ => fun
  | [d1, d2, d3, d4] => { results := [.lit (.bool true)], args := [d1, d2, d3, d4] }
  | _ => none }
def leastMoreRow : OpenClaim := { program := "ytgnmbmlpfjlbiaa", sum := "34022f5a001300cadf58d18d2aa951d1bfc88a9e94902415ce35927878d20085", func := "wharfage/wharfagelaw10.LeastMore", spec := "leastMore", unfollowed := true, recurses := true, apart := false }
def LeastMoreSaid : Prop := leastMoreRow.holds Try.pinned (OpenSpec.ofChange leastMoreSpec)

/-- ITS FALSE NEIGHBOUR: 'it returns false'. Refute it at one input. -/
def leastMoreWrong : ChangeSpec := { name := "leastMore", fn := fun _ => fun
  | [d1, d2, d3, d4] => { results := [.lit (.bool false)], args := [d1, d2, d3, d4] }
  | _ => none }
def LeastMoreWrongFalsely : Prop := leastMoreRow.holds Try.pinned (OpenSpec.ofChange leastMoreWrong)

/-- 'wharfagelaw10.LeastRights': WHATEVER THE INPUT: true; the input reads as it did. -/
def leastRightsSpec : ChangeSpec := { name := "leastRights", fn := fun _ => fun
  | [d1, d2, d3, d4, d5, d6, d7, d8, d9] => { results := [.lit (.bool true)], args := [d1, d2, d3, d4, d5, d6, d7, d8, d9] }
  | _ => none }
def leastRightsRow : OpenClaim := { program := "ytgnmbmlpfjlbiaa", sum := "34022f5a001300cadf58d18d2aa951d1bfc88a9e94902415ce35927878d20085", func := "wharfage/wharfagelaw10.LeastRights", spec := "leastRights", unfollowed := true, recurses := true, apart := false }
def LeastRightsSaid : Prop := leastRightsRow.holds Try.pinned (OpenSpec.ofChange leastRightsSpec)

/-- ITS FALSE NEIGHBOUR: 'it returns false'. Refute it at one input. -/
def leastRightsWrong : ChangeSpec := { name := "leastRights", fn := fun _ => fun
  | [d1, d2, d3, d4, d5, d6, d7, d8, d9] => { results := [.lit (.bool false)], args := [d1, d2, d3, d4, d5, d6, d7, d8, d9] }
  | _ => none }
def LeastRightsWrongFalsely : Prop := leastRightsRow.holds Try.pinned (OpenSpec.ofChange leastRightsWrong)

/-- 'wharfagelaw10.LeastCheap': WHATEVER THE INPUT: true; the input reads as it did. -/
def leastCheapSpec : ChangeSpec := { name := "leastCheap", fn := fun _ => fun
  | [d1, d2, d3, d4, d5, d6] => { results := [.lit (.bool true)], args := [d1, d2, d3, d4, d5, d6] }
  | _ => none }
def leastCheapRow : OpenClaim := { program := "ytgnmbmlpfjlbiaa", sum := "34022f5a001300cadf58d18d2aa951d1bfc88a9e94902415ce35927878d20085", func := "wharfage/wharfagelaw10.LeastCheap", spec := "leastCheap", unfollowed := true, recurses := true, apart := false }
def LeastCheapSaid : Prop := leastCheapRow.holds Try.pinned (OpenSpec.ofChange leastCheapSpec)

/-- ITS FALSE NEIGHBOUR: 'it returns false'. Refute it at one input. -/
def leastCheapWrong : ChangeSpec := { name := "leastCheap", fn := fun _ => fun
  | [d1, d2, d3, d4, d5, d6] => { results := [.lit (.bool false)], args := [d1, d2, d3, d4, d5, d6] }
  | _ => none }
def LeastCheapWrongFalsely : Prop := leastCheapRow.holds Try.pinned (OpenSpec.ofChange leastCheapWrong)

/-- 'wharfagelaw10.LeastFlows': WHATEVER THE INPUT: true; the input reads as it did. -/
def leastFlowsSpec : ChangeSpec := { name := "leastFlows", fn := fun _ => fun
  | [d1, d2, d3, d4, d5] => { results := [.lit (.bool true)], args := [d1, d2, d3, d4, d5] }
  | _ => none }
def leastFlowsRow : OpenClaim := { program := "ytgnmbmlpfjlbiaa", sum := "34022f5a001300cadf58d18d2aa951d1bfc88a9e94902415ce35927878d20085", func := "wharfage/wharfagelaw10.LeastFlows", spec := "leastFlows", unfollowed := true, recurses := true, apart := false }
def LeastFlowsSaid : Prop := leastFlowsRow.holds Try.pinned (OpenSpec.ofChange leastFlowsSpec)

/-- ITS FALSE NEIGHBOUR: 'it returns false'. Refute it at one input. -/
def leastFlowsWrong : ChangeSpec := { name := "leastFlows", fn := fun _ => fun
  | [d1, d2, d3, d4, d5] => { results := [.lit (.bool false)], args := [d1, d2, d3, d4, d5] }
  | _ => none }
def LeastFlowsWrongFalsely : Prop := leastFlowsRow.holds Try.pinned (OpenSpec.ofChange leastFlowsWrong)

/-- 'wharfagelaw10.LeastErrors': WHATEVER THE INPUT: true; the input reads as it did. -/
def leastErrorsSpec : ChangeSpec := { name := "leastErrors", fn := fun _ => fun
  | [d1, d2, d3, d4] => { results := [.lit (.bool true)], args := [d1, d2, d3, d4] }
  | _ => none }
def leastErrorsRow : OpenClaim := { program := "ytgnmbmlpfjlbiaa", sum := "34022f5a001300cadf58d18d2aa951d1bfc88a9e94902415ce35927878d20085", func := "wharfage/wharfagelaw10.LeastErrors", spec := "leastErrors", unfollowed := true, recurses := true, apart := false }
def LeastErrorsSaid : Prop := leastErrorsRow.holds Try.pinned (OpenSpec.ofChange leastErrorsSpec)

/-- ITS FALSE NEIGHBOUR: 'it returns false'. Refute it at one input. -/
def leastErrorsWrong : ChangeSpec := { name := "leastErrors", fn := fun _ => fun
  | [d1, d2, d3, d4] => { results := [.lit (.bool false)], args := [d1, d2, d3, d4] }
  | _ => none }
def LeastErrorsWrongFalsely : Prop := leastErrorsRow.holds Try.pinned (OpenSpec.ofChange leastErrorsWrong)

/- THE SECOND FORM. 'bulk': how many values and letters a reading holds, each counted each time it is reached (what is shared counts as often as it is met; a slice's spare places count too). A statement '..UptoSaid' is the law's where the arguments, and the package variables that the reading takes, are together of bulk at most 1048576: NARROWER than '..Said'. Prove '..Said' where nothing that the law and all that it calls make is longer than what came in: it says more and counts as full. Else prove '..UptoSaid'. A law counts once. -/
mutual
def uptoBulk {H : Type} : DataW H → Nat
  | .lit (.string bytes) => bytes.length + 1
  | .lit _ => 1
  | .nil => 1
  | .ptr d => uptoBulk d + 1
  | .slice elems spare => uptoBulkAll elems + uptoBulkAll spare + 1
  | .agg parts => uptoBulkAll parts + 1
  | .iface _ d => uptoBulk d + 1
  | .map entries => uptoBulkEntries entries + 1
  | .held _ => 1
def uptoBulkAll {H : Type} : List (DataW H) → Nat
  | [] => 0
  | d :: r => uptoBulk d + uptoBulkAll r
def uptoBulkEntries {H : Type} : List (Lit × DataW H) → Nat
  | [] => 0
  | x :: r => uptoBulkEntry x + uptoBulkEntries r
def uptoBulkEntry {H : Type} : Lit × DataW H → Nat
  | (.string bytes, d) => bytes.length + uptoBulk d + 1
  | (_, d) => uptoBulk d + 1
 end
def uptoSmall : (H : Type) → List (DataW H) → Bool := fun _ ds => decide (uptoBulkAll ds ≤ 1048576)
def OpenSpec.upto (s : _root_.Go.ChangeSpec) : _root_.Go.OpenSpec := { _root_.Go.OpenSpec.ofChange s with cond := some uptoSmall }

/-- 'wharfagelaw09.FlowMosts', WHERE WHAT IT READS IS OF BULK AT MOST 1048576: true; the input reads as it did. -/
def flowMostsUptoRow : OpenClaim := { program := "ytgnmbmlpfjlbiaa", sum := "34022f5a001300cadf58d18d2aa951d1bfc88a9e94902415ce35927878d20085", func := "wharfage/wharfagelaw09.FlowMosts", spec := "flowMosts", apart := false, narrowed := true }
def FlowMostsUptoSaid : Prop := flowMostsUptoRow.holds Try.pinned (OpenSpec.upto flowMostsSpec)

/-- 'wharfagelaw09.FlowCuts', WHERE WHAT IT READS IS OF BULK AT MOST 1048576: true; the input reads as it did. -/
def flowCutsUptoRow : OpenClaim := { program := "ytgnmbmlpfjlbiaa", sum := "34022f5a001300cadf58d18d2aa951d1bfc88a9e94902415ce35927878d20085", func := "wharfage/wharfagelaw09.FlowCuts", spec := "flowCuts", apart := false, narrowed := true }
def FlowCutsUptoSaid : Prop := flowCutsUptoRow.holds Try.pinned (OpenSpec.upto flowCutsSpec)

/-- 'wharfagelaw09.FlowTurned', WHERE WHAT IT READS IS OF BULK AT MOST 1048576: true; the input reads as it did. -/
def flowTurnedUptoRow : OpenClaim := { program := "ytgnmbmlpfjlbiaa", sum := "34022f5a001300cadf58d18d2aa951d1bfc88a9e94902415ce35927878d20085", func := "wharfage/wharfagelaw09.FlowTurned", spec := "flowTurned", apart := false, narrowed := true }
def FlowTurnedUptoSaid : Prop := flowTurnedUptoRow.holds Try.pinned (OpenSpec.upto flowTurnedSpec)

/-- 'wharfagelaw09.FlowRights', WHERE WHAT IT READS IS OF BULK AT MOST 1048576: true; the input reads as it did. -/
def flowRightsUptoRow : OpenClaim := { program := "ytgnmbmlpfjlbiaa", sum := "34022f5a001300cadf58d18d2aa951d1bfc88a9e94902415ce35927878d20085", func := "wharfage/wharfagelaw09.FlowRights", spec := "flowRights", unfollowed := true, recurses := true, apart := false, narrowed := true }
def FlowRightsUptoSaid : Prop := flowRightsUptoRow.holds Try.pinned (OpenSpec.upto flowRightsSpec)

/-- 'wharfagelaw09.FlowErrors', WHERE WHAT IT READS IS OF BULK AT MOST 1048576: true; the input reads as it did. -/
def flowErrorsUptoRow : OpenClaim := { program := "ytgnmbmlpfjlbiaa", sum := "34022f5a001300cadf58d18d2aa951d1bfc88a9e94902415ce35927878d20085", func := "wharfage/wharfagelaw09.FlowErrors", spec := "flowErrors", unfollowed := true, recurses := true, apart := false, narrowed := true }
def FlowErrorsUptoSaid : Prop := flowErrorsUptoRow.holds Try.pinned (OpenSpec.upto flowErrorsSpec)

/-- 'wharfagelaw10.LeastMore', WHERE WHAT IT READS IS OF BULK AT MOST 1048576: true; the input reads as it did. -/
def leastMoreUptoRow : OpenClaim := { program := "ytgnmbmlpfjlbiaa", sum := "34022f5a001300cadf58d18d2aa951d1bfc88a9e94902415ce35927878d20085", func := "wharfage/wharfagelaw10.LeastMore", spec := "leastMore", unfollowed := true, recurses := true, apart := false, narrowed := true }
def LeastMoreUptoSaid : Prop := leastMoreUptoRow.holds Try.pinned (OpenSpec.upto leastMoreSpec)

/-- 'wharfagelaw10.LeastRights', WHERE WHAT IT READS IS OF BULK AT MOST 1048576: true; the input reads as it did. -/
def leastRightsUptoRow : OpenClaim := { program := "ytgnmbmlpfjlbiaa", sum := "34022f5a001300cadf58d18d2aa951d1bfc88a9e94902415ce35927878d20085", func := "wharfage/wharfagelaw10.LeastRights", spec := "leastRights", unfollowed := true, recurses := true, apart := false, narrowed := true }
def LeastRightsUptoSaid : Prop := leastRightsUptoRow.holds Try.pinned (OpenSpec.upto leastRightsSpec)

/-- 'wharfagelaw10.LeastCheap', WHERE WHAT IT READS IS OF BULK AT MOST 1048576: true; the input reads as it did. -/
def leastCheapUptoRow : OpenClaim := { program := "ytgnmbmlpfjlbiaa", sum := "34022f5a001300cadf58d18d2aa951d1bfc88a9e94902415ce35927878d20085", func := "wharfage/wharfagelaw10.LeastCheap", spec := "leastCheap", unfollowed := true, recurses := true, apart := false, narrowed := true }
def LeastCheapUptoSaid : Prop := leastCheapUptoRow.holds Try.pinned (OpenSpec.upto leastCheapSpec)

/-- 'wharfagelaw10.LeastFlows', WHERE WHAT IT READS IS OF BULK AT MOST 1048576: true; the input reads as it did. -/
def leastFlowsUptoRow : OpenClaim := { program := "ytgnmbmlpfjlbiaa", sum := "34022f5a001300cadf58d18d2aa951d1bfc88a9e94902415ce35927878d20085", func := "wharfage/wharfagelaw10.LeastFlows", spec := "leastFlows", unfollowed := true, recurses := true, apart := false, narrowed := true }
def LeastFlowsUptoSaid : Prop := leastFlowsUptoRow.holds Try.pinned (OpenSpec.upto leastFlowsSpec)

/-- 'wharfagelaw10.LeastErrors', WHERE WHAT IT READS IS OF BULK AT MOST 1048576: true; the input reads as it did. -/
def leastErrorsUptoRow : OpenClaim := { program := "ytgnmbmlpfjlbiaa", sum := "34022f5a001300cadf58d18d2aa951d1bfc88a9e94902415ce35927878d20085", func := "wharfage/wharfagelaw10.LeastErrors", spec := "leastErrors", unfollowed := true, recurses := true, apart := false, narrowed := true }
def LeastErrorsUptoSaid : Prop := leastErrorsUptoRow.holds Try.pinned (OpenSpec.upto leastErrorsSpec)

end Rows
end Go.Proofs.Ytgnmbmlpfjlbiaa
