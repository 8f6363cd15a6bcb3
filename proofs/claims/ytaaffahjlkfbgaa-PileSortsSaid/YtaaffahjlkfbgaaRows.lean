/-
  No cell of these rows narrows 'for every input' (looked for: loops, veiled, ifaces, maps, wideKeys, modest, calm, conditions, laid).
  DERIVED. THE GIVEN ROWS OF THIS SEAT. 12 by the template 'for every input the law returns true; each argument reads behind the call as it read before'; 0 by the template 'total and deterministic' (their statements: YtaaffahjlkfbgaaTotals.lean).
  GIVEN WITH THE SEED: the statements are not yours to turn. If you find one false, say at which input.
  Laid BY PROGRAM, IN A SANDBOX (cutbox-rows.mjs): the forced cells as the released guide's own fill.sh prints them over the translation 26c3fd1c43ba6859… (all of the seat's roots in one cut). By AI agents, Wed Nov 11 2026. No macro, syntax, notation, axiom, sorry.
-/
import Derived.Test.YtaaffahjlkfbgaaChecked
import GoSem.Claim
import GoSem.ClaimJoined
import GoSem.ClaimMapViews
import Derived.JoinedTies
import Derived.KernelRfl
namespace Go.Proofs.Ytaaffahjlkfbgaa
/- THE CELL 'sum', in the pinned program and in every row, IS THE sha256 OF THE DUMP (.gsa) THAT YtaaffahjlkfbgaaProg.lean LOADS. Nothing in Lean hashes anything: it is a label: what it is worth is what the hold of that sum in a sandbox is worth. -/
noncomputable def Try.pinned : Pinned := { name := "ytaaffahjlkfbgaa", sum := "26c3fd1c43ba6859759ebb498e6d8ba44e7814ecc092891c936d1441b6ee0879", checked := Try.checked }
namespace Rows
def none {H : Type} : Left H := { results := [], args := [] }

/-- 'wharfagelaw04.PileNil': WHATEVER THE INPUT: true; the input reads as it did. -/
def pileNilSpec : ChangeSpec := { name := "pileNil", fn := fun _ => fun
  | [d1, d2] => { results := [.lit (.bool true)], args := [d1, d2] }
  | _ => none }
def pileNilRow : OpenClaim := { program := "ytaaffahjlkfbgaa", sum := "26c3fd1c43ba6859759ebb498e6d8ba44e7814ecc092891c936d1441b6ee0879", func := "wharfage/wharfagelaw04.PileNil", spec := "pileNil", unfollowed := true, recurses := true, apart := false }
def PileNilSaid : Prop := pileNilRow.holds Try.pinned (OpenSpec.ofChange pileNilSpec)

/-- ITS FALSE NEIGHBOUR: 'it returns false'. Refute it at one input. -/
def pileNilWrong : ChangeSpec := { name := "pileNil", fn := fun _ => fun
  | [d1, d2] => { results := [.lit (.bool false)], args := [d1, d2] }
  | _ => none }
def PileNilWrongFalsely : Prop := pileNilRow.holds Try.pinned (OpenSpec.ofChange pileNilWrong)

/-- 'wharfagelaw04.PileTakes': WHATEVER THE INPUT: true; the input reads as it did. -/
def pileTakesSpec : ChangeSpec := { name := "pileTakes", fn := fun _ => fun
  | [d] => { results := [.lit (.bool true)], args := [d] }
  | _ => none }
def pileTakesRow : OpenClaim := { program := "ytaaffahjlkfbgaa", sum := "26c3fd1c43ba6859759ebb498e6d8ba44e7814ecc092891c936d1441b6ee0879", func := "wharfage/wharfagelaw04.PileTakes", spec := "pileTakes", unfollowed := true, recurses := true, apart := false }
def PileTakesSaid : Prop := pileTakesRow.holds Try.pinned (OpenSpec.ofChange pileTakesSpec)

/-- ITS FALSE NEIGHBOUR: 'it returns false'. Refute it at one input. -/
def pileTakesWrong : ChangeSpec := { name := "pileTakes", fn := fun _ => fun
  | [d] => { results := [.lit (.bool false)], args := [d] }
  | _ => none }
def PileTakesWrongFalsely : Prop := pileTakesRow.holds Try.pinned (OpenSpec.ofChange pileTakesWrong)

/-- 'wharfagelaw07.PathShorter': WHATEVER THE INPUT: true; the input reads as it did. -/
def pathShorterSpec : ChangeSpec := { name := "pathShorter", fn := fun _ => fun
  | [d1, d2, d3, d4] => { results := [.lit (.bool true)], args := [d1, d2, d3, d4] }
  | _ => none }
def pathShorterRow : OpenClaim := { program := "ytaaffahjlkfbgaa", sum := "26c3fd1c43ba6859759ebb498e6d8ba44e7814ecc092891c936d1441b6ee0879", func := "wharfage/wharfagelaw07.PathShorter", spec := "pathShorter", apart := false }
def PathShorterSaid : Prop := pathShorterRow.holds Try.pinned (OpenSpec.ofChange pathShorterSpec)

/-- ITS FALSE NEIGHBOUR: 'it returns false'. Refute it at one input. -/
def pathShorterWrong : ChangeSpec := { name := "pathShorter", fn := fun _ => fun
  | [d1, d2, d3, d4] => { results := [.lit (.bool false)], args := [d1, d2, d3, d4] }
  | _ => none }
def PathShorterWrongFalsely : Prop := pathShorterRow.holds Try.pinned (OpenSpec.ofChange pathShorterWrong)

/-- 'wharfagelaw07.PathFroms': WHATEVER THE INPUT: true; the input reads as it did. -/
def pathFromsSpec : ChangeSpec := { name := "pathFroms", fn := fun _ => fun
  | [d1, d2, d3] => { results := [.lit (.bool true)], args := [d1, d2, d3] }
  | _ => none }
def pathFromsRow : OpenClaim := { program := "ytaaffahjlkfbgaa", sum := "26c3fd1c43ba6859759ebb498e6d8ba44e7814ecc092891c936d1441b6ee0879", func := "wharfage/wharfagelaw07.PathFroms", spec := "pathFroms", apart := false }
def PathFromsSaid : Prop := pathFromsRow.holds Try.pinned (OpenSpec.ofChange pathFromsSpec)

/-- ITS FALSE NEIGHBOUR: 'it returns false'. Refute it at one input. -/
def pathFromsWrong : ChangeSpec := { name := "pathFroms", fn := fun _ => fun
  | [d1, d2, d3] => { results := [.lit (.bool false)], args := [d1, d2, d3] }
  | _ => none }
def PathFromsWrongFalsely : Prop := pathFromsRow.holds Try.pinned (OpenSpec.ofChange pathFromsWrong)

/-- 'wharfagelaw07.PathCycles': WHATEVER THE INPUT: true; the input reads as it did. -/
def pathCyclesSpec : ChangeSpec := { name := "pathCycles", fn := fun _ => fun
  | [d1, d2, d3] => { results := [.lit (.bool true)], args := [d1, d2, d3] }
  | _ => none }
def pathCyclesRow : OpenClaim := { program := "ytaaffahjlkfbgaa", sum := "26c3fd1c43ba6859759ebb498e6d8ba44e7814ecc092891c936d1441b6ee0879", func := "wharfage/wharfagelaw07.PathCycles", spec := "pathCycles", apart := false }
def PathCyclesSaid : Prop := pathCyclesRow.holds Try.pinned (OpenSpec.ofChange pathCyclesSpec)

/-- ITS FALSE NEIGHBOUR: 'it returns false'. Refute it at one input. -/
def pathCyclesWrong : ChangeSpec := { name := "pathCycles", fn := fun _ => fun
  | [d1, d2, d3] => { results := [.lit (.bool false)], args := [d1, d2, d3] }
  | _ => none }
def PathCyclesWrongFalsely : Prop := pathCyclesRow.holds Try.pinned (OpenSpec.ofChange pathCyclesWrong)

/-- 'wharfagelaw08.OrderSorts': WHATEVER THE INPUT: true; the input reads as it did. -/
def orderSortsSpec : ChangeSpec := { name := "orderSorts", fn := fun _ => fun
  | [d1, d2] => { results := [.lit (.bool true)], args := [d1, d2] }
  | _ => none }
def orderSortsRow : OpenClaim := { program := "ytaaffahjlkfbgaa", sum := "26c3fd1c43ba6859759ebb498e6d8ba44e7814ecc092891c936d1441b6ee0879", func := "wharfage/wharfagelaw08.OrderSorts", spec := "orderSorts", unfollowed := true, recurses := true, apart := false }
def OrderSortsSaid : Prop := orderSortsRow.holds Try.pinned (OpenSpec.ofChange orderSortsSpec)

/-- ITS FALSE NEIGHBOUR: 'it returns false'. Refute it at one input. -/
def orderSortsWrong : ChangeSpec := { name := "orderSorts", fn := fun _ => fun
  | [d1, d2] => { results := [.lit (.bool false)], args := [d1, d2] }
  | _ => none }
def OrderSortsWrongFalsely : Prop := orderSortsRow.holds Try.pinned (OpenSpec.ofChange orderSortsWrong)

/-- 'wharfagelaw08.OrderLeast': WHATEVER THE INPUT: true; the input reads as it did. -/
def orderLeastSpec : ChangeSpec := { name := "orderLeast", fn := fun _ => fun
  | [d1, d2, d3, d4] => { results := [.lit (.bool true)], args := [d1, d2, d3, d4] }
  | _ => none }
def orderLeastRow : OpenClaim := { program := "ytaaffahjlkfbgaa", sum := "26c3fd1c43ba6859759ebb498e6d8ba44e7814ecc092891c936d1441b6ee0879", func := "wharfage/wharfagelaw08.OrderLeast", spec := "orderLeast", unfollowed := true, recurses := true, apart := false }
def OrderLeastSaid : Prop := orderLeastRow.holds Try.pinned (OpenSpec.ofChange orderLeastSpec)

/-- ITS FALSE NEIGHBOUR: 'it returns false'. Refute it at one input. -/
def orderLeastWrong : ChangeSpec := { name := "orderLeast", fn := fun _ => fun
  | [d1, d2, d3, d4] => { results := [.lit (.bool false)], args := [d1, d2, d3, d4] }
  | _ => none }
def OrderLeastWrongFalsely : Prop := orderLeastRow.holds Try.pinned (OpenSpec.ofChange orderLeastWrong)

/-- 'wharfagelaw08.OrderLates': WHATEVER THE INPUT: true; the input reads as it did. -/
def orderLatesSpec : ChangeSpec := { name := "orderLates", fn := fun _ => fun
  | [d1, d2, d3] => { results := [.lit (.bool true)], args := [d1, d2, d3] }
  | _ => none }
def orderLatesRow : OpenClaim := { program := "ytaaffahjlkfbgaa", sum := "26c3fd1c43ba6859759ebb498e6d8ba44e7814ecc092891c936d1441b6ee0879", func := "wharfage/wharfagelaw08.OrderLates", spec := "orderLates", unfollowed := true, recurses := true, apart := false }
def OrderLatesSaid : Prop := orderLatesRow.holds Try.pinned (OpenSpec.ofChange orderLatesSpec)

/-- ITS FALSE NEIGHBOUR: 'it returns false'. Refute it at one input. -/
def orderLatesWrong : ChangeSpec := { name := "orderLates", fn := fun _ => fun
  | [d1, d2, d3] => { results := [.lit (.bool false)], args := [d1, d2, d3] }
  | _ => none }
def OrderLatesWrongFalsely : Prop := orderLatesRow.holds Try.pinned (OpenSpec.ofChange orderLatesWrong)

/-- 'wharfagelaw07.PathErrors': WHATEVER THE INPUT: true; the input reads as it did. -/
def pathErrorsSpec : ChangeSpec := { name := "pathErrors", fn := fun _ => fun
  | [d1, d2] => { results := [.lit (.bool true)], args := [d1, d2] }
  | _ => none }
def pathErrorsRow : OpenClaim := { program := "ytaaffahjlkfbgaa", sum := "26c3fd1c43ba6859759ebb498e6d8ba44e7814ecc092891c936d1441b6ee0879", func := "wharfage/wharfagelaw07.PathErrors", spec := "pathErrors", unfollowed := true, recurses := true, apart := false }
def PathErrorsSaid : Prop := pathErrorsRow.holds Try.pinned (OpenSpec.ofChange pathErrorsSpec)

/-- ITS FALSE NEIGHBOUR: 'it returns false'. Refute it at one input. -/
def pathErrorsWrong : ChangeSpec := { name := "pathErrors", fn := fun _ => fun
  | [d1, d2] => { results := [.lit (.bool false)], args := [d1, d2] }
  | _ => none }
def PathErrorsWrongFalsely : Prop := pathErrorsRow.holds Try.pinned (OpenSpec.ofChange pathErrorsWrong)

/-- 'wharfagelaw08.OrderErrors': WHATEVER THE INPUT: true; the input reads as it did. -/
def orderErrorsSpec : ChangeSpec := { name := "orderErrors", fn := fun _ => fun
  | [d1, d2] => { results := [.lit (.bool true)], args := [d1, d2] }
  | _ => none }
def orderErrorsRow : OpenClaim := { program := "ytaaffahjlkfbgaa", sum := "26c3fd1c43ba6859759ebb498e6d8ba44e7814ecc092891c936d1441b6ee0879", func := "wharfage/wharfagelaw08.OrderErrors", spec := "orderErrors", unfollowed := true, recurses := true, apart := false }
def OrderErrorsSaid : Prop := orderErrorsRow.holds Try.pinned (OpenSpec.ofChange orderErrorsSpec)

/-- ITS FALSE NEIGHBOUR: 'it returns false'. Refute it at one input. -/
def orderErrorsWrong : ChangeSpec := { name := "orderErrors", fn := fun _ => fun
  | [d1, d2] => { results := [.lit (.bool false)], args := [d1, d2] }
  | _ => none }
def OrderErrorsWrongFalsely : Prop := orderErrorsRow.holds Try.pinned (OpenSpec.ofChange orderErrorsWrong)

/-- 'wharfagelaw08.OrderCycles': WHATEVER THE INPUT: true; the input reads as it did. -/
def orderCyclesSpec : ChangeSpec := { name := "orderCycles", fn := fun _ => fun
  | [d1, d2] => { results := [.lit (.bool true)], args := [d1, d2] }
  | _ => none }
def orderCyclesRow : OpenClaim := { program := "ytaaffahjlkfbgaa", sum := "26c3fd1c43ba6859759ebb498e6d8ba44e7814ecc092891c936d1441b6ee0879", func := "wharfage/wharfagelaw08.OrderCycles", spec := "orderCycles", unfollowed := true, recurses := true, apart := false }
def OrderCyclesSaid : Prop := orderCyclesRow.holds Try.pinned (OpenSpec.ofChange orderCyclesSpec)

/-- ITS FALSE NEIGHBOUR: 'it returns false'. Refute it at one input. -/
def orderCyclesWrong : ChangeSpec := { name := "orderCycles", fn := fun _ => fun
  | [d1, d2] => { results := [.lit (.bool false)], args := [d1, d2] }
  | _ => none }
def OrderCyclesWrongFalsely : Prop := orderCyclesRow.holds Try.pinned (OpenSpec.ofChange orderCyclesWrong)

/-- 'wharfagelaw04.PileSorts': WHATEVER THE INPUT: true; the input reads as it did. -/
def pileSortsSpec : ChangeSpec := { name := "pileSorts", fn := fun _ => fun
  | [d] => { results := [.lit (.bool true)], args := [d] }
  | _ => none }
def pileSortsRow : OpenClaim := { program := "ytaaffahjlkfbgaa", sum := "26c3fd1c43ba6859759ebb498e6d8ba44e7814ecc092891c936d1441b6ee0879", func := "wharfage/wharfagelaw04.PileSorts", spec := "pileSorts", unfollowed := true, recurses := true, apart := false }
def PileSortsSaid : Prop := pileSortsRow.holds Try.pinned (OpenSpec.ofChange pileSortsSpec)

/-- ITS FALSE NEIGHBOUR: 'it returns false'. Refute it at one input. -/
def pileSortsWrong : ChangeSpec := { name := "pileSorts", fn := fun _ => fun
  | [d] => { results := [.lit (.bool false)], args := [d] }
  | _ => none }
def PileSortsWrongFalsely : Prop := pileSortsRow.holds Try.pinned (OpenSpec.ofChange pileSortsWrong)

/- THE SECOND FORM. 'bulk': how many values and letters a reading holds, each counted each time it is reached (what is shared counts as often as it is met; a slice's spare places count too). A statement '..UptoSaid' is the law's where the arguments, and the package variables that the reading takes, are together of bulk at most 1048576: NARROWER than '..Said'. Prove '..Said' where nothing that the law and all that it calls make is longer than what came in: it says more and counts as full. Else prove '..UptoSaid'. A law counts once. -/
mutual
def uptoBulk {H : Type} : DataW H → Nat
  | .lit (.string bytes) => bytes.length + 1
  | .lit _ => 1
  | .nil => 1
  | .ptr d => uptoBulk d + 1
  | .slice elems spare => uptoBulkAll elems + uptoBulkAll spare + 1
  | .agg parts => uptoBulkAll parts + 1
  | .iface _ d => uptoBulk d + 1
  | .map entries => uptoBulkEntries entries + 1
  | .held _ => 1
def uptoBulkAll {H : Type} : List (DataW H) → Nat
  | [] => 0
  | d :: r => uptoBulk d + uptoBulkAll r
def uptoBulkEntries {H : Type} : List (Lit × DataW H) → Nat
  | [] => 0
  | x :: r => uptoBulkEntry x + uptoBulkEntries r
def uptoBulkEntry {H : Type} : Lit × DataW H → Nat
  | (.string bytes, d) => bytes.length + uptoBulk d + 1
  | (_, d) => uptoBulk d + 1
 end
def uptoSmall : (H : Type) → List (DataW H) → Bool := fun _ ds => decide (uptoBulkAll ds ≤ 1048576)
def OpenSpec.upto (s : _root_.Go.ChangeSpec) : _root_.Go.OpenSpec := { _root_.Go.OpenSpec.ofChange s with cond := some uptoSmall }

/-- 'wharfagelaw04.PileNil', WHERE WHAT IT READS IS OF BULK AT MOST 1048576: true; the input reads as it did. -/
def pileNilUptoRow : OpenClaim := { program := "ytaaffahjlkfbgaa", sum := "26c3fd1c43ba6859759ebb498e6d8ba44e7814ecc092891c936d1441b6ee0879", func := "wharfage/wharfagelaw04.PileNil", spec := "pileNil", unfollowed := true, recurses := true, apart := false, narrowed := true }
def PileNilUptoSaid : Prop := pileNilUptoRow.holds Try.pinned (OpenSpec.upto pileNilSpec)

/-- 'wharfagelaw04.PileTakes', WHERE WHAT IT READS IS OF BULK AT MOST 1048576: true; the input reads as it did. -/
def pileTakesUptoRow : OpenClaim := { program := "ytaaffahjlkfbgaa", sum := "26c3fd1c43ba6859759ebb498e6d8ba44e7814ecc092891c936d1441b6ee0879", func := "wharfage/wharfagelaw04.PileTakes", spec := "pileTakes", unfollowed := true, recurses := true, apart := false, narrowed := true }
def PileTakesUptoSaid : Prop := pileTakesUptoRow.holds Try.pinned (OpenSpec.upto pileTakesSpec)

/-- 'wharfagelaw07.PathShorter', WHERE WHAT IT READS IS OF BULK AT MOST 1048576: true; the input reads as it did. -/
def pathShorterUptoRow : OpenClaim := { program := "ytaaffahjlkfbgaa", sum := "26c3fd1c43ba6859759ebb498e6d8ba44e7814ecc092891c936d1441b6ee0879", func := "wharfage/wharfagelaw07.PathShorter", spec := "pathShorter", apart := false, narrowed := true }
def PathShorterUptoSaid : Prop := pathShorterUptoRow.holds Try.pinned (OpenSpec.upto pathShorterSpec)

/-- 'wharfagelaw07.PathFroms', WHERE WHAT IT READS IS OF BULK AT MOST 1048576: true; the input reads as it did. -/
def pathFromsUptoRow : OpenClaim := { program := "ytaaffahjlkfbgaa", sum := "26c3fd1c43ba6859759ebb498e6d8ba44e7814ecc092891c936d1441b6ee0879", func := "wharfage/wharfagelaw07.PathFroms", spec := "pathFroms", apart := false, narrowed := true }
def PathFromsUptoSaid : Prop := pathFromsUptoRow.holds Try.pinned (OpenSpec.upto pathFromsSpec)

/-- 'wharfagelaw07.PathCycles', WHERE WHAT IT READS IS OF BULK AT MOST 1048576: true; the input reads as it did. -/
def pathCyclesUptoRow : OpenClaim := { program := "ytaaffahjlkfbgaa", sum := "26c3fd1c43ba6859759ebb498e6d8ba44e7814ecc092891c936d1441b6ee0879", func := "wharfage/wharfagelaw07.PathCycles", spec := "pathCycles", apart := false, narrowed := true }
def PathCyclesUptoSaid : Prop := pathCyclesUptoRow.holds Try.pinned (OpenSpec.upto pathCyclesSpec)

/-- 'wharfagelaw08.OrderSorts', WHERE WHAT IT READS IS OF BULK AT MOST 1048576: true; the input reads as it did. -/
def orderSortsUptoRow : OpenClaim := { program := "ytaaffahjlkfbgaa", sum := "26c3fd1c43ba6859759ebb498e6d8ba44e7814ecc092891c936d1441b6ee0879", func := "wharfage/wharfagelaw08.OrderSorts", spec := "orderSorts", unfollowed := true, recurses := true, apart := false, narrowed := true }
def OrderSortsUptoSaid : Prop := orderSortsUptoRow.holds Try.pinned (OpenSpec.upto orderSortsSpec)

/-- 'wharfagelaw08.OrderLeast', WHERE WHAT IT READS IS OF BULK AT MOST 1048576: true; the input reads as it did. -/
def orderLeastUptoRow : OpenClaim := { program := "ytaaffahjlkfbgaa", sum := "26c3fd1c43ba6859759ebb498e6d8ba44e7814ecc092891c936d1441b6ee0879", func := "wharfage/wharfagelaw08.OrderLeast", spec := "orderLeast", unfollowed := true, recurses := true, apart := false, narrowed := true }
def OrderLeastUptoSaid : Prop := orderLeastUptoRow.holds Try.pinned (OpenSpec.upto orderLeastSpec)

/-- 'wharfagelaw08.OrderLates', WHERE WHAT IT READS IS OF BULK AT MOST 1048576: true; the input reads as it did. -/
def orderLatesUptoRow : OpenClaim := { program := "ytaaffahjlkfbgaa", sum := "26c3fd1c43ba6859759ebb498e6d8ba44e7814ecc092891c936d1441b6ee0879", func := "wharfage/wharfagelaw08.OrderLates", spec := "orderLates", unfollowed := true, recurses := true, apart := false, narrowed := true }
def OrderLatesUptoSaid : Prop := orderLatesUptoRow.holds Try.pinned (OpenSpec.upto orderLatesSpec)

/-- 'wharfagelaw07.PathErrors', WHERE WHAT IT READS IS OF BULK AT MOST 1048576: true; the input reads as it did. -/
def pathErrorsUptoRow : OpenClaim := { program := "ytaaffahjlkfbgaa", sum := "26c3fd1c43ba6859759ebb498e6d8ba44e7814ecc092891c936d1441b6ee0879", func := "wharfage/wharfagelaw07.PathErrors", spec := "pathErrors", unfollowed := true, recurses := true, apart := false, narrowed := true }
def PathErrorsUptoSaid : Prop := pathErrorsUptoRow.holds Try.pinned (OpenSpec.upto pathErrorsSpec)

/-- 'wharfagelaw08.OrderErrors', WHERE WHAT IT READS IS OF BULK AT MOST 1048576: true; the input reads as it did. -/
def orderErrorsUptoRow : OpenClaim := { program := "ytaaffahjlkfbgaa", sum := "26c3fd1c43ba6859759ebb498e6d8ba44e7814ecc092891c936d1441b6ee0879", func := "wharfage/wharfagelaw08.OrderErrors", spec := "orderErrors", unfollowed := true, recurses := true, apart := false, narrowed := true }
def OrderErrorsUptoSaid : Prop := orderErrorsUptoRow.holds Try.pinned (OpenSpec.upto orderErrorsSpec)

/-- 'wharfagelaw08.OrderCycles', WHERE WHAT IT READS IS OF BULK AT MOST 1048576: true; the input reads as it did. -/
def orderCyclesUptoRow : OpenClaim := { program := "ytaaffahjlkfbgaa", sum := "26c3fd1c43ba6859759ebb498e6d8ba44e7814ecc092891c936d1441b6ee0879", func := "wharfage/wharfagelaw08.OrderCycles", spec := "orderCycles", unfollowed := true, recurses := true, apart := false, narrowed := true }
def OrderCyclesUptoSaid : Prop := orderCyclesUptoRow.holds Try.pinned (OpenSpec.upto orderCyclesSpec)

/-- 'wharfagelaw04.PileSorts', WHERE WHAT IT READS IS OF BULK AT MOST 1048576: true; the input reads as it did. -/
def pileSortsUptoRow : OpenClaim := { program := "ytaaffahjlkfbgaa", sum := "26c3fd1c43ba6859759ebb498e6d8ba44e7814ecc092891c936d1441b6ee0879", func := "wharfage/wharfagelaw04.PileSorts", spec := "pileSorts", unfollowed := true, recurses := true, apart := false, narrowed := true }
def PileSortsUptoSaid : Prop := pileSortsUptoRow.holds Try.pinned (OpenSpec.upto pileSortsSpec)

end Rows
end Go.Proofs.Ytaaffahjlkfbgaa
