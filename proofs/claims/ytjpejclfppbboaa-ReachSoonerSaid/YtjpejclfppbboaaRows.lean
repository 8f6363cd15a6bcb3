/-
  No cell of these rows narrows 'for every input' (looked for: loops, veiled, ifaces, maps, wideKeys, modest, calm, conditions, laid).
  DERIVED. THE GIVEN ROWS OF THIS SEAT. 11 by the template 'for every input the law returns true; each argument reads behind the call as it read before'; 0 by the template 'total and deterministic' (their statements: YtjpejclfppbboaaTotals.lean).
  GIVEN WITH THE SEED: the statements are not yours to turn. If you find one false, say at which input.
  Laid BY PROGRAM, IN A SANDBOX (cutbox-rows.mjs): the forced cells as the released guide's own fill.sh prints them over the translation 5a3caa05fbe1f16d… (all of the seat's roots in one cut). By AI agents, Wed Nov 11 2026. No macro, syntax, notation, axiom, sorry.
-/
import Derived.Test.YtjpejclfppbboaaChecked
import GoSem.Claim
import GoSem.ClaimJoined
import GoSem.ClaimMapViews
import Derived.JoinedTies
import Derived.KernelRfl
namespace Go.Proofs.Ytjpejclfppbboaa
/- THE CELL 'sum', in the pinned program and in every row, IS THE sha256 OF THE DUMP (.gsa) THAT YtjpejclfppbboaaProg.lean LOADS. Nothing in Lean hashes anything: it is a label: what it is worth is what the hold of that sum in a sandbox is worth. -/
noncomputable def Try.pinned : Pinned := { name := "ytjpejclfppbboaa", sum := "5a3caa05fbe1f16dda4165a8c1cb15ac2d63c34d55320f5cd34d7bf099244455", checked := Try.checked }
namespace Rows
def none {H : Type} : Left H := { results := [], args := [] }

/-- 'wharfagelaw17.PlanAny': WHATEVER THE INPUT: true; the input reads as it did. -/
def planAnySpec : ChangeSpec := { name := "planAny", fn := fun _ => fun
  | [d1, d2] => { results := [.lit (.bool true)], args := [d1, d2] }
  | _ => none }
def planAnyRow : OpenClaim := { program := "ytjpejclfppbboaa", sum := "5a3caa05fbe1f16dda4165a8c1cb15ac2d63c34d55320f5cd34d7bf099244455", func := "wharfage/wharfagelaw17.PlanAny", spec := "planAny", unfollowed := true, recurses := true, apart := false }
def PlanAnySaid : Prop := planAnyRow.holds Try.pinned (OpenSpec.ofChange planAnySpec)

/-- ITS FALSE NEIGHBOUR: 'it returns false'. Refute it at one input. -/
def planAnyWrong : ChangeSpec := { name := "planAny", fn := fun _ => fun
  | [d1, d2] => { results := [.lit (.bool false)], args := [d1, d2] }
  | _ => none }
def PlanAnyWrongFalsely : Prop := planAnyRow.holds Try.pinned (OpenSpec.ofChange planAnyWrong)

/-- 'wharfagelaw17.PlanWays': WHATEVER THE INPUT: true; the input reads as it did. -/
def planWaysSpec : ChangeSpec := { name := "planWays", fn := fun _ => fun
  | [d1, d2, d3, d4, d5] => { results := [.lit (.bool true)], args := [d1, d2, d3, d4, d5] }
  | _ => none }
def planWaysRow : OpenClaim := { program := "ytjpejclfppbboaa", sum := "5a3caa05fbe1f16dda4165a8c1cb15ac2d63c34d55320f5cd34d7bf099244455", func := "wharfage/wharfagelaw17.PlanWays", spec := "planWays", unfollowed := true, recurses := true, apart := false }
def PlanWaysSaid : Prop := planWaysRow.holds Try.pinned (OpenSpec.ofChange planWaysSpec)

/-- ITS FALSE NEIGHBOUR: 'it returns false'. Refute it at one input. -/
def planWaysWrong : ChangeSpec := { name := "planWays", fn := fun _ => fun
  | [d1, d2, d3, d4, d5] => { results := [.lit (.bool false)], args := [d1, d2, d3, d4, d5] }
  | _ => none }
def PlanWaysWrongFalsely : Prop := planWaysRow.holds Try.pinned (OpenSpec.ofChange planWaysWrong)

/-- 'wharfagelaw17.PlanNone': WHATEVER THE INPUT: true; the input reads as it did. -/
def planNoneSpec : ChangeSpec := { name := "planNone", fn := fun _ => fun
  | [d1, d2, d3] => { results := [.lit (.bool true)], args := [d1, d2, d3] }
  | _ => none }
def planNoneRow : OpenClaim := { program := "ytjpejclfppbboaa", sum := "5a3caa05fbe1f16dda4165a8c1cb15ac2d63c34d55320f5cd34d7bf099244455", func := "wharfage/wharfagelaw17.PlanNone", spec := "planNone", unfollowed := true, recurses := true, apart := false }
def PlanNoneSaid : Prop := planNoneRow.holds Try.pinned (OpenSpec.ofChange planNoneSpec)

/-- ITS FALSE NEIGHBOUR: 'it returns false'. Refute it at one input. -/
def planNoneWrong : ChangeSpec := { name := "planNone", fn := fun _ => fun
  | [d1, d2, d3] => { results := [.lit (.bool false)], args := [d1, d2, d3] }
  | _ => none }
def PlanNoneWrongFalsely : Prop := planNoneRow.holds Try.pinned (OpenSpec.ofChange planNoneWrong)

/-- 'wharfagelaw14.ReachReadies': WHATEVER THE INPUT: true; the input reads as it did. -/
def reachReadiesSpec : ChangeSpec := { name := "reachReadies", fn := fun _ => fun
  | [d] => { results := [.lit (.bool true)], args := [d] }
  | _ => none }
def reachReadiesRow : OpenClaim := { program := "ytjpejclfppbboaa", sum := "5a3caa05fbe1f16dda4165a8c1cb15ac2d63c34d55320f5cd34d7bf099244455", func := "wharfage/wharfagelaw14.ReachReadies", spec := "reachReadies", unfollowed := true, recurses := true, apart := false }
def ReachReadiesSaid : Prop := reachReadiesRow.holds Try.pinned (OpenSpec.ofChange reachReadiesSpec)

/-- ITS FALSE NEIGHBOUR: 'it returns false'. Refute it at one input. -/
def reachReadiesWrong : ChangeSpec := { name := "reachReadies", fn := fun _ => fun
  | [d] => { results := [.lit (.bool false)], args := [d] }
  | _ => none }
def ReachReadiesWrongFalsely : Prop := reachReadiesRow.holds Try.pinned (OpenSpec.ofChange reachReadiesWrong)

/-- 'wharfagelaw14.ReachWays': WHATEVER THE INPUT: true; the input reads as it did. -/
def reachWaysSpec : ChangeSpec := { name := "reachWays", fn := fun _ => fun
  | [d1, d2] => { results := [.lit (.bool true)], args := [d1, d2] }
  | _ => none }
def reachWaysRow : OpenClaim := { program := "ytjpejclfppbboaa", sum := "5a3caa05fbe1f16dda4165a8c1cb15ac2d63c34d55320f5cd34d7bf099244455", func := "wharfage/wharfagelaw14.ReachWays", spec := "reachWays", unfollowed := true, recurses := true, apart := false }
def ReachWaysSaid : Prop := reachWaysRow.holds Try.pinned (OpenSpec.ofChange reachWaysSpec)

/-- ITS FALSE NEIGHBOUR: 'it returns false'. Refute it at one input. -/
def reachWaysWrong : ChangeSpec := { name := "reachWays", fn := fun _ => fun
  | [d1, d2] => { results := [.lit (.bool false)], args := [d1, d2] }
  | _ => none }
def ReachWaysWrongFalsely : Prop := reachWaysRow.holds Try.pinned (OpenSpec.ofChange reachWaysWrong)

/-- 'wharfagelaw14.ReachNone': WHATEVER THE INPUT: true; the input reads as it did. -/
def reachNoneSpec : ChangeSpec := { name := "reachNone", fn := fun _ => fun
  | [d1, d2, d3] => { results := [.lit (.bool true)], args := [d1, d2, d3] }
  | _ => none }
def reachNoneRow : OpenClaim := { program := "ytjpejclfppbboaa", sum := "5a3caa05fbe1f16dda4165a8c1cb15ac2d63c34d55320f5cd34d7bf099244455", func := "wharfage/wharfagelaw14.ReachNone", spec := "reachNone", unfollowed := true, recurses := true, apart := false }
def ReachNoneSaid : Prop := reachNoneRow.holds Try.pinned (OpenSpec.ofChange reachNoneSpec)

/-- ITS FALSE NEIGHBOUR: 'it returns false'. Refute it at one input. -/
def reachNoneWrong : ChangeSpec := { name := "reachNone", fn := fun _ => fun
  | [d1, d2, d3] => { results := [.lit (.bool false)], args := [d1, d2, d3] }
  | _ => none }
def ReachNoneWrongFalsely : Prop := reachNoneRow.holds Try.pinned (OpenSpec.ofChange reachNoneWrong)

/-- 'wharfagelaw14.ReachSooner': WHATEVER THE INPUT: true; the input reads as it did. -/
def reachSoonerSpec : ChangeSpec := { name := "reachSooner", fn := fun _ => fun
  | [d1, d2, d3] => { results := [.lit (.bool true)], args := [d1, d2, d3] }
  | _ => none }
def reachSoonerRow : OpenClaim := { program := "ytjpejclfppbboaa", sum := "5a3caa05fbe1f16dda4165a8c1cb15ac2d63c34d55320f5cd34d7bf099244455", func := "wharfage/wharfagelaw14.ReachSooner", spec := "reachSooner", unfollowed := true, recurses := true, apart := false }
def ReachSoonerSaid : Prop := reachSoonerRow.holds Try.pinned (OpenSpec.ofChange reachSoonerSpec)

/-- ITS FALSE NEIGHBOUR: 'it returns false'. Refute it at one input. -/
def reachSoonerWrong : ChangeSpec := { name := "reachSooner", fn := fun _ => fun
  | [d1, d2, d3] => { results := [.lit (.bool false)], args := [d1, d2, d3] }
  | _ => none }
def ReachSoonerWrongFalsely : Prop := reachSoonerRow.holds Try.pinned (OpenSpec.ofChange reachSoonerWrong)

/-- 'wharfagelaw14.ReachMays': WHATEVER THE INPUT: true; the input reads as it did. -/
def reachMaysSpec : ChangeSpec := { name := "reachMays", fn := fun _ => fun
  | [d] => { results := [.lit (.bool true)], args := [d] }
  | _ => none }
def reachMaysRow : OpenClaim := { program := "ytjpejclfppbboaa", sum := "5a3caa05fbe1f16dda4165a8c1cb15ac2d63c34d55320f5cd34d7bf099244455", func := "wharfage/wharfagelaw14.ReachMays", spec := "reachMays", unfollowed := true, recurses := true, apart := false }
def ReachMaysSaid : Prop := reachMaysRow.holds Try.pinned (OpenSpec.ofChange reachMaysSpec)

/-- ITS FALSE NEIGHBOUR: 'it returns false'. Refute it at one input. -/
def reachMaysWrong : ChangeSpec := { name := "reachMays", fn := fun _ => fun
  | [d] => { results := [.lit (.bool false)], args := [d] }
  | _ => none }
def ReachMaysWrongFalsely : Prop := reachMaysRow.holds Try.pinned (OpenSpec.ofChange reachMaysWrong)

/-- 'wharfagelaw17.PlanChecks': WHATEVER THE INPUT: true; the input reads as it did. -/
def planChecksSpec : ChangeSpec := { name := "planChecks", fn := fun _ => fun
  | [d1, d2, d3, d4, d5] => { results := [.lit (.bool true)], args := [d1, d2, d3, d4, d5] }
  | _ => none }
def planChecksRow : OpenClaim := { program := "ytjpejclfppbboaa", sum := "5a3caa05fbe1f16dda4165a8c1cb15ac2d63c34d55320f5cd34d7bf099244455", func := "wharfage/wharfagelaw17.PlanChecks", spec := "planChecks", inPlace := ["slices.overlaps[int]"], unfollowed := true, recurses := true, apart := false }
def PlanChecksSaid : Prop := planChecksRow.holds Try.pinned (OpenSpec.ofChange planChecksSpec)

/-- ITS FALSE NEIGHBOUR: 'it returns false'. Refute it at one input. -/
def planChecksWrong : ChangeSpec := { name := "planChecks", fn := fun _ => fun
  | [d1, d2, d3, d4, d5] => { results := [.lit (.bool false)], args := [d1, d2, d3, d4, d5] }
  | _ => none }
def PlanChecksWrongFalsely : Prop := planChecksRow.holds Try.pinned (OpenSpec.ofChange planChecksWrong)

/-- 'wharfagelaw17.PlanLoads': WHATEVER THE INPUT: true; the input reads as it did. -/
def planLoadsSpec : ChangeSpec := { name := "planLoads", fn := fun _ => fun
  | [d1, d2, d3, d4, d5] => { results := [.lit (.bool true)], args := [d1, d2, d3, d4, d5] }
  | _ => none }
def planLoadsRow : OpenClaim := { program := "ytjpejclfppbboaa", sum := "5a3caa05fbe1f16dda4165a8c1cb15ac2d63c34d55320f5cd34d7bf099244455", func := "wharfage/wharfagelaw17.PlanLoads", spec := "planLoads", inPlace := ["slices.overlaps[int]"], unfollowed := true, recurses := true, apart := false }
def PlanLoadsSaid : Prop := planLoadsRow.holds Try.pinned (OpenSpec.ofChange planLoadsSpec)

/-- ITS FALSE NEIGHBOUR: 'it returns false'. Refute it at one input. -/
def planLoadsWrong : ChangeSpec := { name := "planLoads", fn := fun _ => fun
  | [d1, d2, d3, d4, d5] => { results := [.lit (.bool false)], args := [d1, d2, d3, d4, d5] }
  | _ => none }
def PlanLoadsWrongFalsely : Prop := planLoadsRow.holds Try.pinned (OpenSpec.ofChange planLoadsWrong)

/-- 'wharfagelaw17.PlanSames': WHATEVER THE INPUT: true; the input reads as it did. -/
def planSamesSpec : ChangeSpec := { name := "planSames", fn := fun _ => fun
  | [d1, d2, d3, d4, d5, d6, d7] => { results := [.lit (.bool true)], args := [d1, d2, d3, d4, d5, d6, d7] }
  | _ => none }
def planSamesRow : OpenClaim := { program := "ytjpejclfppbboaa", sum := "5a3caa05fbe1f16dda4165a8c1cb15ac2d63c34d55320f5cd34d7bf099244455", func := "wharfage/wharfagelaw17.PlanSames", spec := "planSames", inPlace := ["slices.overlaps[int]"], unfollowed := true, recurses := true, apart := false }
def PlanSamesSaid : Prop := planSamesRow.holds Try.pinned (OpenSpec.ofChange planSamesSpec)

/-- ITS FALSE NEIGHBOUR: 'it returns false'. Refute it at one input. -/
def planSamesWrong : ChangeSpec := { name := "planSames", fn := fun _ => fun
  | [d1, d2, d3, d4, d5, d6, d7] => { results := [.lit (.bool false)], args := [d1, d2, d3, d4, d5, d6, d7] }
  | _ => none }
def PlanSamesWrongFalsely : Prop := planSamesRow.holds Try.pinned (OpenSpec.ofChange planSamesWrong)

/- THE SECOND FORM. 'bulk': how many values and letters a reading holds, each counted each time it is reached (what is shared counts as often as it is met; a slice's spare places count too). A statement '..UptoSaid' is the law's where the arguments, and the package variables that the reading takes, are together of bulk at most 1048576: NARROWER than '..Said'. Prove '..Said' where nothing that the law and all that it calls make is longer than what came in: it says more and counts as full. Else prove '..UptoSaid'. A law counts once. -/
mutual
def uptoBulk {H : Type} : DataW H → Nat
  | .lit (.string bytes) => bytes.length + 1
  | .lit _ => 1
  | .nil => 1
  | .ptr d => uptoBulk d + 1
  | .slice elems spare => uptoBulkAll elems + uptoBulkAll spare + 1
  | .agg parts => uptoBulkAll parts + 1
  | .iface _ d => uptoBulk d + 1
  | .map entries => uptoBulkEntries entries + 1
  | .held _ => 1
def uptoBulkAll {H : Type} : List (DataW H) → Nat
  | [] => 0
  | d :: r => uptoBulk d + uptoBulkAll r
def uptoBulkEntries {H : Type} : List (Lit × DataW H) → Nat
  | [] => 0
  | x :: r => uptoBulkEntry x + uptoBulkEntries r
def uptoBulkEntry {H : Type} : Lit × DataW H → Nat
  | (.string bytes, d) => bytes.length + uptoBulk d + 1
  | (_, d) => uptoBulk d + 1
 end
def uptoSmall : (H : Type) → List (DataW H) → Bool := fun _ ds => decide (uptoBulkAll ds ≤ 1048576)
def OpenSpec.upto (s : _root_.Go.ChangeSpec) : _root_.Go.OpenSpec := { _root_.Go.OpenSpec.ofChange s with cond := some uptoSmall }

/-- 'wharfagelaw17.PlanAny', WHERE WHAT IT READS IS OF BULK AT MOST 1048576: true; the input reads as it did. -/
def planAnyUptoRow : OpenClaim := { program := "ytjpejclfppbboaa", sum := "5a3caa05fbe1f16dda4165a8c1cb15ac2d63c34d55320f5cd34d7bf099244455", func := "wharfage/wharfagelaw17.PlanAny", spec := "planAny", unfollowed := true, recurses := true, apart := false, narrowed := true }
def PlanAnyUptoSaid : Prop := planAnyUptoRow.holds Try.pinned (OpenSpec.upto planAnySpec)

/-- 'wharfagelaw17.PlanWays', WHERE WHAT IT READS IS OF BULK AT MOST 1048576: true; the input reads as it did. -/
def planWaysUptoRow : OpenClaim := { program := "ytjpejclfppbboaa", sum := "5a3caa05fbe1f16dda4165a8c1cb15ac2d63c34d55320f5cd34d7bf099244455", func := "wharfage/wharfagelaw17.PlanWays", spec := "planWays", unfollowed := true, recurses := true, apart := false, narrowed := true }
def PlanWaysUptoSaid : Prop := planWaysUptoRow.holds Try.pinned (OpenSpec.upto planWaysSpec)

/-- 'wharfagelaw17.PlanNone', WHERE WHAT IT READS IS OF BULK AT MOST 1048576: true; the input reads as it did. -/
def planNoneUptoRow : OpenClaim := { program := "ytjpejclfppbboaa", sum := "5a3caa05fbe1f16dda4165a8c1cb15ac2d63c34d55320f5cd34d7bf099244455", func := "wharfage/wharfagelaw17.PlanNone", spec := "planNone", unfollowed := true, recurses := true, apart := false, narrowed := true }
def PlanNoneUptoSaid : Prop := planNoneUptoRow.holds Try.pinned (OpenSpec.upto planNoneSpec)

/-- 'wharfagelaw14.ReachReadies', WHERE WHAT IT READS IS OF BULK AT MOST 1048576: true; the input reads as it did. -/
def reachReadiesUptoRow : OpenClaim := { program := "ytjpejclfppbboaa", sum := "5a3caa05fbe1f16dda4165a8c1cb15ac2d63c34d55320f5cd34d7bf099244455", func := "wharfage/wharfagelaw14.ReachReadies", spec := "reachReadies", unfollowed := true, recurses := true, apart := false, narrowed := true }
def ReachReadiesUptoSaid : Prop := reachReadiesUptoRow.holds Try.pinned (OpenSpec.upto reachReadiesSpec)

/-- 'wharfagelaw14.ReachWays', WHERE WHAT IT READS IS OF BULK AT MOST 1048576: true; the input reads as it did. -/
def reachWaysUptoRow : OpenClaim := { program := "ytjpejclfppbboaa", sum := "5a3caa05fbe1f16dda4165a8c1cb15ac2d63c34d55320f5cd34d7bf099244455", func := "wharfage/wharfagelaw14.ReachWays", spec := "reachWays", unfollowed := true, recurses := true, apart := false, narrowed := true }
def ReachWaysUptoSaid : Prop := reachWaysUptoRow.holds Try.pinned (OpenSpec.upto reachWaysSpec)

/-- 'wharfagelaw14.ReachNone', WHERE WHAT IT READS IS OF BULK AT MOST 1048576: true; the input reads as it did. -/
def reachNoneUptoRow : OpenClaim := { program := "ytjpejclfppbboaa", sum := "5a3caa05fbe1f16dda4165a8c1cb15ac2d63c34d55320f5cd34d7bf099244455", func := "wharfage/wharfagelaw14.ReachNone", spec := "reachNone", unfollowed := true, recurses := true, apart := false, narrowed := true }
def ReachNoneUptoSaid : Prop := reachNoneUptoRow.holds Try.pinned (OpenSpec.upto reachNoneSpec)

/-- 'wharfagelaw14.ReachSooner', WHERE WHAT IT READS IS OF BULK AT MOST 1048576: true; the input reads as it did. -/
def reachSoonerUptoRow : OpenClaim := { program := "ytjpejclfppbboaa", sum := "5a3caa05fbe1f16dda4165a8c1cb15ac2d63c34d55320f5cd34d7bf099244455", func := "wharfage/wharfagelaw14.ReachSooner", spec := "reachSooner", unfollowed := true, recurses := true, apart := false, narrowed := true }
def ReachSoonerUptoSaid : Prop := reachSoonerUptoRow.holds Try.pinned (OpenSpec.upto reachSoonerSpec)

/-- 'wharfagelaw14.ReachMays', WHERE WHAT IT READS IS OF BULK AT MOST 1048576: true; the input reads as it did. -/
def reachMaysUptoRow : OpenClaim := { program := "ytjpejclfppbboaa", sum := "5a3caa05fbe1f16dda4165a8c1cb15ac2d63c34d55320f5cd34d7bf099244455", func := "wharfage/wharfagelaw14.ReachMays", spec := "reachMays", unfollowed := true, recurses := true, apart := false, narrowed := true }
def ReachMaysUptoSaid : Prop := reachMaysUptoRow.holds Try.pinned (OpenSpec.upto reachMaysSpec)

/-- 'wharfagelaw17.PlanChecks', WHERE WHAT IT READS IS OF BULK AT MOST 1048576: true; the input reads as it did. -/
def planChecksUptoRow : OpenClaim := { program := "ytjpejclfppbboaa", sum := "5a3caa05fbe1f16dda4165a8c1cb15ac2d63c34d55320f5cd34d7bf099244455", func := "wharfage/wharfagelaw17.PlanChecks", spec := "planChecks", inPlace := ["slices.overlaps[int]"], unfollowed := true, recurses := true, apart := false, narrowed := true }
def PlanChecksUptoSaid : Prop := planChecksUptoRow.holds Try.pinned (OpenSpec.upto planChecksSpec)

/-- 'wharfagelaw17.PlanLoads', WHERE WHAT IT READS IS OF BULK AT MOST 1048576: true; the input reads as it did. -/
def planLoadsUptoRow : OpenClaim := { program := "ytjpejclfppbboaa", sum := "5a3caa05fbe1f16dda4165a8c1cb15ac2d63c34d55320f5cd34d7bf099244455", func := "wharfage/wharfagelaw17.PlanLoads", spec := "planLoads", inPlace := ["slices.overlaps[int]"], unfollowed := true, recurses := true, apart := false, narrowed := true }
def PlanLoadsUptoSaid : Prop := planLoadsUptoRow.holds Try.pinned (OpenSpec.upto planLoadsSpec)

/-- 'wharfagelaw17.PlanSames', WHERE WHAT IT READS IS OF BULK AT MOST 1048576: true; the input reads as it did. -/
def planSamesUptoRow : OpenClaim := { program := "ytjpejclfppbboaa", sum := "5a3caa05fbe1f16dda4165a8c1cb15ac2d63c34d55320f5cd34d7bf099244455", func := "wharfage/wharfagelaw17.PlanSames", spec := "planSames", inPlace := ["slices.overlaps[int]"], unfollowed := true, recurses := true, apart := false, narrowed := true }
def PlanSamesUptoSaid : Prop := planSamesUptoRow.holds Try.pinned (OpenSpec.upto planSamesSpec)

end Rows
end Go.Proofs.Ytjpejclfppbboaa
