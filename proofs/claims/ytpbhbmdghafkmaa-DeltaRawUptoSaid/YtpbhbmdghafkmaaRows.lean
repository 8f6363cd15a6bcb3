/-
  No cell of these rows narrows 'for every input' (looked for: loops, veiled, ifaces, maps, wideKeys, modest, calm, conditions, laid).
  DERIVED. THE GIVEN ROWS OF THIS SEAT. 9 by the template 'for every input the law returns true; each argument reads behind the call as it read before'; 0 by the template 'total and deterministic' (their statements: YtpbhbmdghafkmaaTotals.lean).
  GIVEN WITH THE SEED: the statements are not yours to turn. If you find one false, say at which input.
  Laid BY PROGRAM, IN A SANDBOX (cutbox-rows.mjs): the forced cells as the released guide's own fill.sh prints them over the translation e7b6dd80ccfe2497… (all of the seat's roots in one cut). By AI agents, Wed Nov 11 2026. No macro, syntax, notation, axiom, sorry.
-/
import Derived.Test.YtpbhbmdghafkmaaChecked
import GoSem.Claim
import GoSem.ClaimJoined
import GoSem.ClaimMapViews
import Derived.JoinedTies
import Derived.KernelRfl
namespace Go.Proofs.Ytpbhbmdghafkmaa
/- THE CELL 'sum', in the pinned program and in every row, IS THE sha256 OF THE DUMP (.gsa) THAT YtpbhbmdghafkmaaProg.lean LOADS. Nothing in Lean hashes anything: it is a label: what it is worth is what the hold of that sum in a sandbox is worth. -/
noncomputable def Try.pinned : Pinned := { name := "ytpbhbmdghafkmaa", sum := "e7b6dd80ccfe2497055bd2feb215a2621fb88356075ebff14c222adfa3659d1c", checked := Try.checked }
namespace Rows
def none {H : Type} : Left H := { results := [], args := [] }

/-- 'wharfagelaw23.MoveApplies': WHATEVER THE INPUT: true; the input reads as it did. -/
def moveAppliesSpec : ChangeSpec := { name := "moveApplies", fn := fun _ => fun
  | [d1, d2, d3] => { results := [.lit (.bool true)], args := [d1, d2, d3] }
  | _ => none }
def moveAppliesRow : OpenClaim := { program := "ytpbhbmdghafkmaa", sum := "e7b6dd80ccfe2497055bd2feb215a2621fb88356075ebff14c222adfa3659d1c", func := "wharfage/wharfagelaw23.MoveApplies", spec := "moveApplies", inPlace := ["slices.overlaps[int]"], unfollowed := true, recurses := true, apart := false }
def MoveAppliesSaid : Prop := moveAppliesRow.holds Try.pinned (OpenSpec.ofChange moveAppliesSpec)

/-- ITS FALSE NEIGHBOUR: 'it returns false'. Refute it at one input. -/
def moveAppliesWrong : ChangeSpec := { name := "moveApplies", fn := fun _ => fun
  | [d1, d2, d3] => { results := [.lit (.bool false)], args := [d1, d2, d3] }
  | _ => none }
def MoveAppliesWrongFalsely : Prop := moveAppliesRow.holds Try.pinned (OpenSpec.ofChange moveAppliesWrong)

/-- 'wharfagelaw23.MoveRaw': WHATEVER THE INPUT: true; the input reads as it did. -/
def moveRawSpec : ChangeSpec := { name := "moveRaw", fn := fun _ => fun
  | [d1, d2, d3] => { results := [.lit (.bool true)], args := [d1, d2, d3] }
  | _ => none }
def moveRawRow : OpenClaim := { program := "ytpbhbmdghafkmaa", sum := "e7b6dd80ccfe2497055bd2feb215a2621fb88356075ebff14c222adfa3659d1c", func := "wharfage/wharfagelaw23.MoveRaw", spec := "moveRaw", inPlace := ["slices.overlaps[int]"], unfollowed := true, recurses := true, apart := false }
def MoveRawSaid : Prop := moveRawRow.holds Try.pinned (OpenSpec.ofChange moveRawSpec)

/-- ITS FALSE NEIGHBOUR: 'it returns false'. Refute it at one input. -/
def moveRawWrong : ChangeSpec := { name := "moveRaw", fn := fun _ => fun
  | [d1, d2, d3] => { results := [.lit (.bool false)], args := [d1, d2, d3] }
  | _ => none }
def MoveRawWrongFalsely : Prop := moveRawRow.holds Try.pinned (OpenSpec.ofChange moveRawWrong)

/-- 'wharfagelaw23.MoveBack': WHATEVER THE INPUT: true; the input reads as it did. -/
def moveBackSpec : ChangeSpec := { name := "moveBack", fn := fun _ => fun
  | [d1, d2, d3] => { results := [.lit (.bool true)], args := [d1, d2, d3] }
  | _ => none }
def moveBackRow : OpenClaim := { program := "ytpbhbmdghafkmaa", sum := "e7b6dd80ccfe2497055bd2feb215a2621fb88356075ebff14c222adfa3659d1c", func := "wharfage/wharfagelaw23.MoveBack", spec := "moveBack", inPlace := ["slices.overlaps[int]"], unfollowed := true, recurses := true, apart := false }
def MoveBackSaid : Prop := moveBackRow.holds Try.pinned (OpenSpec.ofChange moveBackSpec)

/-- ITS FALSE NEIGHBOUR: 'it returns false'. Refute it at one input. -/
def moveBackWrong : ChangeSpec := { name := "moveBack", fn := fun _ => fun
  | [d1, d2, d3] => { results := [.lit (.bool false)], args := [d1, d2, d3] }
  | _ => none }
def MoveBackWrongFalsely : Prop := moveBackRow.holds Try.pinned (OpenSpec.ofChange moveBackWrong)

/-- 'wharfagelaw24.DeltaRounds': WHATEVER THE INPUT: true; the input reads as it did. -/
def deltaRoundsSpec : ChangeSpec := { name := "deltaRounds", fn := fun _ => fun
  | [d1, d2, d3, d4, d5] => { results := [.lit (.bool true)], args := [d1, d2, d3, d4, d5] }
  | _ => none }
def deltaRoundsRow : OpenClaim := { program := "ytpbhbmdghafkmaa", sum := "e7b6dd80ccfe2497055bd2feb215a2621fb88356075ebff14c222adfa3659d1c", func := "wharfage/wharfagelaw24.DeltaRounds", spec := "deltaRounds", inPlace := ["slices.overlaps[int]"], unfollowed := true, recurses := true, apart := false }
def DeltaRoundsSaid : Prop := deltaRoundsRow.holds Try.pinned (OpenSpec.ofChange deltaRoundsSpec)

/-- ITS FALSE NEIGHBOUR: 'it returns false'. Refute it at one input. -/
def deltaRoundsWrong : ChangeSpec := { name := "deltaRounds", fn := fun _ => fun
  | [d1, d2, d3, d4, d5] => { results := [.lit (.bool false)], args := [d1, d2, d3, d4, d5] }
  | _ => none }
def DeltaRoundsWrongFalsely : Prop := deltaRoundsRow.holds Try.pinned (OpenSpec.ofChange deltaRoundsWrong)

/-- 'wharfagelaw24.DeltaChanges': WHATEVER THE INPUT: true; the input reads as it did. -/
def deltaChangesSpec : ChangeSpec := { name := "deltaChanges", fn := fun _ => fun
  | [d1, d2, d3, d4, d5, d6] => { results := [.lit (.bool true)], args := [d1, d2, d3, d4, d5, d6] }
  | _ => none }
def deltaChangesRow : OpenClaim := { program := "ytpbhbmdghafkmaa", sum := "e7b6dd80ccfe2497055bd2feb215a2621fb88356075ebff14c222adfa3659d1c", func := "wharfage/wharfagelaw24.DeltaChanges", spec := "deltaChanges", inPlace := ["slices.overlaps[int]"], unfollowed := true, recurses := true, apart := false }
def DeltaChangesSaid : Prop := deltaChangesRow.holds Try.pinned (OpenSpec.ofChange deltaChangesSpec)

/-- ITS FALSE NEIGHBOUR: 'it returns false'. Refute it at one input. -/
def deltaChangesWrong : ChangeSpec := { name := "deltaChanges", fn := fun _ => fun
  | [d1, d2, d3, d4, d5, d6] => { results := [.lit (.bool false)], args := [d1, d2, d3, d4, d5, d6] }
  | _ => none }
def DeltaChangesWrongFalsely : Prop := deltaChangesRow.holds Try.pinned (OpenSpec.ofChange deltaChangesWrong)

/-- 'wharfagelaw24.DeltaRaw': WHATEVER THE INPUT: true; the input reads as it did. -/
def deltaRawSpec : ChangeSpec := { name := "deltaRaw", fn := fun _ => fun
  | [d1, d2, d3] => { results := [.lit (.bool true)], args := [d1, d2, d3] }
  | _ => none }
def deltaRawRow : OpenClaim := { program := "ytpbhbmdghafkmaa", sum := "e7b6dd80ccfe2497055bd2feb215a2621fb88356075ebff14c222adfa3659d1c", func := "wharfage/wharfagelaw24.DeltaRaw", spec := "deltaRaw", inPlace := ["slices.overlaps[int]"], unfollowed := true, recurses := true, apart := false }
def DeltaRawSaid : Prop := deltaRawRow.holds Try.pinned (OpenSpec.ofChange deltaRawSpec)

/-- ITS FALSE NEIGHBOUR: 'it returns false'. Refute it at one input. -/
def deltaRawWrong : ChangeSpec := { name := "deltaRaw", fn := fun _ => fun
  | [d1, d2, d3] => { results := [.lit (.bool false)], args := [d1, d2, d3] }
  | _ => none }
def DeltaRawWrongFalsely : Prop := deltaRawRow.holds Try.pinned (OpenSpec.ofChange deltaRawWrong)

/-- 'wharfagelaw24.DeltaNone': WHATEVER THE INPUT: true; the input reads as it did. -/
def deltaNoneSpec : ChangeSpec := { name := "deltaNone", fn := fun _ => fun
  | [d1, d2, d3] => { results := [.lit (.bool true)], args := [d1, d2, d3] }
  | _ => none }
def deltaNoneRow : OpenClaim := { program := "ytpbhbmdghafkmaa", sum := "e7b6dd80ccfe2497055bd2feb215a2621fb88356075ebff14c222adfa3659d1c", func := "wharfage/wharfagelaw24.DeltaNone", spec := "deltaNone", inPlace := ["slices.overlaps[int]"], unfollowed := true, recurses := true, apart := false }
def DeltaNoneSaid : Prop := deltaNoneRow.holds Try.pinned (OpenSpec.ofChange deltaNoneSpec)

/-- ITS FALSE NEIGHBOUR: 'it returns false'. Refute it at one input. -/
def deltaNoneWrong : ChangeSpec := { name := "deltaNone", fn := fun _ => fun
  | [d1, d2, d3] => { results := [.lit (.bool false)], args := [d1, d2, d3] }
  | _ => none }
def DeltaNoneWrongFalsely : Prop := deltaNoneRow.holds Try.pinned (OpenSpec.ofChange deltaNoneWrong)

/-- 'wharfagelaw24.DeltaPlan': WHATEVER THE INPUT: true; the input reads as it did. -/
def deltaPlanSpec : ChangeSpec := { name := "deltaPlan", fn := fun _ => fun
  | [d1, d2, d3] => { results := [.lit (.bool true)], args := [d1, d2, d3] }
  | _ => none }
def deltaPlanRow : OpenClaim := { program := "ytpbhbmdghafkmaa", sum := "e7b6dd80ccfe2497055bd2feb215a2621fb88356075ebff14c222adfa3659d1c", func := "wharfage/wharfagelaw24.DeltaPlan", spec := "deltaPlan", inPlace := ["slices.overlaps[int]"], unfollowed := true, recurses := true, apart := false }
def DeltaPlanSaid : Prop := deltaPlanRow.holds Try.pinned (OpenSpec.ofChange deltaPlanSpec)

/-- ITS FALSE NEIGHBOUR: 'it returns false'. Refute it at one input. -/
def deltaPlanWrong : ChangeSpec := { name := "deltaPlan", fn := fun _ => fun
  | [d1, d2, d3] => { results := [.lit (.bool false)], args := [d1, d2, d3] }
  | _ => none }
def DeltaPlanWrongFalsely : Prop := deltaPlanRow.holds Try.pinned (OpenSpec.ofChange deltaPlanWrong)

/-- 'wharfagelaw23.MoveKeeps': WHATEVER THE INPUT: true; the input reads as it did. -/
def moveKeepsSpec : ChangeSpec := { name := "moveKeeps", fn := fun _ => fun
  | [d1, d2, d3] => { results := [.lit (.bool true)], args := [d1, d2, d3] }
  | _ => none }
def moveKeepsRow : OpenClaim := { program := "ytpbhbmdghafkmaa", sum := "e7b6dd80ccfe2497055bd2feb215a2621fb88356075ebff14c222adfa3659d1c", func := "wharfage/wharfagelaw23.MoveKeeps", spec := "moveKeeps", inPlace := ["slices.overlaps[int]"], unfollowed := true, recurses := true, apart := false }
def MoveKeepsSaid : Prop := moveKeepsRow.holds Try.pinned (OpenSpec.ofChange moveKeepsSpec)

/-- ITS FALSE NEIGHBOUR: 'it returns false'. Refute it at one input. -/
def moveKeepsWrong : ChangeSpec := { name := "moveKeeps", fn := fun _ => fun
  | [d1, d2, d3] => { results := [.lit (.bool false)], args := [d1, d2, d3] }
  | _ => none }
def MoveKeepsWrongFalsely : Prop := moveKeepsRow.holds Try.pinned (OpenSpec.ofChange moveKeepsWrong)

/- THE SECOND FORM. 'bulk': how many values and letters a reading holds, each counted each time it is reached (what is shared counts as often as it is met; a slice's spare places count too). A statement '..UptoSaid' is the law's where the arguments, and the package variables that the reading takes, are together of bulk at most 1048576: NARROWER than '..Said'. Prove '..Said' where nothing that the law and all that it calls make is longer than what came in: it says more and counts as full. Else prove '..UptoSaid'. A law counts once. -/
mutual
def uptoBulk {H : Type} : DataW H → Nat
  | .lit (.string bytes) => bytes.length + 1
  | .lit _ => 1
  | .nil => 1
  | .ptr d => uptoBulk d + 1
  | .slice elems spare => uptoBulkAll elems + uptoBulkAll spare + 1
  | .agg parts => uptoBulkAll parts + 1
  | .iface _ d => uptoBulk d + 1
  | .map entries => uptoBulkEntries entries + 1
  | .held _ => 1
def uptoBulkAll {H : Type} : List (DataW H) → Nat
  | [] => 0
  | d :: r => uptoBulk d + uptoBulkAll r
def uptoBulkEntries {H : Type} : List (Lit × DataW H) → Nat
  | [] => 0
  | x :: r => uptoBulkEntry x + uptoBulkEntries r
def uptoBulkEntry {H : Type} : Lit × DataW H → Nat
  | (.string bytes, d) => bytes.length + uptoBulk d + 1
  | (_, d) => uptoBulk d + 1
 end
def uptoSmall : (H : Type) → List (DataW H) → Bool := fun _ ds => decide (uptoBulkAll ds ≤ 1048576)
def OpenSpec.upto (s : _root_.Go.ChangeSpec) : _root_.Go.OpenSpec := { _root_.Go.OpenSpec.ofChange s with cond := some uptoSmall }

/-- 'wharfagelaw23.MoveApplies', WHERE WHAT IT READS IS OF BULK AT MOST 1048576: true; the input reads as it did. -/
def moveAppliesUptoRow : OpenClaim := { program := "ytpbhbmdghafkmaa", sum := "e7b6dd80ccfe2497055bd2feb215a2621fb88356075ebff14c222adfa3659d1c", func := "wharfage/wharfagelaw23.MoveApplies", spec := "moveApplies", inPlace := ["slices.overlaps[int]"], unfollowed := true, recurses := true, apart := false, narrowed := true }
def MoveAppliesUptoSaid : Prop := moveAppliesUptoRow.holds Try.pinned (OpenSpec.upto moveAppliesSpec)

/-- 'wharfagelaw23.MoveRaw', WHERE WHAT IT READS IS OF BULK AT MOST 1048576: true; the input reads as it did. -/
def moveRawUptoRow : OpenClaim := { program := "ytpbhbmdghafkmaa", sum := "e7b6dd80ccfe2497055bd2feb215a2621fb88356075ebff14c222adfa3659d1c", func := "wharfage/wharfagelaw23.MoveRaw", spec := "moveRaw", inPlace := ["slices.overlaps[int]"], unfollowed := true, recurses := true, apart := false, narrowed := true }
def MoveRawUptoSaid : Prop := moveRawUptoRow.holds Try.pinned (OpenSpec.upto moveRawSpec)

/-- 'wharfagelaw23.MoveBack', WHERE WHAT IT READS IS OF BULK AT MOST 1048576: true; the input reads as it did. -/
def moveBackUptoRow : OpenClaim := { program := "ytpbhbmdghafkmaa", sum := "e7b6dd80ccfe2497055bd2feb215a2621fb88356075ebff14c222adfa3659d1c", func := "wharfage/wharfagelaw23.MoveBack", spec := "moveBack", inPlace := ["slices.overlaps[int]"], unfollowed := true, recurses := true, apart := false, narrowed := true }
def MoveBackUptoSaid : Prop := moveBackUptoRow.holds Try.pinned (OpenSpec.upto moveBackSpec)

/-- 'wharfagelaw24.DeltaRounds', WHERE WHAT IT READS IS OF BULK AT MOST 1048576: true; the input reads as it did. -/
def deltaRoundsUptoRow : OpenClaim := { program := "ytpbhbmdghafkmaa", sum := "e7b6dd80ccfe2497055bd2feb215a2621fb88356075ebff14c222adfa3659d1c", func := "wharfage/wharfagelaw24.DeltaRounds", spec := "deltaRounds", inPlace := ["slices.overlaps[int]"], unfollowed := true, recurses := true, apart := false, narrowed := true }
def DeltaRoundsUptoSaid : Prop := deltaRoundsUptoRow.holds Try.pinned (OpenSpec.upto deltaRoundsSpec)

/-- 'wharfagelaw24.DeltaChanges', WHERE WHAT IT READS IS OF BULK AT MOST 1048576: true; the input reads as it did. -/
def deltaChangesUptoRow : OpenClaim := { program := "ytpbhbmdghafkmaa", sum := "e7b6dd80ccfe2497055bd2feb215a2621fb88356075ebff14c222adfa3659d1c", func := "wharfage/wharfagelaw24.DeltaChanges", spec := "deltaChanges", inPlace := ["slices.overlaps[int]"], unfollowed := true, recurses := true, apart := false, narrowed := true }
def DeltaChangesUptoSaid : Prop := deltaChangesUptoRow.holds Try.pinned (OpenSpec.upto deltaChangesSpec)

/-- 'wharfagelaw24.DeltaRaw', WHERE WHAT IT READS IS OF BULK AT MOST 1048576: true; the input reads as it did. -/
def deltaRawUptoRow : OpenClaim := { program := "ytpbhbmdghafkmaa", sum := "e7b6dd80ccfe2497055bd2feb215a2621fb88356075ebff14c222adfa3659d1c", func := "wharfage/wharfagelaw24.DeltaRaw", spec := "deltaRaw", inPlace := ["slices.overlaps[int]"], unfollowed := true, recurses := true, apart := false, narrowed := true }
def DeltaRawUptoSaid : Prop := deltaRawUptoRow.holds Try.pinned (OpenSpec.upto deltaRawSpec)

/-- 'wharfagelaw24.DeltaNone', WHERE WHAT IT READS IS OF BULK AT MOST 1048576: true; the input reads as it did. -/
def deltaNoneUptoRow : OpenClaim := { program := "ytpbhbmdghafkmaa", sum := "e7b6dd80ccfe2497055bd2feb215a2621fb88356075ebff14c222adfa3659d1c", func := "wharfage/wharfagelaw24.DeltaNone", spec := "deltaNone", inPlace := ["slices.overlaps[int]"], unfollowed := true, recurses := true, apart := false, narrowed := true }
def DeltaNoneUptoSaid : Prop := deltaNoneUptoRow.holds Try.pinned (OpenSpec.upto deltaNoneSpec)

/-- 'wharfagelaw24.DeltaPlan', WHERE WHAT IT READS IS OF BULK AT MOST 1048576: true; the input reads as it did. -/
def deltaPlanUptoRow : OpenClaim := { program := "ytpbhbmdghafkmaa", sum := "e7b6dd80ccfe2497055bd2feb215a2621fb88356075ebff14c222adfa3659d1c", func := "wharfage/wharfagelaw24.DeltaPlan", spec := "deltaPlan", inPlace := ["slices.overlaps[int]"], unfollowed := true, recurses := true, apart := false, narrowed := true }
def DeltaPlanUptoSaid : Prop := deltaPlanUptoRow.holds Try.pinned (OpenSpec.upto deltaPlanSpec)

/-- 'wharfagelaw23.MoveKeeps', WHERE WHAT IT READS IS OF BULK AT MOST 1048576: true; the input reads as it did. -/
def moveKeepsUptoRow : OpenClaim := { program := "ytpbhbmdghafkmaa", sum := "e7b6dd80ccfe2497055bd2feb215a2621fb88356075ebff14c222adfa3659d1c", func := "wharfage/wharfagelaw23.MoveKeeps", spec := "moveKeeps", inPlace := ["slices.overlaps[int]"], unfollowed := true, recurses := true, apart := false, narrowed := true }
def MoveKeepsUptoSaid : Prop := moveKeepsUptoRow.holds Try.pinned (OpenSpec.upto moveKeepsSpec)

end Rows
end Go.Proofs.Ytpbhbmdghafkmaa
