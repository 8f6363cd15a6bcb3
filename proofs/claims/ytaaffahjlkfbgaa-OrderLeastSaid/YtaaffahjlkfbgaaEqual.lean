/- slices.Equal at rows that hold the same: it answers true. -/
import Derived.Test.YtaaffahjlkfbgaaRows
import Derived.Test.YtaaffahjlkfbgaaSL
import Derived.Deep.QuietTactic
import Derived.BigQuiet
import Derived.WalkSmall
namespace Go.Proofs.Ytaaffahjlkfbgaa
open Go.ChangeShapes Go.WideShapes Go.ChangeAt Go.RowKit
set_option linter.unusedVariables false
theorem equal_ints (A A' : Option Addr) (c c' : Nat) (zs : List Int) (w : World) (h1 : Reads w w.heap.size 1 A zs.length (zs.map (.int .i64))) (h2 : Reads w w.heap.size 1 A' zs.length (zs.map (.int .i64))) (hl : zs.length ≤ maxLen) :
    Calls Try.prog 34 #[.slice A zs.length c, .slice A' zs.length c'] w fun e w' => e = .returned (.bool true) ∧ Below w.heap.size w w' := by
  unfold maxLen at hl
  go_enter Try.func34, Try.ntmps34
  go_wp2
  go_loopw [13] (fun i wr => ∃ k : Nat, k ≤ zs.length ∧ i = .int .i64 k ∧ Below w.heap.size w wr) (fun i _ => zs.length - (intOf i).toNat)
  case atStart => exact ⟨0, by omega, rfl, Below.refl _ _⟩
  case round =>
    obtain ⟨k, hk, rfl, hB⟩ := hrel
    by_cases hlt : k < zs.length
    · obtain ⟨b1, o1, rfl, _, g1⟩ := reads_plain (h1.below hB) (by omega) Nat.one_pos
      obtain ⟨b2, o2, rfl, _, g2⟩ := reads_plain (h2.below hB) (by omega) Nat.one_pos
      have d1 : wr.cell? ⟨b1, o1 + k, none⟩ = some (.int .i64 zs[k]) := g1 k _ (by simp [hlt])
      have d2 : wr.cell? ⟨b2, o2 + k, none⟩ = some (.int .i64 zs[k]) := g2 k _ (by simp [hlt])
      have hk1 : (k : Int) < (zs.length : Int) := by omega
      have hk0 : (0 : Int) ≤ (k : Int) := by omega
      have hne : (zs[k] != zs[k]) = false := by simp
      clear g1 g2 h1 h2
      go_wp2
      go_quiet (fail)
      go_wp2
      go_roundw
      case rel => exact ⟨k + 1, by omega, by go_num, below_drewN hB _⟩
      case measure => simp [intOf]; omega
    · obtain rfl : k = zs.length := by omega
      go_wp2
      go_ret
      exact ⟨rfl, hB⟩
theorem equal_int64s (A A' : Option Addr) (c c' : Nat) (zs : List Int) (w : World) (h1 : Reads w w.heap.size 1 A zs.length (zs.map (.int .i64))) (h2 : Reads w w.heap.size 1 A' zs.length (zs.map (.int .i64))) (hl : zs.length ≤ maxLen) :
    Calls Try.prog 38 #[.slice A zs.length c, .slice A' zs.length c'] w fun e w' => e = .returned (.bool true) ∧ Below w.heap.size w w' := by
  unfold maxLen at hl
  go_enter Try.func38, Try.ntmps38
  go_wp2
  go_loopw [13] (fun i wr => ∃ k : Nat, k ≤ zs.length ∧ i = .int .i64 k ∧ Below w.heap.size w wr) (fun i _ => zs.length - (intOf i).toNat)
  case atStart => exact ⟨0, by omega, rfl, Below.refl _ _⟩
  case round =>
    obtain ⟨k, hk, rfl, hB⟩ := hrel
    by_cases hlt : k < zs.length
    · obtain ⟨b1, o1, rfl, _, g1⟩ := reads_plain (h1.below hB) (by omega) Nat.one_pos
      obtain ⟨b2, o2, rfl, _, g2⟩ := reads_plain (h2.below hB) (by omega) Nat.one_pos
      have d1 : wr.cell? ⟨b1, o1 + k, none⟩ = some (.int .i64 zs[k]) := g1 k _ (by simp [hlt])
      have d2 : wr.cell? ⟨b2, o2 + k, none⟩ = some (.int .i64 zs[k]) := g2 k _ (by simp [hlt])
      have hk1 : (k : Int) < (zs.length : Int) := by omega
      have hk0 : (0 : Int) ≤ (k : Int) := by omega
      have hne : (zs[k] != zs[k]) = false := by simp
      clear g1 g2 h1 h2
      go_wp2
      go_quiet (fail)
      go_wp2
      go_roundw
      case rel => exact ⟨k + 1, by omega, by go_num, below_drewN hB _⟩
      case measure => simp [intOf]; omega
    · obtain rfl : k = zs.length := by omega
      go_wp2
      go_ret
      exact ⟨rfl, hB⟩
end Go.Proofs.Ytaaffahjlkfbgaa
