/- The library's table: what the row's condition gives a walk; a world that meets the condition. -/
import Derived.Test.YtoppnalfbgedmaaDoorSetBack
import Derived.Lib.LaidTab
import Derived.LaidLaws
import Derived.ChangeSame
import Derived.ChangeVars
import Derived.JoinedOf
import Derived.RowKitTokens
import Derived.LaidHandle
import Derived.Stop.Joined
namespace Go.Proofs.YtoppnalfbgedmaaDoor
open Go.ChangeShapes Go.WideShapes Go.ChangeAt Go.RowKit
set_option linter.unusedVariables false
def deB : List Int := [0, 1, 56, 2, 57, 49, 28, 3, 61, 58, 42, 50, 38, 29, 17, 4, 62, 47, 59, 36, 45, 43, 51, 22, 53, 39, 33, 30, 24, 18, 12, 5, 63, 55, 48, 27, 60, 41, 37, 16, 46, 35, 44, 21, 52, 32, 23, 11, 54, 26, 40, 15, 34, 20, 31, 10, 25, 14, 19, 9, 13, 8, 7, 6]
theorem deB_at : ∀ t, t < 64 → deB.getD (dbIdx t) 0 = (t : Int) ∧ dbIdx t < deB.length := by
  have : (List.range 64).all (fun t => decide (deB.getD (dbIdx t) 0 = (t : Int) ∧ dbIdx t < deB.length)) = true := by decide +kernel
  intro t ht
  exact of_decide_eq_true (List.all_eq_true.1 this t (by simpa using ht))
theorem gTab : Tryd.prog.globalNamed "math/bits.deBruijn64tab" = some 0 := by kernel_rfl
theorem gTabTy : (Tryd.prog.globals[0]?).map (·.type) = some 39 := by kernel_rfl
theorem tab_of_laid {W : World} (h : laidMet Tryd.prog [("math/bits.deBruijn64tab", Rows.laid_math_bits_deBruijn64tab)] W) : Tab W := by
  have ht : Lib.TabIs Tryd.prog W "math/bits.deBruijn64tab" .u8 deB := Lib.tabIs_of_head (rest := []) gTab gTabTy Tryd.underlying39 Tryd.underlying5 (by kernel_rfl) (by kernel_rfl) h
  intro t h64
  obtain ⟨h1, h2⟩ := deB_at t h64
  have := ht.cell gTab (dbIdx t) h2
  rw [this, h1]
theorem tab_size {W : World} (h : Tab W) : 0 < W.heap.size := by
  have := World.block_lt_of_cell? W _ (h 0 (by omega))
  exact Nat.lt_of_le_of_lt (Nat.zero_le _) this
noncomputable def laidWorld (os : Os) : World :=
  { World.holding Tryd.prog os ⟨#[], #[], []⟩ with heap := (World.holding Tryd.prog os ⟨#[], #[], []⟩).heap.modify 0 fun
      | .cells _ t frozen => .cells (deB.map (Value.int .u8)).toArray t frozen
      | o => o }
theorem laidWorld_met (os : Os) (args : Array Value) : laidMet Tryd.prog [("math/bits.deBruijn64tab", Rows.laid_math_bits_deBruijn64tab)] ((laidWorld os).forCall (fun _ _ => 0) ⟨#[], args, []⟩).memory :=
  laidMet_of_run' 8 (by kernel_rfl) (by kernel_rfl)
end Go.Proofs.YtoppnalfbgedmaaDoor
