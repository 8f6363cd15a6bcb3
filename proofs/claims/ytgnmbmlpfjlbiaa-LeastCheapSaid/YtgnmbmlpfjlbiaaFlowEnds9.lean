/- law09.Ends: two nodes that aren't the same. -/
import Derived.Test.YtgnmbmlpfjlbiaaFlowNet
namespace Go.Proofs.Ytgnmbmlpfjlbiaa
open Go.ChangeShapes Go.WideShapes Go.ChangeAt Go.RowKit
set_option linter.unusedVariables false
def fromOf (N a : Int) : Int := a % N
def toOf (N a b : Int) : Int := (a % N + 1 + b % (N - 1)) % N
theorem ends_in {N a b : Int} (hN : 2 ≤ N) : 0 ≤ fromOf N a ∧ fromOf N a < N ∧ 0 ≤ toOf N a b ∧ toOf N a b < N ∧ fromOf N a ≠ toOf N a b := by
  unfold fromOf toOf
  have h1 := Int.emod_nonneg a (b := N) (by omega)
  have h2 := Int.emod_lt_of_pos a (b := N) (by omega)
  have h3 := Int.emod_nonneg b (b := N - 1) (by omega)
  have h4 := Int.emod_lt_of_pos b (b := N - 1) (by omega)
  generalize a % N = x at *
  generalize b % (N - 1) = y at *
  have h5 := Int.emod_nonneg (x + 1 + y) (b := N) (by omega)
  have h6 := Int.emod_lt_of_pos (x + 1 + y) (b := N) (by omega)
  refine ⟨h1, h2, h5, h6, fun e => ?_⟩
  by_cases h : x + 1 + y < N
  · rw [Int.emod_eq_of_lt (by omega) h] at e; omega
  · have : (x + 1 + y) % N = x + 1 + y - N := by
      rw [← Int.sub_emod_right, Int.emod_eq_of_lt (by omega) (by omega)]
    omega
set_option maxHeartbeats 800000 in
theorem ends09_any (N : Int) (V : Value) (a b : Int) (w : World) (h2 : 2 ≤ N) (h6 : N ≤ 6) (a0 : 0 ≤ a) (a1 : a ≤ 255) (b0 : 0 ≤ b) (b1 : b ≤ 255) :
    Calls Try.prog 15 #[.agg #[.int .i64 N, V], .int .u8 a, .int .u8 b] w fun e w' => e = .returned (.tuple #[.int .i64 (fromOf N a), .int .i64 (toOf N a b)]) ∧ Below w.heap.size w w' := by
  have hS0 := (SL.start (Nat.le_refl w.heap.size)).alloc #[.int .i64 N, V] 26
  have k1 := Int.emod_nonneg a (b := N) (by omega)
  have k2 := Int.emod_lt_of_pos a (b := N) (by omega)
  have k3 := Int.emod_nonneg b (b := N - 1) (by omega)
  have k4 := Int.emod_lt_of_pos b (b := N - 1) (by omega)
  go_enter Try.func15, Try.ntmps15
  go_wp2_with fail
  refine wp_region_sl [0,1,2,3,4,5,6,7,8,9,10,11,12,13] [] [14] [.blk w.heap.size #[.int .i64 N, V] 26] hS0 (by simp) (by kernel_rfl) (by kernel_rfl) (.cons rfl .nil) (fun C cw _ hC => ?_)
  have q0 : ∀ c, (cw c).cell? ⟨w.heap.size, 0, none⟩ = some (.int .i64 N) := fun c => (hC c).cell 0 rfl 0 rfl
  repeat (refine pl_look rfl rfl rfl (fun Kv hK => ?_); go_big_quiet_op; refine hK _ ?_; clear hK Kv)
  clear q0 hC
  refine pl_end ?_
  intro w1 hS4
  refine pm_end ?_
  have HS4 := Lib.hid hS4
  clear hS0 hS4
  go_wp2_with fail
  go_ret2
  exact ⟨rfl, HS4.out.below⟩
end Go.Proofs.Ytgnmbmlpfjlbiaa
