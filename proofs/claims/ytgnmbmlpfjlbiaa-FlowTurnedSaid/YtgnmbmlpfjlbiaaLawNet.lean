/- law09.Ends: two nodes that aren't the same. What the laws of flow share: the net that a law makes, and its ends. -/
import Derived.Test.YtgnmbmlpfjlbiaaFlowNet
import Derived.Test.YtgnmbmlpfjlbiaaTubesOpen
import Derived.Test.YtgnmbmlpfjlbiaaCutM
namespace Go.Proofs.Ytgnmbmlpfjlbiaa
open Go.ChangeShapes Go.WideShapes Go.ChangeAt Go.RowKit
set_option linter.unusedVariables false
def fromOf (N a : Int) : Int := a % N
def toOf (N a b : Int) : Int := (a % N + 1 + b % (N - 1)) % N
theorem ends_in {N a b : Int} (hN : 2 ≤ N) : 0 ≤ fromOf N a ∧ fromOf N a < N ∧ 0 ≤ toOf N a b ∧ toOf N a b < N ∧ fromOf N a ≠ toOf N a b := by
  unfold fromOf toOf
  have h1 := Int.emod_nonneg a (b := N) (by omega)
  have h2 := Int.emod_lt_of_pos a (b := N) (by omega)
  have h3 := Int.emod_nonneg b (b := N - 1) (by omega)
  have h4 := Int.emod_lt_of_pos b (b := N - 1) (by omega)
  generalize a % N = x at *
  generalize b % (N - 1) = y at *
  have h5 := Int.emod_nonneg (x + 1 + y) (b := N) (by omega)
  have h6 := Int.emod_lt_of_pos (x + 1 + y) (b := N) (by omega)
  refine ⟨h1, h2, h5, h6, fun e => ?_⟩
  by_cases h : x + 1 + y < N
  · rw [Int.emod_eq_of_lt (by omega) h] at e; omega
  · have : (x + 1 + y) % N = x + 1 + y - N := by
      rw [← Int.sub_emod_right, Int.emod_eq_of_lt (by omega) (by omega)]
    omega
set_option maxHeartbeats 800000 in
theorem ends09_any (N : Int) (V : Value) (a b : Int) (w : World) (h2 : 2 ≤ N) (h6 : N ≤ 6) (a0 : 0 ≤ a) (a1 : a ≤ 255) (b0 : 0 ≤ b) (b1 : b ≤ 255) :
    Calls Try.prog 15 #[.agg #[.int .i64 N, V], .int .u8 a, .int .u8 b] w fun e w' => e = .returned (.tuple #[.int .i64 (fromOf N a), .int .i64 (toOf N a b)]) ∧ Below w.heap.size w w' := by
  have hS0 := (SL.start (Nat.le_refl w.heap.size)).alloc #[.int .i64 N, V] 26
  have k1 := Int.emod_nonneg a (b := N) (by omega)
  have k2 := Int.emod_lt_of_pos a (b := N) (by omega)
  have k3 := Int.emod_nonneg b (b := N - 1) (by omega)
  have k4 := Int.emod_lt_of_pos b (b := N - 1) (by omega)
  go_enter Try.func15, Try.ntmps15
  go_wp2_with fail
  refine wp_region_sl [0,1,2,3,4,5,6,7,8,9,10,11,12,13] [] [14] [.blk w.heap.size #[.int .i64 N, V] 26] hS0 (by simp) (by kernel_rfl) (by kernel_rfl) (.cons rfl .nil) (fun C cw _ hC => ?_)
  have q0 : ∀ c, (cw c).cell? ⟨w.heap.size, 0, none⟩ = some (.int .i64 N) := fun c => (hC c).cell 0 rfl 0 rfl
  repeat (refine pl_look rfl rfl rfl (fun Kv hK => ?_); go_big_quiet_op; refine hK _ ?_; clear hK Kv)
  clear q0 hC
  refine pl_end ?_
  intro w1 hS4
  refine pm_end ?_
  have HS4 := Lib.hid hS4
  clear hS0 hS4
  go_wp2_with fail
  go_ret2
  exact ⟨rfl, HS4.out.below⟩
end Go.Proofs.Ytgnmbmlpfjlbiaa
namespace Go.Proofs.Ytgnmbmlpfjlbiaa
open Go.ChangeShapes Go.WideShapes Go.ChangeAt Go.RowKit
set_option linter.unusedVariables false
/-- Of a law's net and its ends: what the walks use. -/
structure LawNet (N : Nat) (L : List PipeV) (s t : Int) : Prop where
  n2 : 2 ≤ N
  n6 : N ≤ 6
  len : L.length ≤ 14
  inn : InP N L
  small : ∀ p ∈ L, p.room ≤ 255
  ends : endsP N L s t = 0
  check : checkP N L = 0
  s0 : 0 ≤ s
  s1 : s < N
  t0 : 0 ≤ t
  t1 : t < N
  ne : s ≠ t
theorem lawNet {n a b : Int} {l : List TubeV} (h0 : 0 ≤ n) (hok : ∀ x ∈ l, x.ok) : LawNet (nodesF n) (pipesOf (nodesF n) l) (fromOf (nodesF n) a) (toOf (nodesF n) a b) := by
  have h2 : 2 ≤ nodesF n := by unfold nodesF; omega
  have h6 : nodesF n ≤ 6 := by unfold nodesF; omega
  obtain ⟨hi, hr, hc⟩ := pipesOf_in (N := nodesF n) (l := l) (by omega) hok
  have hl := pipesOf_len (nodesF n) l
  obtain ⟨e1, e2, e3, e4, e5⟩ := ends_in (N := (nodesF n : Int)) (a := a) (b := b) (by omega)
  have hck := checkP_good (N := nodesF n) (by omega) (by omega) hi hc
  refine ⟨h2, h6, hl, hi, hr, ?_, hck, e1, e2, e3, e4, e5⟩
  unfold endsP
  rw [if_neg (by omega), if_neg (by omega)]
theorem lawNet_pack (W : World) (n : Int) (A : Option Addr) (cap : Nat) (l : List TubeV) (a b : Int) (hr : Tubes W W.heap.size A l) (hl : l.length ≤ maxLen) (hok : ∀ x ∈ l, x.ok) (n0 : 0 ≤ n) (n1 : n ≤ 255) (a0 : 0 ≤ a) (a1 : a ≤ 255) (b0 : 0 ≤ b) (b1 : b ≤ 255) :
    ∃ (N : Nat) (L : List PipeV) (s t : Int), LawNet N L s t ∧ (∀ w1 : World, Below W.heap.size W w1 → Calls Try.prog 14 #[.int .u8 n, .slice A l.length cap] w1 (NetPost w1 N L)) ∧
      (∀ (V : Value) (w1 : World), Calls Try.prog 15 #[.agg #[.int .i64 N, V], .int .u8 a, .int .u8 b] w1 (fun e w' => e = .returned (.tuple #[.int .i64 s, .int .i64 t]) ∧ Below w1.heap.size w1 w')) := by
  have hLN := lawNet (a := a) (b := b) n0 hok
  exact ⟨_, _, _, _, hLN, fun w1 hb => net09_any n A cap l w1 (reads_more (Reads.below hr hb) hb.size) hl n0 n1 hok, fun V w1 => ends09_any (nodesF n) V a b w1 (by have := hLN.n2; omega) (by have := hLN.n6; omega) a0 a1 b0 b1⟩
end Go.Proofs.Ytgnmbmlpfjlbiaa
