/- The walks of least.run's small methods: steep, nearer, back. -/
import Derived.Test.YtgnmbmlpfjlbiaaPlanK
import Derived.Test.YtgnmbmlpfjlbiaaDij
namespace Go.Proofs.Ytgnmbmlpfjlbiaa
open Go.ChangeShapes Go.WideShapes Go.ChangeAt Go.RowKit
set_option linter.unusedVariables false
/-- A run in memory. -/
def runCells (N L cap : Nat) (A : Option Addr) (fb hb : Nat) (cst : Int) (fv bv : Value) : Array Value := #[.int .i64 N, .slice A L cap, .slice (some ⟨fb, 0, none⟩) L L, .int .i64 cst, .slice (some ⟨hb, 0, none⟩) N N, fv, bv]
set_option maxRecDepth 100000 in
set_option maxHeartbeats 2000000 in
theorem steep_any (w : World) (rb N hb : Nat) (fr tt room cost hi hj : Int) (i j : Nat) (ei : fr = i) (ej : tt = j) (hiN : i < N) (hjN : j < N) (hN : N ≤ 1000)
    (c4 : w.cell? ⟨rb, 4, none⟩ = some (.slice (some ⟨hb, 0, none⟩) N N)) (ci : w.cell? ⟨hb, i, none⟩ = some (.int .i64 hi)) (cj : w.cell? ⟨hb, j, none⟩ = some (.int .i64 hj)) (hc : 0 ≤ cost ∧ cost ≤ 4294967296) (hhi : 0 ≤ hi ∧ hi ≤ 4398046511104) (hhj : 0 ≤ hj ∧ hj ≤ 4398046511104) :
    Calls Try.prog 46 #[.pointer (some ⟨rb, 0, none⟩), .agg #[.int .i64 fr, .int .i64 tt, .int .i64 room, .int .i64 cost]] w fun e w' => e = .returned (.int .i64 (cost + hi - hj)) ∧ Below w.heap.size w w' := by
  subst ei ej
  have hS0 := (SL.start (Nat.le_refl w.heap.size)).alloc #[.int .i64 i, .int .i64 j, .int .i64 room, .int .i64 cost] 40
  have l1 : rb < w.heap.size := World.block_lt_of_cell? w _ c4
  have l2 : hb < w.heap.size := World.block_lt_of_cell? w _ ci
  have HC := Lib.hid (And.intro c4 (And.intro ci cj))
  have hW1 : cost + hi ≤ 9223372036854775807 ∧ -9223372036854775808 ≤ cost + hi ∧ cost + hi - hj ≤ 9223372036854775807 ∧ -9223372036854775808 ≤ cost + hi - hj := by omega
  clear c4 ci cj
  go_enter Try.func46, Try.ntmps46
  go_upto_region 1 with fail
  generalize (w.alloc (.cells #[.int .i64 i, .int .i64 j, .int .i64 room, .int .i64 cost] 40)) = w1 at *
  generalize hgp : w.heap.size = gp at hS0 l1 l2 ⊢
  refine wp_region_sl [0,1,2,3,4,5,6,7,8,9,10,11,12,13,14,15,16,17,18,19,20,21] [] [22] _ hS0 (List.Sublist.refl _) (by kernel_rfl) (by kernel_rfl) (.cons rfl .nil) (fun C cw _ hC => ?_)
  have q0 : ∀ c, (cw c).cell? ⟨gp, 0, none⟩ = some (.int .i64 (i : Int)) := fun c => (hC c).cell 0 rfl 0 rfl
  have q1 : ∀ c, (cw c).cell? ⟨gp, 1, none⟩ = some (.int .i64 (j : Int)) := fun c => (hC c).cell 0 rfl 1 rfl
  have q3 : ∀ c, (cw c).cell? ⟨gp, 3, none⟩ = some (.int .i64 cost) := fun c => (hC c).cell 0 rfl 3 rfl
  have q4 : ∀ c, (cw c).cell? ⟨rb, 4, none⟩ = some (.slice (some ⟨hb, 0, none⟩) N N) := fun c => ((hC c).below.cell l1).trans HC.out.1
  have q5 : ∀ c, (cw c).cell? ⟨hb, i, none⟩ = some (.int .i64 hi) := fun c => ((hC c).below.cell l2).trans HC.out.2.1
  have q6 : ∀ c, (cw c).cell? ⟨hb, j, none⟩ = some (.int .i64 hj) := fun c => ((hC c).below.cell l2).trans HC.out.2.2
  have HG := Lib.hid hgp
  clear hgp
  repeat (first | (refine pl_nil _ _ rfl rfl rfl rfl (fun Kv hK => ?_); go_simp; refine hK _ ?_; clear hK Kv) | (refine pl_look rfl rfl rfl (fun Kv hK => ?_); go_big_quiet_op; refine hK _ ?_; clear hK Kv))
  refine pl_end ?_
  intro w2 hS2
  refine pm_end ?_
  have HB2 := Lib.hid hS2.below
  clear q0 q1 q3 q4 q5 q6 hC hS0 hS2
  go_wp2_with fail
  go_ret
  exact ⟨rfl, by rw [HG.out]; exact HB2.out⟩
set_option maxRecDepth 100000 in
set_option maxHeartbeats 2000000 in
/-- The node that a step comes from. -/
theorem back_any (w : World) (rb k L cap : Nat) (b : Bool) (p o : Nat) (fr tt : Int) (hk : k < L) (hL : L ≤ 20000)
    (c1 : w.cell? ⟨rb, 1, none⟩ = some (.slice (some ⟨p, o, none⟩) L cap)) (d0 : w.cell? ⟨p, o + k * 4, none⟩ = some (.int .i64 fr)) (d1 : w.cell? ⟨p, o + k * 4 + 1, none⟩ = some (.int .i64 tt)) :
    Calls Try.prog 47 #[.pointer (some ⟨rb, 0, none⟩), .agg #[.int .i64 k, .bool b]] w fun e w' => e = .returned (.int .i64 (if b then tt else fr)) ∧ Below w.heap.size w w' := by
  have hS0 := (SL.start (Nat.le_refl w.heap.size)).alloc #[.int .i64 k, .bool b] 92
  have l1 : rb < w.heap.size := World.block_lt_of_cell? w _ c1
  have l2 : p < w.heap.size := World.block_lt_of_cell? w _ d0
  have HC := Lib.hid (And.intro c1 (And.intro d0 d1))
  clear c1 d0 d1
  go_enter Try.func47, Try.ntmps47
  go_upto_region 1 with fail
  generalize (w.alloc (.cells #[.int .i64 k, .bool b] 92)) = w1 at *
  generalize hgp : w.heap.size = gp at hS0 l1 l2 ⊢
  have HG := Lib.hid hgp
  clear hgp
  have z1 : w1.cell? ⟨gp, 1, none⟩ = some (.bool b) := hS0.cell 0 rfl 1 rfl
  cases b
  · go_upto_region 3 with fail
    refine wp_region_sl [0,1,2,3,4,5,6,7,8,9] [] [10] _ hS0 (List.Sublist.refl _) (by kernel_rfl) (by kernel_rfl) (.cons rfl .nil) (fun C cw _ hC => ?_)
    have q0 : ∀ c, (cw c).cell? ⟨gp, 0, none⟩ = some (.int .i64 (k : Int)) := fun c => (hC c).cell 0 rfl 0 rfl
    have q4 : ∀ c, (cw c).cell? ⟨rb, 1, none⟩ = some (.slice (some ⟨p, o, none⟩) L cap) := fun c => ((hC c).below.cell l1).trans HC.out.1
    have q5 : ∀ c, (cw c).cell? ⟨p, o + k * 4, none⟩ = some (.int .i64 fr) := fun c => ((hC c).below.cell l2).trans HC.out.2.1
    clear z1
    repeat (first | (refine pl_nil _ _ rfl rfl rfl rfl (fun Kv hK => ?_); go_simp; refine hK _ ?_; clear hK Kv) | (refine pl_look rfl rfl rfl (fun Kv hK => ?_); go_big_quiet_op; refine hK _ ?_; clear hK Kv))
    refine pl_end ?_
    intro w2 hS2
    refine pm_end ?_
    have HB2 := Lib.hid hS2.below
    clear q0 q4 q5 hC hS0 hS2
    go_wp2_with fail
    go_ret
    exact ⟨rfl, by rw [HG.out]; exact HB2.out⟩
  · go_upto_region 2 with fail
    refine wp_region_sl [0,1,2,3,4,5,6,7,8,9] [] [10] _ hS0 (List.Sublist.refl _) (by kernel_rfl) (by kernel_rfl) (.cons rfl .nil) (fun C cw _ hC => ?_)
    have q0 : ∀ c, (cw c).cell? ⟨gp, 0, none⟩ = some (.int .i64 (k : Int)) := fun c => (hC c).cell 0 rfl 0 rfl
    have q4 : ∀ c, (cw c).cell? ⟨rb, 1, none⟩ = some (.slice (some ⟨p, o, none⟩) L cap) := fun c => ((hC c).below.cell l1).trans HC.out.1
    have q5 : ∀ c, (cw c).cell? ⟨p, o + k * 4 + 1, none⟩ = some (.int .i64 tt) := fun c => ((hC c).below.cell l2).trans HC.out.2.2
    clear z1
    repeat (first | (refine pl_nil _ _ rfl rfl rfl rfl (fun Kv hK => ?_); go_simp; refine hK _ ?_; clear hK Kv) | (refine pl_look rfl rfl rfl (fun Kv hK => ?_); go_big_quiet_op; refine hK _ ?_; clear hK Kv))
    refine pl_end ?_
    intro w2 hS2
    refine pm_end ?_
    have HB2 := Lib.hid hS2.below
    clear q0 q4 q5 hC hS0 hS2
    go_wp2_with fail
    go_ret
    exact ⟨rfl, by rw [HG.out]; exact HB2.out⟩
end Go.Proofs.Ytgnmbmlpfjlbiaa
