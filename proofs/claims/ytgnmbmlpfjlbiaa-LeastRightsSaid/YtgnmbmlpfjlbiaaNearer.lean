/- The walk of least.run.nearer. -/
import Derived.Test.YtgnmbmlpfjlbiaaLeastA
namespace Go.Proofs.Ytgnmbmlpfjlbiaa
open Go.ChangeShapes Go.WideShapes Go.ChangeAt Go.RowKit
set_option linter.unusedVariables false
/-- A run, and what it holds. -/
def RunRs (rb fb hb gf gb N L cap : Nat) (A : Option Addr) (cst : Int) (x h far : Nat → Int) (by_ : Nat → Int × Bool) (rs : List Rs) : List Rs :=
  .blk rb (runCells N L cap A fb hb cst (.slice (some ⟨gf, 0, none⟩) N N) (.slice (some ⟨gb, 0, none⟩) N N)) 73 :: .blk fb (iarr x L) 2 :: .blk hb (iarr h N) 2 :: .blk gf (iarr far N) 2 :: .blk gb (sarr by_ N) 92 :: rs
theorem run_pile {W w : World} {B : Nat} {rb fb hb gf gb N L cap pb n : Nat} {A : Option Addr} {cst : Int} {x h far : Nat → Int} {by_ : Nat → Int × Bool} {v : Value} {f : Nat → ItemV} {rs : List Rs} (hS : SL W B (RunRs rb fb hb gf gb N L cap A cst x h far by_ (PileRs pb v n f rs)) w) : SL W B (PileRs pb v n f (RunRs rb fb hb gf gb N L cap A cst x h far by_ rs)) w :=
  hS.perm (List.perm_append_comm_assoc [_, _, _, _, _] [_, _] rs)
theorem pile_run {W w : World} {B : Nat} {rb fb hb gf gb N L cap pb n : Nat} {A : Option Addr} {cst : Int} {x h far : Nat → Int} {by_ : Nat → Int × Bool} {v : Value} {f : Nat → ItemV} {rs : List Rs} (hS : SL W B (PileRs pb v n f (RunRs rb fb hb gf gb N L cap A cst x h far by_ rs)) w) : SL W B (RunRs rb fb hb gf gb N L cap A cst x h far by_ (PileRs pb v n f rs)) w :=
  hS.perm (List.perm_append_comm_assoc [_, _] [_, _, _, _, _] rs)
set_option maxRecDepth 100000 in
set_option maxHeartbeats 2000000 in
theorem nearer_no (W w : World) (B rb fb hb gf gb N L cap pb : Nat) (A : Option Addr) (cst : Int) (x h far : Nat → Int) (by_ : Nat → Int × Bool) (rs : List Rs) (i : Nat) (t key k : Int) (b : Bool) (ht : t = i) (hi : i < N) (hN : N ≤ 1000) (hno : ¬ key < far i) (hS : SL W B (RunRs rb fb hb gf gb N L cap A cst x h far by_ rs) w) :
    Calls Try.prog 45 #[.pointer (some ⟨rb, 0, none⟩), .pointer (some ⟨pb, 0, none⟩), .int .i64 t, .int .i64 key, .agg #[.int .i64 k, .bool b]] w fun e w' => e = .returned (.tuple #[]) ∧ SL W B (RunRs rb fb hb gf gb N L cap A cst x h far by_ rs) w' := by
  subst ht
  have hS0 := hS.alloc #[.int .i64 k, .bool b] 92
  have l1 := (hS.lt 0 rfl).2
  have l2 := (hS.lt 3 rfl).2
  have y5 : w.cell? ⟨rb, 5, none⟩ = some (.slice (some ⟨gf, 0, none⟩) N N) := hS.cell 0 rfl 5 rfl
  have yi := hS.cell 3 rfl i (iarr_get _ _ _ hi)
  have HS0 := Lib.hid hS0.tail
  clear hS hS0
  go_enter Try.func45, Try.ntmps45
  go_wp2_with fail
  go_end0
  exact ⟨rfl, HS0.out⟩
set_option maxRecDepth 100000 in
set_option maxHeartbeats 2000000 in
theorem nearer_yes (W w : World) (B rb fb hb gf gb N L cap pb n : Nat) (A : Option Addr) (cst : Int) (x h far : Nat → Int) (by_ : Nat → Int × Bool) (v : Value) (f : Nat → ItemV) (rs : List Rs) (i : Nat) (t key k : Int) (b : Bool) (ht : t = i) (hi : i < N) (hN : N ≤ 1000) (hn : n ≤ 800000) (hlt : key < far i) (hS : SL W B (RunRs rb fb hb gf gb N L cap A cst x h far by_ (PileRs pb v n f rs)) w) :
    Calls Try.prog 45 #[.pointer (some ⟨rb, 0, none⟩), .pointer (some ⟨pb, 0, none⟩), .int .i64 t, .int .i64 key, .agg #[.int .i64 k, .bool b]] w fun e w' => e = .returned (.tuple #[]) ∧ ∃ v', SL W B (RunRs rb fb hb gf gb N L cap A cst x h (fun j => if j = i then key else far j) (setS by_ i (k, b)) (PileRs pb v' (n + 1) (putM f n ⟨key, i⟩) rs)) w' := by
  subst ht
  have hS0 := hS.alloc #[.int .i64 k, .bool b] 92
  have l1 := (hS.lt 0 rfl).2
  have l2 := (hS.lt 3 rfl).2
  have y5 : w.cell? ⟨rb, 5, none⟩ = some (.slice (some ⟨gf, 0, none⟩) N N) := hS.cell 0 rfl 5 rfl
  have yi := hS.cell 3 rfl i (iarr_get _ _ _ hi)
  clear hS
  go_enter Try.func45, Try.ntmps45
  go_upto_region 2 with fail
  clear y5 yi l1 l2
  obtain ⟨bx, hbx⟩ : ∃ bx, bx = w.heap.size := ⟨_, rfl⟩
  generalize (w.alloc (.cells #[.int .i64 k, .bool b] 92)) = w1 at *
  rw [← hbx] at hS0 ⊢
  clear hbx
  refine wp_region_sl [0,1,2,3,4,5,6,7,8,9,10,11] [12,13] [14,15] [.blk bx #[.int .i64 k, .bool b] 92, .blk rb (runCells N L cap A fb hb cst (.slice (some ⟨gf, 0, none⟩) N N) (.slice (some ⟨gb, 0, none⟩) N N)) 73] hS0 (.cons_cons _ (.cons_cons _ (List.nil_sublist _))) (by kernel_rfl) (by kernel_rfl) (.cons rfl (.cons rfl .nil)) (fun C cw _ hC => ?_)
  have q0 : ∀ c, (cw c).cell? ⟨bx, 0, none⟩ = some (.int .i64 k) := fun c => (hC c).cell 0 rfl 0 rfl
  have q1 : ∀ c, (cw c).cell? ⟨bx, 1, none⟩ = some (.bool b) := fun c => (hC c).cell 0 rfl 1 rfl
  have q2 : ∀ c, (cw c).cell? ⟨rb, 5, none⟩ = some (.slice (some ⟨gf, 0, none⟩) N N) := fun c => (hC c).cell 1 rfl 5 rfl
  have q3 : ∀ c, (cw c).cell? ⟨rb, 6, none⟩ = some (.slice (some ⟨gb, 0, none⟩) N N) := fun c => (hC c).cell 1 rfl 6 rfl
  repeat (first | (refine pl_nil _ _ rfl rfl rfl rfl (fun Kv hK => ?_); go_simp; refine hK _ ?_; clear hK Kv) | (refine pl_look rfl rfl rfl (fun Kv hK => ?_); go_big_quiet_op; refine hK _ ?_; clear hK Kv))
  clear q0 q1 q2 q3 hC hS0
  refine pl_end ?_
  intro w2 hS2
  refine pm_eff rfl rfl fun Kv hK => ?_
  go_simp
  refine ⟨hS2.sub (.cons_cons _ (.cons_cons _ (List.nil_sublist _))), hK _ _ ?_⟩
  clear hK Kv
  have y0 : w2.cell? ⟨gf, i, none⟩ = some (.int .i64 (far i)) := hS2.cell 4 rfl i (iarr_get _ _ _ hi)
  have y1 := hS2.free 4 rfl i
  refine pm_eff rfl rfl fun Kv hK => ?_
  go_simp
  have hS3 : SL W B _ _ := hS2.setInt 4 rfl i key
  refine ⟨hS3.sub (.cons_cons _ (.cons_cons _ (List.nil_sublist _))), hK _ _ ?_⟩
  clear hK Kv y0 y1 hS2
  refine pm_end ?_
  generalize (w2.setCell ⟨gf, i, none⟩ (.int .i64 key)) = w3 at *
  have y0 : w3.cell? ⟨gb, i * 2, none⟩ = some (.int .i64 (by_ i).1) := hS3.cell 5 rfl _ (sarr_get0 _ _ _ hi)
  have y1 : w3.cell? ⟨gb, i * 2 + 1, none⟩ = some (.bool (by_ i).2) := hS3.cell 5 rfl _ (sarr_get1 _ _ _ hi)
  have y2 := hS3.free 5 rfl (i * 2)
  have y3 := hS3.free 5 rfl (i * 2 + 1)
  have hS4 : SL W B _ _ := hS3.setStep 5 rfl i k b
  have hS5 : SL W B (RunRs rb fb hb gf gb N L cap A cst x h (fun j => if j = i then key else far j) (setS by_ i (k, b)) (PileRs pb v n f rs)) _ := SL.tail hS4
  have HPUT := Lib.hid (put_kv _ _ _ _ pb n v f key i (run_pile hS5) (by omega))
  clear hS3 hS4 hS5
  go_wp2_with (go_at_call 43; (with_reducible refine HPUT.out.mono ?_); rintro e w6 ⟨rfl, v', hS6⟩; have HS6 := Lib.hid hS6; clear hS6)
  go_end0
  exact ⟨rfl, v', pile_run HS6.out⟩
end Go.Proofs.Ytgnmbmlpfjlbiaa
