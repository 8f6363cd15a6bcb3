/- The walk of law DiceThrows: what else is thrown within is thrown on. -/
import Derived.Test.YthdjmljoiflkjaaAwake25
namespace Go.Proofs.Ythdjmljoiflkjaa
open Go.ChangeShapes Go.WideShapes Go.ChangeAt Go.RowKit
set_option linter.unusedVariables false
/-- The number that is thrown; then: thrown on. -/
def thrownE (n : Int) : List PanicEntry := [{ v := .iface 2 (.int .i64 n), recovered := false }]
def thrownOn (n : Int) : List PanicEntry := [{ v := .iface 2 (.int .i64 n), recovered := false }, { v := .iface 2 (.int .i64 n), recovered := true }]
theorem try_rethrow (a b c : Value) (n : Int) (older : List PanicEntry) (w : World) :
    CallsD Try.prog 35 #[a, b, c] (.panicking ({ v := .iface 2 (.int .i64 n), recovered := false } :: older)) w fun e u' w' =>
      e = .panicked [{ v := .iface 2 (.int .i64 n), recovered := false }] ∧ u' = .panicking ({ v := .iface 2 (.int .i64 n), recovered := true } :: older) ∧ w' = w.alloc (.cells #[] 70) := by
  have hta : ∀ w, (Instr.typeAssert (.iface 2 (.int .i64 n)) 20 70 true).run Try.prog w = .ok (.tuple #[.agg #[], .bool false]) w := fun _ => by kernel_rfl
  refine callsD_of_wpS Try.func35 rfl fun c₀ cs hu => ?_
  simp only [Try.ntmps35, List.size_toArray, List.length_cons, List.length_nil, Nat.reduceAdd, Nat.reduceSub, Array.replicate_succ,
     Array.replicate_zero, List.push_toArray, List.append_toArray, List.nil_append, List.cons_append]
  apply wpS_seq
  apply wpS_region
  simp [wpOpsS, go_sem, recoverD, hu, Exit.thenS]
  refine wpS_of_wp ?_
  clear hu
  go_wp2
  simp [bodyPostS, results, Try.results35]
set_option maxHeartbeats 800000 in
theorem try_throws (f : FuncId) (cap : Array Value) (A : Option Addr) (k c : Nat) (n : Int) (W w : World) (B s : Nat) (l : List Rs) (hs : w.heap.size = s) (hS : SL W B l w)
    (hcf : ∀ args w', (callFunc f args).run Try.prog w' = .ok (.enter f args) w')
    (hdo : ∀ w3, SL W B l w3 → Calls Try.prog f (#[.pointer (some ⟨s + 1 + 1, 0, none⟩)] ++ cap) w3 (fun e w4 => e = .panicked (thrownE n) ∧ SL W B l w4)) :
    Calls Try.prog 12 #[.slice A k c, .func (.func f) #[] cap] w (fun e w' => e = .panicked (thrownOn n) ∧ SL W B l w') := by
  subst hs
  have hmf : ∀ (fn : Fn) (first cap : Array Value) (w : World), (Instr.makeFunc fn first cap).run Try.prog w = .ok (.func fn first cap) w := fun _ _ _ _ => rfl
  have hne : ∀ w, (binOp .neq 34 (.func (.func f) #[] cap) .nilFunc).run Try.prog w = .ok (.bool true) w := fun _ => rfl
  go_enter_defers Try.func12, Try.ntmps12
  have hS3 := ((((hS.alloc #[.int .i64 0] 3).alloc #[.bool false] 4).alloc #[.slice A k c, .int .i64 0] 68).alloc #[.pointer (some ⟨w.heap.size + 1 + 1, 0, none⟩)] 28).tail.tail.tail.tail
  have HD := Lib.hid (hdo _ hS3)
  clear hdo hS3
  go_wp2_with fail
  refine HD.out.mono ?_
  rintro e w4 ⟨rfl, hS4⟩
  dsimp only
  refine leaves_cons (f := 35) (args := #[.pointer (some ⟨w.heap.size + 1 + 1 + 1, 0, none⟩), .pointer (some ⟨w.heap.size, 0, none⟩), .pointer (some ⟨w.heap.size + 1, 0, none⟩)]) (by simp) (by simp [go_sem]) ?_
  refine (try_rethrow _ _ _ n [] w4).mono ?_
  rintro e u' w'' ⟨rfl, rfl, rfl⟩
  simp [Leaves, raised]
  exact ⟨rfl, (hS4.alloc _ _).tail⟩
theorem thrown_caught (s : Nat) (n : Int) (x y : Value) (older : List PanicEntry) (w : World) (h0 : w.cell? ⟨s, 0, none⟩ = some x) (h1 : w.cell? ⟨s + 1, 0, none⟩ = some y) (f0 : w.frozen? ⟨s, 0, none⟩ = false) (f1 : w.frozen? ⟨s + 1, 0, none⟩ = false) :
    CallsD Try.prog 36 #[.pointer (some ⟨s, 0, none⟩), .pointer (some ⟨s + 1, 0, none⟩)] (.panicking ({ v := .iface 2 (.int .i64 n), recovered := false } :: older)) w fun e u' w' =>
      e = .returned (.tuple #[]) ∧ u' = .panicking ({ v := .iface 2 (.int .i64 n), recovered := true } :: older) ∧ w' = (w.setCell ⟨s, 0, none⟩ (.int .i64 n)).setCell ⟨s + 1, 0, none⟩ (.bool true) := by
  have hta : ∀ w, (Instr.typeAssert (.iface 2 (.int .i64 n)) 20 2 true).run Try.prog w = .ok (.tuple #[.int .i64 n, .bool true]) w := fun _ => by kernel_rfl
  refine callsD_of_wpS Try.func36 rfl fun c₀ cs hu => ?_
  simp only [Try.ntmps36, List.size_toArray, List.length_cons, List.length_nil, Nat.reduceAdd, Nat.reduceSub, Array.replicate_succ,
     Array.replicate_zero, List.push_toArray, List.append_toArray, List.nil_append, List.cons_append]
  apply wpS_region
  simp [wpOpsS, go_sem, recoverD, hu, hta, h0, h1, f0, f1, bodyPostS, results, Try.results36]
set_option maxHeartbeats 800000 in
theorem thrown_any (f : FuncId) (cap : Array Value) (n : Int) (W w : World) (B s : Nat) (l : List Rs) (hs : w.heap.size = s) (hS : SL W B l w)
    (hcf : ∀ args w', (callFunc f args).run Try.prog w' = .ok (.enter f args) w')
    (hdo : ∀ w3, SL W B (.blk (s + 1) #[.bool false] 4 :: .blk s #[.int .i64 0] 2 :: l) w3 → Calls Try.prog f cap w3 (fun e w4 => e = .panicked (thrownOn n) ∧ SL W B (.blk (s + 1) #[.bool false] 4 :: .blk s #[.int .i64 0] 2 :: l) w4)) :
    Calls Try.prog 17 #[.func (.func f) #[] cap] w (fun e w' => e = .returned (.tuple #[.int .i64 n, .bool true]) ∧ SL W B l w') := by
  subst hs
  have hmf : ∀ (fn : Fn) (first cap : Array Value) (w : World), (Instr.makeFunc fn first cap).run Try.prog w = .ok (.func fn first cap) w := fun _ _ _ _ => rfl
  go_enter_defers Try.func17, Try.ntmps17
  have hS3 := (hS.alloc #[.int .i64 0] 2).alloc #[.bool false] 4
  have HD := Lib.hid (hdo _ (by simpa using hS3))
  clear hdo hS3
  go_wp2_with fail
  refine HD.out.mono ?_
  rintro e w4 ⟨rfl, hS4⟩
  dsimp only
  have c1 : w4.cell? ⟨w.heap.size + 1, 0, none⟩ = some (.bool false) := hS4.cell 0 rfl 0 rfl
  have c0 : w4.cell? ⟨w.heap.size, 0, none⟩ = some (.int .i64 0) := hS4.cell 1 rfl 0 rfl
  have f0 := hS4.free 1 rfl 0
  have f1 := hS4.free 0 rfl 0
  refine leaves_cons (f := 36) (args := #[.pointer (some ⟨w.heap.size, 0, none⟩), .pointer (some ⟨w.heap.size + 1, 0, none⟩)]) (by simp) (by simp [go_sem]) ?_
  refine (thrown_caught w.heap.size n _ _ _ w4 c0 c1 f0 f1).mono ?_
  rintro e u' w'' ⟨rfl, rfl, rfl⟩
  simp [Leaves, settle, results, Try.results17, go_sem, c0, c1]
  have h5 : SL W B _ _ := (hS4.setCell 1 rfl 0 (.int .i64 n)).setCell 0 rfl 0 (.bool true)
  exact h5.tail.tail
theorem throws_in (n : Int) (nb : Nat) (d : Value) (w : World) (h : w.cell? ⟨nb, 0, none⟩ = some (.int .i64 n)) :
    Calls Try.prog 19 #[d, .pointer (some ⟨nb, 0, none⟩)] w fun e w' => e = .panicked (thrownE n) ∧ w = w' := by
  go_enter Try.func19, Try.ntmps19
  go_wp2
  exact ⟨rfl, rfl, rfl⟩
theorem throws_do (A : Option Addr) (k c : Nat) (n : Int) (W w : World) (B lb nb : Nat) (l : List Rs) (i j : Nat) (hi : l[i]? = some (.blk lb #[.slice A k c] 22)) (hj : l[j]? = some (.blk nb #[.int .i64 n] 2)) (hS : SL W B l w) :
    Calls Try.prog 18 #[.pointer (some ⟨lb, 0, none⟩), .pointer (some ⟨nb, 0, none⟩)] w (fun e w' => e = .panicked (thrownOn n) ∧ SL W B l w') := by
  have hmf : ∀ (fn : Fn) (first cap : Array Value) (w : World), (Instr.makeFunc fn first cap).run Try.prog w = .ok (.func fn first cap) w := fun _ _ _ _ => rfl
  have c0 : w.cell? ⟨lb, 0, none⟩ = some (.slice A k c) := hS.cell i hi 0 rfl
  have HT := Lib.hid (try_throws 19 #[.pointer (some ⟨nb, 0, none⟩)] A k c n W w B _ l rfl hS (fun _ _ => by simp [go_sem])
    (fun w3 hS3 => (throws_in n nb _ w3 (hS3.cell j hj 0 rfl)).mono fun e w4 ⟨h1, h2⟩ => ⟨h1, by rw [← h2]; exact hS3⟩))
  go_enter Try.func18, Try.ntmps18
  go_wp2_with fail
  refine HT.out.mono ?_
  rintro e w4 ⟨rfl, hS4⟩
  exact ⟨rfl, rfl, hS4⟩
theorem diceThrows_walk (W : World) (A : Option Addr) (c : Nat) (l : List Int) (hr : Reads W W.heap.size 1 A l.length (l.map (.int .u32))) (hl : l.length ≤ maxLen) (hw : ∀ n ∈ l, (Lit.int .u32 n).wf = true) (n : Int) (_hn : (Lit.int .i64 n).wf = true) :
    Calls Try.prog 4 #[.slice A l.length c, .int .i64 n] W fun e w' => e = .returned (.bool true) ∧ Below W.heap.size W w' := by
  have hmf : ∀ (fn : Fn) (first cap : Array Value) (w : World), (Instr.makeFunc fn first cap).run Try.prog w = .ok (.func fn first cap) w := fun _ _ _ _ => rfl
  clear hr hl hw _hn
  go_enter Try.func4, Try.ntmps4
  go_wp2_with (first
    | (go_at_call 11; (with_reducible refine (awake25 _).mono ?_); rintro e w2 ⟨rfl, hb2⟩
       have hS2 := (((SL.start (Nat.le_refl W.heap.size)).alloc #[.slice A l.length c] 22).alloc #[.int .i64 n] 2).call hb2
       have HT := Lib.hid (thrown_any 18 #[.pointer (some ⟨W.heap.size, 0, none⟩), .pointer (some ⟨W.heap.size + 1, 0, none⟩)] n W w2 W.heap.size _ _ rfl hS2 (fun _ _ => by simp [go_sem])
         (fun w3 hS3 => throws_do A l.length c n W w3 W.heap.size W.heap.size (W.heap.size + 1) _ 3 2 rfl (by simp) hS3))
       clear hS2 hb2)
    | (go_at_call 17; (with_reducible refine HT.out.mono ?_); rintro e w4 ⟨rfl, hS⟩
       have c0 : w4.cell? ⟨W.heap.size + 1, 0, none⟩ = some (.int .i64 n) := by have := hS.cell 0 rfl 0 rfl; simpa using this
       have HS := Lib.hid hS
       clear hS HT))
  go_ret
  exact ⟨rfl, HS.out.below⟩
end Go.Proofs.Ythdjmljoiflkjaa
