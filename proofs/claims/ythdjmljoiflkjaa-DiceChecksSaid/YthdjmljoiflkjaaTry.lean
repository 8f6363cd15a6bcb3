/- Contracts of dice.Try. -/
import Derived.Test.YthdjmljoiflkjaaDice
import Derived.Recover
namespace Go.Proofs.Ythdjmljoiflkjaa
open Go.ChangeShapes Go.WideShapes Go.ChangeAt Go.RowKit
set_option linter.unusedVariables false
/-- The deferred call where nothing was thrown. -/
theorem try_idle (a b c : Value) (w : World) :
    CallsD Try.prog 35 #[a, b, c] .returning w fun e u' w' => e = .returned (.tuple #[]) ∧ u' = .returning ∧ w' = w := by
  refine callsD_of_wpS Try.func35 rfl fun c₀ cs hu => ?_
  apply wpS_seq
  apply wpS_region
  simp [wpOpsS, go_sem, recoverD, hu, Try.ntmps35, Exit.thenS]
  apply wpS_seq
  apply wpS_region
  simp [wpOpsS, go_sem, Exit.thenS]
  refine wpS_cond (t := false) (by simp [Act.eval, Array.replicate]) ?_
  simp only [Bool.false_eq_true, if_false]
  refine wpS_of_wp (wp_skip ?_)
  cases c₀
  simp_all [bodyPostS, results, Try.results35]
theorem try_caught (s bd u : Nat) (x y : Value) (older : List PanicEntry) (w : World) (h3 : w.cell? ⟨s + 1 + 1 + 1, 0, none⟩ = some (.pointer (some ⟨bd, 0, none⟩))) (hd : w.cell? ⟨bd, 1, none⟩ = some (.int .i64 u)) (h0 : w.cell? ⟨s, 0, none⟩ = some x) (h1 : w.cell? ⟨s + 1, 0, none⟩ = some y) (f0 : w.frozen? ⟨s, 0, none⟩ = false) (f1 : w.frozen? ⟨s + 1, 0, none⟩ = false) (hb : s + 1 + 1 + 1 < w.heap.size) (hbd : bd < w.heap.size) :
    CallsD Try.prog 35 #[.pointer (some ⟨s + 1 + 1 + 1, 0, none⟩), .pointer (some ⟨s, 0, none⟩), .pointer (some ⟨s + 1, 0, none⟩)] (.panicking ({ v := .iface 70 (.agg #[]), recovered := false } :: older)) w fun e u' w' =>
      e = .returned (.tuple #[]) ∧ u' = .panicking ({ v := .iface 70 (.agg #[]), recovered := true } :: older) ∧ w' = ((w.setCell ⟨s, 0, none⟩ (.int .i64 u)).setCell ⟨s + 1, 0, none⟩ (.bool false)).alloc (.cells #[] 70) := by
  have hs0 : s < w.heap.size := by omega
  have hs1 : s + 1 < w.heap.size := by omega
  have hta : ∀ w, (Instr.typeAssert (.iface 70 (.agg #[])) 20 70 true).run Try.prog w = .ok (.tuple #[.agg #[], .bool true]) w := fun _ => by kernel_rfl
  refine callsD_of_wpS Try.func35 rfl fun c₀ cs hu => ?_
  simp only [Try.ntmps35, List.size_toArray, List.length_cons, List.length_nil, Nat.reduceAdd, Nat.reduceSub, Array.replicate_succ,
     Array.replicate_zero, List.push_toArray, List.append_toArray, List.nil_append, List.cons_append]
  apply wpS_seq
  apply wpS_region
  simp [wpOpsS, go_sem, recoverD, hu, Exit.thenS]
  refine wpS_of_wp ?_
  clear hu
  go_wp2
  simp [bodyPostS, results, Try.results35]
/-- What is done with a dice: the dice is box s + 1 + 1; it returns, or there was no draw left. -/
def DoPost (W : World) (B s : Nat) (A : Option Addr) (n c : Nat) (R : Bool → Nat → List Rs → Prop) (e : Ending) (w4 : World) : Prop :=
  ∃ (m : Nat) (l' : List Rs), SL W B (.blk (s + 1 + 1 + 1) #[.pointer (some ⟨s + 1 + 1, 0, none⟩)] 28 :: .blk (s + 1 + 1) #[.slice A n c, .int .i64 m] 68 :: .blk (s + 1) #[.bool false] 4 :: .blk s #[.int .i64 0] 3 :: l') w4 ∧
    ((e = .returned (.tuple #[]) ∧ R true m l') ∨ (e = .panicked spentE ∧ R false m l'))
def TryPost (W : World) (B : Nat) (R : Bool → Nat → List Rs → Prop) (e : Ending) (w' : World) : Prop :=
  ∃ (b : Bool) (m : Nat) (l' : List Rs), e = .returned (.tuple #[.int .i64 m, .bool b]) ∧ R b m l' ∧ SL W B l' w'
set_option maxHeartbeats 800000 in
theorem try_any (f : FuncId) (cap : Array Value) (A : Option Addr) (n c : Nat) (W w : World) (B s : Nat) (l : List Rs) (R : Bool → Nat → List Rs → Prop) (hs : w.heap.size = s) (hS : SL W B l w)
    (hcf : ∀ args w', (callFunc f args).run Try.prog w' = .ok (.enter f args) w')
    (hdo : ∀ w3, SL W B (.blk (s + 1 + 1 + 1) #[.pointer (some ⟨s + 1 + 1, 0, none⟩)] 28 :: .blk (s + 1 + 1) #[.slice A n c, .int .i64 0] 68 :: .blk (s + 1) #[.bool false] 4 :: .blk s #[.int .i64 0] 3 :: l) w3 →
      Calls Try.prog f (#[.pointer (some ⟨s + 1 + 1, 0, none⟩)] ++ cap) w3 (DoPost W B s A n c R)) :
    Calls Try.prog 12 #[.slice A n c, .func (.func f) #[] cap] w (TryPost W B R) := by
  subst hs
  have hmf : ∀ (fn : Fn) (first cap : Array Value) (w : World), (Instr.makeFunc fn first cap).run Try.prog w = .ok (.func fn first cap) w := fun _ _ _ _ => rfl
  have hne : ∀ w, (binOp .neq 34 (.func (.func f) #[] cap) .nilFunc).run Try.prog w = .ok (.bool true) w := fun _ => rfl
  go_enter_defers Try.func12, Try.ntmps12
  have hS3 := (((hS.alloc #[.int .i64 0] 3).alloc #[.bool false] 4).alloc #[.slice A n c, .int .i64 0] 68).alloc #[.pointer (some ⟨w.heap.size + 1 + 1, 0, none⟩)] 28
  have HD := Lib.hid (hdo _ (by simpa using hS3))
  clear hdo hS3
  go_wp2_with fail
  refine HD.out.mono ?_
  rintro e w4 ⟨m, l', hS4, ⟨rfl, hR⟩ | ⟨rfl, hR⟩⟩
  · have c3 : w4.cell? ⟨w.heap.size + 1 + 1 + 1, 0, none⟩ = some (.pointer (some ⟨w.heap.size + 1 + 1, 0, none⟩)) := hS4.cell 0 rfl 0 rfl
    have c2 : w4.cell? ⟨w.heap.size + 1 + 1, 1, none⟩ = some (.int .i64 m) := hS4.cell 1 rfl 1 rfl
    have c1 : w4.cell? ⟨w.heap.size + 1, 0, none⟩ = some (.bool false) := hS4.cell 2 rfl 0 rfl
    have c0 : w4.cell? ⟨w.heap.size, 0, none⟩ = some (.int .i64 0) := hS4.cell 3 rfl 0 rfl
    have f0 := hS4.free 3 rfl 0
    have f1 := hS4.free 2 rfl 0
    dsimp only
    go_wp2
    refine leaves_cons (f := 35) (args := #[.pointer (some ⟨w.heap.size + 1 + 1 + 1, 0, none⟩), .pointer (some ⟨w.heap.size, 0, none⟩), .pointer (some ⟨w.heap.size + 1, 0, none⟩)]) (by simp) (by simp [go_sem]) ?_
    refine (try_idle _ _ _ _).mono ?_
    rintro e u' w'' ⟨rfl, rfl, rfl⟩
    simp [Leaves, settle, results, Try.results12, go_sem, c0, c1]
    have h5 : SL W B _ _ := (hS4.setCell 3 rfl 0 (.int .i64 m)).setCell 2 rfl 0 (.bool true)
    exact ⟨true, m, l', rfl, hR, h5.tail.tail.tail.tail⟩
  · have c3 : w4.cell? ⟨w.heap.size + 1 + 1 + 1, 0, none⟩ = some (.pointer (some ⟨w.heap.size + 1 + 1, 0, none⟩)) := hS4.cell 0 rfl 0 rfl
    have c2 : w4.cell? ⟨w.heap.size + 1 + 1, 1, none⟩ = some (.int .i64 m) := hS4.cell 1 rfl 1 rfl
    have c1 : w4.cell? ⟨w.heap.size + 1, 0, none⟩ = some (.bool false) := hS4.cell 2 rfl 0 rfl
    have c0 : w4.cell? ⟨w.heap.size, 0, none⟩ = some (.int .i64 0) := hS4.cell 3 rfl 0 rfl
    have f0 := hS4.free 3 rfl 0
    have f1 := hS4.free 2 rfl 0
    have hz := (hS4.lt 0 rfl).2
    dsimp only
    refine leaves_cons (f := 35) (args := #[.pointer (some ⟨w.heap.size + 1 + 1 + 1, 0, none⟩), .pointer (some ⟨w.heap.size, 0, none⟩), .pointer (some ⟨w.heap.size + 1, 0, none⟩)]) (by simp) (by simp [go_sem]) ?_
    refine (try_caught w.heap.size (w.heap.size + 1 + 1) m _ _ [] w4 c3 c2 c0 c1 f0 f1 hz (by omega)).mono ?_
    rintro e u' w'' ⟨rfl, rfl, rfl⟩
    have hz0 : w.heap.size < w4.heap.size := by omega
    have hz1 : w.heap.size + 1 < w4.heap.size := by omega
    simp [Leaves, settle, results, Try.results12, go_sem, c0, c1, hz0, hz1]
    have h5 : SL W B _ _ := ((hS4.setCell 3 rfl 0 (.int .i64 m)).setCell 2 rfl 0 (.bool false)).alloc #[] 70
    exact ⟨false, m, l', rfl, hR, h5.tail.tail.tail.tail.tail⟩
end Go.Proofs.Ythdjmljoiflkjaa
