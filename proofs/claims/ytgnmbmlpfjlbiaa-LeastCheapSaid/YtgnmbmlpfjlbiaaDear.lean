/- slices.ContainsFunc with least.Least's closure: does a pipe cost less than nothing, or too much? -/
import Derived.Test.YtgnmbmlpfjlbiaaOptM
import Derived.Test.YtgnmbmlpfjlbiaaRows
import Derived.Outline
namespace Go.Proofs.Ytgnmbmlpfjlbiaa
open Go.ChangeShapes Go.WideShapes Go.ChangeAt Go.RowKit
set_option linter.unusedVariables false
def badC (c : Int) : Bool := decide (c < 0 ∨ 4294967296 < c)
theorem dear_call (fr tt room cost : Int) (w : World) : Calls Try.prog 35 #[.agg #[.int .i64 fr, .int .i64 tt, .int .i64 room, .int .i64 cost]] w fun e w' => e = .returned (.bool (badC cost)) ∧ Below w.heap.size w w' := by
  have HB := Lib.hid ((SL.start (Nat.le_refl w.heap.size)).alloc #[.int .i64 fr, .int .i64 tt, .int .i64 room, .int .i64 cost] 40).below
  by_cases h1 : cost < 0
  · have e : badC cost = true := decide_eq_true (.inl h1)
    have d1 : decide (cost < 0) = true := decide_eq_true h1
    rw [e]
    clear e
    go_enter Try.func35, Try.ntmps35
    go_wp2_with fail
    go_ret
    exact ⟨rfl, HB.out⟩
  · have d1 : decide (cost < 0) = false := decide_eq_false h1
    by_cases h2 : 4294967296 < cost
    · have e : badC cost = true := decide_eq_true (.inr h2)
      have d2 : decide (4294967296 < cost) = true := decide_eq_true h2
      rw [e]
      clear e
      go_enter Try.func35, Try.ntmps35
      go_wp2_with fail
      go_ret
      exact ⟨rfl, HB.out⟩
    · have e : badC cost = false := decide_eq_false (by omega)
      have d2 : decide (4294967296 < cost) = false := decide_eq_false h2
      rw [e]
      clear e
      go_enter Try.func35, Try.ntmps35
      go_wp2_with fail
      go_ret
      exact ⟨rfl, HB.out⟩
set_option maxHeartbeats 2000000 in
theorem index_dear (A : Option Addr) (c : Nat) (l : List PipeV) (w : World) (hr : Pipes w w.heap.size A l) (hl : l.length ≤ 20000) :
    Calls Try.prog 40 #[.slice A l.length c, .func (.func 35) #[] #[]] w fun e w' => (∃ i : Int, e = .returned (.int .i64 i) ∧ (0 ≤ i ↔ ∃ p ∈ l, badC p.cost = true)) ∧ Below w.heap.size w w' := by
  have HR := Lib.hid hr
  clear hr
  have hcf : ∀ args w', (callFunc 35 args).run Try.prog w' = .ok (.enter 35 args) w' := fun _ _ => by simp [go_sem]
  go_enter Try.func40, Try.ntmps40
  go_wp2
  go_loopw [8] (fun i wr => ∃ k : Nat, k ≤ l.length ∧ i = .int .i64 k ∧ Hid (∀ j, ∀ h : j < l.length, j < k → badC l[j].cost = false) ∧ Below w.heap.size w wr) (fun i _ => l.length - (intOf i).toNat)
  case atStart => exact ⟨0, by omega, rfl, Lib.hid fun j h hj => absurd hj (by omega), Below.refl _ _⟩
  case round =>
    obtain ⟨k, hk, rfl, HZ, hB⟩ := hrel
    by_cases hlt : k < l.length
    · obtain ⟨b, o, rfl, hb, d0, d1, d2, d3⟩ := pipes_at HR.out hlt
      have e0 := (hB.cell hb).trans d0
      have e1 := (hB.cell hb).trans d1
      have e2 := (hB.cell hb).trans d2
      have e3 := (hB.cell hb).trans d3
      clear d0 d1 d2 d3
      obtain ⟨fr, hfr⟩ : ∃ x, l[k].fr = x := ⟨_, rfl⟩
      obtain ⟨tt, htt⟩ : ∃ x, l[k].to = x := ⟨_, rfl⟩
      obtain ⟨rm, hrm⟩ : ∃ x, l[k].room = x := ⟨_, rfl⟩
      obtain ⟨ct, hct⟩ : ∃ x, l[k].cost = x := ⟨_, rfl⟩
      have HX : Hid (l[k].cost = ct) := Lib.hid hct
      rw [hfr] at e0
      rw [htt] at e1
      rw [hrm] at e2
      rw [hct] at e3
      clear hfr htt hrm hct
      have HBw := Lib.hid hB
      cases hn : badC ct
      · have HC := Lib.hid (dear_call fr tt rm ct)
        rw [hn] at HC
        have HN := Lib.hid hn
        clear hB hn
        go_wp2_with (go_at_call 35; (with_reducible refine (HC.out _).mono ?_); rintro e w5 ⟨rfl, hb5⟩; have HB5 := Lib.hid (HBw.out.trans (hb5.mono HBw.out.size)); clear hb5)
        go_roundw
        case rel => exact ⟨k + 1, by omega, by go_num, Lib.hid fun j h hj => by
          by_cases e : j = k
          · subst e; rw [HX.out]; exact HN.out
          · exact HZ.out j h (by omega), HB5.out⟩
        case measure => simp [intOf]; omega
      · have HC := Lib.hid (dear_call fr tt rm ct)
        rw [hn] at HC
        have HN := Lib.hid hn
        clear hB hn
        go_wp2_with (go_at_call 35; (with_reducible refine (HC.out _).mono ?_); rintro e w5 ⟨rfl, hb5⟩; have HB5 := Lib.hid (HBw.out.trans (hb5.mono HBw.out.size)); clear hb5)
        go_ret
        exact ⟨⟨k, rfl, ⟨fun _ => ⟨l[k], List.getElem_mem hlt, by rw [HX.out]; exact HN.out⟩, fun _ => by omega⟩⟩, HB5.out⟩
    · obtain rfl : k = l.length := by omega
      have HBw := Lib.hid hB
      clear hB
      go_wp2
      go_ret
      refine ⟨⟨-1, rfl, ⟨fun h => by omega, fun ⟨x, hx, hne⟩ => ?_⟩⟩, HBw.out⟩
      obtain ⟨j, hj, rfl⟩ := List.getElem_of_mem hx
      rw [HZ.out j hj hj] at hne
      cases hne
theorem contains_dear (A : Option Addr) (c : Nat) (l : List PipeV) (w : World) (hr : Pipes w w.heap.size A l) (hl : l.length ≤ 20000) :
    Calls Try.prog 34 #[.slice A l.length c, .func (.func 35) #[] #[]] w fun e w' => (∃ b : Bool, e = .returned (.bool b) ∧ (b = true ↔ ∃ p ∈ l, badC p.cost = true)) ∧ Below w.heap.size w w' := by
  have HR := Lib.hid (index_dear A c l w hr hl)
  clear hr
  go_enter Try.func34, Try.ntmps34
  go_wp2_with (go_at_call 40; (with_reducible refine HR.out.mono ?_); rintro e w5 ⟨⟨i, rfl, hi⟩, hb⟩; have HI := Lib.hid (And.intro hi hb); clear hi hb)
  go_ret
  exact ⟨⟨_, rfl, by rw [← HI.out.1]; simp⟩, HI.out.2⟩
end Go.Proofs.Ytgnmbmlpfjlbiaa
