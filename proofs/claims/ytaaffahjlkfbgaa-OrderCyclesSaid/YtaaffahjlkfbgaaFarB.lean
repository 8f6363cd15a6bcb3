/- slices.ContainsFunc with order.Late's closure: is one too far from 0? -/
import Derived.Test.YtaaffahjlkfbgaaIarr
import Derived.Test.YtaaffahjlkfbgaaGraphA
import Derived.Outline
namespace Go.Proofs.Ytaaffahjlkfbgaa
open Go.ChangeShapes Go.WideShapes Go.ChangeAt Go.RowKit
set_option linter.unusedVariables false
/-- Too far from 0? -/
def farB (x : Int) : Bool := decide (x < -1125899906842624) || decide (1125899906842624 < x)
theorem farB_call (x : Int) (w : World) : Calls Try.prog 55 #[.int .i64 x] w fun e w' => e = .returned (.bool (farB x)) ∧ w = w' := by
  by_cases h1 : x < -1125899906842624
  · have hb : farB x = true := by unfold farB; simp [h1]
    rw [hb]
    clear hb
    go_enter Try.func55, Try.ntmps55
    go_wp2
    go_ret
    exact ⟨rfl, rfl⟩
  · by_cases h2 : 1125899906842624 < x
    · have hb : farB x = true := by unfold farB; simp [h2]
      rw [hb]
      clear hb
      go_enter Try.func55, Try.ntmps55
      go_wp2
      go_ret
      exact ⟨rfl, rfl⟩
    · have hb : farB x = false := by unfold farB; simp [h1, h2]
      rw [hb]
      clear hb
      go_enter Try.func55, Try.ntmps55
      go_wp2
      go_ret
      exact ⟨rfl, rfl⟩
set_option maxHeartbeats 1000000 in
theorem index_farB (A : Option Addr) (c : Nat) (l : List Int) (w : World) (hr : Reads w w.heap.size 1 A l.length (l.map (.int .i64))) (hl : l.length ≤ 100000) :
    Calls Try.prog 70 #[.slice A l.length c, .func (.func 55) #[] #[]] w fun e w' => (∃ i : Int, e = .returned (.int .i64 i) ∧ (0 ≤ i ↔ ∃ x ∈ l, farB x = true)) ∧ Below w.heap.size w w' := by
  have HR := Lib.hid hr
  clear hr
  have hcf : ∀ args w', (callFunc 55 args).run Try.prog w' = .ok (.enter 55 args) w' := fun _ _ => by simp [go_sem]
  go_enter Try.func70, Try.ntmps70
  go_wp2
  go_loopw [8] (fun i wr => ∃ k : Nat, k ≤ l.length ∧ i = .int .i64 k ∧ (∀ j, ∀ h : j < l.length, j < k → farB l[j] = false) ∧ Below w.heap.size w wr) (fun i _ => l.length - (intOf i).toNat)
  case atStart => exact ⟨0, by omega, rfl, fun j h hj => absurd hj (by omega), Below.refl _ _⟩
  case round =>
    obtain ⟨k, hk, rfl, hz, hB⟩ := hrel
    have HZ := Lib.hid hz
    clear hz
    by_cases hlt : k < l.length
    · obtain ⟨b, o, rfl, hb, e0⟩ := ints_at HR.out hlt
      have e1 : wr.cell? ⟨b, o + k, none⟩ = some (.int .i64 l[k]) := (hB.cell hb).trans e0
      obtain ⟨x, hx⟩ : ∃ x, l[k] = x := ⟨_, rfl⟩
      have HX : Hid (l[k] = x) := Lib.hid hx
      rw [hx] at e1 e0
      clear hx
      cases hn : farB x
      · have HN : Hid (farB x = false) := Lib.hid hn
        go_wp2_with (go_at_call 55; (with_reducible refine (farB_call x _).mono ?_); rintro e w5 ⟨rfl, rfl⟩)
        go_roundw
        case rel => exact ⟨k + 1, by omega, by go_num, fun j h hj => by
          by_cases e : j = k
          · subst e; rw [HX.out]; exact HN.out
          · exact HZ.out j h (by omega), hB⟩
        case measure => simp [intOf]; omega
      · have HN : Hid (farB x = true) := Lib.hid hn
        go_wp2_with (go_at_call 55; (with_reducible refine (farB_call x _).mono ?_); rintro e w5 ⟨rfl, rfl⟩)
        go_ret
        exact ⟨⟨k, rfl, ⟨fun _ => ⟨l[k], List.getElem_mem hlt, by rw [HX.out]; exact HN.out⟩, fun _ => by omega⟩⟩, hB⟩
    · obtain rfl : k = l.length := by omega
      go_wp2
      go_ret
      refine ⟨⟨-1, rfl, ⟨fun h => by omega, fun ⟨x, hx, hne⟩ => ?_⟩⟩, hB⟩
      obtain ⟨j, hj, rfl⟩ := List.getElem_of_mem hx
      rw [HZ.out j hj hj] at hne; cases hne
theorem contains_farB (A : Option Addr) (c : Nat) (l : List Int) (w : World) (hr : Reads w w.heap.size 1 A l.length (l.map (.int .i64))) (hl : l.length ≤ 100000) :
    Calls Try.prog 54 #[.slice A l.length c, .func (.func 55) #[] #[]] w fun e w' => (∃ b : Bool, e = .returned (.bool b) ∧ (b = true ↔ ∃ x ∈ l, farB x = true)) ∧ Below w.heap.size w w' := by
  have HR := Lib.hid (index_farB A c l w hr hl)
  clear hr
  go_enter Try.func54, Try.ntmps54
  go_wp2_with (go_at_call 70; (with_reducible refine HR.out.mono ?_); rintro e w5 ⟨⟨i, rfl, hi⟩, hb⟩; have HI := Lib.hid (And.intro hi hb); clear hi hb)
  go_ret
  exact ⟨⟨_, rfl, by rw [← HI.out.1]; simp⟩, HI.out.2⟩
end Go.Proofs.Ytaaffahjlkfbgaa
