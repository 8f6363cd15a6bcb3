/- slices.ContainsFunc with 'x != 0' (flow.Right's closure): is there one that is not 0? -/
import Derived.Test.YtgnmbmlpfjlbiaaPipes
import Derived.Test.YtgnmbmlpfjlbiaaRows
import Derived.Outline
namespace Go.Proofs.Ytgnmbmlpfjlbiaa
open Go.ChangeShapes Go.WideShapes Go.ChangeAt Go.RowKit
set_option linter.unusedVariables false
theorem nonzero_call (x : Int) (w : World) : Calls Try.prog 33 #[.int .i64 x] w fun e w' => e = .returned (.bool (x != 0)) ∧ w = w' := by
  go_enter Try.func33, Try.ntmps33
  go_wp2
  go_ret
  exact ⟨rfl, rfl⟩
set_option maxHeartbeats 1000000 in
theorem index_nonzero (A : Option Addr) (c : Nat) (l : List Int) (w : World) (hr : Reads w w.heap.size 1 A l.length (l.map (.int .i64))) (hl : l.length ≤ 20000) :
    Calls Try.prog 39 #[.slice A l.length c, .func (.func 33) #[] #[]] w fun e w' => (∃ i : Int, e = .returned (.int .i64 i) ∧ (0 ≤ i ↔ ∃ x ∈ l, x ≠ 0)) ∧ Below w.heap.size w w' := by
  have HR := Lib.hid hr
  clear hr
  have hcf : ∀ args w', (callFunc 33 args).run Try.prog w' = .ok (.enter 33 args) w' := fun _ _ => by simp [go_sem]
  go_enter Try.func39, Try.ntmps39
  go_wp2
  go_loopw [8] (fun i wr => ∃ k : Nat, k ≤ l.length ∧ i = .int .i64 k ∧ (∀ j, ∀ h : j < l.length, j < k → l[j] = 0) ∧ Below w.heap.size w wr) (fun i _ => l.length - (intOf i).toNat)
  case atStart => exact ⟨0, by omega, rfl, fun j h hj => absurd hj (by omega), Below.refl _ _⟩
  case round =>
    obtain ⟨k, hk, rfl, hz, hB⟩ := hrel
    have HZ := Lib.hid hz
    clear hz
    by_cases hlt : k < l.length
    · obtain ⟨b, o, rfl, hb, e0⟩ := ints_at HR.out hlt
      have e1 : wr.cell? ⟨b, o + k, none⟩ = some (.int .i64 l[k]) := (hB.cell hb).trans e0
      obtain ⟨x, hx⟩ : ∃ x, l[k] = x := ⟨_, rfl⟩
      have HX : Hid (l[k] = x) := Lib.hid hx
      rw [hx] at e1 e0
      clear hx
      cases hn : (x != 0)
      · have HN : Hid (x = 0) := Lib.hid (by simpa using hn)
        go_wp2_with (go_at_call 33; (with_reducible refine (nonzero_call x _).mono ?_); rintro e w5 ⟨rfl, rfl⟩)
        go_roundw
        case rel => exact ⟨k + 1, by omega, by go_num, fun j h hj => by
          by_cases e : j = k
          · subst e; rw [HX.out]; exact HN.out
          · exact HZ.out j h (by omega), hB⟩
        case measure => simp [intOf]; omega
      · have HN : Hid (x ≠ 0) := Lib.hid (by simpa using hn)
        go_wp2_with (go_at_call 33; (with_reducible refine (nonzero_call x _).mono ?_); rintro e w5 ⟨rfl, rfl⟩)
        go_ret
        exact ⟨⟨k, rfl, ⟨fun _ => ⟨l[k], List.getElem_mem hlt, by rw [HX.out]; exact HN.out⟩, fun _ => by omega⟩⟩, hB⟩
    · obtain rfl : k = l.length := by omega
      go_wp2
      go_ret
      refine ⟨⟨-1, rfl, ⟨fun h => by omega, fun ⟨x, hx, hne⟩ => ?_⟩⟩, hB⟩
      obtain ⟨j, hj, rfl⟩ := List.getElem_of_mem hx
      exact absurd (HZ.out j hj hj) hne
theorem contains_nonzero (A : Option Addr) (c : Nat) (l : List Int) (w : World) (hr : Reads w w.heap.size 1 A l.length (l.map (.int .i64))) (hl : l.length ≤ 20000) :
    Calls Try.prog 32 #[.slice A l.length c, .func (.func 33) #[] #[]] w fun e w' => (∃ b : Bool, e = .returned (.bool b) ∧ (b = true ↔ ∃ x ∈ l, x ≠ 0)) ∧ Below w.heap.size w w' := by
  have HR := Lib.hid (index_nonzero A c l w hr hl)
  clear hr
  go_enter Try.func32, Try.ntmps32
  go_wp2_with (go_at_call 39; (with_reducible refine HR.out.mono ?_); rintro e w5 ⟨⟨i, rfl, hi⟩, hb⟩; have HI := Lib.hid (And.intro hi hb); clear hi hb)
  go_ret
  exact ⟨⟨_, rfl, by rw [← HI.out.1]; simp⟩, HI.out.2⟩
end Go.Proofs.Ytgnmbmlpfjlbiaa
