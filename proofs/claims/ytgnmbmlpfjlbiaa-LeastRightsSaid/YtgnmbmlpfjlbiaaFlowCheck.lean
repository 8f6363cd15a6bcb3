/- The walks of flow.Check, flow.Ends. -/
import Derived.Test.YtgnmbmlpfjlbiaaPipes
import Derived.Test.YtgnmbmlpfjlbiaaRows
import Derived.Deep.LoopGhost
import Derived.Deep.CutRange
import Derived.Deep.DeepCutAuto
import Derived.WalkSpells
import Derived.Outline
namespace Go.Proofs.Ytgnmbmlpfjlbiaa
open Go.ChangeShapes Go.WideShapes Go.ChangeAt Go.RowKit
set_option linter.unusedVariables false
def BadP (N : Int) (p : PipeV) : Prop := p.fr < 0 ∨ N ≤ p.fr ∨ p.to < 0 ∨ N ≤ p.to ∨ p.room < 0 ∨ 1099511627776 < p.room ∨ p.cost < -1099511627776 ∨ 1099511627776 < p.cost
instance (N : Int) (p : PipeV) : Decidable (BadP N p) := by unfold BadP; infer_instance
/-- 2 (ErrRange), where a pipe may not be; 0 (OK). -/
def rangeP (N : Int) (l : List PipeV) : Int := if ∃ p ∈ l, BadP N p then 2 else 0
/-- What Check answers: 4 (ErrSize), 2 (ErrRange), 0 (OK). -/
def checkP (N : Int) (l : List PipeV) : Int := if N < 0 ∨ 1000 < N ∨ 20000 < l.length then 4 else rangeP N l
theorem rangeP_bad {N : Int} {l : List PipeV} {k : Nat} (hk : k < l.length) {p : PipeV} (hp : l[k] = p) (h : BadP N p) : rangeP N l = 2 := if_pos ⟨l[k], List.getElem_mem hk, hp ▸ h⟩
theorem rangeP_ok {N : Int} {l : List PipeV} (h : ∀ j, ∀ hj : j < l.length, ¬ BadP N l[j]) : rangeP N l = 0 := if_neg fun ⟨p, hp, hb⟩ => by
  obtain ⟨j, hj, rfl⟩ := List.getElem_of_mem hp
  exact h j hj hb
theorem checkP_ok {N : Int} {l : List PipeV} (h : checkP N l = 0) : 0 ≤ N ∧ N ≤ 1000 ∧ l.length ≤ 20000 ∧ InP N.toNat l ∧ (∀ p ∈ l, -1099511627776 ≤ p.cost ∧ p.cost ≤ 1099511627776) := by
  unfold checkP at h
  split at h
  · omega
  · rename_i h1
    have h2 : ∀ p ∈ l, ¬ BadP N p := by
      intro p hp hb
      rw [show rangeP N l = 2 from if_pos ⟨p, hp, hb⟩] at h
      omega
    refine ⟨by omega, by omega, by omega, fun p hp => ?_, fun p hp => ?_⟩
    · have := h2 p hp; unfold BadP at this; omega
    · have := h2 p hp; unfold BadP at this; omega
theorem checkP_good {N : Nat} {l : List PipeV} (h0 : N ≤ 1000) (h1 : l.length ≤ 20000) (h2 : InP N l) (h3 : ∀ p ∈ l, -1099511627776 ≤ p.cost ∧ p.cost ≤ 1099511627776) : checkP N l = 0 := by
  unfold checkP rangeP
  rw [if_neg (by omega), if_neg]
  rintro ⟨p, hp, hb⟩
  have := h2 p hp
  have := h3 p hp
  unfold BadP at hb
  omega
theorem check_size (N : Int) (A : Option Addr) (len cap : Nat) (w : World) (hl : len ≤ maxLen) (h : N < 0 ∨ 1000 < N ∨ 20000 < len) :
    Calls Try.prog 22 #[.agg #[.int .i64 N, .slice A len cap]] w fun e w' => e = .returned (.int .i64 4) ∧ Below w.heap.size w w' := by
  unfold maxLen at hl
  by_cases h0 : N < 0
  · clear h
    go_enter Try.func22, Try.ntmps22
    go_wp2
    go_ret
    exact ⟨rfl, (Below.refl _ _).alloc (Nat.le_refl _) _⟩
  · by_cases h1 : 1000 < N
    · clear h
      go_enter Try.func22, Try.ntmps22
      go_wp2
      go_ret
      exact ⟨rfl, (Below.refl _ _).alloc (Nat.le_refl _) _⟩
    · have h2 : (20000 : Int) < (len : Int) := by omega
      clear h
      go_enter Try.func22, Try.ntmps22
      go_wp2
      go_ret
      exact ⟨rfl, (Below.refl _ _).alloc (Nat.le_refl _) _⟩
set_option maxHeartbeats 4000000 in
theorem check_loop (N : Int) (A : Option Addr) (cap : Nat) (l : List PipeV) (w : World) (hr : Pipes w w.heap.size A l) (h0 : 0 ≤ N) (h1 : N ≤ 1000) (h2 : l.length ≤ 20000) :
    Calls Try.prog 22 #[.agg #[.int .i64 N, .slice A l.length cap]] w fun e w' => e = .returned (.int .i64 (rangeP N l)) ∧ Below w.heap.size w w' := by
  have hS0 := (SL.start (Nat.le_refl w.heap.size)).alloc #[.int .i64 N, .slice A l.length cap] 26
  go_enter Try.func22, Try.ntmps22
  go_wp2
  go_loopw [22] (fun i wr => ∃ k : Nat, k ≤ l.length ∧ i = .int .i64 k ∧ (∀ j, ∀ hj : j < l.length, j < k → ¬ BadP N l[j]) ∧ SL w w.heap.size [.blk w.heap.size #[.int .i64 N, .slice A l.length cap] 26] wr) (fun i _ => l.length - (intOf i).toNat)
  case atStart => exact ⟨0, by omega, rfl, fun j hj h => absurd h (by omega), hS0⟩
  case round =>
    clear hS0
    obtain ⟨k, hk, rfl, hany, hS⟩ := hrel
    have Hany := Lib.hid hany
    have c0 : wr.cell? ⟨w.heap.size, 0, none⟩ = some (.int .i64 N) := hS.cell 0 rfl 0 rfl
    have c1 : wr.cell? ⟨w.heap.size, 1, none⟩ = some (.slice A l.length cap) := hS.cell 0 rfl 1 rfl
    have hz : w.heap.size < wr.heap.size := (hS.lt 0 rfl).2
    clear hany
    by_cases hlt : k < l.length
    · obtain ⟨b, o, rfl, hb, d0, d1, d2, d3⟩ := pipes_at (Reads.below hr hS.below) hlt
      obtain ⟨p, hp⟩ : ∃ p, l[k] = p := ⟨_, rfl⟩
      rw [hp] at d0 d1 d2 d3
      have HP : Hid (l[k] = p) := Lib.hid hp
      have hS2 := hS.alloc #[.int .i64 p.fr, .int .i64 p.to, .int .i64 p.room, .int .i64 p.cost] 40
      have HS2 := Lib.hid hS2
      clear hp hS hS2
      by_cases q0 : p.fr < 0
      · have HR := Lib.hid (rangeP_bad (N := N) hlt HP.out (by unfold BadP; omega))
        go_wp2
        go_ret
        exact ⟨retInt (by rw [HR.out]), HS2.out.below⟩
      · skip
        by_cases q1 : N ≤ p.fr
        · have HR := Lib.hid (rangeP_bad (N := N) hlt HP.out (by unfold BadP; omega))
          go_wp2
          go_ret
          exact ⟨retInt (by rw [HR.out]), HS2.out.below⟩
        · skip
          by_cases q2 : p.to < 0
          · have HR := Lib.hid (rangeP_bad (N := N) hlt HP.out (by unfold BadP; omega))
            go_wp2
            go_ret
            exact ⟨retInt (by rw [HR.out]), HS2.out.below⟩
          · skip
            by_cases q3 : N ≤ p.to
            · have HR := Lib.hid (rangeP_bad (N := N) hlt HP.out (by unfold BadP; omega))
              go_wp2
              go_ret
              exact ⟨retInt (by rw [HR.out]), HS2.out.below⟩
            · skip
              by_cases q4 : p.room < 0
              · have HR := Lib.hid (rangeP_bad (N := N) hlt HP.out (by unfold BadP; omega))
                go_wp2
                go_ret
                exact ⟨retInt (by rw [HR.out]), HS2.out.below⟩
              · skip
                by_cases q5 : 1099511627776 < p.room
                · have HR := Lib.hid (rangeP_bad (N := N) hlt HP.out (by unfold BadP; omega))
                  go_wp2
                  go_ret
                  exact ⟨retInt (by rw [HR.out]), HS2.out.below⟩
                · skip
                  by_cases q6 : p.cost < -1099511627776
                  · have HR := Lib.hid (rangeP_bad (N := N) hlt HP.out (by unfold BadP; omega))
                    go_wp2
                    go_ret
                    exact ⟨retInt (by rw [HR.out]), HS2.out.below⟩
                  · skip
                    by_cases q7 : 1099511627776 < p.cost
                    · have HR := Lib.hid (rangeP_bad (N := N) hlt HP.out (by unfold BadP; omega))
                      go_wp2
                      go_ret
                      exact ⟨retInt (by rw [HR.out]), HS2.out.below⟩
                    · have HR : Hid (∀ j, ∀ hj : j < l.length, j < k + 1 → ¬ BadP N l[j]) := Lib.hid (fun j hj h => by
                        by_cases e : j = k
                        · subst e; rw [HP.out]; unfold BadP; omega
                        · exact Hany.out j hj (by omega))
                      go_wp2
                      go_roundw
                      case rel => exact ⟨k + 1, by omega, by go_num, HR.out, HS2.out.tail⟩
                      case measure => simp [intOf]; omega
    · obtain rfl : k = l.length := by omega
      have HR := Lib.hid (rangeP_ok fun j hj => Hany.out j hj hj)
      have HS := Lib.hid hS
      clear hS
      go_wp2
      go_ret
      exact ⟨retInt (by rw [HR.out]), HS.out.below⟩
/-- Check, whatever the net. -/
theorem checkP_any (N : Int) (A : Option Addr) (cap : Nat) (l : List PipeV) (w : World) (hr : Pipes w w.heap.size A l) (hl : l.length ≤ maxLen) :
    Calls Try.prog 22 #[.agg #[.int .i64 N, .slice A l.length cap]] w fun e w' => e = .returned (.int .i64 (checkP N l)) ∧ Below w.heap.size w w' := by
  by_cases h : N < 0 ∨ 1000 < N ∨ 20000 < l.length
  · rw [show checkP N l = 4 from if_pos h]
    exact check_size N A l.length cap w hl h
  · rw [show checkP N l = rangeP N l from if_neg h]
    exact check_loop N A cap l w hr (by omega) (by omega) (by omega)
end Go.Proofs.Ytgnmbmlpfjlbiaa
