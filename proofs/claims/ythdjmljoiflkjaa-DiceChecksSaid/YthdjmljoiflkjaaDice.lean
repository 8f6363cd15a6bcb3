/- Contracts of package dice: Next, Pick. -/
import Derived.Test.YthdjmljoiflkjaaSL
import Derived.Test.YthdjmljoiflkjaaPlanS
import Derived.Test.YthdjmljoiflkjaaRows
import Derived.Deep.QuietTactic
import Derived.BigQuiet
import Derived.WalkSmall
import Derived.WalkLawsBesides
import Derived.Outline
namespace Go.Proofs.Ythdjmljoiflkjaa
open Go.ChangeShapes Go.WideShapes Go.ChangeAt Go.RowKit
set_option linter.unusedVariables false
/-- A dice lies in block bd: its draws, and how many of them are used. -/
def DiceAt (w : World) (bd : Nat) (A : Option Addr) (n c : Nat) (u : Nat) : Prop := w.heap[bd]? = some (.cells #[.slice A n c, .int .i64 u] 68 (0, 0))
/-- What is thrown when there is no draw left. -/
def spentE : List PanicEntry := [{ v := .iface 70 (.agg #[]), recovered := false }]
theorem grown_drewN_set {w : World} {bd i nq mq : Nat} {v : Value} : w.grownBy (((w.drewN nq).setCell ⟨bd, i, none⟩ v).drewN mq) (some bd) :=
  ⟨rfl, rfl, rfl, by simp [World.setCell], fun k _ hk => Below.heap_setCell _ _ _ _ (fun e => hk (by rw [e]))⟩
theorem next_yes (w : World) (bd B : Nat) (A : Option Addr) (c : Nat) (xs : List Int) (u : Nat) (hd : DiceAt w bd A xs.length c u) (hr : Reads w B 1 A xs.length (xs.map (.int .u32))) (hB : B ≤ bd) (hu : u < xs.length) (hl : xs.length ≤ maxLen) :
    Calls Try.prog 14 #[.pointer (some ⟨bd, 0, none⟩)] w fun e w' => e = .returned (.int .u32 xs[u]) ∧ w.grownBy w' (some bd) ∧ DiceAt w' bd A xs.length c (u + 1) := by
  unfold maxLen at hl
  have c0 : w.cell? ⟨bd, 0, none⟩ = some (.slice A xs.length c) := cell_of_row _ _ _ _ _ _ hd
  have c1 : w.cell? ⟨bd, 1, none⟩ = some (.int .i64 u) := cell_of_row _ _ _ _ _ _ hd
  have f1 : w.frozen? ⟨bd, 1, none⟩ = false := frozen_of_row _ _ _ _ _ hd
  obtain ⟨b, o, rfl, hb, hc⟩ := reads_plain hr (by omega) Nat.one_pos
  have hx : w.cell? ⟨b, o + u, none⟩ = some (.int .u32 xs[u]) := hc u _ (by simp [hu])
  have hne : ¬ b = bd := by omega
  have hne' : ¬ bd = b := by omega
  have hlt : ¬ (xs.length : Int) ≤ (u : Int) := by omega
  have hd1 : decide ((xs.length : Int) ≤ (u : Int)) = false := by simpa using hu
  have HD := Lib.hid hd
  clear hd hc hr
  go_enter Try.func14, Try.ntmps14
  go_wp2
  go_quiet (fail)
  go_wp2
  have hx1 : (0 : Int) ≤ (u : Int) := by omega
  have hx2 : (u : Int) < (xs.length : Int) := by omega
  go_quiet (fail)
  go_wp2
  go_ret
  exact ⟨rfl, grown_drewN_set, by unfold DiceAt; rw [show ((u + 1 : Nat) : Int) = (u : Int) + 1 by omega]; exact heap_setCell_same _ _ _ _ _ _ HD.out⟩
theorem next_no (w : World) (bd : Nat) (A : Option Addr) (n c u : Nat) (hd : DiceAt w bd A n c u) (hu : n ≤ u) (hl : n ≤ maxLen) :
    Calls Try.prog 14 #[.pointer (some ⟨bd, 0, none⟩)] w fun e w' => e = .panicked spentE ∧ ∃ k, w' = w.drewN k := by
  unfold maxLen at hl
  have c0 : w.cell? ⟨bd, 0, none⟩ = some (.slice A n c) := cell_of_row _ _ _ _ _ _ hd
  have c1 : w.cell? ⟨bd, 1, none⟩ = some (.int .i64 u) := cell_of_row _ _ _ _ _ _ hd
  have hlt : (n : Int) ≤ (u : Int) := by omega
  have hd1 : decide ((n : Int) ≤ (u : Int)) = true := by simpa using hu
  have HD := Lib.hid hd
  clear hd
  go_enter Try.func14, Try.ntmps14
  go_wp2
  go_quiet (fail)
  go_wp2
  exact ⟨rfl, rfl, _, rfl⟩
theorem pick_none (w : World) (bd : Nat) (k : Int) (h : k < 1) :
    Calls Try.prog 15 #[.pointer (some ⟨bd, 0, none⟩), .int .i64 k] w fun e w' => e = .returned (.int .i64 0) ∧ w = w' := by
  go_enter Try.func15, Try.ntmps15
  go_wp2
  go_ret
  exact ⟨rfl, rfl⟩
theorem pick_yes (w : World) (bd B : Nat) (A : Option Addr) (c : Nat) (xs : List Int) (u : Nat) (k : Int) (hd : DiceAt w bd A xs.length c u) (hr : Reads w B 1 A xs.length (xs.map (.int .u32))) (hB : B ≤ bd) (hu : u < xs.length) (hl : xs.length ≤ maxLen) (h1 : 1 ≤ k) (h2 : k ≤ 9223372036854775807) (h3 : 0 ≤ xs[u]) (h4 : xs[u] ≤ 4294967295) :
    Calls Try.prog 15 #[.pointer (some ⟨bd, 0, none⟩), .int .i64 k] w fun e w' => e = .returned (.int .i64 (xs[u] % k)) ∧ w.grownBy w' (some bd) ∧ DiceAt w' bd A xs.length c (u + 1) := by
  have hN := Lib.hid (next_yes w bd B A c xs u hd hr hB hu hl)
  have h5 : 0 ≤ xs[u] % k := Int.emod_nonneg _ (by omega)
  have h6 : xs[u] % k < k := Int.emod_lt_of_pos _ (by omega)
  generalize xs[u] = x at *
  go_enter Try.func15, Try.ntmps15
  go_wp2_with (go_at_call 14; (with_reducible refine hN.out.mono ?_); rintro e w2 ⟨rfl, hg, hd2⟩)
  go_ret
  exact ⟨rfl, hg, hd2⟩
theorem pick_no (w : World) (bd : Nat) (A : Option Addr) (n c u : Nat) (k : Int) (hd : DiceAt w bd A n c u) (hu : n ≤ u) (hl : n ≤ maxLen) (h1 : 1 ≤ k) :
    Calls Try.prog 15 #[.pointer (some ⟨bd, 0, none⟩), .int .i64 k] w fun e w' => e = .panicked spentE ∧ ∃ k, w' = w.drewN k := by
  have hN := Lib.hid (next_no w bd A n c u hd hu hl)
  clear hd
  go_enter Try.func15, Try.ntmps15
  go_wp2_with (go_at_call 14; (with_reducible refine hN.out.mono ?_); rintro e w2 ⟨rfl, k2, rfl⟩)
  exact ⟨rfl, rfl, _, rfl⟩
end Go.Proofs.Ythdjmljoiflkjaa
