/- The methods of a pile's row: Len, Less. -/
import Derived.Test.YtjpejclfppbboaaHeapM
import Derived.Test.YtjpejclfppbboaaRows
import Derived.Deep.QuietTactic
import Derived.BigQuiet
import Derived.WalkSmall
import Derived.Handy
namespace Go.Proofs.Ytjpejclfppbboaa
open Go.ChangeShapes Go.WideShapes Go.ChangeAt Go.RowKit
set_option linter.unusedVariables false
theorem items_at {w : World} {B n : Nat} {A : Option Addr} {f : Nat → ItemV} (h : Reads w B 2 A n (itemCells f n)) {k : Nat} (hk : k < n) : ∃ b o, A = some ⟨b, o, none⟩ ∧ b < B ∧ w.cell? ⟨b, o + k * 2, none⟩ = some (.int .i64 (f k).key) ∧ w.cell? ⟨b, o + k * 2 + 1, none⟩ = some (.int .i64 (f k).id) := by
 obtain ⟨b, o, e, hb, hc⟩ := reads_plain h (by omega) (by decide)
 obtain ⟨g0, g1⟩ := itemCells_get f hk
 exact ⟨b, o, e, hb, hc _ _ g0, by have := hc _ _ g1; rwa [← Nat.add_assoc] at this⟩
theorem rowLen_any (A : Option Addr) (n c : Nat) (w : World) : Calls Try.prog 124 #[.slice A n c] w fun e w' => e = .returned (.int .i64 n) ∧ w' = w := by
 go_enter Try.func124, Try.ntmps124
 go_wp2
 go_ret
 exact ⟨rfl, rfl⟩
set_option maxHeartbeats 1000000 in
theorem rowLess_any (A : Option Addr) (n c : Nat) (f : Nat → ItemV) (i j : Nat) (w : World) (hr : Reads w w.heap.size 2 A n (itemCells f n)) (hn : n ≤ 1000000) (hi : i < n) (hj : j < n) :
 Calls Try.prog 125 #[.slice A n c, .int .i64 i, .int .i64 j] w fun e w' => e = .returned (.bool (decide ((f i).lt (f j)))) ∧ Below w.heap.size w w' := by
 obtain ⟨b, o, rfl, hb, d0, d1⟩ := items_at hr hi
 obtain ⟨b', o', e, hb', d2, d3⟩ := items_at hr hj
 simp only [Option.some.injEq, Addr.mk.injEq, and_true] at e
 obtain ⟨rfl, rfl⟩ := e
 have hi1 : (i : Int) < (n : Int) := by omega
 have hj1 : (j : Int) < (n : Int) := by omega
 obtain ⟨x, hx⟩ : ∃ x, f i = x := ⟨_, rfl⟩
 obtain ⟨y, hy⟩ : ∃ y, f j = y := ⟨_, rfl⟩
 rw [hx] at d0 d1 ⊢
 rw [hy] at d2 d3 ⊢
 clear hr hx hy
 by_cases hk : x.key = y.key
 · have hne : (x.key != y.key) = false := by simp [hk]
   have HL : Hid (decide (x.lt y) = decide (x.id < y.id)) := Lib.hid (by
    apply decide_eq_decide.2
    unfold ItemV.lt
    omega)
   clear hk
   go_enter Try.func125, Try.ntmps125
   go_wp2
   go_quiet (fail)
   go_wp2
   go_quiet (fail)
   go_wp2
   go_ret
   exact ⟨retBool HL.out.symm, below_drewN (below_drewN (Below.refl _ _) _) _⟩
 · have hne : (x.key != y.key) = true := by simp [hk]
   have HL : Hid (decide (x.lt y) = decide (x.key < y.key)) := Lib.hid (by
    apply decide_eq_decide.2
    unfold ItemV.lt
    omega)
   clear hk
   go_enter Try.func125, Try.ntmps125
   go_wp2
   go_quiet (fail)
   go_wp2
   go_quiet (fail)
   go_wp2
   go_ret
   exact ⟨retBool HL.out.symm, below_drewN (below_drewN (Below.refl _ _) _) _⟩
end Go.Proofs.Ytjpejclfppbboaa
