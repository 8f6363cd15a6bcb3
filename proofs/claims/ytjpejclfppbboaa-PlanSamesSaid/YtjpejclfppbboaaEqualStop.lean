/- slices.Equal at two rows of stops. (printed by gen/equalstop.py) -/
import Derived.Test.YtjpejclfppbboaaNest
import Derived.Test.YtjpejclfppbboaaEqualAny
import Derived.Test.YtjpejclfppbboaaPlanP
import Derived.Deep.QuietTactic
import Derived.BigQuiet
import Derived.WalkSmall
namespace Go.Proofs.Ytjpejclfppbboaa
open Go.ChangeShapes Go.WideShapes Go.ChangeAt Go.RowKit
set_option linter.unusedVariables false
set_option linter.unusedSimpArgs false
/-- Are they the same? -/
noncomputable def sameV {α : Type} (a b : α) : Bool := @decide (a = b) (Classical.propDecidable _)
theorem sameV_true {α : Type} {a b : α} (h : a = b) : sameV a b = true := by unfold sameV; simp [h]
theorem sameV_false {α : Type} {a b : α} (h : a ≠ b) : sameV a b = false := by unfold sameV; simp [h]
theorem sameV_iff {α : Type} {a b : α} : sameV a b = true ↔ a = b := by unfold sameV; simp
set_option maxRecDepth 100000 in
theorem equal_stops (A A' : Option Addr) (c c' : Nat) (xs ys : List StopV) (w : World) (h1 : Stops w w.heap.size A xs) (h2 : Stops w w.heap.size A' ys) (hl : xs.length ≤ maxLen) (hl2 : ys.length ≤ maxLen) :
    Calls Try.prog 72 #[.slice A xs.length c, .slice A' ys.length c'] w fun e w' => e = .returned (.bool (sameV xs ys)) ∧ Below w.heap.size w w' := by
  unfold maxLen at hl hl2
  obtain ⟨n, hn⟩ : ∃ n, xs.length = n := ⟨_, rfl⟩
  obtain ⟨m, hm⟩ : ∃ m, ys.length = m := ⟨_, rfl⟩
  have HNM := Lib.hid (And.intro hn hm)
  rw [hn] at hl ⊢
  rw [hm] at hl2 ⊢
  have H1 := Lib.hid h1
  have H2 := Lib.hid h2
  clear h1 h2 hn hm
  by_cases hne0 : n = m
  · subst hne0
    go_enter Try.func72, Try.ntmps72
    go_wp2
    go_loopw [13] (fun i wr => ∃ k : Nat, k ≤ n ∧ i = .int .i64 k ∧ Below w.heap.size w wr ∧ Hid (∀ j (h1 : j < xs.length) (h2 : j < ys.length), j < k → xs[j] = ys[j])) (fun i _ => n - (intOf i).toNat)
    case atStart => exact ⟨0, by omega, rfl, Below.refl _ _, Lib.hid (fun j _ _ hj => absurd hj (by omega))⟩
    case round =>
      obtain ⟨k, hk, rfl, hB, HE⟩ := hrel
      by_cases hlt : k < n
      · have hx : k < xs.length := by rw [HNM.out.1]; exact hlt
        have hy : k < ys.length := by rw [HNM.out.2]; exact hlt
        obtain ⟨b1, o1, rfl, hb1, d0, d1⟩ := stops_at (Reads.below H1.out hB) hx
        obtain ⟨b2, o2, rfl, hb2, f0, f1⟩ := stops_at (Reads.below H2.out hB) hy
        have hk1 : (k : Int) < (n : Int) := by omega
        have hk0 : (0 : Int) ≤ (k : Int) := by omega
        have HEK : Hid (xs[k] = ys[k] ↔ xs[k].sat = ys[k].sat ∧ xs[k].load = ys[k].load) := Lib.hid (by
          constructor
          · intro h; rw [h]; exact ⟨rfl, rfl⟩
          · intro h
            cases hx : xs[k]; cases hy : ys[k]
            rw [hx, hy] at h
            simp only at h
            rw [h.1, h.2])
        have HNO : Hid (xs[k] ≠ ys[k] → sameV xs ys = false) := Lib.hid (fun h => sameV_false (fun e => h (by subst e; rfl)))
        have HST : Hid (xs[k] = ys[k] → ∀ j (h1 : j < xs.length) (h2 : j < ys.length), j < k + 1 → xs[j] = ys[j]) := Lib.hid (fun h j h1 h2 hj => by
          by_cases hjk : j = k
          · subst hjk; exact h
          · exact HE.out j h1 h2 (by omega))
        have HB := Lib.hid hB
        obtain ⟨s1, hs1⟩ : ∃ s, xs[k].sat = s := ⟨_, rfl⟩
        obtain ⟨s2, hs2⟩ : ∃ s, ys[k].sat = s := ⟨_, rfl⟩
        obtain ⟨l1, hl1⟩ : ∃ s, xs[k].load = s := ⟨_, rfl⟩
        obtain ⟨l2, hl2'⟩ : ∃ s, ys[k].load = s := ⟨_, rfl⟩
        rw [hs1] at d0
        rw [hl1] at d1
        rw [hs2] at f0
        rw [hl2'] at f1
        rw [hs1, hs2, hl1, hl2'] at HEK
        clear hB HE hs1 hs2 hl1 hl2' hb1 hb2
        by_cases e1 : s1 = s2
        · by_cases e2 : l1 = l2
          · have HQ := Lib.hid (HST.out (HEK.out.2 ⟨e1, e2⟩))
            clear HST HNO
            subst e1 e2
            go_wp2
            go_quiet (fail)
            go_wp2
            go_roundw
            case rel => exact ⟨k + 1, by omega, by go_num, below_drewN HB.out _, HQ⟩
            case measure => simp [intOf]; omega
          · have HF := Lib.hid (HNO.out (fun e => e2 (HEK.out.1 e).2))
            clear HST HNO
            subst e1
            go_wp2
            go_quiet (fail)
            go_wp2
            go_ret
            exact ⟨retBool HF.out.symm, below_drewN HB.out _⟩
        · have HF := Lib.hid (HNO.out (fun e => e1 (HEK.out.1 e).1))
          clear HST HNO
          go_wp2
          go_quiet (fail)
          go_wp2
          go_ret
          exact ⟨retBool HF.out.symm, below_drewN HB.out _⟩
      · obtain rfl : k = n := by omega
        have HF : Hid (sameV xs ys = true) := Lib.hid (sameV_true (List.ext_getElem (by rw [HNM.out.1, HNM.out.2]) fun j g1 g2 => HE.out j g1 g2 (by have := HNM.out.1; omega)))
        clear HE
        go_wp2
        go_ret
        exact ⟨retBool HF.out.symm, hB⟩
  · have HF : Hid (sameV xs ys = false) := Lib.hid (sameV_false (fun e => hne0 (by rw [← HNM.out.1, ← HNM.out.2, e])))
    have hne : ¬ (n : Int) = (m : Int) := by omega
    clear hne0
    go_enter Try.func72, Try.ntmps72
    go_wp2
    go_ret
    exact ⟨retBool HF.out.symm, Below.refl _ _⟩
end Go.Proofs.Ytjpejclfppbboaa
