/- slices.Equal at any two rows: it answers whether they are the same. The walk of plan.Check. (printed by gen/plancheck.py) -/
import Derived.Test.YtpbhbmdghafkmaaRows
import Derived.Test.YtpbhbmdghafkmaaSL
import Derived.Deep.QuietTactic
import Derived.BigQuiet
import Derived.WalkSmall
import Derived.Test.YtpbhbmdghafkmaaLoadsJ
import Derived.Test.YtpbhbmdghafkmaaInstK
namespace Go.Proofs.Ytpbhbmdghafkmaa
open Go.ChangeShapes Go.WideShapes Go.ChangeAt Go.RowKit
set_option linter.unusedVariables false
theorem equalA_ints (A A' : Option Addr) (c c' : Nat) (xs ys : List Int) (w : World) (h1 : Reads w w.heap.size 1 A xs.length (xs.map (.int .i64))) (h2 : Reads w w.heap.size 1 A' ys.length (ys.map (.int .i64))) (hl : xs.length ≤ maxLen) (hl2 : ys.length ≤ maxLen) :
 Calls Try.prog 28 #[.slice A xs.length c, .slice A' ys.length c'] w fun e w' => e = .returned (.bool (decide (xs = ys))) ∧ Below w.heap.size w w' := by
 unfold maxLen at hl hl2
 by_cases hne0 : xs.length = ys.length
 · rw [← hne0] at h2
   go_enter Try.func28, Try.ntmps28
   rw [← hne0]
   go_wp2
   go_loopw [13] (fun i wr => ∃ k : Nat, k ≤ xs.length ∧ i = .int .i64 k ∧ Below w.heap.size w wr ∧ ∀ j (h1 : j < xs.length) (h2 : j < ys.length), j < k → xs[j] = ys[j]) (fun i _ => xs.length - (intOf i).toNat)
   case atStart => exact ⟨0, by omega, rfl, Below.refl _ _, fun j _ _ hj => absurd hj (by omega)⟩
   case round =>
    obtain ⟨k, hk, rfl, hB, hE⟩ := hrel
    by_cases hlt : k < xs.length
    · obtain ⟨b1, o1, rfl, _, g1⟩ := reads_plain (h1.below hB) (by omega) Nat.one_pos
      obtain ⟨b2, o2, rfl, _, g2⟩ := reads_plain (h2.below hB) (by omega) Nat.one_pos
      have hlt2 : k < ys.length := by omega
      have d1 : wr.cell? ⟨b1, o1 + k, none⟩ = some (.int .i64 xs[k]) := g1 k _ (by simp [hlt])
      have d2 : wr.cell? ⟨b2, o2 + k, none⟩ = some (.int .i64 ys[k]) := g2 k _ (by simp [hlt2])
      have hk1 : (k : Int) < (xs.length : Int) := by omega
      have hk0 : (0 : Int) ≤ (k : Int) := by omega
      have HE := Lib.hid hE
      have HB := Lib.hid hB
      have HD := Lib.hid hne0
      have hX : xs[k] = xs[k] := rfl
      obtain ⟨a, ha⟩ : ∃ a, xs[k] = a := ⟨_, rfl⟩
      obtain ⟨b, hb⟩ : ∃ b, ys[k] = b := ⟨_, rfl⟩
      rw [ha] at d1
      rw [hb] at d2
      have HAB := Lib.hid (And.intro ha hb)
      clear g1 g2 h1 h2 hE hB hne0 ha hb hX
      by_cases hab : a = b
      · have hne : (a != b) = false := by simp [hab]
        clear hab
        have HN := Lib.hid hne
        go_wp2
        go_quiet (fail)
        go_wp2
        go_roundw
        case rel =>
         refine ⟨k + 1, by omega, by go_num, below_drewN HB.out _, fun j g1 g2 hj => ?_⟩
         by_cases e : j = k
         · subst e; rw [HAB.out.1, HAB.out.2]; simpa using HN.out
         · exact HE.out j g1 g2 (by omega)
        case measure => simp [intOf]; omega
      · have hne : (a != b) = true := by simp [hab]
        have hf : decide (xs = ys) = false := by
         apply decide_eq_false
         intro e
         subst e
         exact hab (HAB.out.1.symm.trans HAB.out.2)
        have HF := Lib.hid hf
        clear hab hf
        go_wp2
        go_quiet (fail)
        go_wp2
        go_ret
        exact ⟨retBool HF.out.symm, below_drewN HB.out _⟩
    · obtain rfl : k = xs.length := by omega
      have hf : decide (xs = ys) = true := by
       apply decide_eq_true
       exact List.ext_getElem hne0 fun j g1 g2 => hE j g1 g2 g1
      have HF := Lib.hid hf
      clear hf hE h1 h2
      go_wp2
      go_ret
      exact ⟨retBool HF.out.symm, hB⟩
 · have hf : decide (xs = ys) = false := by
    apply decide_eq_false
    intro e
    exact hne0 (by rw [e])
   have hne : ¬ (xs.length : Int) = (ys.length : Int) := by omega
   have HF := Lib.hid hf
   clear h1 h2 hne0 hf
   go_enter Try.func28, Try.ntmps28
   go_wp2
   go_ret
   exact ⟨retBool HF.out.symm, Below.refl _ _⟩
end Go.Proofs.Ytpbhbmdghafkmaa
namespace Go.Proofs.Ytpbhbmdghafkmaa
open Go.ChangeShapes Go.WideShapes Go.ChangeAt Go.RowKit
set_option linter.unusedVariables false
theorem InstIn.at_ {w wx : World} {p : IAt} {x : InstV} (h : InstIn w w.heap.size p x) (hb : Below w.heap.size w wx) : InstIn wx wx.heap.size p x := (h.below hb).more hb.size
end Go.Proofs.Ytpbhbmdghafkmaa
