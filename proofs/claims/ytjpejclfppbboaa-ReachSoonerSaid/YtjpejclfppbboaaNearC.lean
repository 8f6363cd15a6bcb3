/- path.check; slices.ContainsFunc with path.Near's closure: does one weigh less than nothing? -/
import Derived.Test.YtjpejclfppbboaaTree
import Derived.Outline
import Derived.Deep.LoopGhost
import Derived.Deep.CutRange
import Derived.Deep.DeepCutAuto
import Derived.WalkSpells
namespace Go.Proofs.Ytjpejclfppbboaa
open Go.ChangeShapes Go.WideShapes Go.ChangeAt Go.RowKit
set_option linter.unusedVariables false
/-- What check answers. -/
def checkF (N : Int) (l : List ArcV) (s : Int) : Int := if checkG N l ≠ 0 then checkG N l else if 0 ≤ s ∧ s < N then 0 else 2
set_option maxHeartbeats 4000000 in
theorem checkF_any (N : Int) (A : Option Addr) (cap : Nat) (l : List ArcV) (s : Int) (w : World) (hr : Arcs w w.heap.size A l) (hl : l.length ≤ maxLen) :
 Calls Try.prog 79 #[.agg #[.int .i64 N, .slice A l.length cap], .int .i64 s] w fun e w' => e = .returned (.int .i64 (checkF N l s)) ∧ Below w.heap.size w w' := by
 have hS0 := (SL.start (Nat.le_refl w.heap.size)).alloc #[.int .i64 N, .slice A l.length cap] 111
 have HRD : Hid (Arcs (w.alloc (.cells #[.int .i64 N, .slice A l.length cap] 111)) (w.alloc (.cells #[.int .i64 N, .slice A l.length cap] 111)).heap.size A l) := Lib.hid (reads_more (Reads.below hr hS0.below) (by simp))
 have HS0 := Lib.hid hS0
 have HL := Lib.hid hl
 obtain ⟨C, hC⟩ : ∃ C, C = checkG N l := ⟨_, rfl⟩
 have HC := Lib.hid hC
 clear hr hS0 hl
 by_cases h0 : C = 0
 · have hz : (C != 0) = false := by simpa using h0
   have HC0 := Lib.hid h0
   clear hC h0
   by_cases h1 : 0 ≤ s ∧ s < N
   · have HF : Hid (checkF N l s = 0) := Lib.hid (by unfold checkF; rw [← HC.out, HC0.out]; simp [h1])
     obtain ⟨h2, h3⟩ := h1
     go_enter Try.func79, Try.ntmps79
     go_wp2_with (first
      | (go_at_call 94; (with_reducible refine (checkG_any N A cap l _ HRD.out HL.out).mono ?_); rintro e w2 ⟨rfl, hB⟩; rw [← HC.out]
         have hS1 := HS0.out.call hB; have hy0 := hS1.cell 0 rfl 0 rfl; have hy1 := hS1.cell 0 rfl 1 rfl; have HS1 := Lib.hid hS1; clear hB hS1)
      | (go_at_call 95; (with_reducible refine (has_yes N s A l.length cap _ h2 h3).mono ?_); rintro e w3 ⟨rfl, rfl⟩))
     go_ret
     exact ⟨retInt HF.out.symm, HS1.out.below.trans ((Below.refl _ _).alloc HS1.out.size _)⟩
   · have HF : Hid (checkF N l s = 2) := Lib.hid (by unfold checkF; rw [← HC.out, HC0.out]; simp [h1])
     have h2 : s < 0 ∨ N ≤ s := by omega
     clear h1
     go_enter Try.func79, Try.ntmps79
     go_wp2_with (first
      | (go_at_call 94; (with_reducible refine (checkG_any N A cap l _ HRD.out HL.out).mono ?_); rintro e w2 ⟨rfl, hB⟩; rw [← HC.out]
         have hS1 := HS0.out.call hB; have hy0 := hS1.cell 0 rfl 0 rfl; have hy1 := hS1.cell 0 rfl 1 rfl; have HS1 := Lib.hid hS1; clear hB hS1)
      | (go_at_call 95; (with_reducible refine (has_no N s A l.length cap _ h2).mono ?_); rintro e w3 ⟨rfl, rfl⟩))
     go_ret
     exact ⟨retInt HF.out.symm, HS1.out.below.trans ((Below.refl _ _).alloc HS1.out.size _)⟩
 · have hz : (C != 0) = true := by simpa using h0
   have HF : Hid (checkF N l s = C) := Lib.hid (by unfold checkF; rw [← HC.out, if_pos h0])
   clear hC h0
   go_enter Try.func79, Try.ntmps79
   go_wp2_with (go_at_call 94; (with_reducible refine (checkG_any N A cap l _ HRD.out HL.out).mono ?_); rintro e w2 ⟨rfl, hB⟩; rw [← HC.out]; have HS1 := Lib.hid (HS0.out.call hB); clear hB)
   go_ret
   exact ⟨retInt HF.out.symm, HS1.out.below⟩
theorem neg_call (u t c : Int) (w : World) (hc : 0 ≤ c) : Calls Try.prog 81 #[.agg #[.int .i64 u, .int .i64 t, .int .i64 c]] w fun e w' => e = .returned (.bool false) ∧ Below w.heap.size w w' := by
 have h0 : decide (c < 0) = false := decide_eq_false (by omega)
 have hS := (SL.start (Nat.le_refl w.heap.size)).alloc #[.int .i64 u, .int .i64 t, .int .i64 c] 113
 have HS := Lib.hid hS.below
 clear hS hc
 go_enter Try.func81, Try.ntmps81
 go_wp2
 go_ret
 exact ⟨rfl, HS.out⟩
set_option maxHeartbeats 1000000 in
theorem index_neg (A : Option Addr) (c : Nat) (l : List ArcV) (w : World) (hr : Arcs w w.heap.size A l) (hl : l.length ≤ 100000) (h0 : ∀ a ∈ l, 0 ≤ a.wt) :
 Calls Try.prog 96 #[.slice A l.length c, .func (.func 81) #[] #[]] w fun e w' => e = .returned (.int .i64 (-1)) ∧ Below w.heap.size w w' := by
 have HR := Lib.hid hr
 have H0 := Lib.hid h0
 clear hr h0
 have hcf : ∀ args w', (callFunc 81 args).run Try.prog w' = .ok (.enter 81 args) w' := fun _ _ => by simp [go_sem]
 go_enter Try.func96, Try.ntmps96
 go_wp2
 go_loopw [8] (fun i wr => ∃ k : Nat, k ≤ l.length ∧ i = .int .i64 k ∧ Below w.heap.size w wr) (fun i _ => l.length - (intOf i).toNat)
 case atStart => exact ⟨0, by omega, rfl, Below.refl _ _⟩
 case round =>
  obtain ⟨k, hk, rfl, hB⟩ := hrel
  by_cases hlt : k < l.length
  · obtain ⟨b, o, rfl, hb, e0, e1, e2⟩ := arcs_at HR.out hlt
    have d0 := (hB.cell (p := ⟨b, o + k * 3, none⟩) hb).trans e0
    have d1 := (hB.cell (p := ⟨b, o + k * 3 + 1, none⟩) hb).trans e1
    have d2 := (hB.cell (p := ⟨b, o + k * 3 + 2, none⟩) hb).trans e2
    have hw := H0.out _ (List.getElem_mem hlt)
    obtain ⟨q0, h0⟩ : ∃ x, l[k].fr = x := ⟨_, rfl⟩
    obtain ⟨q1, h1⟩ : ∃ x, l[k].to = x := ⟨_, rfl⟩
    obtain ⟨q2, h2⟩ : ∃ x, l[k].wt = x := ⟨_, rfl⟩
    rw [h0] at d0
    rw [h1] at d1
    rw [h2] at d2 hw
    have HW := Lib.hid hw
    have HB := Lib.hid hB
    clear h0 h1 h2 e0 e1 e2 hw hB
    go_wp2_with (go_at_call 81; (with_reducible refine (neg_call q0 q1 q2 _ HW.out).mono ?_); rintro e w5 ⟨rfl, hb5⟩; have HB5 := Lib.hid (HB.out.trans (hb5.mono HB.out.size)); clear hb5)
    go_roundw
    case rel => exact ⟨k + 1, by omega, by go_num, HB5.out⟩
    case measure => simp [intOf]; omega
  · obtain rfl : k = l.length := by omega
    have HB := Lib.hid hB
    clear hB
    go_wp2
    go_ret
    exact ⟨rfl, HB.out⟩
theorem contains_neg (A : Option Addr) (c : Nat) (l : List ArcV) (w : World) (hr : Arcs w w.heap.size A l) (hl : l.length ≤ 100000) (h0 : ∀ a ∈ l, 0 ≤ a.wt) :
 Calls Try.prog 80 #[.slice A l.length c, .func (.func 81) #[] #[]] w fun e w' => e = .returned (.bool false) ∧ Below w.heap.size w w' := by
 have HR := Lib.hid (index_neg A c l w hr hl h0)
 clear hr h0
 go_enter Try.func80, Try.ntmps80
 go_wp2_with (go_at_call 96; (with_reducible refine HR.out.mono ?_); rintro e w5 ⟨rfl, hb⟩; have HI := Lib.hid hb; clear hb)
 go_ret
 exact ⟨rfl, HI.out⟩
end Go.Proofs.Ytjpejclfppbboaa
