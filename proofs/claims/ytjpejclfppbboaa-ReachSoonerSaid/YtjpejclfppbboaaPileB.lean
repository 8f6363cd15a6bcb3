/- heap.up, heap.down over a pile's row. -/
import Derived.Test.YtjpejclfppbboaaPileS
import Derived.Deep.LoopGhost
import Derived.Deep.CutRange
import Derived.Deep.DeepCutAuto
import Derived.WalkSpells
import Derived.Outline
namespace Go.Proofs.Ytjpejclfppbboaa
open Go.ChangeShapes Go.WideShapes Go.ChangeAt Go.RowKit
set_option linter.unusedVariables false
theorem load_pile (w : World) (a : Addr) (s : Value) (h : w.cell? a = some s) : (loadVar 159 a).run Try.prog w = .ok s w := by
 simp [loadVar, isAgg, Sem.run_bind, run_underlying Try.underlying159, run_load, h]
theorem meth_len (k : Nat) (w : World) (a : Addr) (s : Value) (h : w.cell? a = some s) : (method (k + 1) 163 (.pointer (some a)) "Len").run Try.prog w = .ok (124, s) w := by
 have e : (method (k + 1) 163 (.pointer (some a)) "Len").run Try.prog w = ((loadVar 159 a) >>= fun v => pure (124, v)).run Try.prog w := by kernel_rfl
 rw [e, Sem.run_bind, load_pile w a s h]
 rfl
theorem meth_less (k : Nat) (w : World) (a : Addr) (s : Value) (h : w.cell? a = some s) : (method (k + 1) 163 (.pointer (some a)) "Less").run Try.prog w = .ok (125, s) w := by
 have e : (method (k + 1) 163 (.pointer (some a)) "Less").run Try.prog w = ((loadVar 159 a) >>= fun v => pure (125, v)).run Try.prog w := by kernel_rfl
 rw [e, Sem.run_bind, load_pile w a s h]
 rfl
theorem meth_swap (k : Nat) (w : World) (a : Addr) (s : Value) (h : w.cell? a = some s) : (method (k + 1) 163 (.pointer (some a)) "Swap").run Try.prog w = .ok (126, s) w := by
 have e : (method (k + 1) 163 (.pointer (some a)) "Swap").run Try.prog w = ((loadVar 159 a) >>= fun v => pure (126, v)).run Try.prog w := by kernel_rfl
 rw [e, Sem.run_bind, load_pile w a s h]
 rfl
set_option maxRecDepth 100000 in
set_option maxHeartbeats 4000000 in
theorem up_any (W : World) (B : Nat) (rs : List Rs) (w : World) (pb n c : Nat) (A : Option Addr) (f : Nat → ItemV) (j : Nat) (hS : SL W B (.blk pb #[.slice A n c] 161 :: .row 148 2 (.slice A n c) n (itemCells f n) :: rs) w) (hn : n ≤ 1000000) (hj : j < n) :
 Calls Try.prog 100 #[.iface 163 (.pointer (some ⟨pb, 0, none⟩)), .int .i64 j] w fun e w' => e = .returned (.tuple #[]) ∧ SL W B (.blk pb #[.slice A n c] 161 :: .row 148 2 (.slice A n c) n (itemCells (upM f j) n) :: rs) w' := by
 have HS := Lib.hid hS
 clear hS
 go_enter Try.func100, Try.ntmps100
 go_wp2_with fail
 go_loopw [1] (fun v wr => ∃ (k : Nat) (g : Nat → ItemV), k < n ∧ v = .int .i64 k ∧ upM g k = upM f j ∧ SL W B (.blk pb #[.slice A n c] 161 :: .row 148 2 (.slice A n c) n (itemCells g n) :: rs) wr) (fun v _ => (intOf v).toNat)
 case atStart => exact ⟨j, f, hj, rfl, rfl, HS.out⟩
 case round =>
  clear HS
  obtain ⟨k, g, hk, rfl, hu, hS⟩ := hrel
  by_cases h0 : k = 0
  · subst h0
    have HS := Lib.hid hS
    have HU := Lib.hid hu
    clear hS hu
    have he : ((0 : Int) == 0) = true := rfl
    go_wp2_with fail
    refine bodyPost_end (results_none rfl _ _ _) rfl ⟨rfl, ?_⟩
    rw [← HU.out, upM_stop (by omega)]
    exact HS.out
  · have c0 : wr.cell? ⟨pb, 0, none⟩ = some (.slice A n c) := hS.cell 0 rfl 0 rfl
    have HS := Lib.hid hS
    have HU := Lib.hid hu
    clear hS hu
    go_upto_region 1 with fail
    obtain ⟨p, hp'⟩ : ∃ p, par k = p := ⟨_, rfl⟩
    have hp := Lib.hid hp'
    have hpi : ((k : Int) - 1) / 2 = (p : Int) := by unfold par at hp'; omega
    rw [hpi]
    have hpk : p < k := by unfold par at hp'; omega
    have hne : ((p : Int) == (k : Int)) = false := by simp; omega
    clear hpi hp'
    have hm : ∀ q, (method (q + 1) 163 (.pointer (some ⟨pb, 0, none⟩)) "Less").run Try.prog wr = .ok (125, .slice A n c) wr := fun q => meth_less q wr _ _ c0
    have HL := Lib.hid (rowLess_any A n c g k p wr (HS.out.reads 1 rfl) hn hk (by omega))
    by_cases hlt : (g k).lt (g p)
    · have hd : decide ((g k).lt (g p)) = true := decide_eq_true hlt
      have HLT := Lib.hid hlt
      clear hlt
      go_wp2_with (first
       | (go_at_call 125; (with_reducible refine HL.out.mono ?_); rintro e w2 ⟨rfl, hB⟩; rw [hd]
          have hS2 := HS.out.call hB
          have c2 : w2.cell? ⟨pb, 0, none⟩ = some (.slice A n c) := hS2.cell 0 rfl 0 rfl
          have hm2 : ∀ q, (method (q + 1) 163 (.pointer (some ⟨pb, 0, none⟩)) "Swap").run Try.prog w2 = .ok (126, .slice A n c) w2 := fun q => meth_swap q w2 _ _ c2
          have HSW := Lib.hid (swap_any W B _ w2 1 n c A g p k hS2 rfl hn (by omega) hk)
          clear hB c0 hm hS2)
       | (go_at_call 126; (with_reducible refine HSW.out.mono ?_); rintro e w3 ⟨rfl, hS3⟩
          have HS3 := Lib.hid hS3
          clear hS3 c2 hm2))
      go_roundw
      case rel => exact ⟨p, swapF g p k, by omega, rfl, by rw [← HU.out, upM_go (j := k) (by omega) (by rw [hp.out]; exact HLT.out), hp.out], HS3.out⟩
      case measure => simp [intOf]; omega
    · have hd : decide ((g k).lt (g p)) = false := decide_eq_false hlt
      have HLT := Lib.hid hlt
      clear hlt
      go_wp2_with (go_at_call 125; (with_reducible refine HL.out.mono ?_); rintro e w2 ⟨rfl, hB⟩; rw [hd]
                   have HS2 := Lib.hid (HS.out.call hB)
                   clear hB c0 hm)
      refine bodyPost_end (results_none rfl _ _ _) rfl ⟨rfl, ?_⟩
      rw [← HU.out, upM_stop (by rw [hp.out]; exact fun h => HLT.out h.2)]
      exact HS2.out
set_option maxRecDepth 100000 in
set_option maxHeartbeats 4000000 in
theorem down_any (W : World) (B : Nat) (rs : List Rs) (w : World) (pb n m c : Nat) (A : Option Addr) (f : Nat → ItemV) (hS : SL W B (.blk pb #[.slice A m c] 161 :: .row 148 2 (.slice A m c) m (itemCells f m) :: rs) w) (hn : m ≤ 1000000) (hnm : n ≤ m) :
 Calls Try.prog 101 #[.iface 163 (.pointer (some ⟨pb, 0, none⟩)), .int .i64 0, .int .i64 n] w fun e w' => ∃ v : Value, e = .returned v ∧ SL W B (.blk pb #[.slice A m c] 161 :: .row 148 2 (.slice A m c) m (itemCells (downM f n 0) m) :: rs) w' := by
 have HS := Lib.hid hS
 clear hS
 go_enter Try.func101, Try.ntmps101
 go_wp2_with fail
 go_loopw [7] (fun v wr => ∃ (i : Nat) (g : Nat → ItemV), i ≤ n ∧ v = .int .i64 i ∧ downM g n i = downM f n 0 ∧ SL W B (.blk pb #[.slice A m c] 161 :: .row 148 2 (.slice A m c) m (itemCells g m) :: rs) wr) (fun v _ => n - (intOf v).toNat)
 case atStart => exact ⟨0, f, by omega, rfl, rfl, HS.out⟩
 case round =>
  clear HS
  obtain ⟨i, g, hk, rfl, hu, hS⟩ := hrel
  have HS := Lib.hid hS
  have HU := Lib.hid hu
  by_cases h0 : 2 * i + 1 < n
  · have c0 : wr.cell? ⟨pb, 0, none⟩ = some (.slice A m c) := hS.cell 0 rfl 0 rfl
    have hdd : decide ((2 * (i : Int) + 1) < 0) = false := decide_eq_false (by omega)
    clear hS hu
    go_upto_region 6 with fail
    obtain ⟨j1, hj1⟩ : ∃ j1, j1 = 2 * i + 1 := ⟨_, rfl⟩
    obtain ⟨j2, hj2⟩ : ∃ j2, j2 = 2 * i + 2 := ⟨_, rfl⟩
    have e1 : 2 * (i : Int) + 1 = (j1 : Int) := by omega
    have e2 : (j1 : Int) + 1 = (j2 : Int) := by omega
    rw [e1, e2]
    have Hj1 := Lib.hid hj1
    have Hj2 := Lib.hid hj2
    have hi1 : i < j1 := by omega
    have hi2 : i < j2 := by omega
    have hj1n : j1 < n := by omega
    have h0' := h0
    clear e1 e2 hdd hj1 hj2
    by_cases hj2n : j2 < n
    · have hd6 : decide ((j2 : Int) < (n : Int)) = true := decide_eq_true (by omega)
      have hm6 : ∀ q, (method (q + 1) 163 (.pointer (some ⟨pb, 0, none⟩)) "Less").run Try.prog wr = .ok (125, .slice A m c) wr := fun q => meth_less q wr _ _ c0
      have HL6 := Lib.hid (rowLess_any A m c g j2 j1 wr (HS.out.reads 1 rfl) hn (by omega) (by omega))
      by_cases hlj : (g j2).lt (g j1)
      · have hdj : decide ((g j2).lt (g j1)) = true := decide_eq_true hlj
        have HLJ := Lib.hid hlj
        clear hlj
        go_upto_region 8 with (go_at_call 125; (with_reducible refine HL6.out.mono ?_); rintro e w6 ⟨rfl, hB6⟩; rw [hdj]
                               have hS6 := HS.out.call hB6
                               have c6 : w6.cell? ⟨pb, 0, none⟩ = some (.slice A m c) := hS6.cell 0 rfl 0 rfl
                               have HS6 := Lib.hid hS6
                               clear hB6 hm6 hS6 c0)
        have HCK : Hid (kid g n i = j2) := Lib.hid (by unfold kid; rw [if_pos (by rw [← Hj2.out, ← Hj1.out]; exact ⟨hj2n, HLJ.out⟩)]; exact Hj2.out.symm)
        have hcm : j2 < m := by omega
        have hm8 : ∀ q, (method (q + 1) 163 (.pointer (some ⟨pb, 0, none⟩)) "Less").run Try.prog w6 = .ok (125, .slice A m c) w6 := fun q => meth_less q w6 _ _ c6
        have HL8 := Lib.hid (rowLess_any A m c g j2 i w6 (HS6.out.reads 1 rfl) hn hcm (by omega))
        by_cases hci : (g j2).lt (g i)
        · have hd8 : decide ((g j2).lt (g i)) = true := decide_eq_true hci
          have HCI := Lib.hid hci
          clear hci
          go_wp2_with (first
           | (go_at_call 125; (with_reducible refine HL8.out.mono ?_); rintro e w8 ⟨rfl, hB8⟩; rw [hd8]
              have hS8 := HS6.out.call hB8
              have c8 : w8.cell? ⟨pb, 0, none⟩ = some (.slice A m c) := hS8.cell 0 rfl 0 rfl
              have hm9 : ∀ q, (method (q + 1) 163 (.pointer (some ⟨pb, 0, none⟩)) "Swap").run Try.prog w8 = .ok (126, .slice A m c) w8 := fun q => meth_swap q w8 _ _ c8
              have HSW := Lib.hid (swap_any W B _ w8 1 m c A g i j2 hS8 rfl hn (by omega) hcm)
              clear hB8 hm8 hS8 c6)
           | (go_at_call 126; (with_reducible refine HSW.out.mono ?_); rintro e w9 ⟨rfl, hS9⟩
              have HS9 := Lib.hid hS9
              clear hS9 c8 hm9))
          go_roundw
          case rel => exact ⟨j2, swapF g i j2, by omega, rfl, by rw [← HU.out, downM_go h0 (by rw [HCK.out]; exact HCI.out), HCK.out], HS9.out⟩
          case measure => simp [intOf]; omega
        · have hd8 : decide ((g j2).lt (g i)) = false := decide_eq_false hci
          have HCI := Lib.hid hci
          clear hci
          go_wp2_with (go_at_call 125; (with_reducible refine HL8.out.mono ?_); rintro e w8 ⟨rfl, hB8⟩; rw [hd8]
                       have HS8 := Lib.hid (HS6.out.call hB8)
                       clear hB8 hm8 c6)
          go_ret
          refine ⟨_, rfl, ?_⟩
          rw [← HU.out, downM_stop h0 (by rw [HCK.out]; exact HCI.out)]
          exact HS8.out
      · have hdj : decide ((g j2).lt (g j1)) = false := decide_eq_false hlj
        have HLJ := Lib.hid hlj
        clear hlj
        go_upto_region 8 with (go_at_call 125; (with_reducible refine HL6.out.mono ?_); rintro e w6 ⟨rfl, hB6⟩; rw [hdj]
                               have hS6 := HS.out.call hB6
                               have c6 : w6.cell? ⟨pb, 0, none⟩ = some (.slice A m c) := hS6.cell 0 rfl 0 rfl
                               have HS6 := Lib.hid hS6
                               clear hB6 hm6 hS6 c0)
        have HCK : Hid (kid g n i = j1) := Lib.hid (by unfold kid; rw [if_neg (by rw [← Hj2.out, ← Hj1.out]; exact fun h => HLJ.out h.2)]; exact Hj1.out.symm)
        have hcm : j1 < m := by omega
        have hm8 : ∀ q, (method (q + 1) 163 (.pointer (some ⟨pb, 0, none⟩)) "Less").run Try.prog w6 = .ok (125, .slice A m c) w6 := fun q => meth_less q w6 _ _ c6
        have HL8 := Lib.hid (rowLess_any A m c g j1 i w6 (HS6.out.reads 1 rfl) hn hcm (by omega))
        by_cases hci : (g j1).lt (g i)
        · have hd8 : decide ((g j1).lt (g i)) = true := decide_eq_true hci
          have HCI := Lib.hid hci
          clear hci
          go_wp2_with (first
           | (go_at_call 125; (with_reducible refine HL8.out.mono ?_); rintro e w8 ⟨rfl, hB8⟩; rw [hd8]
              have hS8 := HS6.out.call hB8
              have c8 : w8.cell? ⟨pb, 0, none⟩ = some (.slice A m c) := hS8.cell 0 rfl 0 rfl
              have hm9 : ∀ q, (method (q + 1) 163 (.pointer (some ⟨pb, 0, none⟩)) "Swap").run Try.prog w8 = .ok (126, .slice A m c) w8 := fun q => meth_swap q w8 _ _ c8
              have HSW := Lib.hid (swap_any W B _ w8 1 m c A g i j1 hS8 rfl hn (by omega) hcm)
              clear hB8 hm8 hS8 c6)
           | (go_at_call 126; (with_reducible refine HSW.out.mono ?_); rintro e w9 ⟨rfl, hS9⟩
              have HS9 := Lib.hid hS9
              clear hS9 c8 hm9))
          go_roundw
          case rel => exact ⟨j1, swapF g i j1, by omega, rfl, by rw [← HU.out, downM_go h0 (by rw [HCK.out]; exact HCI.out), HCK.out], HS9.out⟩
          case measure => simp [intOf]; omega
        · have hd8 : decide ((g j1).lt (g i)) = false := decide_eq_false hci
          have HCI := Lib.hid hci
          clear hci
          go_wp2_with (go_at_call 125; (with_reducible refine HL8.out.mono ?_); rintro e w8 ⟨rfl, hB8⟩; rw [hd8]
                       have HS8 := Lib.hid (HS6.out.call hB8)
                       clear hB8 hm8 c6)
          go_ret
          refine ⟨_, rfl, ?_⟩
          rw [← HU.out, downM_stop h0 (by rw [HCK.out]; exact HCI.out)]
          exact HS8.out
    · have hd6 : decide ((j2 : Int) < (n : Int)) = false := decide_eq_false (by omega)
      go_upto_region 8 with fail
      have HCK : Hid (kid g n i = j1) := Lib.hid (by unfold kid; rw [if_neg (by rw [← Hj2.out, ← Hj1.out]; exact fun h => hj2n h.1)]; exact Hj1.out.symm)
      have hcm : j1 < m := by omega
      have hm8 : ∀ q, (method (q + 1) 163 (.pointer (some ⟨pb, 0, none⟩)) "Less").run Try.prog wr = .ok (125, .slice A m c) wr := fun q => meth_less q wr _ _ c0
      have HL8 := Lib.hid (rowLess_any A m c g j1 i wr (HS.out.reads 1 rfl) hn hcm (by omega))
      by_cases hci : (g j1).lt (g i)
      · have hd8 : decide ((g j1).lt (g i)) = true := decide_eq_true hci
        have HCI := Lib.hid hci
        clear hci
        go_wp2_with (first
         | (go_at_call 125; (with_reducible refine HL8.out.mono ?_); rintro e w8 ⟨rfl, hB8⟩; rw [hd8]
            have hS8 := HS.out.call hB8
            have c8 : w8.cell? ⟨pb, 0, none⟩ = some (.slice A m c) := hS8.cell 0 rfl 0 rfl
            have hm9 : ∀ q, (method (q + 1) 163 (.pointer (some ⟨pb, 0, none⟩)) "Swap").run Try.prog w8 = .ok (126, .slice A m c) w8 := fun q => meth_swap q w8 _ _ c8
            have HSW := Lib.hid (swap_any W B _ w8 1 m c A g i j1 hS8 rfl hn (by omega) hcm)
            clear hB8 hm8 hS8 c0)
         | (go_at_call 126; (with_reducible refine HSW.out.mono ?_); rintro e w9 ⟨rfl, hS9⟩
            have HS9 := Lib.hid hS9
            clear hS9 c8 hm9))
        go_roundw
        case rel => exact ⟨j1, swapF g i j1, by omega, rfl, by rw [← HU.out, downM_go h0 (by rw [HCK.out]; exact HCI.out), HCK.out], HS9.out⟩
        case measure => simp [intOf]; omega
      · have hd8 : decide ((g j1).lt (g i)) = false := decide_eq_false hci
        have HCI := Lib.hid hci
        clear hci
        go_wp2_with (go_at_call 125; (with_reducible refine HL8.out.mono ?_); rintro e w8 ⟨rfl, hB8⟩; rw [hd8]
                     have HS8 := Lib.hid (HS.out.call hB8)
                     clear hB8 hm8 c0)
        go_ret
        refine ⟨_, rfl, ?_⟩
        rw [← HU.out, downM_stop h0 (by rw [HCK.out]; exact HCI.out)]
        exact HS8.out
  · clear hS hu
    go_wp2_with fail
    go_ret
    refine ⟨⟨_, rfl⟩, ?_⟩
    rw [← HU.out, downM_end h0]
    exact HS.out
end Go.Proofs.Ytjpejclfppbboaa
