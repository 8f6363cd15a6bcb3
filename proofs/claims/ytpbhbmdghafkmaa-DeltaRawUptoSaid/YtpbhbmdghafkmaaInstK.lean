/- The walk of Instance.Check. (printed by gen/instc.py) -/
import Derived.Test.YtpbhbmdghafkmaaInstC
import Derived.Test.YtpbhbmdghafkmaaRowRun
namespace Go.Proofs.Ytpbhbmdghafkmaa
open Go.ChangeShapes Go.WideShapes Go.ChangeAt Go.RowKit
set_option linter.unusedVariables false
set_option maxRecDepth 100000 in
set_option maxHeartbeats 8000000 in
theorem check_any (x : InstV) (p : IAt) (w : World) (hI : InstIn w w.heap.size p x) (hL : InstL x) :
 Calls Try.prog 26 #[.agg (x.cells p)] w fun e w' => e = .returned (.int .i64 x.code) ∧ Below w.heap.size w w' := by
 have HI := Lib.hid hI
 have HL := Lib.hid hL
 have hS0 := (SL.start (Nat.le_refl w.heap.size)).alloc (x.cells p) 58
 have HS0 := Lib.hid hS0
 have hcf : ∀ args w', (callFunc 51 args).run Try.prog w' = .ok (.enter 51 args) w' := fun _ _ => by simp [go_sem]
 clear hI hL hS0
 cases z1 : manyB x.tm 60
 case false =>
  have HV : Hid (x.code = 9) := Lib.hid (by unfold InstV.code InstV.countB; simp [z1])
  unfold InstV.cells
  go_enter Try.func26, Try.ntmps26
  go_wp2_with (go_at_call 51; (with_reducible refine (many_any _ _ _).mono ?_); rintro e w5 ⟨rfl, rfl⟩)
  go_ret
  exact ⟨retInt HV.out.symm, HS0.out.below⟩
 case true =>
  cases z2 : manyB x.bm 60
  case false =>
   have HV : Hid (x.code = 9) := Lib.hid (by unfold InstV.code InstV.countB; simp [z1, z2])
   unfold InstV.cells
   go_enter Try.func26, Try.ntmps26
   go_wp2_with (go_at_call 51; (with_reducible refine (many_any _ _ _).mono ?_); rintro e w5 ⟨rfl, rfl⟩)
   go_ret
   exact ⟨retInt HV.out.symm, HS0.out.below⟩
  case true =>
   cases z3 : manyB x.sats.length 12
   case false =>
    have HV : Hid (x.code = 9) := Lib.hid (by unfold InstV.code InstV.countB; simp [z1, z2, z3])
    unfold InstV.cells
    go_enter Try.func26, Try.ntmps26
    go_wp2_with (go_at_call 51; (with_reducible refine (many_any _ _ _).mono ?_); rintro e w5 ⟨rfl, rfl⟩)
    go_ret
    exact ⟨retInt HV.out.symm, HS0.out.below⟩
   case true =>
    cases z4 : manyB x.custs.length 48
    case false =>
     have HV : Hid (x.code = 9) := Lib.hid (by unfold InstV.code InstV.countB; simp [z1, z2, z3, z4])
     unfold InstV.cells
     go_enter Try.func26, Try.ntmps26
     go_wp2_with (go_at_call 51; (with_reducible refine (many_any _ _ _).mono ?_); rintro e w5 ⟨rfl, rfl⟩)
     go_ret
     exact ⟨retInt HV.out.symm, HS0.out.below⟩
    case true =>
     have hcb : x.countB = true := by unfold InstV.countB; simp [z1, z2, z3, z4]
     have hsl : x.sats.length ≤ 12 := by have := z3; simp [manyB] at this; omega
     have hcl : x.custs.length ≤ 48 := by have := z4; simp [manyB] at this; omega
     have HCB := Lib.hid (And.intro hcb (And.intro hsl hcl))
     clear hcb hsl hcl
     unfold InstV.cells
     go_enter Try.func26, Try.ntmps26
     go_upto_region 4 with (go_at_call 51; (with_reducible refine (many_any _ _ _).mono ?_); rintro e w5 ⟨rfl, rfl⟩)
     clear z1 z2 z3 z4 hcf
     obtain ⟨b, hb⟩ : ∃ b, b = w.heap.size := ⟨_, rfl⟩
     obtain ⟨w1, hw1⟩ : ∃ w1, w1 = w.alloc (.cells (x.cells p) 58) := ⟨_, rfl⟩
     have HW1 := Lib.hid hw1
     rw [← hb]
     have HS1 : Hid (SL w w.heap.size [.blk b (x.cells p) 58] w1) := Lib.hid (by rw [hw1, hb]; exact HS0.out)
     unfold InstV.cells at hw1
     rw [← hw1]
     clear hb hw1 HS0
     go_cut [35] (fun v wx => v = .bool (!x.sizeB) ∧ SL w w.heap.size [.blk b (x.cells p) 58] wx)
     case first =>
      cases y1 : sqB x.cost x.n
      case false =>
       have HSZ : Hid (x.sizeB = false) := Lib.hid (by unfold InstV.sizeB; simp [y1])
       refine wp_region_sq _ HS1.out (by kernel_rfl) (by kernel_rfl) fun C cw _ hC hin => ?_
       have q0 : ∀ c, (cw c).cell? ⟨b, 0, none⟩ = some (.int .i64 x.fin) := fun c => (hC c).cell 0 rfl 0 rfl
       have q1 : ∀ c, (cw c).cell? ⟨b, 1, none⟩ = some (.int .i64 x.tm) := fun c => (hC c).cell 0 rfl 1 rfl
       have q2 : ∀ c, (cw c).cell? ⟨b, 2, none⟩ = some (.int .i64 x.tr) := fun c => (hC c).cell 0 rfl 2 rfl
       have q3 : ∀ c, (cw c).cell? ⟨b, 3, none⟩ = some (.int .i64 x.bm) := fun c => (hC c).cell 0 rfl 3 rfl
       have q4 : ∀ c, (cw c).cell? ⟨b, 4, none⟩ = some (.int .i64 x.br) := fun c => (hC c).cell 0 rfl 4 rfl
       have q5 : ∀ c, (cw c).cell? ⟨b, 5, none⟩ = some (.slice p.SA x.sats.length p.sc) := fun c => (hC c).cell 0 rfl 5 rfl
       have q6 : ∀ c, (cw c).cell? ⟨b, 6, none⟩ = some (.slice p.CA x.custs.length p.cc) := fun c => (hC c).cell 0 rfl 6 rfl
       have q7 : ∀ c, (cw c).cell? ⟨b, 7, none⟩ = some (.slice p.KA x.cost.length p.kc) := fun c => (hC c).cell 0 rfl 7 rfl
       have q8 : ∀ c, (cw c).cell? ⟨b, 8, none⟩ = some (.slice p.TA x.time.length p.tc) := fun c => (hC c).cell 0 rfl 8 rfl
       have HN : ∀ c, Calls Try.prog 53 #[.agg (x.cells p)] (cw c) fun e w' => e = .returned (.int .i64 (x.n : Nat)) ∧ ∃ c', w' = cw c' := fun c => sq_call (hC c) hin (instNodes_any x p (cw c) (by have := HCB.out.2.1; omega) (by have := HCB.out.2.2; omega))
       have HK : ∀ c, Calls Try.prog 52 #[.slice p.KA x.cost.length p.kc, .int .i64 (x.n : Nat)] (cw c) fun e w' => e = .returned (.bool false) ∧ ∃ c', w' = cw c' := fun c => by rw [← y1]; exact sq_call (hC c) hin (square_any _ _ _ _ _ (mat_more (HI.out.cost.below (hC c).below) (hC c).size) HL.out.cost.1)
       unfold InstV.cells at HN
       have HHN := Lib.hid HN
       have HHK := Lib.hid HK
       clear hC hin HN HK y1
       repeat (any_goals (go_big_quiet_step (first | (go_at_call 53; with_reducible exact HHN.out _) | (go_at_call 52; with_reducible exact HHK.out _))))
       refine wpQuiet_nil ?_
       intro w4 hS4
       have HS4 := Lib.hid hS4
       clear hS4 q0 q1 q2 q3 q4 q5 q6 q7 q8
       go_wp2_with fail
       go_meet
       exact ⟨by rw [HSZ.out]; rfl, HS4.out⟩
      case true =>
       cases y2 : sqB x.time x.n
       case false =>
        have HSZ : Hid (x.sizeB = false) := Lib.hid (by unfold InstV.sizeB; simp [y1, y2])
        refine wp_region_sq _ HS1.out (by kernel_rfl) (by kernel_rfl) fun C cw _ hC hin => ?_
        have q0 : ∀ c, (cw c).cell? ⟨b, 0, none⟩ = some (.int .i64 x.fin) := fun c => (hC c).cell 0 rfl 0 rfl
        have q1 : ∀ c, (cw c).cell? ⟨b, 1, none⟩ = some (.int .i64 x.tm) := fun c => (hC c).cell 0 rfl 1 rfl
        have q2 : ∀ c, (cw c).cell? ⟨b, 2, none⟩ = some (.int .i64 x.tr) := fun c => (hC c).cell 0 rfl 2 rfl
        have q3 : ∀ c, (cw c).cell? ⟨b, 3, none⟩ = some (.int .i64 x.bm) := fun c => (hC c).cell 0 rfl 3 rfl
        have q4 : ∀ c, (cw c).cell? ⟨b, 4, none⟩ = some (.int .i64 x.br) := fun c => (hC c).cell 0 rfl 4 rfl
        have q5 : ∀ c, (cw c).cell? ⟨b, 5, none⟩ = some (.slice p.SA x.sats.length p.sc) := fun c => (hC c).cell 0 rfl 5 rfl
        have q6 : ∀ c, (cw c).cell? ⟨b, 6, none⟩ = some (.slice p.CA x.custs.length p.cc) := fun c => (hC c).cell 0 rfl 6 rfl
        have q7 : ∀ c, (cw c).cell? ⟨b, 7, none⟩ = some (.slice p.KA x.cost.length p.kc) := fun c => (hC c).cell 0 rfl 7 rfl
        have q8 : ∀ c, (cw c).cell? ⟨b, 8, none⟩ = some (.slice p.TA x.time.length p.tc) := fun c => (hC c).cell 0 rfl 8 rfl
        have HN : ∀ c, Calls Try.prog 53 #[.agg (x.cells p)] (cw c) fun e w' => e = .returned (.int .i64 (x.n : Nat)) ∧ ∃ c', w' = cw c' := fun c => sq_call (hC c) hin (instNodes_any x p (cw c) (by have := HCB.out.2.1; omega) (by have := HCB.out.2.2; omega))
        have HK : ∀ c, Calls Try.prog 52 #[.slice p.KA x.cost.length p.kc, .int .i64 (x.n : Nat)] (cw c) fun e w' => e = .returned (.bool true) ∧ ∃ c', w' = cw c' := fun c => by rw [← y1]; exact sq_call (hC c) hin (square_any _ _ _ _ _ (mat_more (HI.out.cost.below (hC c).below) (hC c).size) HL.out.cost.1)
        have HT : ∀ c, Calls Try.prog 52 #[.slice p.TA x.time.length p.tc, .int .i64 (x.n : Nat)] (cw c) fun e w' => e = .returned (.bool false) ∧ ∃ c', w' = cw c' := fun c => by rw [← y2]; exact sq_call (hC c) hin (square_any _ _ _ _ _ (mat_more (HI.out.time.below (hC c).below) (hC c).size) HL.out.time.1)
        unfold InstV.cells at HN
        have HHN := Lib.hid HN
        have HHK := Lib.hid HK
        have HHT := Lib.hid HT
        clear hC hin HN HK y1 HT y2
        repeat (any_goals (go_big_quiet_step (first | (go_at_call 53; with_reducible exact HHN.out _) | (go_at_call 52; with_reducible exact HHK.out _) | (go_at_call 52; with_reducible exact HHT.out _))))
        refine wpQuiet_nil ?_
        intro w4 hS4
        have HS4 := Lib.hid hS4
        clear hS4 q0 q1 q2 q3 q4 q5 q6 q7 q8
        go_wp2_with fail
        go_meet
        exact ⟨by rw [HSZ.out]; rfl, HS4.out⟩
       case true =>
        have HSZ : Hid (x.sizeB = true) := Lib.hid (by unfold InstV.sizeB; simp [y1, y2])
        refine wp_region_sq _ HS1.out (by kernel_rfl) (by kernel_rfl) fun C cw _ hC hin => ?_
        have q0 : ∀ c, (cw c).cell? ⟨b, 0, none⟩ = some (.int .i64 x.fin) := fun c => (hC c).cell 0 rfl 0 rfl
        have q1 : ∀ c, (cw c).cell? ⟨b, 1, none⟩ = some (.int .i64 x.tm) := fun c => (hC c).cell 0 rfl 1 rfl
        have q2 : ∀ c, (cw c).cell? ⟨b, 2, none⟩ = some (.int .i64 x.tr) := fun c => (hC c).cell 0 rfl 2 rfl
        have q3 : ∀ c, (cw c).cell? ⟨b, 3, none⟩ = some (.int .i64 x.bm) := fun c => (hC c).cell 0 rfl 3 rfl
        have q4 : ∀ c, (cw c).cell? ⟨b, 4, none⟩ = some (.int .i64 x.br) := fun c => (hC c).cell 0 rfl 4 rfl
        have q5 : ∀ c, (cw c).cell? ⟨b, 5, none⟩ = some (.slice p.SA x.sats.length p.sc) := fun c => (hC c).cell 0 rfl 5 rfl
        have q6 : ∀ c, (cw c).cell? ⟨b, 6, none⟩ = some (.slice p.CA x.custs.length p.cc) := fun c => (hC c).cell 0 rfl 6 rfl
        have q7 : ∀ c, (cw c).cell? ⟨b, 7, none⟩ = some (.slice p.KA x.cost.length p.kc) := fun c => (hC c).cell 0 rfl 7 rfl
        have q8 : ∀ c, (cw c).cell? ⟨b, 8, none⟩ = some (.slice p.TA x.time.length p.tc) := fun c => (hC c).cell 0 rfl 8 rfl
        have HN : ∀ c, Calls Try.prog 53 #[.agg (x.cells p)] (cw c) fun e w' => e = .returned (.int .i64 (x.n : Nat)) ∧ ∃ c', w' = cw c' := fun c => sq_call (hC c) hin (instNodes_any x p (cw c) (by have := HCB.out.2.1; omega) (by have := HCB.out.2.2; omega))
        have HK : ∀ c, Calls Try.prog 52 #[.slice p.KA x.cost.length p.kc, .int .i64 (x.n : Nat)] (cw c) fun e w' => e = .returned (.bool true) ∧ ∃ c', w' = cw c' := fun c => by rw [← y1]; exact sq_call (hC c) hin (square_any _ _ _ _ _ (mat_more (HI.out.cost.below (hC c).below) (hC c).size) HL.out.cost.1)
        have HT : ∀ c, Calls Try.prog 52 #[.slice p.TA x.time.length p.tc, .int .i64 (x.n : Nat)] (cw c) fun e w' => e = .returned (.bool true) ∧ ∃ c', w' = cw c' := fun c => by rw [← y2]; exact sq_call (hC c) hin (square_any _ _ _ _ _ (mat_more (HI.out.time.below (hC c).below) (hC c).size) HL.out.time.1)
        unfold InstV.cells at HN
        have HHN := Lib.hid HN
        have HHK := Lib.hid HK
        have HHT := Lib.hid HT
        clear hC hin HN HK y1 HT y2
        repeat (any_goals (go_big_quiet_step (first | (go_at_call 53; with_reducible exact HHN.out _) | (go_at_call 52; with_reducible exact HHK.out _) | (go_at_call 52; with_reducible exact HHT.out _))))
        refine wpQuiet_nil ?_
        intro w4 hS4
        have HS4 := Lib.hid hS4
        clear hS4 q0 q1 q2 q3 q4 q5 q6 q7 q8
        go_wp2_with fail
        go_meet
        exact ⟨by rw [HSZ.out]; rfl, HS4.out⟩
     obtain ⟨rfl, hS⟩ := hcut
     obtain ⟨w6, rfl⟩ : ∃ w6 : World, w6 = wc := ⟨_, rfl⟩
     cases y3 : x.sizeB
     case false =>
      have HV : Hid (x.code = 4) := Lib.hid (by unfold InstV.code; simp [HCB.out.1, y3])
      have HS := Lib.hid hS
      clear hS
      go_wp2_with fail
      go_ret
      exact ⟨retInt HV.out.symm, HS.out.below⟩
     case true =>
      have HY := Lib.hid y3
      have q0 : w6.cell? ⟨b, 0, none⟩ = some (.int .i64 x.fin) := hS.cell 0 rfl 0 rfl
      have q1 : w6.cell? ⟨b, 1, none⟩ = some (.int .i64 x.tm) := hS.cell 0 rfl 1 rfl
      have q2 : w6.cell? ⟨b, 2, none⟩ = some (.int .i64 x.tr) := hS.cell 0 rfl 2 rfl
      have q3 : w6.cell? ⟨b, 3, none⟩ = some (.int .i64 x.bm) := hS.cell 0 rfl 3 rfl
      have q4 : w6.cell? ⟨b, 4, none⟩ = some (.int .i64 x.br) := hS.cell 0 rfl 4 rfl
      have q5 : w6.cell? ⟨b, 5, none⟩ = some (.slice p.SA x.sats.length p.sc) := hS.cell 0 rfl 5 rfl
      have q6 : w6.cell? ⟨b, 6, none⟩ = some (.slice p.CA x.custs.length p.cc) := hS.cell 0 rfl 6 rfl
      have q7 : w6.cell? ⟨b, 7, none⟩ = some (.slice p.KA x.cost.length p.kc) := hS.cell 0 rfl 7 rfl
      have q8 : w6.cell? ⟨b, 8, none⟩ = some (.slice p.TA x.time.length p.tc) := hS.cell 0 rfl 8 rfl
      have hnu := numbers_any x p w6 ((HI.out.below hS.below).more hS.size) HL.out
      unfold InstV.cells at hnu
      have HNU := Lib.hid hnu
      clear hnu
      have HS := Lib.hid hS
      clear hS
      cases y4 : x.numsB
      case false =>
       have HV : Hid (x.code = 2) := Lib.hid (by unfold InstV.code; simp [HCB.out.1, HY.out, y4])
       rw [y4] at HNU
       clear y4
       go_wp2_with (go_at_call 54; (with_reducible refine HNU.out.mono ?_); rintro e w7 ⟨rfl, hb⟩; have HB := Lib.hid (HS.out.call hb).below; clear hb)
       go_ret
       exact ⟨retInt HV.out.symm, HB.out⟩
      case true =>
       have HV : Hid (x.code = 0) := Lib.hid (by unfold InstV.code; simp [HCB.out.1, HY.out, y4])
       rw [y4] at HNU
       clear y4
       go_wp2_with (go_at_call 54; (with_reducible refine HNU.out.mono ?_); rintro e w7 ⟨rfl, hb⟩; have HB := Lib.hid (HS.out.call hb).below; clear hb)
       go_ret
       exact ⟨retInt HV.out.symm, HB.out⟩
end Go.Proofs.Ytpbhbmdghafkmaa
