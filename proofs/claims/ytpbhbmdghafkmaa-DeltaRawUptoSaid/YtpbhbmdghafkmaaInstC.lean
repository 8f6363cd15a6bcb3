/- The walks of Instance.numbers and Instance.Check. (printed by gen/instc.py) -/
import Derived.Test.YtpbhbmdghafkmaaInstW
import Derived.Test.YtpbhbmdghafkmaaIarr
import Derived.Deep.CutBlock
import Derived.Deep.CutRange
import Derived.Deep.DeepCutAuto
namespace Go.Proofs.Ytpbhbmdghafkmaa
open Go.ChangeShapes Go.WideShapes Go.ChangeAt Go.RowKit
set_option linter.unusedVariables false
/-- The two rows of rows, by number. -/
structure PickM (P : Program) (x : InstV) (p : IAt) (B : Nat) (w : World) (j : Nat) (QA : Option Addr) (qc : Nat) (Q : List (List Int)) : Prop where
 len : Q.length ≤ maxLen ∧ ∀ r ∈ Q, r.length ≤ maxLen
 mat : Mat w B QA Q
 all : (List.range (j + 1)).all (fun i => matB (if i = 0 then x.cost else x.time)) = ((List.range j).all (fun i => matB (if i = 0 then x.cost else x.time)) && matB Q)
 index : ∀ w, (Instr.index 124 (.agg #[.slice p.KA x.cost.length p.kc, .slice p.TA x.time.length p.tc]) (.int .i64 (j : Int))).run P w = .ok (.slice QA Q.length qc) w
theorem pickM {x : InstV} {p : IAt} {B : Nat} {w : World} (hI : InstIn w B p x) (hL : InstL x) {j : Nat} (hj : j < 2) : ∃ QA qc Q, PickM Try.prog x p B w j QA qc Q := by
 have hj' : j = 0 ∨ j = 1 := by omega
 rcases hj' with rfl | rfl
 · exact ⟨p.KA, p.kc, x.cost, hL.cost, hI.cost, by rw [all_range]; rfl, fun w => by kernel_rfl⟩
 · exact ⟨p.TA, p.tc, x.time, hL.time, hI.time, by rw [all_range]; rfl, fun w => by kernel_rfl⟩
theorem rowB_eq (i : Nat) (r : List Int) : (List.range r.length).all (fun k => cellB i k (r.getD k 0)) = rowB i r := rfl
theorem matB_eq (m : List (List Int)) : (List.range m.length).all (fun i => rowB i (m.getD i [])) = matB m := rfl
set_option maxRecDepth 100000 in
set_option maxHeartbeats 8000000 in
theorem numbers_any (x : InstV) (p : IAt) (w : World) (hI : InstIn w w.heap.size p x) (hL : InstL x) :
 Calls Try.prog 54 #[.agg (x.cells p)] w fun e w' => e = .returned (.bool x.numsB) ∧ Below w.heap.size w w' := by
 have HI := Lib.hid hI
 have HL := Lib.hid hL
 have hl1 := hL.sats
 have hl2 := hL.custs
 unfold maxLen at hl1 hl2
 have hS0 := (SL.start (Nat.le_refl w.heap.size)).alloc (x.cells p) 58
 have HS0 := Lib.hid hS0
 obtain ⟨b0, hb0⟩ : ∃ b, (mayB x.fin 0 && mayB x.tr 0 && mayB x.br 0) = b := ⟨_, rfl⟩
 have HB0 := Lib.hid hb0
 clear hI hL hS0 hb0
 unfold InstV.cells
 go_enter Try.func54, Try.ntmps54
 go_upto_region 1 with fail
 go_cut [3] (fun v wx => v = .bool b0 ∧ wx = w.alloc (.cells (x.cells p) 58))
 case first =>
  cases z1 : mayB x.fin 0
  case false =>
   have HV : Hid (b0 = false) := Lib.hid (by rw [← HB0.out]; simp [z1])
   go_wp2_with (go_at_call 70; (with_reducible refine (may_any _ _ _).mono ?_); rintro e w5 ⟨rfl, rfl⟩)
   go_meet
   exact ⟨by rw [HV.out], rfl⟩
  case true =>
   cases z2 : mayB x.tr 0
   case false =>
    have HV : Hid (b0 = false) := Lib.hid (by rw [← HB0.out]; simp [z1, z2])
    go_wp2_with (go_at_call 70; (with_reducible refine (may_any _ _ _).mono ?_); rintro e w5 ⟨rfl, rfl⟩)
    go_meet
    exact ⟨by rw [HV.out], rfl⟩
   case true =>
    cases z3 : mayB x.br 0
    case false =>
     have HV : Hid (b0 = false) := Lib.hid (by rw [← HB0.out]; simp [z1, z2, z3])
     go_wp2_with (go_at_call 70; (with_reducible refine (may_any _ _ _).mono ?_); rintro e w5 ⟨rfl, rfl⟩)
     go_meet
     exact ⟨by rw [HV.out], rfl⟩
    case true =>
     have HV : Hid (b0 = true) := Lib.hid (by rw [← HB0.out]; simp [z1, z2, z3])
     go_wp2_with (go_at_call 70; (with_reducible refine (may_any _ _ _).mono ?_); rintro e w5 ⟨rfl, rfl⟩)
     go_meet
     exact ⟨by rw [HV.out], rfl⟩
 obtain ⟨rfl, rfl⟩ := hcut
 have c3 : (w.alloc (.cells (x.cells p) 58)).cell? ⟨w.heap.size, 5, none⟩ = some (.slice p.SA x.sats.length p.sc) := HS0.out.cell 0 rfl 5 rfl
 obtain ⟨w1, hw1⟩ : ∃ w1, w1 = w.alloc (.cells (x.cells p) 58) := ⟨_, rfl⟩
 rw [← hw1] at HS0 c3 ⊢
 clear hw1
 go_wp2_with fail
 go_loopw [3, 32] (fun v i wr => ∃ k : Nat, k ≤ x.sats.length ∧ i = .int .i64 k ∧ v = .bool (b0 && (x.sats.take k).all satB) ∧ SL w w.heap.size [.blk w.heap.size (x.cells p) 58] wr) (fun _ i _ => x.sats.length - (intOf i).toNat)
 case atStart => exact ⟨0, by omega, rfl, by simp, HS0.out⟩
 case round =>
  obtain ⟨k, hk, rfl, rfl, hS⟩ := hrel
  by_cases hlt : k < x.sats.length
  · obtain ⟨g, o, hSA, hg, d0, d1⟩ := sats_at (Reads.below HI.out.sats hS.below) hlt
    have HQ := Lib.hid (all_take satB x.sats k hlt)
    obtain ⟨s, hs⟩ : ∃ s, x.sats[k] = s := ⟨_, rfl⟩
    rw [hs] at d0 d1 HQ
    have hS2 := hS.alloc #[.int .i64 s.room, .int .i64 s.hold] 94
    have HS2 := Lib.hid hS2
    obtain ⟨bb, hbb⟩ : ∃ bb, (b0 && (x.sats.take k).all satB) = bb := ⟨_, rfl⟩
    have HBB := Lib.hid hbb
    rw [hbb]
    rw [hSA]
    clear hs hS hS2 hbb hSA
    cases hb : bb
    case false =>
     have HV : Hid ((bb && satB s) = false) := Lib.hid (by unfold satB; simp [hb])
     go_wp2_with (go_at_call 70; (with_reducible refine (may_any _ _ _).mono ?_); rintro e w5 ⟨rfl, rfl⟩)
     go_roundw
     case rel => exact ⟨k + 1, by omega, by go_num, by rw [HQ.out, ← Bool.and_assoc, HBB.out, HV.out], HS2.out.tail⟩
     case measure => simp [intOf]; omega
    case true =>
     cases z1 : mayB s.room 0
     case false =>
      have HV : Hid ((bb && satB s) = false) := Lib.hid (by unfold satB; simp [hb, z1])
      go_wp2_with (go_at_call 70; (with_reducible refine (may_any _ _ _).mono ?_); rintro e w5 ⟨rfl, rfl⟩)
      go_roundw
      case rel => exact ⟨k + 1, by omega, by go_num, by rw [HQ.out, ← Bool.and_assoc, HBB.out, HV.out], HS2.out.tail⟩
      case measure => simp [intOf]; omega
     case true =>
      cases z2 : mayB s.hold 0
      case false =>
       have HV : Hid ((bb && satB s) = false) := Lib.hid (by unfold satB; simp [hb, z1, z2])
       go_wp2_with (go_at_call 70; (with_reducible refine (may_any _ _ _).mono ?_); rintro e w5 ⟨rfl, rfl⟩)
       go_roundw
       case rel => exact ⟨k + 1, by omega, by go_num, by rw [HQ.out, ← Bool.and_assoc, HBB.out, HV.out], HS2.out.tail⟩
       case measure => simp [intOf]; omega
      case true =>
       have HV : Hid ((bb && satB s) = true) := Lib.hid (by unfold satB; simp [hb, z1, z2])
       go_wp2_with (go_at_call 70; (with_reducible refine (may_any _ _ _).mono ?_); rintro e w5 ⟨rfl, rfl⟩)
       go_roundw
       case rel => exact ⟨k + 1, by omega, by go_num, by rw [HQ.out, ← Bool.and_assoc, HBB.out, HV.out], HS2.out.tail⟩
       case measure => simp [intOf]; omega
  · obtain rfl : k = x.sats.length := by omega
    rw [List.take_length]
    have c4 : wr.cell? ⟨w.heap.size, 6, none⟩ = some (.slice p.CA x.custs.length p.cc) := hS.cell 0 rfl 6 rfl
    obtain ⟨b1, hb1⟩ : ∃ b, (b0 && x.sats.all satB) = b := ⟨_, rfl⟩
    have HB1 := Lib.hid hb1
    have HS := Lib.hid hS
    rw [hb1]
    clear hS hb1 hlt
    go_wp2_with fail
    obtain ⟨wo, rfl⟩ : ∃ wo : World, wo = wr := ⟨_, rfl⟩
    go_loopw [3, 51] (fun v i wr => ∃ k : Nat, k ≤ x.custs.length ∧ i = .int .i64 k ∧ v = .bool (b1 && (x.custs.take k).all custB) ∧ SL w w.heap.size [.blk w.heap.size (x.cells p) 58] wr) (fun _ i _ => x.custs.length - (intOf i).toNat)
    case atStart => exact ⟨0, by omega, rfl, by simp, HS.out⟩
    case round =>
     obtain ⟨k, hk, rfl, rfl, hS⟩ := hrel
     by_cases hlt : k < x.custs.length
     · obtain ⟨g, o, hSA, hg, d0, d1, d2, d3⟩ := custs_at (Reads.below HI.out.custs hS.below) hlt
       have HQ := Lib.hid (all_take custB x.custs k hlt)
       obtain ⟨s, hs⟩ : ∃ s, x.custs[k] = s := ⟨_, rfl⟩
       rw [hs] at d0 d1 d2 d3 HQ
       have hS2 := hS.alloc #[.int .i64 s.load, .int .i64 s.opn, .int .i64 s.cls, .int .i64 s.stay] 98
       have HS2 := Lib.hid hS2
       obtain ⟨bb, hbb⟩ : ∃ bb, (b1 && (x.custs.take k).all custB) = bb := ⟨_, rfl⟩
       have HBB := Lib.hid hbb
       rw [hbb]
       rw [hSA]
       clear hs hS hS2 hbb hSA
       cases hb : bb
       case false =>
        have HV : Hid ((bb && custB s) = false) := Lib.hid (by unfold custB; simp [hb])
        go_wp2_with (go_at_call 70; (with_reducible refine (may_any _ _ _).mono ?_); rintro e w5 ⟨rfl, rfl⟩)
        go_roundw
        case rel => exact ⟨k + 1, by omega, by go_num, by rw [HQ.out, ← Bool.and_assoc, HBB.out, HV.out], HS2.out.tail⟩
        case measure => simp [intOf]; omega
       case true =>
        cases z1 : mayB s.load 1
        case false =>
         have HV : Hid ((bb && custB s) = false) := Lib.hid (by unfold custB; simp [hb, z1])
         go_wp2_with (go_at_call 70; (with_reducible refine (may_any _ _ _).mono ?_); rintro e w5 ⟨rfl, rfl⟩)
         go_roundw
         case rel => exact ⟨k + 1, by omega, by go_num, by rw [HQ.out, ← Bool.and_assoc, HBB.out, HV.out], HS2.out.tail⟩
         case measure => simp [intOf]; omega
        case true =>
         cases z2 : mayB s.opn 0
         case false =>
          have HV : Hid ((bb && custB s) = false) := Lib.hid (by unfold custB; simp [hb, z1, z2])
          go_wp2_with (go_at_call 70; (with_reducible refine (may_any _ _ _).mono ?_); rintro e w5 ⟨rfl, rfl⟩)
          go_roundw
          case rel => exact ⟨k + 1, by omega, by go_num, by rw [HQ.out, ← Bool.and_assoc, HBB.out, HV.out], HS2.out.tail⟩
          case measure => simp [intOf]; omega
         case true =>
          cases z3 : mayB s.cls s.opn
          case false =>
           have HV : Hid ((bb && custB s) = false) := Lib.hid (by unfold custB; simp [hb, z1, z2, z3])
           go_wp2_with (go_at_call 70; (with_reducible refine (may_any _ _ _).mono ?_); rintro e w5 ⟨rfl, rfl⟩)
           go_roundw
           case rel => exact ⟨k + 1, by omega, by go_num, by rw [HQ.out, ← Bool.and_assoc, HBB.out, HV.out], HS2.out.tail⟩
           case measure => simp [intOf]; omega
          case true =>
           cases z4 : mayB s.stay 0
           case false =>
            have HV : Hid ((bb && custB s) = false) := Lib.hid (by unfold custB; simp [hb, z1, z2, z3, z4])
            go_wp2_with (go_at_call 70; (with_reducible refine (may_any _ _ _).mono ?_); rintro e w5 ⟨rfl, rfl⟩)
            go_roundw
            case rel => exact ⟨k + 1, by omega, by go_num, by rw [HQ.out, ← Bool.and_assoc, HBB.out, HV.out], HS2.out.tail⟩
            case measure => simp [intOf]; omega
           case true =>
            have HV : Hid ((bb && custB s) = true) := Lib.hid (by unfold custB; simp [hb, z1, z2, z3, z4])
            go_wp2_with (go_at_call 70; (with_reducible refine (may_any _ _ _).mono ?_); rintro e w5 ⟨rfl, rfl⟩)
            go_roundw
            case rel => exact ⟨k + 1, by omega, by go_num, by rw [HQ.out, ← Bool.and_assoc, HBB.out, HV.out], HS2.out.tail⟩
            case measure => simp [intOf]; omega
     · obtain rfl : k = x.custs.length := by omega
       rw [List.take_length]
       have c5 : wr.cell? ⟨w.heap.size, 7, none⟩ = some (.slice p.KA x.cost.length p.kc) := hS.cell 0 rfl 7 rfl
       have c6 : wr.cell? ⟨w.heap.size, 8, none⟩ = some (.slice p.TA x.time.length p.tc) := hS.cell 0 rfl 8 rfl
       obtain ⟨b2, hb2⟩ : ∃ b, (b1 && x.custs.all custB) = b := ⟨_, rfl⟩
       have HB2 := Lib.hid hb2
       have HI3 := Lib.hid (HI.out.below hS.below)
       have HBEL := Lib.hid hS.below
       rw [hb2]
       clear hS hb2 hlt
       go_wp2_with fail
       obtain ⟨wp, rfl⟩ : ∃ wp : World, wp = wr := ⟨_, rfl⟩
       go_loop [3, 84] (fun v i => ∃ j : Nat, j ≤ 2 ∧ i = .int .i64 j ∧ v = .bool (b2 && (List.range j).all (fun i => matB (if i = 0 then x.cost else x.time)))) (fun _ i => 2 - (intOf i).toNat)
       case atStart => exact ⟨0, by omega, rfl, by simp⟩
       case round =>
        obtain ⟨j, hj, rfl, rfl⟩ := hrel
        by_cases hlt : j < 2
        · obtain ⟨QA, qc, Q, hP⟩ := pickM HI3.out HL.out hlt
          have hidx := hP.index
          have hQl := hP.len.1
          unfold maxLen at hQl
          have HP := Lib.hid hP
          obtain ⟨b3, hb3⟩ : ∃ b, (b2 && (List.range j).all (fun i => matB (if i = 0 then x.cost else x.time))) = b := ⟨_, rfl⟩
          have HB3 := Lib.hid hb3
          rw [hb3]
          clear hP hb3
          go_wp2_with fail
          clear hidx
          go_loop [3, 89] (fun v i => ∃ k : Nat, k ≤ Q.length ∧ i = .int .i64 k ∧ v = .bool (b3 && (List.range k).all (fun i => rowB i (Q.getD i [])))) (fun _ i => Q.length - (intOf i).toNat)
          case atStart => exact ⟨0, by omega, rfl, by simp⟩
          case round =>
           obtain ⟨k, hk, rfl, rfl⟩ := hrel
           by_cases hlt2 : k < Q.length
           · obtain ⟨g, o, a, c, hQA, hg, e1, hr⟩ := mat_at HP.out.mat hlt2
             have hrl := HP.out.len.2 _ (List.getElem_mem hlt2)
             unfold maxLen at hrl
             have HQ : Hid ((List.range (k + 1)).all (fun i => rowB i (Q.getD i [])) = ((List.range k).all (fun i => rowB i (Q.getD i [])) && rowB k Q[k])) := Lib.hid (by rw [all_range]; simp [hlt2])
             obtain ⟨r, hr0⟩ : ∃ r, Q[k] = r := ⟨_, rfl⟩
             rw [hr0] at e1 hr hrl HQ
             obtain ⟨b4, hb4⟩ : ∃ b, (b3 && (List.range k).all (fun i => rowB i (Q.getD i []))) = b := ⟨_, rfl⟩
             have HB4 := Lib.hid hb4
             have HR := Lib.hid hr
             rw [hb4, hQA]
             clear hr hr0 hb4 hQA
             go_wp2_with fail
             go_loop [3, 96] (fun v i => ∃ m : Nat, m ≤ r.length ∧ i = .int .i64 m ∧ v = .bool (b4 && (List.range m).all (fun i => cellB k i (r.getD i 0)))) (fun _ i => r.length - (intOf i).toNat)
             case atStart => exact ⟨0, by omega, rfl, by simp⟩
             case round =>
              obtain ⟨m, hm, rfl, rfl⟩ := hrel
              by_cases hlt3 : m < r.length
              · obtain ⟨g2, o2, rfl, hg2, f1⟩ := ints_at HR.out hlt3
                have HQ2 : Hid ((List.range (m + 1)).all (fun i => cellB k i (r.getD i 0)) = ((List.range m).all (fun i => cellB k i (r.getD i 0)) && cellB k m r[m])) := Lib.hid (by rw [all_range]; simp [hlt3])
                obtain ⟨n, hn⟩ : ∃ n, r[m] = n := ⟨_, rfl⟩
                rw [hn] at f1 HQ2
                obtain ⟨b5, hb5⟩ : ∃ b, (b4 && (List.range m).all (fun i => cellB k i (r.getD i 0))) = b := ⟨_, rfl⟩
                have HB5 := Lib.hid hb5
                rw [hb5]
                clear hn hb5
                cases hb : b5
                case false =>
                 have HV : Hid ((b5 && cellB k m n) = false) := Lib.hid (by unfold cellB; simp only [hb]; rfl)
                 go_wp2_with (go_at_call 70; (with_reducible refine (may_any _ _ _).mono ?_); rintro e w5 ⟨rfl, rfl⟩)
                 go_round
                 case rel => exact ⟨m + 1, by omega, by go_num, by rw [HQ2.out, ← Bool.and_assoc, HB5.out, HV.out]⟩
                 case measure => simp [intOf]; omega
                case true =>
                 cases z1 : mayB n 0
                 case false =>
                  have HV : Hid ((b5 && cellB k m n) = false) := Lib.hid (by unfold cellB; simp only [hb, z1]; rfl)
                  go_wp2_with (go_at_call 70; (with_reducible refine (may_any _ _ _).mono ?_); rintro e w5 ⟨rfl, rfl⟩)
                  go_round
                  case rel => exact ⟨m + 1, by omega, by go_num, by rw [HQ2.out, ← Bool.and_assoc, HB5.out, HV.out]⟩
                  case measure => simp [intOf]; omega
                 case true =>
                  cases z2 : decide (k ≠ m)
                  case true =>
                   have HV : Hid ((b5 && cellB k m n) = true) := Lib.hid (by unfold cellB; simp only [hb, z1, z2]; rfl)
                   have y2 : ((k : Int) != (m : Int)) = true := by have := z2; simp at this ⊢; omega
                   clear z2
                   go_wp2_with (go_at_call 70; (with_reducible refine (may_any _ _ _).mono ?_); rintro e w5 ⟨rfl, rfl⟩)
                   go_round
                   case rel => exact ⟨m + 1, by omega, by go_num, by rw [HQ2.out, ← Bool.and_assoc, HB5.out, HV.out]⟩
                   case measure => simp [intOf]; omega
                  case false =>
                   cases z3 : decide (n = 0)
                   case true =>
                    have HV : Hid ((b5 && cellB k m n) = true) := Lib.hid (by unfold cellB; simp only [hb, z1, z2, z3]; rfl)
                    have y2 : ((k : Int) != (m : Int)) = false := by have := z2; simp at this ⊢; omega
                    have y3 : (n == 0) = true := by have := z3; simpa using this
                    clear z2
                    clear z3
                    go_wp2_with (go_at_call 70; (with_reducible refine (may_any _ _ _).mono ?_); rintro e w5 ⟨rfl, rfl⟩)
                    go_round
                    case rel => exact ⟨m + 1, by omega, by go_num, by rw [HQ2.out, ← Bool.and_assoc, HB5.out, HV.out]⟩
                    case measure => simp [intOf]; omega
                   case false =>
                    have HV : Hid ((b5 && cellB k m n) = false) := Lib.hid (by unfold cellB; simp only [hb, z1, z2, z3]; rfl)
                    have y2 : ((k : Int) != (m : Int)) = false := by have := z2; simp at this ⊢; omega
                    have y3 : (n == 0) = false := by have := z3; simpa using this
                    clear z2
                    clear z3
                    go_wp2_with (go_at_call 70; (with_reducible refine (may_any _ _ _).mono ?_); rintro e w5 ⟨rfl, rfl⟩)
                    go_round
                    case rel => exact ⟨m + 1, by omega, by go_num, by rw [HQ2.out, ← Bool.and_assoc, HB5.out, HV.out]⟩
                    case measure => simp [intOf]; omega
              · obtain rfl : m = r.length := by omega
                have HV : Hid ((b4 && (List.range r.length).all (fun i => cellB k i (r.getD i 0))) = (b3 && (List.range (k + 1)).all (fun i => rowB i (Q.getD i [])))) := Lib.hid (by rw [HQ.out, ← Bool.and_assoc, HB4.out, rowB_eq])
                clear hlt3
                go_wp2_with fail
                go_round
                case rel => exact ⟨k + 1, by omega, by go_num, by rw [HV.out]⟩
                case measure => simp [intOf]; omega
           · obtain rfl : k = Q.length := by omega
             have HV : Hid ((b3 && (List.range Q.length).all (fun i => rowB i (Q.getD i []))) = (b2 && (List.range (j + 1)).all (fun i => matB (if i = 0 then x.cost else x.time)))) := Lib.hid (by rw [HP.out.all, ← Bool.and_assoc, HB3.out, matB_eq])
             clear hlt2
             go_wp2_with fail
             go_round
             case rel => exact ⟨j + 1, by omega, by go_num, by rw [HV.out]⟩
             case measure => simp [intOf]; omega
        · obtain rfl : j = 2 := by omega
          have HV : Hid ((b2 && (matB x.cost && matB x.time)) = x.numsB) := Lib.hid (by
           rw [← HB2.out, ← HB1.out, ← HB0.out]
           unfold InstV.numsB
           simp [Bool.and_assoc])
          clear hlt
          go_wp2_with fail
          go_ret
          exact ⟨retBool HV.out, HBEL.out⟩
end Go.Proofs.Ytpbhbmdghafkmaa
