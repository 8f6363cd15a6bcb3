/- move.Apply. (printed by gen/apply.py) -/
import Derived.Test.YtpbhbmdghafkmaaTails
import Derived.Test.YtpbhbmdghafkmaaOwnSet
import Derived.Test.YtpbhbmdghafkmaaPutRow
namespace Go.Proofs.Ytpbhbmdghafkmaa
open Go.ChangeShapes Go.WideShapes Go.ChangeAt Go.RowKit
set_option linter.unusedVariables false
def ApplyPost (W : World) (o : Option (List BikeV)) (e : Ending) (w' : World) : Prop :=
 match o with
 | none => e = .returned (.tuple #[.slice none 0 0, .bool false]) ∧ Below W.heap.size W w'
 | some bs => ∃ v ps, e = .returned (.tuple #[v, .bool true]) ∧ ps.map (·.1) = bs ∧ SL W W.heap.size ((bikeN 44 3).own v ps) w'
def RawPost (W : World) (B : Nat) (o : Option (List BikeV)) (v8 v9 : Value) (wx : World) : Prop :=
 match o with
 | none => v9 = .bool false ∧ SL W B [] wx
 | some bs => ∃ ps, v9 = .bool true ∧ ps.map (·.1) = bs ∧ SL W B ((bikeN 44 3).own v8 ps ++ []) wx
theorem raw_none {W : World} {B : Nat} {o : Option (List BikeV)} {l : List Rs} {v8 : Value} {wx : World} (ho : o = none) (hS : SL W B l wx) : RawPost W B o v8 (.bool false) wx := by
 subst ho; exact ⟨rfl, hS.sub (List.nil_sublist _)⟩
theorem raw_some {W : World} {B : Nat} {o : Option (List BikeV)} {v8 : Value} {ps : List (BikeV × Value)} {wx : World} (ho : o = some (ps.map (·.1))) (hS : SL W B ((bikeN 44 3).own v8 ps ++ []) wx) : RawPost W B o v8 (.bool true) wx := by
 subst ho; exact ⟨ps, rfl, rfl, hS⟩
theorem more_len (bs : List BikeV) (m : MoveV) : (more bs m).length ≤ bs.length + 1 := by
 unfold more; split <;> simp
theorem raw_len {sats : Int} {bs bs' : List BikeV} {m : MoveV} (h : rawM sats bs m = some bs') : bs'.length ≤ bs.length + 1 := by
 unfold rawM at h
 have hel : ∀ many, elseM bs m many = some bs' → bs'.length ≤ bs.length + 1 := fun many h => by
  unfold elseM at h
  split at h
  · cases h
  · split at h
    · cases h
    · cases h
      rw [putStops_len]; unfold less; rw [putStops_len]; exact more_len bs m
 split at h
 · exact hel 1 h
 split at h
 · exact hel 2 h
 split at h
 · unfold swapM at h
   split at h
   · cases h
   · cases h; rw [putStops_len]; unfold swap1; rw [putStops_len]; omega
 split at h
 · unfold turnM at h
   split at h
   · cases h
   · cases h; rw [putStops_len]; omega
 split at h
 · unfold tailsM at h
   split at h
   · cases h
   · cases h; rw [putStops_len, putStops_len]; omega
 split at h
 · unfold baseM at h
   split at h
   · cases h
   · cases h; rw [List.length_set]; omega
 · cases h
theorem stops_le_all {b : BikeV} : ∀ {bs : List BikeV}, b ∈ bs → b.stops.length ≤ (allStops bs).length
 | x :: bs, h => by
   have e : allStops (x :: bs) = x.stops ++ allStops bs := rfl
   rw [e, List.length_append]
   rcases List.mem_cons.1 h with rfl | h
   · omega
   · have := stops_le_all h; omega
theorem move_size : (Try.prog.info? 33).map (·.size) = some 5 := by kernel_rfl
set_option maxRecDepth 100000 in
set_option maxHeartbeats 4000000 in
theorem apply_any (sats : Int) (A : Option Addr) (c : Nat) (bs : List BikeV) (kd a i b j : Int) (w : World) (hB : Bikes w w.heap.size A bs) (hl : bs.length ≤ 100000) (hs : (allStops bs).length ≤ 100000) :
 Calls Try.prog 13 #[.int .i64 sats, .slice A bs.length c, .agg #[.int .i64 kd, .int .i64 a, .int .i64 i, .int .i64 b, .int .i64 j]] w (ApplyPost w (applyM sats bs ⟨kd, a, i, b, j⟩)) := by
 have hS1 := (SL.start (W := w) (Nat.le_refl w.heap.size)).alloc #[.int .i64 kd, .int .i64 a, .int .i64 i, .int .i64 b, .int .i64 j] 33
 have HC : Hid (Calls Try.prog 30 #[.slice A bs.length c] (w.alloc (.cells #[.int .i64 kd, .int .i64 a, .int .i64 i, .int .i64 b, .int .i64 j] 33)) (CopyPost (w.alloc (.cells #[.int .i64 kd, .int .i64 a, .int .i64 i, .int .i64 b, .int .i64 j] 33)) bs)) := Lib.hid (copied_any A c bs _ (bikes_more (hB.below hS1.below) hS1.size) hl hs)
 have HS1 := Lib.hid hS1
 have hst : ∀ b ∈ bs, b.stops.length ≤ 100000 := fun b hb => Nat.le_trans (stops_le_all hb) hs
 obtain ⟨o, ho⟩ : ∃ o, rawM sats bs ⟨kd, a, i, b, j⟩ = o := ⟨_, rfl⟩
 have HO : Hid (applyM sats bs ⟨kd, a, i, b, j⟩ = o.map (·.filter keepB)) := Lib.hid (by unfold applyM; rw [ho])
 have HLN : Hid (∀ bs', o = some bs' → bs'.length ≤ bs.length + 1) := Lib.hid (fun bs' h => raw_len (by rw [ho]; exact h))
 obtain ⟨n, hn⟩ : ∃ n, bs.length = n := ⟨_, rfl⟩
 have HN := Lib.hid hn
 rw [hn] at HC HLN hl ⊢
 have HR := Lib.hid ho
 have HL := Lib.hid hst
 clear hS1 hB hs hst ho hn
 go_enter Try.func13, Try.ntmps13
 go_upto_region 2 with (go_at_call 30; (with_reducible refine HC.out.mono ?_); rintro e w2 ⟨v, ps, rfl, hps, hS2⟩
                        have hS3 := HS1.out.join hS2
                        have HP := Lib.hid hps
                        clear hS2 hps HC)
 obtain ⟨nb, hnb⟩ : ∃ nb, nb = w.heap.size := ⟨_, rfl⟩
 have hS4 : SL w w.heap.size ([.blk w.heap.size #[.int .i64 kd, .int .i64 a, .int .i64 i, .int .i64 b, .int .i64 j] 33] ++ ((bikeN 44 3).own v ps ++ [])) w2 := by
  rw [List.append_nil]
  exact hS3.perm List.perm_append_comm
 rw [← hnb] at hS4 ⊢
 obtain ⟨A1, c1, hv, _⟩ := own_open hS4
 have hpn : ps.length = n := by rw [← HN.out, ← HP.out, List.length_map]
 rw [hpn] at hv
 subst hv
 have HS := Lib.hid hS4
 have HW : Hid (SL w nb [] w2 → True) := Lib.hid (fun _ => trivial)
 have HNB := Lib.hid hnb
 clear hS3 hS4 HS1 HW hnb
 have y0 : w2.cell? ⟨nb, 0, none⟩ = some (.int .i64 kd) := HS.out.cell 0 rfl 0 rfl
 go_upto_block 0 with fail
 have HLP : Hid (∀ q ∈ ps, q.1.stops.length ≤ 100000) := Lib.hid (fun q hq => HL.out q.1 (by rw [← HP.out]; exact List.mem_map_of_mem hq))
 have HSZ := Lib.hid move_size
 go_cut [8, 9] (fun v8 v9 wx => RawPost w nb o v8 v9 wx)
 case first =>
  clear HLN HO HNB
  by_cases k0 : kd = 0
  · subst k0
    have HE : Hid (Calls Try.prog 31 #[.slice A1 n c1, .agg #[.int .i64 0, .int .i64 a, .int .i64 i, .int .i64 b, .int .i64 j], .int .i64 1] w2 (ElsePost w nb [] (elseM bs ⟨0, a, i, b, j⟩ 1))) := Lib.hid (by
     have h := elsewhere_any w nb [] w2 A1 c1 n 1 ps 0 a i b j HS.out.tail hpn hl HLP.out (by decide) (by decide)
     rw [HP.out] at h
     exact h)
    have HR2 : Hid (elseM bs ⟨0, a, i, b, j⟩ 1 = o) := Lib.hid (by rw [← HR.out]; rfl)
    rw [HR2.out] at HE
    clear HR HR2
    have HBK := Lib.hid (HS.out.blk 0 rfl)
    cases hoo : o with
    | none =>
      subst hoo
      go_wp2_with first
       | (refine wpList_load_row rfl 33 _ rfl nb rfl _ #[.int .i64 0, .int .i64 a, .int .i64 i, .int .i64 b, .int .i64 j] _ _ HBK.out Try.underlying33 rfl HSZ.out ?_)
       | (go_at_call 31; (with_reducible refine HE.out.mono ?_); rintro e w6 ⟨rfl, hS6⟩
          have HS6 := Lib.hid hS6
          clear hS6)
      go_meet
      exact raw_none rfl HS6.out
    | some bs' =>
      subst hoo
      go_wp2_with first
       | (refine wpList_load_row rfl 33 _ rfl nb rfl _ #[.int .i64 0, .int .i64 a, .int .i64 i, .int .i64 b, .int .i64 j] _ _ HBK.out Try.underlying33 rfl HSZ.out ?_)
       | (go_at_call 31; (with_reducible refine HE.out.mono ?_); rintro e w6 ⟨v6, ps6, rfl, hp6, hS6⟩
          have HS6 := Lib.hid hS6
          have HP6 := Lib.hid hp6
          clear hS6 hp6)
      go_meet
      exact raw_some (by rw [HP6.out]) HS6.out
  by_cases k4 : kd = 4
  · subst k4
    have HE : Hid (Calls Try.prog 31 #[.slice A1 n c1, .agg #[.int .i64 4, .int .i64 a, .int .i64 i, .int .i64 b, .int .i64 j], .int .i64 2] w2 (ElsePost w nb [] (elseM bs ⟨4, a, i, b, j⟩ 2))) := Lib.hid (by
     have h := elsewhere_any w nb [] w2 A1 c1 n 2 ps 4 a i b j HS.out.tail hpn hl HLP.out (by decide) (by decide)
     rw [HP.out] at h
     exact h)
    have HR2 : Hid (elseM bs ⟨4, a, i, b, j⟩ 2 = o) := Lib.hid (by rw [← HR.out]; rfl)
    rw [HR2.out] at HE
    clear HR HR2
    have HBK := Lib.hid (HS.out.blk 0 rfl)
    cases hoo : o with
    | none =>
      subst hoo
      go_wp2_with first
       | (refine wpList_load_row rfl 33 _ rfl nb rfl _ #[.int .i64 4, .int .i64 a, .int .i64 i, .int .i64 b, .int .i64 j] _ _ HBK.out Try.underlying33 rfl HSZ.out ?_)
       | (go_at_call 31; (with_reducible refine HE.out.mono ?_); rintro e w6 ⟨rfl, hS6⟩
          have HS6 := Lib.hid hS6
          clear hS6)
      go_meet
      exact raw_none rfl HS6.out
    | some bs' =>
      subst hoo
      go_wp2_with first
       | (refine wpList_load_row rfl 33 _ rfl nb rfl _ #[.int .i64 4, .int .i64 a, .int .i64 i, .int .i64 b, .int .i64 j] _ _ HBK.out Try.underlying33 rfl HSZ.out ?_)
       | (go_at_call 31; (with_reducible refine HE.out.mono ?_); rintro e w6 ⟨v6, ps6, rfl, hp6, hS6⟩
          have HS6 := Lib.hid hS6
          have HP6 := Lib.hid hp6
          clear hS6 hp6)
      go_meet
      exact raw_some (by rw [HP6.out]) HS6.out
  have HSB : Hid (∀ b ∈ ps.map (·.1), b.stops.length ≤ 1000000) := Lib.hid (fun b hb => by
   obtain ⟨q, hq, rfl⟩ := List.mem_map.1 hb
   have := HLP.out q hq
   omega)
  by_cases k5 : kd = 5
  · subst k5
    have y1 : w2.cell? ⟨nb, 1, none⟩ = some (.int .i64 a) := HS.out.cell 0 rfl 1 rfl
    have y2 : w2.cell? ⟨nb, 2, none⟩ = some (.int .i64 i) := HS.out.cell 0 rfl 2 rfl
    have y3 : w2.cell? ⟨nb, 3, none⟩ = some (.int .i64 b) := HS.out.cell 0 rfl 3 rfl
    have y4 : w2.cell? ⟨nb, 4, none⟩ = some (.int .i64 j) := HS.out.cell 0 rfl 4 rfl
    have HR2 : Hid (baseM sats bs ⟨5, a, i, b, j⟩ = o) := Lib.hid (by rw [← HR.out]; rfl)
    cases g1 : behindB bs a 0 with
    | false =>
      have HA1 : Hid (Calls Try.prog 35 #[.slice A1 n c1, .int .i64 a, .int .i64 0] w2 fun e w' => e = .returned (.bool false) ∧ w2 = w') := Lib.hid (by have h := behind_any A1 c1 (ps.map (·.1)) a 0 w2 (own_bikes hpn HS.out) (by rw [List.length_map]; omega) HSB.out; rw [List.length_map, hpn, HP.out] at h; rw [show behindB bs a 0 = false from g1] at h; exact h)
      have HV : Hid (o = none) := Lib.hid (by rw [← HR2.out]; unfold baseM; rw [if_pos (by simp [g1])])
      clear HR
      go_wp2_with first
       | (go_at_call 35; (with_reducible refine HA1.out.mono ?_); rintro e wn ⟨rfl, rfl⟩)
      go_meet
      exact raw_none HV.out HS.out
    | true =>
    have HA1 : Hid (Calls Try.prog 35 #[.slice A1 n c1, .int .i64 a, .int .i64 0] w2 fun e w' => e = .returned (.bool true) ∧ w2 = w') := Lib.hid (by have h := behind_any A1 c1 (ps.map (·.1)) a 0 w2 (own_bikes hpn HS.out) (by rw [List.length_map]; omega) HSB.out; rw [List.length_map, hpn, HP.out] at h; rw [show behindB bs a 0 = true from g1] at h; exact h)
    by_cases g2 : i = 0
    case neg =>
     have g2' : (i == 0) = false := by rw [beq_eq_false_iff_ne]; exact g2
     have HV : Hid (o = none) := Lib.hid (by rw [← HR2.out]; unfold baseM; rw [if_pos (by simp [g2])])
     clear HR
     go_wp2_with first
      | (go_at_call 35; (with_reducible refine HA1.out.mono ?_); rintro e wn ⟨rfl, rfl⟩)
     go_meet
     exact raw_none HV.out HS.out
    case pos =>
    subst g2
    by_cases g3 : j = 0
    case neg =>
     have g3' : (j == 0) = false := by rw [beq_eq_false_iff_ne]; exact g3
     have HV : Hid (o = none) := Lib.hid (by rw [← HR2.out]; unfold baseM; rw [if_pos (by simp [g3])])
     clear HR
     go_wp2_with first
      | (go_at_call 35; (with_reducible refine HA1.out.mono ?_); rintro e wn ⟨rfl, rfl⟩)
     go_meet
     exact raw_none HV.out HS.out
    case pos =>
    subst g3
    by_cases g4 : 0 ≤ b
    case neg =>
     have g4' : decide (0 ≤ b) = false := decide_eq_false g4
     have HV : Hid (o = none) := Lib.hid (by rw [← HR2.out]; unfold baseM; rw [if_pos (by simp [g4])])
     clear HR
     go_wp2_with first
      | (go_at_call 35; (with_reducible refine HA1.out.mono ?_); rintro e wn ⟨rfl, rfl⟩)
     go_meet
     exact raw_none HV.out HS.out
    case pos =>
    by_cases g5 : b < sats
    case neg =>
     have g5' : decide (b < sats) = false := decide_eq_false g5
     have HV : Hid (o = none) := Lib.hid (by rw [← HR2.out]; unfold baseM; rw [if_pos (by simp [g5])])
     clear HR
     go_wp2_with first
      | (go_at_call 35; (with_reducible refine HA1.out.mono ?_); rintro e wn ⟨rfl, rfl⟩)
     go_meet
     exact raw_none HV.out HS.out
    case pos =>
     have HV0 : Hid (o = some (bs.set a.toNat ⟨b, stopsAt bs a⟩)) := Lib.hid (by rw [← HR2.out]; unfold baseM; rw [if_neg (by simp [g1, g4, g5])])
     unfold behindB at g1
     simp only [Bool.and_eq_true, decide_eq_true_eq] at g1
     obtain ⟨⟨h1, h2⟩, _⟩ := g1
     have hbl : bs.length = n := HN.out
     obtain ⟨k, rfl⟩ : ∃ k : Nat, a = k := ⟨a.toNat, by omega⟩
     have hkn : k < ps.length := by omega
     obtain ⟨g, off, rfl⟩ := own_addr HS.out hpn (by omega)
     have z1 := own_sat hpn hkn HS.out
     have z2 := own_free hpn hkn HS.out (off + k * 2)
     have HS6 := Lib.hid (own_resat hpn hkn b HS.out)
     have HV : Hid (o = some ((ps.set k (⟨b, ps[k].1.stops⟩, ps[k].2)).map (·.1))) := Lib.hid (by rw [HV0.out, resat_map ps hkn b ps[k].2, HP.out]; simp)
     obtain ⟨p6, hp6⟩ : ∃ p6, ps.set k ((⟨b, ps[k].1.stops⟩ : BikeV), ps[k].2) = p6 := ⟨_, rfl⟩
     rw [hp6] at HS6 HV
     clear hp6 HR HR2 HV0
     go_wp2_with (go_at_call 35; (with_reducible refine HA1.out.mono ?_); rintro e wn ⟨rfl, rfl⟩)
     go_meet
     exact raw_some HV.out HS6.out.tail
  by_cases k1 : kd = 1
  · subst k1
    have y1 : w2.cell? ⟨nb, 1, none⟩ = some (.int .i64 a) := HS.out.cell 0 rfl 1 rfl
    have y2 : w2.cell? ⟨nb, 2, none⟩ = some (.int .i64 i) := HS.out.cell 0 rfl 2 rfl
    have y3 : w2.cell? ⟨nb, 3, none⟩ = some (.int .i64 b) := HS.out.cell 0 rfl 3 rfl
    have y4 : w2.cell? ⟨nb, 4, none⟩ = some (.int .i64 j) := HS.out.cell 0 rfl 4 rfl
    have HR2 : Hid (swapM bs ⟨1, a, i, b, j⟩ = o) := Lib.hid (by rw [← HR.out]; rfl)
    cases g1 : atB bs a i with
    | false =>
      have HA1 : Hid (Calls Try.prog 32 #[.slice A1 n c1, .int .i64 a, .int .i64 i] w2 fun e w' => e = .returned (.bool false) ∧ w2 = w') := Lib.hid (by have h := at_any A1 c1 (ps.map (·.1)) a i w2 (own_bikes hpn HS.out) (by rw [List.length_map]; omega) HSB.out; rw [List.length_map, hpn, HP.out] at h; rw [show atB bs a i = false from g1] at h; exact h)
      have HV : Hid (o = none) := Lib.hid (by rw [← HR2.out]; unfold swapM; rw [if_pos (by simp [g1])])
      clear HR
      go_wp2_with first
       | (go_at_call 32; (with_reducible refine HA1.out.mono ?_); rintro e wn ⟨rfl, rfl⟩)
      go_meet
      exact raw_none HV.out HS.out
    | true =>
    have HA1 : Hid (Calls Try.prog 32 #[.slice A1 n c1, .int .i64 a, .int .i64 i] w2 fun e w' => e = .returned (.bool true) ∧ w2 = w') := Lib.hid (by have h := at_any A1 c1 (ps.map (·.1)) a i w2 (own_bikes hpn HS.out) (by rw [List.length_map]; omega) HSB.out; rw [List.length_map, hpn, HP.out] at h; rw [show atB bs a i = true from g1] at h; exact h)
    cases g2 : atB bs b j with
    | false =>
      have HA2 : Hid (Calls Try.prog 32 #[.slice A1 n c1, .int .i64 b, .int .i64 j] w2 fun e w' => e = .returned (.bool false) ∧ w2 = w') := Lib.hid (by have h := at_any A1 c1 (ps.map (·.1)) b j w2 (own_bikes hpn HS.out) (by rw [List.length_map]; omega) HSB.out; rw [List.length_map, hpn, HP.out] at h; rw [show atB bs b j = false from g2] at h; exact h)
      have HV : Hid (o = none) := Lib.hid (by rw [← HR2.out]; unfold swapM; rw [if_pos (by simp [g2])])
      clear HR
      go_wp2_with first
       | (go_at_call 32; (with_reducible refine HA1.out.mono ?_); rintro e wn ⟨rfl, rfl⟩)
       | (go_at_call 32; (with_reducible refine HA2.out.mono ?_); rintro e wn ⟨rfl, rfl⟩)
      go_meet
      exact raw_none HV.out HS.out
    | true =>
      have HA2 : Hid (Calls Try.prog 32 #[.slice A1 n c1, .int .i64 b, .int .i64 j] w2 fun e w' => e = .returned (.bool true) ∧ w2 = w') := Lib.hid (by have h := at_any A1 c1 (ps.map (·.1)) b j w2 (own_bikes hpn HS.out) (by rw [List.length_map]; omega) HSB.out; rw [List.length_map, hpn, HP.out] at h; rw [show atB bs b j = true from g2] at h; exact h)
      have HV0 : Hid (o = some (putStops (swap1 bs ⟨1, a, i, b, j⟩) b ((stopsAt (swap1 bs ⟨1, a, i, b, j⟩) b).set j.toNat ((stopsAt bs a).getD i.toNat 0)))) := Lib.hid (by rw [← HR2.out]; unfold swapM; rw [if_neg (by simp [g1, g2])])
      unfold atB at g1 g2
      simp only [Bool.and_eq_true, decide_eq_true_eq] at g1 g2
      obtain ⟨⟨h1, h2⟩, h3, h4⟩ := g1
      obtain ⟨⟨f1, f2⟩, f3, f4⟩ := g2
      have hbl : bs.length = n := HN.out
      obtain ⟨k, rfl⟩ : ∃ k : Nat, a = k := ⟨a.toNat, by omega⟩
      obtain ⟨i0, rfl⟩ : ∃ i0 : Nat, i = i0 := ⟨i.toNat, by omega⟩
      obtain ⟨b0, rfl⟩ : ∃ b0 : Nat, b = b0 := ⟨b.toNat, by omega⟩
      obtain ⟨j0, rfl⟩ : ∃ j0 : Nat, j = j0 := ⟨j.toNat, by omega⟩
      have hkn : k < ps.length := by omega
      have hbn : b0 < ps.length := by omega
      obtain ⟨g, off, rfl⟩ := own_addr HS.out hpn (by omega)
      have hsa : stopsAt bs (k : Int) = ps[k].1.stops := by rw [← HP.out, stopsAt_lt (by simpa using hkn)]; simp
      have hsb : stopsAt bs (b0 : Int) = ps[b0].1.stops := by rw [← HP.out, stopsAt_lt (by simpa using hbn)]; simp
      rw [hsa] at h4
      rw [hsb] at f4
      obtain ⟨ak, ck, hva, hca⟩ := own_val hkn HS.out
      obtain ⟨ab, cb, hvb, hcb⟩ := own_val hbn HS.out
      obtain ⟨gk, ok, rfl⟩ := own_vaddr hkn HS.out hva (by omega)
      obtain ⟨gb, ob, rfl⟩ := own_vaddr hbn HS.out hvb (by omega)
      obtain ⟨la, hla⟩ : ∃ la, ps[k].1.stops.length = la := ⟨_, rfl⟩
      obtain ⟨lb, hlb⟩ : ∃ lb, ps[b0].1.stops.length = lb := ⟨_, rfl⟩
      have hLa := HLP.out _ (List.getElem_mem hkn)
      have hLb := HLP.out _ (List.getElem_mem hbn)
      rw [hla] at h4 hva hca hLa
      rw [hlb] at f4 hvb hcb hLb
      have hi0 : i0 < la := by omega
      have hj0 : j0 < lb := by omega
      have HX := Lib.hid (fun (wx : World) (h : SL w nb ([.blk nb #[.int .i64 1, .int .i64 (k : Int), .int .i64 (i0 : Int), .int .i64 (b0 : Int), .int .i64 (j0 : Int)] 33] ++ ((bikeN 44 3).own (.slice (some ⟨g, off, none⟩) n c1) ps ++ [])) wx) => own_num hkn hva hla hi0 h)
      have HY := Lib.hid (fun (wx : World) (h : SL w nb ([.blk nb #[.int .i64 1, .int .i64 (k : Int), .int .i64 (i0 : Int), .int .i64 (b0 : Int), .int .i64 (j0 : Int)] 33] ++ ((bikeN 44 3).own (.slice (some ⟨g, off, none⟩) n c1) ps ++ [])) wx) => own_num hbn hvb hlb hj0 h)
      have HW6 := Lib.hid (fun (wx : World) (h : SL w nb ([.blk nb #[.int .i64 1, .int .i64 (k : Int), .int .i64 (i0 : Int), .int .i64 (b0 : Int), .int .i64 (j0 : Int)] 33] ++ ((bikeN 44 3).own (.slice (some ⟨g, off, none⟩) n c1) ps ++ [])) wx) => own_put1 hkn hva hla hi0 (ps[b0].1.stops.getD j0 0) h)
      have HV1 : Hid (swap1 bs ⟨1, (k : Int), (i0 : Int), (b0 : Int), (j0 : Int)⟩ = (ps.set k (⟨ps[k].1.sat, ps[k].1.stops.set i0 (ps[b0].1.stops.getD j0 0)⟩, ps[k].2)).map (·.1)) := Lib.hid (by
       unfold swap1
       simp only [hsa, hsb, Int.toNat_natCast]
       rw [put_map ps hkn, HP.out])
      rw [hsa, HV1.out] at HV0
      simp only [Int.toNat_natCast] at HV0
      obtain ⟨x, hx⟩ : ∃ x, ps[k].1.stops.getD i0 0 = x := ⟨_, rfl⟩
      obtain ⟨y, hy⟩ : ∃ y, ps[b0].1.stops.getD j0 0 = y := ⟨_, rfl⟩
      rw [hx] at HX HV0
      rw [hy] at HY HW6 HV0
      obtain ⟨p6, hp6⟩ : ∃ p6, ps.set k ((⟨ps[k].1.sat, ps[k].1.stops.set i0 y⟩ : BikeV), ps[k].2) = p6 := ⟨_, rfl⟩
      have hn6 : p6.length = n := by rw [← hp6, List.length_set]; exact hpn
      have hb6 : b0 < p6.length := by omega
      have hv6 : p6[b0].2 = .slice (some ⟨gb, ob, none⟩) lb cb ∧ p6[b0].1.stops.length = lb := by
       by_cases hkb : k = b0
       · subst hkb
         simp only [← hp6, List.getElem_set_self, List.length_set]
         exact ⟨hvb, hlb⟩
       · simp only [← hp6, List.getElem_set_ne hkb]
         exact ⟨hvb, hlb⟩
      rw [hp6] at HW6 HV0
      have HSS := Lib.hid (And.intro hla hlb)
      clear h1 h2 h3 h4 f1 f2 f3 f4 hsa hsb hx hy hp6 hla hlb HV1 HR HR2 hbl
      go_upto_region 11 with first
       | (go_at_call 32; (with_reducible refine HA1.out.mono ?_); rintro e wn ⟨rfl, rfl⟩)
       | (go_at_call 32; (with_reducible refine HA2.out.mono ?_); rintro e wn ⟨rfl, rfl⟩)
      clear HA1 HA2 y1 y2 y3 y4
      refine wp_region_sq _ HS.out (by kernel_rfl) (by kernel_rfl) fun C cw _ hC hin => ?_
      have q1 : ∀ d, (cw d).cell? ⟨nb, 1, none⟩ = some (.int .i64 (k : Int)) := fun d => (hC d).cell 0 rfl 1 rfl
      have q2 : ∀ d, (cw d).cell? ⟨nb, 2, none⟩ = some (.int .i64 (i0 : Int)) := fun d => (hC d).cell 0 rfl 2 rfl
      have qa : ∀ d, (cw d).cell? ⟨g, off + k * 2 + 1, none⟩ = some (.slice (some ⟨gk, ok, none⟩) la ck) := fun d => by rw [own_sl hpn hkn (hC d), hva]
      have qx : ∀ d, (cw d).cell? ⟨gk, ok + i0, none⟩ = some (.int .i64 x) := fun d => HX.out _ (hC d)
      clear hin HS
      repeat (go_big_quiet_step (fail))
      refine wpQuiet_nil ?_
      intro w3 hS3
      clear q1 q2 qa qx hC
      go_upto_region 12 with fail
      refine wp_region_sl [0,1,2,3,4,5,6,7,8,9,10,11,12,13,14,15,16,17] [] [18,19] _ hS3 (List.Sublist.refl _) (by kernel_rfl) (by kernel_rfl) (.cons rfl (.cons rfl .nil)) (fun C cw _ hC => ?_)
      have q1 : ∀ d, (cw d).cell? ⟨nb, 1, none⟩ = some (.int .i64 (k : Int)) := fun d => (hC d).cell 0 rfl 1 rfl
      have q2 : ∀ d, (cw d).cell? ⟨nb, 2, none⟩ = some (.int .i64 (i0 : Int)) := fun d => (hC d).cell 0 rfl 2 rfl
      have q3 : ∀ d, (cw d).cell? ⟨nb, 3, none⟩ = some (.int .i64 (b0 : Int)) := fun d => (hC d).cell 0 rfl 3 rfl
      have q4 : ∀ d, (cw d).cell? ⟨nb, 4, none⟩ = some (.int .i64 (j0 : Int)) := fun d => (hC d).cell 0 rfl 4 rfl
      have qa : ∀ d, (cw d).cell? ⟨g, off + k * 2 + 1, none⟩ = some (.slice (some ⟨gk, ok, none⟩) la ck) := fun d => by rw [own_sl hpn hkn (hC d), hva]
      have qb : ∀ d, (cw d).cell? ⟨g, off + b0 * 2 + 1, none⟩ = some (.slice (some ⟨gb, ob, none⟩) lb cb) := fun d => by rw [own_sl hpn hbn (hC d), hvb]
      have qy : ∀ d, (cw d).cell? ⟨gb, ob + j0, none⟩ = some (.int .i64 y) := fun d => HY.out _ (hC d)
      repeat (refine pl_look rfl rfl rfl (fun Kv hK => ?_); go_big_quiet_op; refine hK _ ?_; clear hK Kv)
      clear q1 q2 q3 q4 qa qb qy hC hS3
      refine pl_end ?_
      intro w4 hS4
      refine pm_end ?_
      have z1 := HX.out _ hS4
      have z2 := own_nfree hkn hva HSS.out.1 (by omega) hS4 (ok + i0)
      have HS5 := Lib.hid (HW6.out _ hS4)
      clear hS4 HX HY HW6
      go_upto_region 13 with fail
      clear z1 z2
      generalize (w4.setCell ⟨gk, ok + i0, none⟩ (.int .i64 y)) = w5 at *
      refine wp_region_sl [0,1,2,3,4,5,6,7,8] [] [9,10] _ HS5.out (List.Sublist.refl _) (by kernel_rfl) (by kernel_rfl) (.cons rfl (.cons rfl .nil)) (fun C cw _ hC => ?_)
      have q3 : ∀ d, (cw d).cell? ⟨nb, 3, none⟩ = some (.int .i64 (b0 : Int)) := fun d => (hC d).cell 0 rfl 3 rfl
      have q4 : ∀ d, (cw d).cell? ⟨nb, 4, none⟩ = some (.int .i64 (j0 : Int)) := fun d => (hC d).cell 0 rfl 4 rfl
      have qb : ∀ d, (cw d).cell? ⟨g, off + b0 * 2 + 1, none⟩ = some (.slice (some ⟨gb, ob, none⟩) lb cb) := fun d => by rw [own_sl hn6 hb6 (hC d), hv6.1]
      repeat (refine pl_look rfl rfl rfl (fun Kv hK => ?_); go_big_quiet_op; refine hK _ ?_; clear hK Kv)
      clear q3 q4 qb hC HS5
      refine pl_end ?_
      intro w6 hS6
      refine pm_end ?_
      have z1 := own_num hb6 hv6.1 hv6.2 hj0 hS6
      have z2 := own_nfree hb6 hv6.1 hv6.2 (by omega) hS6 (ob + j0)
      have HS7 := Lib.hid (own_put1 hb6 hv6.1 hv6.2 hj0 x hS6)
      have HV2 : Hid (o = some ((p6.set b0 (⟨p6[b0].1.sat, p6[b0].1.stops.set j0 x⟩, p6[b0].2)).map (·.1))) := Lib.hid (by
       rw [HV0.out, put_map p6 hb6, stopsAt_lt (by simpa using hb6)]
       simp)
      obtain ⟨x6, hx6⟩ : ∃ x6, p6[b0].1.stops.getD j0 0 = x6 := ⟨_, rfl⟩
      obtain ⟨p7, hp7⟩ : ∃ p7, p6.set b0 ((⟨p6[b0].1.sat, p6[b0].1.stops.set j0 x⟩ : BikeV), p6[b0].2) = p7 := ⟨_, rfl⟩
      rw [hx6] at z1
      rw [hp7] at HS7 HV2
      clear hS6 hx6 hp7 HV0
      go_wp2_with fail
      go_meet
      exact raw_some HV2.out HS7.out.tail
  by_cases k2 : kd = 2
  · subst k2
    have y1 : w2.cell? ⟨nb, 1, none⟩ = some (.int .i64 a) := HS.out.cell 0 rfl 1 rfl
    have y2 : w2.cell? ⟨nb, 2, none⟩ = some (.int .i64 i) := HS.out.cell 0 rfl 2 rfl
    have y3 : w2.cell? ⟨nb, 3, none⟩ = some (.int .i64 b) := HS.out.cell 0 rfl 3 rfl
    have y4 : w2.cell? ⟨nb, 4, none⟩ = some (.int .i64 j) := HS.out.cell 0 rfl 4 rfl
    have HR2 : Hid (turnM bs ⟨2, a, i, b, j⟩ = o) := Lib.hid (by rw [← HR.out]; rfl)
    cases g1 : atB bs a i with
    | false =>
      have HA1 : Hid (Calls Try.prog 32 #[.slice A1 n c1, .int .i64 a, .int .i64 i] w2 fun e w' => e = .returned (.bool false) ∧ w2 = w') := Lib.hid (by have h := at_any A1 c1 (ps.map (·.1)) a i w2 (own_bikes hpn HS.out) (by rw [List.length_map]; omega) HSB.out; rw [List.length_map, hpn, HP.out] at h; rw [show atB bs a i = false from g1] at h; exact h)
      have HV : Hid (o = none) := Lib.hid (by rw [← HR2.out]; unfold turnM; rw [if_pos (by simp [g1])])
      clear HR
      go_wp2_with first
       | (go_at_call 32; (with_reducible refine HA1.out.mono ?_); rintro e wn ⟨rfl, rfl⟩)
      go_meet
      exact raw_none HV.out HS.out
    | true =>
    have HA1 : Hid (Calls Try.prog 32 #[.slice A1 n c1, .int .i64 a, .int .i64 i] w2 fun e w' => e = .returned (.bool true) ∧ w2 = w') := Lib.hid (by have h := at_any A1 c1 (ps.map (·.1)) a i w2 (own_bikes hpn HS.out) (by rw [List.length_map]; omega) HSB.out; rw [List.length_map, hpn, HP.out] at h; rw [show atB bs a i = true from g1] at h; exact h)
    by_cases g2 : a = b
    case neg =>
     have g2' : (a == b) = false := by rw [beq_eq_false_iff_ne]; exact g2
     have HV : Hid (o = none) := Lib.hid (by rw [← HR2.out]; unfold turnM; rw [if_pos (by simp [g2])])
     clear HR
     go_wp2_with first
      | (go_at_call 32; (with_reducible refine HA1.out.mono ?_); rintro e wn ⟨rfl, rfl⟩)
     go_meet
     exact raw_none HV.out HS.out
    case pos =>
    subst g2
    cases g3 : atB bs a j with
    | false =>
      have HA2 : Hid (Calls Try.prog 32 #[.slice A1 n c1, .int .i64 a, .int .i64 j] w2 fun e w' => e = .returned (.bool false) ∧ w2 = w') := Lib.hid (by have h := at_any A1 c1 (ps.map (·.1)) a j w2 (own_bikes hpn HS.out) (by rw [List.length_map]; omega) HSB.out; rw [List.length_map, hpn, HP.out] at h; rw [show atB bs a j = false from g3] at h; exact h)
      have HV : Hid (o = none) := Lib.hid (by rw [← HR2.out]; unfold turnM; rw [if_pos (by simp [g3])])
      clear HR
      go_wp2_with first
       | (go_at_call 32; (with_reducible refine HA1.out.mono ?_); rintro e wn ⟨rfl, rfl⟩)
       | (go_at_call 32; (with_reducible refine HA2.out.mono ?_); rintro e wn ⟨rfl, rfl⟩)
      go_meet
      exact raw_none HV.out HS.out
    | true =>
    have HA2 : Hid (Calls Try.prog 32 #[.slice A1 n c1, .int .i64 a, .int .i64 j] w2 fun e w' => e = .returned (.bool true) ∧ w2 = w') := Lib.hid (by have h := at_any A1 c1 (ps.map (·.1)) a j w2 (own_bikes hpn HS.out) (by rw [List.length_map]; omega) HSB.out; rw [List.length_map, hpn, HP.out] at h; rw [show atB bs a j = true from g3] at h; exact h)
    by_cases g4 : i ≤ j
    case neg =>
     have g4' : decide (i ≤ j) = false := decide_eq_false g4
     have HV : Hid (o = none) := Lib.hid (by rw [← HR2.out]; unfold turnM; rw [if_pos (by simp [g4])])
     clear HR
     go_wp2_with first
      | (go_at_call 32; (with_reducible refine HA1.out.mono ?_); rintro e wn ⟨rfl, rfl⟩)
      | (go_at_call 32; (with_reducible refine HA2.out.mono ?_); rintro e wn ⟨rfl, rfl⟩)
     go_meet
     exact raw_none HV.out HS.out
    case pos =>
     have HV0 : Hid (o = some (putStops bs a ((stopsAt bs a).take i.toNat ++ (((stopsAt bs a).drop i.toNat).take (j.toNat + 1 - i.toNat)).reverse ++ (stopsAt bs a).drop (j.toNat + 1)))) := Lib.hid (by rw [← HR2.out]; unfold turnM; rw [if_neg (by simp [g1, g3, g4])])
     unfold atB at g1 g3
     simp only [Bool.and_eq_true, decide_eq_true_eq] at g1 g3
     obtain ⟨⟨h1, h2⟩, h3, h4⟩ := g1
     obtain ⟨_, f3, f4⟩ := g3
     have hbl : bs.length = n := HN.out
     obtain ⟨k, rfl⟩ : ∃ k : Nat, a = k := ⟨a.toNat, by omega⟩
     obtain ⟨i0, rfl⟩ : ∃ i0 : Nat, i = i0 := ⟨i.toNat, by omega⟩
     obtain ⟨j0, rfl⟩ : ∃ j0 : Nat, j = j0 := ⟨j.toNat, by omega⟩
     have hkn : k < ps.length := by omega
     obtain ⟨g, off, rfl⟩ := own_addr HS.out hpn (by omega)
     have hsa : stopsAt bs (k : Int) = ps[k].1.stops := by rw [← HP.out, stopsAt_lt (by simpa using hkn)]; simp
     rw [hsa] at h4 f4 HV0
     obtain ⟨ak, ck, hva, hca⟩ := own_val hkn HS.out
     obtain ⟨gk, ok, rfl⟩ := own_vaddr hkn HS.out hva (by omega)
     simp only [Int.toNat_natCast] at HV0
     have HPM := Lib.hid (fun (l : List Int) => put_map ps hkn l ps[k].2)
     have HSM := Lib.hid (fun (l : List Int) => own_same (T := 44) (t := 3) hkn (.slice (some ⟨g, off, none⟩) n c1) l [.blk nb #[.int .i64 2, .int .i64 (k : Int), .int .i64 (i0 : Int), .int .i64 (k : Int), .int .i64 (j0 : Int)] 33] [])
     obtain ⟨s, hs⟩ : ∃ s, ps[k].1.stops = s := ⟨_, rfl⟩
     have hLa := HLP.out _ (List.getElem_mem hkn)
     have hrow := own_row hkn [.blk nb #[.int .i64 2, .int .i64 (k : Int), .int .i64 (i0 : Int), .int .i64 (k : Int), .int .i64 (j0 : Int)] 33] [] (T := 44) (t := 3) (v := .slice (some ⟨g, off, none⟩) n c1) hva
     rw [hs] at h4 f4 hva hca hLa HV0 hrow
     have hij : i0 ≤ j0 := by omega
     have hjs : j0 < s.length := by omega
     have s1 : ∀ w' : World, (Instr.slice 42 (.slice (some ⟨gk, ok, none⟩) s.length ck) (some (.int .i64 (i0 : Int))) (some (.int .i64 ((j0 : Int) + 1))) none).run Try.prog w' = .ok (.slice (some ⟨gk, ok + i0, none⟩) (j0 + 1 - i0) (ck - i0)) w' := fun w' => by
      rw [run_slice_lh (P := Try.prog) w' 42 _ _ _ intsT_elem _ _ _ _ (by omega) (by omega) (by omega), intsT_size]
      have e1 : ((j0 : Int) + 1).toNat = j0 + 1 := by omega
      simp only [Result.andThen_ok, sliced, Int.toNat_natCast, e1]
      rw [if_neg (by omega)]
      by_cases h0 : i0 = 0
      · rw [h0]; simp [Addr.add]
      · simp [Addr.add]; omega
     have g4' : decide ((i0 : Int) ≤ (j0 : Int)) = true := decide_eq_true g4
     have HREV := Lib.hid (fun (wx : World) (h : SL w nb ([.blk nb #[.int .i64 2, .int .i64 (k : Int), .int .i64 (i0 : Int), .int .i64 (k : Int), .int .i64 (j0 : Int)] 33] ++ ((bikeN 44 3).own (.slice (some ⟨g, off, none⟩) n c1) ps ++ [])) wx) => reverse_sub w nb _ wx _ s.length ck gk ok i0 (j0 + 1 - i0) (ck - i0) s h hrow (by omega) (by omega) (by omega))
     clear h1 h2 h3 h4 f3 f4 hsa hbl HR HR2 g4 hrow
     go_upto_region 17 with first
      | (go_at_call 32; (with_reducible refine HA1.out.mono ?_); rintro e wn ⟨rfl, rfl⟩)
      | (go_at_call 32; (with_reducible refine HA2.out.mono ?_); rintro e wn ⟨rfl, rfl⟩)
     clear HA1 HA2 y1 y2 y3 y4
     have hrs : [.blk nb #[.int .i64 2, .int .i64 (k : Int), .int .i64 (i0 : Int), .int .i64 (k : Int), .int .i64 (j0 : Int)] 33, .row 44 2 (.slice (some ⟨g, off, none⟩) n c1) n ((bikeN 44 3).heads ps)].Sublist ([.blk nb #[.int .i64 2, .int .i64 (k : Int), .int .i64 (i0 : Int), .int .i64 (k : Int), .int .i64 (j0 : Int)] 33] ++ ((bikeN 44 3).own (.slice (some ⟨g, off, none⟩) n c1) ps ++ [])) := by
      rw [own_cons hpn]; exact .cons_cons _ (.cons_cons _ (List.nil_sublist _))
     refine wp_region_sl [0,1,2,3,4,5,6,7,8,9,10,11] [12] [] _ HS.out hrs (by kernel_rfl) (by kernel_rfl) .nil (fun C cw _ hC => ?_)
     have q1 : ∀ d, (cw d).cell? ⟨nb, 1, none⟩ = some (.int .i64 (k : Int)) := fun d => (hC d).cell 0 rfl 1 rfl
     have q2 : ∀ d, (cw d).cell? ⟨nb, 2, none⟩ = some (.int .i64 (i0 : Int)) := fun d => (hC d).cell 0 rfl 2 rfl
     have q4 : ∀ d, (cw d).cell? ⟨nb, 4, none⟩ = some (.int .i64 (j0 : Int)) := fun d => (hC d).cell 0 rfl 4 rfl
     have qa : ∀ d, (cw d).cell? ⟨g, off + k * 2 + 1, none⟩ = some (.slice (some ⟨gk, ok, none⟩) s.length ck) := fun d => by rw [heads_sl (hC d) 1 rfl hkn, hva]
     repeat (refine pl_look rfl rfl rfl (fun Kv hK => ?_); go_big_quiet_op; refine hK _ ?_; clear hK Kv)
     clear q1 q2 q4 qa hC HS hrs
     refine pl_end ?_
     intro w4 hS4
     refine pm_eff rfl rfl fun Kv hK => ?_
     go_simp
     refine eff_call (HREV.out w4 hS4) (fun e w5 h => ?_)
     obtain ⟨rfl, hS5⟩ := h
     left
     have h5 : SL w nb [.blk nb #[.int .i64 2, .int .i64 (k : Int), .int .i64 (i0 : Int), .int .i64 (k : Int), .int .i64 (j0 : Int)] 33, .row 44 2 (.slice (some ⟨g, off, none⟩) n c1) n ((bikeN 44 3).heads ps)] w5 := by
      have h := hS5
      rw [own_cons hpn, own_left] at h
      exact h.sub (.cons_cons _ (.cons_cons _ (List.nil_sublist _)))
     refine ⟨_, rfl, h5, hK _ _ ?_⟩
     clear hK Kv hS4 HREV h5 s1
     refine pm_end ?_
     rw [show i0 + (j0 + 1 - i0) = j0 + 1 by omega] at hS5
     obtain ⟨s2, hs2⟩ : ∃ s2, s.take i0 ++ ((s.drop i0).take (j0 + 1 - i0)).reverse ++ s.drop (j0 + 1) = s2 := ⟨_, rfl⟩
     have hl2 : s2.length = s.length := by
      rw [← hs2]
      simp only [List.length_append, List.length_take, List.length_drop, List.length_reverse]
      omega
     rw [hs2, ← hva, ← hl2, HSM.out] at hS5
     rw [hs2] at HV0
     have HV2 : Hid (o = some ((ps.set k (⟨ps[k].1.sat, s2⟩, ps[k].2)).map (·.1))) := Lib.hid (by rw [HV0.out, HPM.out, HP.out])
     obtain ⟨p7, hp7⟩ : ∃ p7, ps.set k ((⟨ps[k].1.sat, s2⟩ : BikeV), ps[k].2) = p7 := ⟨_, rfl⟩
     rw [hp7] at hS5 HV2
     have HS5 := Lib.hid hS5
     clear hS5 hp7 hs2 hl2 HV0 HPM HSM
     go_wp2_with fail
     go_meet
     exact raw_some HV2.out HS5.out.tail
  by_cases k3 : kd = 3
  · subst k3
    have HE : Hid (Calls Try.prog 34 #[.slice A1 n c1, .agg #[.int .i64 3, .int .i64 a, .int .i64 i, .int .i64 b, .int .i64 j]] w2 (ElsePost w nb [] (tailsM bs ⟨3, a, i, b, j⟩))) := Lib.hid (by
     have h := tails_any w nb [] w2 A1 c1 n ps 3 a i b j HS.out.tail hpn hl HLP.out
     rw [HP.out] at h
     exact h)
    have HR2 : Hid (tailsM bs ⟨3, a, i, b, j⟩ = o) := Lib.hid (by rw [← HR.out]; rfl)
    rw [HR2.out] at HE
    clear HR HR2
    have HBK := Lib.hid (HS.out.blk 0 rfl)
    cases hoo : o with
    | none =>
      subst hoo
      go_wp2_with first
       | (refine wpList_load_row rfl 33 _ rfl nb rfl _ #[.int .i64 3, .int .i64 a, .int .i64 i, .int .i64 b, .int .i64 j] _ _ HBK.out Try.underlying33 rfl HSZ.out ?_)
       | (go_at_call 34; (with_reducible refine HE.out.mono ?_); rintro e w6 ⟨rfl, hS6⟩
          have HS6 := Lib.hid hS6
          clear hS6)
      go_meet
      exact raw_none rfl HS6.out
    | some bs' =>
      subst hoo
      go_wp2_with first
       | (refine wpList_load_row rfl 33 _ rfl nb rfl _ #[.int .i64 3, .int .i64 a, .int .i64 i, .int .i64 b, .int .i64 j] _ _ HBK.out Try.underlying33 rfl HSZ.out ?_)
       | (go_at_call 34; (with_reducible refine HE.out.mono ?_); rintro e w6 ⟨v6, ps6, rfl, hp6, hS6⟩
          have HS6 := Lib.hid hS6
          have HP6 := Lib.hid hp6
          clear hS6 hp6)
      go_meet
      exact raw_some (by rw [HP6.out]) HS6.out
  have kk0 : (kd == 0) = false := by rw [beq_eq_false_iff_ne]; exact k0
  have kk1 : (kd == 1) = false := by rw [beq_eq_false_iff_ne]; exact k1
  have kk2 : (kd == 2) = false := by rw [beq_eq_false_iff_ne]; exact k2
  have kk3 : (kd == 3) = false := by rw [beq_eq_false_iff_ne]; exact k3
  have kk4 : (kd == 4) = false := by rw [beq_eq_false_iff_ne]; exact k4
  have kk5 : (kd == 5) = false := by rw [beq_eq_false_iff_ne]; exact k5
  have HV : Hid (o = none) := Lib.hid (by rw [← HR.out]; unfold rawM; simp [k0, k1, k2, k3, k4, k5])
  clear HR k0 k1 k2 k3 k4 k5
  go_wp2_with fail
  go_meet
  exact raw_none HV.out HS.out
 case rest =>
  cases hoo : o with
  | none =>
    subst hoo
    obtain ⟨rfl, hS5⟩ := hcut
    have HB5 := Lib.hid hS5.below
    rw [HNB.out] at HB5
    clear hS5 HS y0
    go_wp2_with fail
    go_ret2
    rw [HO.out]
    exact ⟨rfl, HB5.out⟩
  | some bs' =>
    subst hoo
    obtain ⟨ps', rfl, hps', hS5⟩ := hcut
    have hpl : ps'.length ≤ 1000000 := by
     have := HLN.out bs' rfl
     rw [← hps', List.length_map] at this
     omega
    have HF := Lib.hid (filled_any w nb [] wc _ ps' hS5 hpl)
    have HP' := Lib.hid hps'
    clear hS5 hps' hpl HS y0
    go_wp2_with (go_at_call 36; (with_reducible refine HF.out.mono ?_); rintro e w6 ⟨v6, rfl, hS6⟩
                 have HS6 := Lib.hid hS6
                 clear hS6)
    go_ret2
    rw [HO.out]
    refine ⟨_, _, rfl, ?_, by rw [← HNB.out]; have h := HS6.out; rw [List.append_nil] at h; exact h⟩
    rw [← HP'.out]
    show _ = List.filter keepB (ps'.map (·.1))
    rw [List.filter_map]
    rfl
end Go.Proofs.Ytpbhbmdghafkmaa
