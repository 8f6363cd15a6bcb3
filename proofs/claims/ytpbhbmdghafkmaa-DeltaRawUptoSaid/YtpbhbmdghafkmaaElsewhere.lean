/- move.elsewhere. (printed by gen/elsewhere.py) -/
import Derived.Test.YtpbhbmdghafkmaaOwnAt
import Derived.Test.YtpbhbmdghafkmaaMoveAt
import Derived.Test.YtpbhbmdghafkmaaDelInt
import Derived.Test.YtpbhbmdghafkmaaInsInt
import Derived.Test.YtpbhbmdghafkmaaCloneInt
import Derived.Test.YtpbhbmdghafkmaaRowRun
import Derived.BigQuiet
import Derived.Deep.CutBlock
import Derived.Deep.CutRange
import Derived.Deep.DeepCutAuto
namespace Go.Proofs.Ytpbhbmdghafkmaa
open Go.ChangeShapes Go.WideShapes Go.ChangeAt Go.RowKit
set_option linter.unusedVariables false
def ElsePost (W : World) (B : Nat) (R : List Rs) (o : Option (List BikeV)) (e : Ending) (w' : World) : Prop :=
 match o with
 | none => e = .returned (.tuple #[.slice none 0 0, .bool false]) ∧ SL W B R w'
 | some bs => ∃ v ps, e = .returned (.tuple #[v, .bool true]) ∧ ps.map (·.1) = bs ∧ SL W B ((bikeN 44 3).own v ps ++ R) w'
theorem else_none {W : World} {B : Nat} {R : List Rs} {o : Option (List BikeV)} {w' : World} (ho : o = none) (hS : SL W B R w') : ElsePost W B R o (.returned (.tuple #[.slice none 0 0, .bool false])) w' := by
 subst ho; exact ⟨rfl, hS⟩
theorem else_some {W : World} {B : Nat} {R : List Rs} {o : Option (List BikeV)} {w' : World} {v : Value} {ps : List (BikeV × Value)} (ho : o = some (ps.map (·.1))) (hS : SL W B ((bikeN 44 3).own v ps ++ R) w') : ElsePost W B R o (.returned (.tuple #[v, .bool true])) w' := by
 subst ho; exact ⟨v, ps, rfl, rfl, hS⟩
theorem info_bikeE : (Try.prog.info? 44).map (fun i => (i.zero, i.size, i.bytes)) = some (some (.agg #[.int .i64 0, .slice none 0 0]), 2, 32) := by kernel_rfl
set_option maxRecDepth 100000 in
set_option maxHeartbeats 4000000 in
theorem elsewhere_any (W : World) (B : Nat) (R : List Rs) (w : World) (A : Option Addr) (c n many : Nat) (ps : List (BikeV × Value)) (kd a i b j : Int) (hS : SL W B ((bikeN 44 3).own (.slice A n c) ps ++ R) w) (hn : ps.length = n) (hl : n ≤ 100000) (hs : ∀ q ∈ ps, q.1.stops.length ≤ 100000) (hm0 : 0 < many) (hm2 : many ≤ 2) :
 Calls Try.prog 31 #[.slice A n c, .agg #[.int .i64 kd, .int .i64 a, .int .i64 i, .int .i64 b, .int .i64 j], .int .i64 (many : Int)] w (ElsePost W B R (elseM (ps.map (·.1)) ⟨kd, a, i, b, j⟩ many)) := by
 have hlB : (ps.map (·.1)).length = n := by simpa using hn
 have hsB : ∀ b ∈ ps.map (·.1), b.stops.length ≤ 1000000 := fun b hb => by
  obtain ⟨q, hq, rfl⟩ := List.mem_map.1 hb
  have := hs q hq
  omega
 have HA : Hid (∀ wx, SL W B ([] ++ ((bikeN 44 3).own (.slice A n c) ps ++ R)) wx → Calls Try.prog 32 #[.slice A n c, .int .i64 a, .int .i64 i] wx fun e w' => e = .returned (.bool (atB (ps.map (·.1)) a i)) ∧ wx = w') := Lib.hid (fun wx h => by
  have := at_any A c (ps.map (·.1)) a i wx (own_bikes hn h) (by omega) hsB
  rw [hlB] at this; exact this)
 have HSX : Hid (∀ wx, SL W B ([.blk w.heap.size #[.int .i64 kd, .int .i64 a, .int .i64 i, .int .i64 b, .int .i64 j] 33] ++ ((bikeN 44 3).own (.slice A n c) ps ++ R)) wx → SL W B ([] ++ ((bikeN 44 3).own (.slice A n c) ps ++ R)) wx) := Lib.hid (fun wx h => h.tail)
 have hS1 := hS.alloc #[.int .i64 kd, .int .i64 a, .int .i64 i, .int .i64 b, .int .i64 j] 33
 have HS1 : Hid (SL W B ([.blk w.heap.size #[.int .i64 kd, .int .i64 a, .int .i64 i, .int .i64 b, .int .i64 j] 33] ++ ((bikeN 44 3).own (.slice A n c) ps ++ R)) (w.alloc (.cells #[.int .i64 kd, .int .i64 a, .int .i64 i, .int .i64 b, .int .i64 j] 33))) := Lib.hid hS1
 have HL := Lib.hid hs
 have HLB := Lib.hid hsB
 clear hS hS1 hs hsB hlB
 obtain ⟨bs, hbs⟩ : ∃ bs, ps.map (·.1) = bs := ⟨_, rfl⟩
 rw [hbs] at HA HLB ⊢
 have hbl : bs.length = n := by rw [← hbs, List.length_map]; exact hn
 go_enter Try.func31, Try.ntmps31
 go_upto_region 1 with fail
 obtain ⟨nb, hnb⟩ : ∃ nb, nb = w.heap.size := ⟨_, rfl⟩
 rw [← hnb] at HS1 HSX ⊢
 generalize (w.alloc (.cells #[.int .i64 kd, .int .i64 a, .int .i64 i, .int .i64 b, .int .i64 j] 33)) = w1 at *
 clear hnb w
 go_cut [41] (fun v wx => v = .bool (!elseOk bs ⟨kd, a, i, b, j⟩ many) ∧ SL W B ([.blk nb #[.int .i64 kd, .int .i64 a, .int .i64 i, .int .i64 b, .int .i64 j] 33] ++ ((bikeN 44 3).own (.slice A n c) ps ++ R)) wx)
 case first =>
  cases hat : atB bs a i with
  | false =>
    have HV : Hid (elseOk bs ⟨kd, a, i, b, j⟩ many = false) := Lib.hid (by unfold elseOk; rw [hat]; rfl)
    rw [hat] at HA
    clear hat
    refine wp_region_sq _ HS1.out (by kernel_rfl) (by kernel_rfl) fun C cw _ hC hin => ?_
    have q1 : ∀ c, (cw c).cell? ⟨nb, 1, none⟩ = some (.int .i64 a) := fun c => (hC c).cell 0 rfl 1 rfl
    have q2 : ∀ c, (cw c).cell? ⟨nb, 2, none⟩ = some (.int .i64 i) := fun c => (hC c).cell 0 rfl 2 rfl
    have q3 : ∀ c, (cw c).cell? ⟨nb, 3, none⟩ = some (.int .i64 b) := fun c => (hC c).cell 0 rfl 3 rfl
    have HN : ∀ d, Calls Try.prog 32 #[.slice A n c, .int .i64 a, .int .i64 i] (cw d) fun e w' => e = .returned (.bool false) ∧ ∃ c', w' = cw c' := fun d => (HA.out _ (HSX.out _ (hC d))).mono fun _ _ h => ⟨h.1, d, h.2.symm⟩
    have HHN := Lib.hid HN
    clear hC hin HN HA HSX
    repeat (go_big_quiet_step (first | (go_at_call 32; with_reducible exact HHN.out _)))
    refine wpQuiet_nil ?_
    intro w4 hS4
    have HS4 := Lib.hid hS4
    clear hS4 q1 q2 q3
    go_wp2_with fail
    go_meet
    exact ⟨by rw [HV.out]; rfl, HS4.out⟩
  | true =>
    rw [hat] at HA
    have hat' := hat
    unfold atB at hat'
    rw [Bool.and_eq_true, decide_eq_true_eq, decide_eq_true_eq] at hat'
    obtain ⟨⟨h1, h2⟩, h3, h4⟩ := hat'
    obtain ⟨k, rfl⟩ : ∃ k : Nat, a = k := ⟨a.toNat, by omega⟩
    have hkn : k < ps.length := by omega
    have hkb : k < bs.length := by omega
    have hst : stopsAt bs (k : Int) = ps[k].1.stops := by rw [stopsAt_lt hkb]; subst hbs; simp
    rw [hst] at h4
    obtain ⟨g, off, rfl⟩ := own_addr HS1.out hn (by omega)
    obtain ⟨ak, ck, hv0, _⟩ := own_val hkn HS1.out
    have hL := HL.out _ (List.getElem_mem hkn)
    have HV0 : Hid (elseOk bs ⟨kd, (k : Int), i, b, j⟩ many = (decide (i ≤ (ps[k].1.stops.length : Int) - many) && decide (0 ≤ b ∧ b ≤ (n : Int)))) := Lib.hid (by unfold elseOk; rw [hat, hst, hbl]; rfl)
    obtain ⟨L, hLe⟩ : ∃ L, ps[k].1.stops.length = L := ⟨_, rfl⟩
    rw [hLe] at hv0 h4 hL HV0
    clear hat hst hLe
    by_cases z1 : i ≤ (L : Int) - many
    case neg =>
     have HV : Hid (elseOk bs ⟨kd, (k : Int), i, b, j⟩ many = false) := Lib.hid (by rw [HV0.out, decide_eq_false z1]; rfl)
     have z1' : decide ((L : Int) - many < i) = true := decide_eq_true (by omega)
     refine wp_region_sq _ HS1.out (by kernel_rfl) (by kernel_rfl) fun C cw _ hC hin => ?_
     have q1 : ∀ c, (cw c).cell? ⟨nb, 1, none⟩ = some (.int .i64 (k : Int)) := fun c => (hC c).cell 0 rfl 1 rfl
     have q2 : ∀ c, (cw c).cell? ⟨nb, 2, none⟩ = some (.int .i64 i) := fun c => (hC c).cell 0 rfl 2 rfl
     have q3 : ∀ c, (cw c).cell? ⟨nb, 3, none⟩ = some (.int .i64 b) := fun c => (hC c).cell 0 rfl 3 rfl
     have qa : ∀ c, (cw c).cell? ⟨g, off + k * 2 + 1, none⟩ = some (.slice ak L ck) := fun c => by rw [own_sl hn hkn (hC c), hv0]
     have HN : ∀ d, Calls Try.prog 32 #[.slice (some ⟨g, off, none⟩) n c, .int .i64 k, .int .i64 i] (cw d) fun e w' => e = .returned (.bool true) ∧ ∃ c', w' = cw c' := fun d => (HA.out _ (HSX.out _ (hC d))).mono fun _ _ h => ⟨h.1, d, h.2.symm⟩
     have HHN := Lib.hid HN
     clear hC hin HN HA HSX
     repeat (go_big_quiet_step (first | (go_at_call 32; with_reducible exact HHN.out _)))
     refine wpQuiet_nil ?_
     intro w4 hS4
     have HS4 := Lib.hid hS4
     clear hS4 q1 q2 q3 qa
     go_wp2_with fail
     go_meet
     exact ⟨by rw [HV.out]; rfl, HS4.out⟩
    case pos =>
    by_cases z2 : 0 ≤ b
    case neg =>
     have HV : Hid (elseOk bs ⟨kd, (k : Int), i, b, j⟩ many = false) := Lib.hid (by rw [HV0.out, decide_eq_false (p := 0 ≤ b ∧ _) (by omega), Bool.and_false])
     have z1' : decide ((L : Int) - many < i) = false := decide_eq_false (by omega)
     have z2' : decide (b < 0) = true := decide_eq_true (by omega)
     refine wp_region_sq _ HS1.out (by kernel_rfl) (by kernel_rfl) fun C cw _ hC hin => ?_
     have q1 : ∀ c, (cw c).cell? ⟨nb, 1, none⟩ = some (.int .i64 (k : Int)) := fun c => (hC c).cell 0 rfl 1 rfl
     have q2 : ∀ c, (cw c).cell? ⟨nb, 2, none⟩ = some (.int .i64 i) := fun c => (hC c).cell 0 rfl 2 rfl
     have q3 : ∀ c, (cw c).cell? ⟨nb, 3, none⟩ = some (.int .i64 b) := fun c => (hC c).cell 0 rfl 3 rfl
     have qa : ∀ c, (cw c).cell? ⟨g, off + k * 2 + 1, none⟩ = some (.slice ak L ck) := fun c => by rw [own_sl hn hkn (hC c), hv0]
     have HN : ∀ d, Calls Try.prog 32 #[.slice (some ⟨g, off, none⟩) n c, .int .i64 k, .int .i64 i] (cw d) fun e w' => e = .returned (.bool true) ∧ ∃ c', w' = cw c' := fun d => (HA.out _ (HSX.out _ (hC d))).mono fun _ _ h => ⟨h.1, d, h.2.symm⟩
     have HHN := Lib.hid HN
     clear hC hin HN HA HSX
     repeat (go_big_quiet_step (first | (go_at_call 32; with_reducible exact HHN.out _)))
     refine wpQuiet_nil ?_
     intro w4 hS4
     have HS4 := Lib.hid hS4
     clear hS4 q1 q2 q3 qa
     go_wp2_with fail
     go_meet
     exact ⟨by rw [HV.out]; rfl, HS4.out⟩
    case pos =>
    by_cases z3 : b ≤ (n : Int)
    case neg =>
     have HV : Hid (elseOk bs ⟨kd, (k : Int), i, b, j⟩ many = false) := Lib.hid (by rw [HV0.out, decide_eq_false (p := 0 ≤ b ∧ _) (by omega), Bool.and_false])
     have z1' : decide ((L : Int) - many < i) = false := decide_eq_false (by omega)
     have z2' : decide (b < 0) = false := decide_eq_false (by omega)
     have z3' : decide ((n : Int) < b) = true := decide_eq_true (by omega)
     refine wp_region_sq _ HS1.out (by kernel_rfl) (by kernel_rfl) fun C cw _ hC hin => ?_
     have q1 : ∀ c, (cw c).cell? ⟨nb, 1, none⟩ = some (.int .i64 (k : Int)) := fun c => (hC c).cell 0 rfl 1 rfl
     have q2 : ∀ c, (cw c).cell? ⟨nb, 2, none⟩ = some (.int .i64 i) := fun c => (hC c).cell 0 rfl 2 rfl
     have q3 : ∀ c, (cw c).cell? ⟨nb, 3, none⟩ = some (.int .i64 b) := fun c => (hC c).cell 0 rfl 3 rfl
     have qa : ∀ c, (cw c).cell? ⟨g, off + k * 2 + 1, none⟩ = some (.slice ak L ck) := fun c => by rw [own_sl hn hkn (hC c), hv0]
     have HN : ∀ d, Calls Try.prog 32 #[.slice (some ⟨g, off, none⟩) n c, .int .i64 k, .int .i64 i] (cw d) fun e w' => e = .returned (.bool true) ∧ ∃ c', w' = cw c' := fun d => (HA.out _ (HSX.out _ (hC d))).mono fun _ _ h => ⟨h.1, d, h.2.symm⟩
     have HHN := Lib.hid HN
     clear hC hin HN HA HSX
     repeat (go_big_quiet_step (first | (go_at_call 32; with_reducible exact HHN.out _)))
     refine wpQuiet_nil ?_
     intro w4 hS4
     have HS4 := Lib.hid hS4
     clear hS4 q1 q2 q3 qa
     go_wp2_with fail
     go_meet
     exact ⟨by rw [HV.out]; rfl, HS4.out⟩
    case pos =>
     have HV : Hid (elseOk bs ⟨kd, (k : Int), i, b, j⟩ many = true) := Lib.hid (by rw [HV0.out, decide_eq_true z1, decide_eq_true ⟨z2, z3⟩]; rfl)
     have z1' : decide ((L : Int) - many < i) = false := decide_eq_false (by omega)
     have z2' : decide (b < 0) = false := decide_eq_false (by omega)
     have z3' : decide ((n : Int) < b) = false := decide_eq_false (by omega)
     refine wp_region_sq _ HS1.out (by kernel_rfl) (by kernel_rfl) fun C cw _ hC hin => ?_
     have q1 : ∀ c, (cw c).cell? ⟨nb, 1, none⟩ = some (.int .i64 (k : Int)) := fun c => (hC c).cell 0 rfl 1 rfl
     have q2 : ∀ c, (cw c).cell? ⟨nb, 2, none⟩ = some (.int .i64 i) := fun c => (hC c).cell 0 rfl 2 rfl
     have q3 : ∀ c, (cw c).cell? ⟨nb, 3, none⟩ = some (.int .i64 b) := fun c => (hC c).cell 0 rfl 3 rfl
     have qa : ∀ c, (cw c).cell? ⟨g, off + k * 2 + 1, none⟩ = some (.slice ak L ck) := fun c => by rw [own_sl hn hkn (hC c), hv0]
     have HN : ∀ d, Calls Try.prog 32 #[.slice (some ⟨g, off, none⟩) n c, .int .i64 k, .int .i64 i] (cw d) fun e w' => e = .returned (.bool true) ∧ ∃ c', w' = cw c' := fun d => (HA.out _ (HSX.out _ (hC d))).mono fun _ _ h => ⟨h.1, d, h.2.symm⟩
     have HHN := Lib.hid HN
     clear hC hin HN HA HSX
     repeat (go_big_quiet_step (first | (go_at_call 32; with_reducible exact HHN.out _)))
     refine wpQuiet_nil ?_
     intro w4 hS4
     have HS4 := Lib.hid hS4
     clear hS4 q1 q2 q3 qa
     go_wp2_with fail
     go_meet
     exact ⟨by rw [HV.out]; rfl, HS4.out⟩
 case rest =>
  obtain ⟨rfl, hS⟩ := hcut
  cases hok : elseOk bs ⟨kd, a, i, b, j⟩ many with
  | false =>
    have HV : Hid (elseM bs ⟨kd, a, i, b, j⟩ many = none) := Lib.hid (by unfold elseM; rw [if_pos hok])
    have HS := Lib.hid hS
    clear hS HA HSX HS1 hok
    go_wp2_with fail
    go_ret2
    exact else_none HV.out (HS.out.tail.sub (List.sublist_append_right _ _))
  | true =>
    have hok' := hok
    unfold elseOk atB at hok'
    simp only [Bool.and_eq_true, decide_eq_true_eq] at hok'
    obtain ⟨⟨⟨⟨h1, h2⟩, h3, h4⟩, z1⟩, z2, z3⟩ := hok'
    rw [hbl] at h2 z3
    obtain ⟨k, rfl⟩ : ∃ k : Nat, a = k := ⟨a.toNat, by omega⟩
    obtain ⟨i0, rfl⟩ : ∃ i0 : Nat, i = i0 := ⟨i.toNat, by omega⟩
    obtain ⟨b0, rfl⟩ : ∃ b0 : Nat, b = b0 := ⟨b.toNat, by omega⟩
    have hkn : k < ps.length := by omega
    have hkb : k < bs.length := by omega
    have hb0 : b0 ≤ n := by omega
    have hst : stopsAt bs (k : Int) = ps[k].1.stops := by rw [stopsAt_lt hkb]; subst hbs; simp
    have hsa : satAt bs (k : Int) = ps[k].1.sat := by rw [satAt_lt hkb]; subst hbs; simp
    rw [hst] at h4 z1
    have hLs := HL.out _ (List.getElem_mem hkn)
    obtain ⟨g, off, rfl⟩ := own_addr hS hn (by omega)
    obtain ⟨s, hse⟩ : ∃ s, ps[k].1.stops = s := ⟨_, rfl⟩
    obtain ⟨ss, hss⟩ : ∃ ss, ps[k].1.sat = ss := ⟨_, rfl⟩
    rw [hse] at h4 z1 hst hLs
    rw [hss] at hsa
    have him : i0 + many ≤ s.length := by omega
    have HE : Hid (elseM bs ⟨kd, (k : Int), (i0 : Int), (b0 : Int), j⟩ many = if behindB (less bs ⟨kd, (k : Int), (i0 : Int), (b0 : Int), j⟩ many) (b0 : Int) j = false then none
     else some (putStops (less bs ⟨kd, (k : Int), (i0 : Int), (b0 : Int), j⟩ many) (b0 : Int) ((stopsAt (less bs ⟨kd, (k : Int), (i0 : Int), (b0 : Int), j⟩ many) (b0 : Int)).take j.toNat ++ (s.drop i0).take many ++ (stopsAt (less bs ⟨kd, (k : Int), (i0 : Int), (b0 : Int), j⟩ many) (b0 : Int)).drop j.toNat))) := Lib.hid (by
     unfold elseM
     rw [if_neg (by rw [hok]; simp)]
     simp only [hst, Int.toNat_natCast])
    have HLE : Hid (less bs ⟨kd, (k : Int), (i0 : Int), (b0 : Int), j⟩ many = putStops (more bs ⟨kd, (k : Int), (i0 : Int), (b0 : Int), j⟩) (k : Int) (s.take i0 ++ s.drop (i0 + many))) := Lib.hid (by
     unfold less; simp only [hst, Int.toNat_natCast])
    obtain ⟨mo, hmo⟩ : ∃ mo, more bs ⟨kd, (k : Int), (i0 : Int), (b0 : Int), j⟩ = mo := ⟨_, rfl⟩
    rw [hmo] at HLE
    have HMO : Hid (mo = if (b0 : Int) = (n : Int) then bs ++ [⟨ss, []⟩] else bs) := Lib.hid (by rw [← hmo]; unfold more; simp only [hbl, hsa])
    have HPK := Lib.hid (And.intro hse hss)
    have HBS := Lib.hid hbs
    have HS := Lib.hid hS
    clear hmo hok hst hsa hse hss hS HA HSX HS1 h1 h2 h3 h4 z1 z2 z3 hbs
    have y1 : wc.cell? ⟨nb, 1, none⟩ = some (.int .i64 (k : Int)) := HS.out.cell 0 rfl 1 rfl
    have y3 : wc.cell? ⟨nb, 3, none⟩ = some (.int .i64 (b0 : Int)) := HS.out.cell 0 rfl 3 rfl
    have x0 : wc.cell? ⟨g, off + k * 2, none⟩ = some (.int .i64 ss) := by rw [own_sat hn hkn HS.out, HPK.out.2]
    go_upto_if 46 with fail
    go_cut [0] (fun v wx => ∃ (A' : Option Addr) (c' n' : Nat) (ps' : List (BikeV × Value)), v = .slice A' n' c' ∧ ps'.length = n' ∧ k < n' ∧ b0 < n' ∧ n' ≤ 100001 ∧ Hid (ps'.map (·.1) = mo ∧ (∀ q ∈ ps', q.1.stops.length ≤ 100000)) ∧ SL W B ([.blk nb #[.int .i64 kd, .int .i64 (k : Int), .int .i64 (i0 : Int), .int .i64 (b0 : Int), .int .i64 j] 33] ++ ((bikeN 44 3).own (.slice A' n' c') ps' ++ R)) wx)
    case first =>
     by_cases hbn : b0 = n
     · subst hbn
       obtain ⟨i1, hi1, hz1, hzz, hbb⟩ := info_parts info_bikeE
       have HM2 : Hid (mo = bs ++ [⟨ss, []⟩]) := Lib.hid (by rw [HMO.out, if_pos rfl])
       have HSN : Hid (SL W B ((bikeN 44 3).inner ((⟨ss, []⟩ : BikeV), .slice none 0 0) :: .blk nb #[.int .i64 kd, .int .i64 (k : Int), .int .i64 (i0 : Int), .int .i64 (b0 : Int), .int .i64 j] 33 :: .row 44 2 (.slice (some ⟨g, off, none⟩) b0 c) b0 ((bikeN 44 3).heads ps) :: (ps.map (bikeN 44 3).inner ++ R)) wc) := Lib.hid (by
        have h := HS.out.nil 3 1
        unfold Nest.own at h
        rw [hn] at h
        exact h)
       have HI1 := Lib.hid (And.intro hi1 (And.intro hz1 (And.intro hzz hbb)))
       clear hi1 hz1 hzz hbb
       go_wp2_with (at_builtin; refine stopHere ?_)
       show wpList _ _ _ _ _ _
       refine wpList_append_sl rfl _ _ 27 rfl HSN.out 2 i1 (.agg #[.int .i64 0, .slice none 0 0]) 2 32 Try.underlying27 HI1.out.1 HI1.out.2.1 HI1.out.2.2.1 HI1.out.2.2.2 rfl (by decide) _ _ 1 _ rfl rfl _ rfl rfl (by decide) rfl (by simp [Value.oneCell']) (by omega) (by decide) ?_
       intro v' w7 hS7 hz7
       obtain ⟨A', c', rfl, _, _⟩ := (hS7.row 2 rfl).slice_
       have HS7 : Hid (SL W B ([.blk nb #[.int .i64 kd, .int .i64 (k : Int), .int .i64 (i0 : Int), .int .i64 (b0 : Int), .int .i64 j] 33] ++ ((bikeN 44 3).own (.slice A' (b0 + 1) c') (ps ++ [((⟨ss, []⟩ : BikeV), .slice none 0 0)]) ++ R)) w7) := Lib.hid (SL.nestSnoc (P := [.blk nb #[.int .i64 kd, .int .i64 (k : Int), .int .i64 (i0 : Int), .int .i64 (b0 : Int), .int .i64 j] 33]) (by rw [hn]; exact hS7))
       clear hS7 HSN HS hz7
       go_wp2_with fail
       go_meet
       refine ⟨_, _, b0 + 1, _, rfl, by rw [List.length_append, hn]; rfl, by omega, by omega, by omega, Lib.hid ⟨by rw [List.map_append, HBS.out, HM2.out]; rfl, fun q hq => ?_⟩, HS7.out⟩
       rcases List.mem_append.1 hq with hq | hq
       · exact HL.out q hq
       · rw [List.mem_singleton.1 hq]; exact Nat.zero_le _
     · have hbe : ((b0 : Int) == (n : Int)) = false := by rw [beq_eq_false_iff_ne]; omega
       have HM2 : Hid (mo = bs) := Lib.hid (by rw [HMO.out, if_neg (by omega)])
       go_wp2_with fail
       go_meet
       exact ⟨_, _, n, ps, rfl, hn, by omega, by omega, by omega, Lib.hid ⟨by rw [HM2.out, HBS.out], HL.out⟩, HS.out⟩
    case rest =>
     obtain ⟨A', c', n', ps', rfl, hn', hk', hb', hn9, HP, hS'⟩ := hcut
     clear x0 y1 y3 HS
     have hkp : k < ps'.length := by omega
     obtain ⟨g', off', rfl⟩ := own_addr hS' hn' (by omega)
     have hmk : ps'[k].1 = ⟨ss, s⟩ := by
      have h1 : (ps'.map (·.1))[k]? = some ps'[k].1 := by rw [List.getElem?_map, List.getElem?_eq_getElem hkp]; rfl
      have h2 : bs[k]? = some ⟨ss, s⟩ := by
       rw [← HBS.out, List.getElem?_map, List.getElem?_eq_getElem hkn, ← HPK.out.1, ← HPK.out.2]; rfl
      have h3 : mo[k]? = some ⟨ss, s⟩ := by
       rw [HMO.out]
       split
       · rw [List.getElem?_append_left (by omega)]; exact h2
       · exact h2
      rw [HP.out.1, h3] at h1
      exact (Option.some.inj h1).symm
     obtain ⟨ak, ck, hv0, hcap⟩ := own_val hkp hS'
     have hrow := own_row hkp [.blk nb #[.int .i64 kd, .int .i64 (k : Int), .int .i64 (i0 : Int), .int .i64 (b0 : Int), .int .i64 j] 33] R (T := 44) (t := 3) (v := .slice (some ⟨g', off', none⟩) n' c') hv0
     rw [hmk] at hv0 hcap hrow
     have hv1 : ps'[k].2 = .slice ak s.length ck := hv0
     have hcap' : s.length ≤ ck := hcap
     obtain ⟨gk, ok, rfl⟩ := own_vaddr hkp hS' hv1 (by rw [hmk]; show 0 < s.length; omega)
     have s1 : ∀ w' : World, (Instr.slice 42 (.slice (some ⟨gk, ok, none⟩) s.length ck) (some (.int .i64 (i0 : Int))) (some (.int .i64 ((i0 : Int) + (many : Int)))) none).run Try.prog w' = .ok (.slice (some ⟨gk, ok + i0, none⟩) many (ck - i0)) w' := fun w' => by
      rw [run_slice_lh (P := Try.prog) w' 42 _ _ _ intsT_elem _ _ _ _ (by omega) (by omega) (by omega), intsT_size]
      have e1 : ((i0 : Int) + many).toNat = i0 + many := by omega
      simp only [Result.andThen_ok, sliced, Int.toNat_natCast, e1]
      rw [if_neg (by omega), Nat.add_sub_cancel_left]
      by_cases h0 : i0 = 0
      · rw [h0]; simp [Addr.add]
      · simp [Addr.add]; omega
     have HROW := Lib.hid hrow
     have HPT := Lib.hid (fun (wx : World) (h : SL W B ([.blk nb #[.int .i64 kd, .int .i64 (k : Int), .int .i64 (i0 : Int), .int .i64 (b0 : Int), .int .i64 j] 33] ++ ((bikeN 44 3).own (.slice (some ⟨g', off', none⟩) n' c') ps' ++ R)) wx) => reads_part (h.reads _ hrow) i0 many him)
     have HS2 := Lib.hid hS'
     have hd2 : ((s.drop i0).take many).length = many := by rw [List.length_take, List.length_drop]; omega
     clear hrow hS' hcap
     go_upto_region 5 with fail
     refine wp_region_sl [0,1,2,3,4,5,6,7,8,9,10,11,12] [13] [14] _ HS2.out (List.Sublist.refl _) (by kernel_rfl) (by kernel_rfl) (.cons rfl .nil) (fun C cw _ hC => ?_)
     have q1 : ∀ d, (cw d).cell? ⟨nb, 1, none⟩ = some (.int .i64 (k : Int)) := fun d => (hC d).cell 0 rfl 1 rfl
     have q2 : ∀ d, (cw d).cell? ⟨nb, 2, none⟩ = some (.int .i64 (i0 : Int)) := fun d => (hC d).cell 0 rfl 2 rfl
     have qa : ∀ d, (cw d).cell? ⟨g', off' + k * 2 + 1, none⟩ = some (.slice (some ⟨gk, ok, none⟩) s.length ck) := fun d => by rw [own_sl hn' hkp (hC d), hv1]
     repeat (refine pl_look rfl rfl rfl (fun Kv hK => ?_); go_big_quiet_op; refine hK _ ?_; clear hK Kv)
     clear q1 q2 qa hC HS2
     refine pl_end ?_
     intro w4 hS4
     refine pm_eff rfl rfl fun Kv hK => ?_
     go_simp
     refine eff_call (cloneInt (some ⟨gk, ok + i0, none⟩) many (ck - i0) (((s.drop i0).take many).map (.int .i64)) w4 (HPT.out w4 hS4) (ints_one _ _) (by omega)) (fun e w5 h => ?_)
     obtain ⟨v5, rfl, hq⟩ := h
     obtain ⟨A5, c5, rfl, _, _⟩ := (hq.row 0 rfl).slice_
     have hS5 := hS4.join hq
     clear hq
     left
     refine ⟨_, rfl, hS5.tail, hK _ _ ?_⟩
     clear hK Kv hS4 s1 HROW HPT
     refine pm_end ?_
     obtain ⟨go1, hgo1⟩ : ∃ go1, (s.drop i0).take many = go1 := ⟨_, rfl⟩
     rw [hgo1] at hS5 hd2 HE
     have HS5 : Hid (SL W B ([.row 3 1 (.slice A5 many c5) many (go1.map (.int .i64)), .blk nb #[.int .i64 kd, .int .i64 (k : Int), .int .i64 (i0 : Int), .int .i64 (b0 : Int), .int .i64 j] 33] ++ ((bikeN 44 3).own (.slice (some ⟨g', off', none⟩) n' c') ps' ++ R)) w5) := Lib.hid hS5
     clear hS5
     go_upto_region 6 with fail
     have hS5 := HS5.out
     have hrow := own_row hkp [.row 3 1 (.slice A5 many c5) many (go1.map (.int .i64)), .blk nb #[.int .i64 kd, .int .i64 (k : Int), .int .i64 (i0 : Int), .int .i64 (b0 : Int), .int .i64 j] 33] R (T := 44) (t := 3) (v := .slice (some ⟨g', off', none⟩) n' c') hv0
     rw [hmk] at hrow
     have HDL := Lib.hid (fun (wx : World) (h : SL W B ([.row 3 1 (.slice A5 many c5) many (go1.map (.int .i64)), .blk nb #[.int .i64 kd, .int .i64 (k : Int), .int .i64 (i0 : Int), .int .i64 (b0 : Int), .int .i64 j] 33] ++ ((bikeN 44 3).own (.slice (some ⟨g', off', none⟩) n' c') ps' ++ R)) wx) => delete_cells W B _ wx _ s.length ck gk ok i0 many (s.map (.int .i64)) h hrow (ints_one _ _) him hm0 (by omega))
     have hrs : [.row 3 1 (.slice A5 many c5) many (go1.map (.int .i64)), .blk nb #[.int .i64 kd, .int .i64 (k : Int), .int .i64 (i0 : Int), .int .i64 (b0 : Int), .int .i64 j] 33, .row 44 2 (.slice (some ⟨g', off', none⟩) n' c') n' ((bikeN 44 3).heads ps')].Sublist ([.row 3 1 (.slice A5 many c5) many (go1.map (.int .i64)), .blk nb #[.int .i64 kd, .int .i64 (k : Int), .int .i64 (i0 : Int), .int .i64 (b0 : Int), .int .i64 j] 33] ++ ((bikeN 44 3).own (.slice (some ⟨g', off', none⟩) n' c') ps' ++ R)) := by
      rw [own_cons hn']; exact .cons_cons _ (.cons_cons _ (.cons_cons _ (List.nil_sublist _)))
     refine wp_region_sl [0,1,2,3,4,5,6,7,8,9,10,11,12,13,14] [15] [16,17,18] _ hS5 hrs (by kernel_rfl) (by kernel_rfl) (.cons rfl (.cons rfl (.cons rfl .nil))) (fun C cw _ hC => ?_)
     have q1 : ∀ d, (cw d).cell? ⟨nb, 1, none⟩ = some (.int .i64 (k : Int)) := fun d => (hC d).cell 1 rfl 1 rfl
     have q2 : ∀ d, (cw d).cell? ⟨nb, 2, none⟩ = some (.int .i64 (i0 : Int)) := fun d => (hC d).cell 1 rfl 2 rfl
     have qa : ∀ d, (cw d).cell? ⟨g', off' + k * 2 + 1, none⟩ = some (.slice (some ⟨gk, ok, none⟩) s.length ck) := fun d => by rw [heads_sl (hC d) 2 rfl hkp, hv1]
     repeat (refine pl_look rfl rfl rfl (fun Kv hK => ?_); go_big_quiet_op; refine hK _ ?_; clear hK Kv)
     clear q1 q2 qa hC HS5 hS5
     refine pl_end ?_
     intro w6 hS6
     refine pm_eff rfl rfl fun Kv hK => ?_
     go_simp
     refine eff_call (HDL.out w6 hS6) (fun e w7 h => ?_)
     obtain ⟨rfl, hS7⟩ := h
     left
     refine ⟨_, rfl, ?_, hK _ _ ?_⟩
     · have h := hS7
       rw [own_cons hn', own_left] at h
       exact h.sub (.cons_cons _ (.cons_cons _ (.cons_cons _ (List.nil_sublist _))))
     clear hK Kv hS6 HDL
     refine pm_end ?_
     obtain ⟨s2, hs2⟩ : ∃ s2, s.take i0 ++ s.drop (i0 + many) = s2 := ⟨_, rfl⟩
     have hs2l : s2.length = s.length - many := by rw [← hs2, List.length_append, List.length_take, List.length_drop]; omega
     rw [← List.map_take, ← List.map_drop, ← List.map_append, hs2, ← hs2l] at hS7
     rw [← hs2l]
     rw [hs2] at HLE
     clear hs2
     have hS8 := own_turn hn' hkp s2 (.slice (some ⟨gk, ok, none⟩) s2.length ck) hS7
     have h7 : SL W B ([.row 3 1 (.slice A5 many c5) many (go1.map (.int .i64)), .blk nb #[.int .i64 kd, .int .i64 (k : Int), .int .i64 (i0 : Int), .int .i64 (b0 : Int), .int .i64 j] 33, .row 44 2 (.slice (some ⟨g', off', none⟩) n' c') n' ((bikeN 44 3).heads ps')]) w7 := by
      have h := hS7
      rw [own_cons hn', own_left] at h
      exact h.sub (.cons_cons _ (.cons_cons _ (.cons_cons _ (List.nil_sublist _))))
     have z1 : w7.cell? ⟨g', off' + k * 2 + 1, none⟩ = some (.slice (some ⟨gk, ok, none⟩) s.length ck) := by rw [heads_sl h7 2 rfl hkp, hv1]
     have z2 := h7.rowFree 2 rfl (off' + k * 2 + 1) (by omega)
     rw [show ps'[k].1.sat = ss by rw [hmk]] at hS8
     have HBS2 : Hid ((ps'.set k (⟨ss, s2⟩, .slice (some ⟨gk, ok, none⟩) s2.length ck)).map (·.1) = less bs ⟨kd, (k : Int), (i0 : Int), (b0 : Int), j⟩ many) := Lib.hid (by
      have h := put_map ps' hkp s2 (.slice (some ⟨gk, ok, none⟩) s2.length ck)
      rw [show ps'[k].1.sat = ss by rw [hmk]] at h
      rw [h, HLE.out, HP.out.1])
     have HL2 : Hid (∀ q ∈ (ps'.set k (⟨ss, s2⟩, .slice (some ⟨gk, ok, none⟩) s2.length ck)), q.1.stops.length ≤ 100000) := Lib.hid (fun q hq => by
      rcases List.mem_or_eq_of_mem_set hq with hq | rfl
      · exact HP.out.2 q hq
      · show s2.length ≤ 100000
        omega)
     obtain ⟨p6, hp6⟩ : ∃ p6, ps'.set k ((⟨ss, s2⟩ : BikeV), .slice (some ⟨gk, ok, none⟩) s2.length ck) = p6 := ⟨_, rfl⟩
     have hn6 : p6.length = n' := by rw [← hp6, List.length_set]; exact hn'
     rw [hp6] at hS8 HBS2 HL2
     have HS8 := Lib.hid hS8
     have HS2L := Lib.hid hs2l
     clear hS7 hS8 h7 hp6 HP hs2l
     go_upto_region 7 with fail
     clear z1 z2
     generalize (w7.setCell ⟨g', off' + k * 2 + 1, none⟩ (.slice (some ⟨gk, ok, none⟩) s2.length ck)) = w8 at *
     obtain ⟨b6, hb6⟩ : ∃ b6, p6.map (·.1) = b6 := ⟨_, rfl⟩
     rw [hb6] at HBS2
     rw [← HBS2.out] at HE
     have hb6l : b6.length = n' := by rw [← hb6, List.length_map]; exact hn6
     have hsB6 : ∀ b ∈ b6, b.stops.length ≤ 1000000 := fun b hb => by
      rw [← hb6] at hb
      obtain ⟨q, hq, rfl⟩ := List.mem_map.1 hb
      have := HL2.out q hq
      omega
     have HBH : Hid (Calls Try.prog 35 #[.slice (some ⟨g', off', none⟩) n' c', .int .i64 (b0 : Int), .int .i64 j] w8 fun e w' => e = .returned (.bool (behindB b6 (b0 : Int) j)) ∧ w8 = w') := Lib.hid (by
      have h := behind_any (some ⟨g', off', none⟩) c' b6 (b0 : Int) j w8 (by rw [← hb6]; exact own_bikes hn6 HS8.out) (by omega) hsB6
      rw [hb6l] at h; exact h)
     have y3 : w8.cell? ⟨nb, 3, none⟩ = some (.int .i64 (b0 : Int)) := HS8.out.cell 1 rfl 3 rfl
     have y4 : w8.cell? ⟨nb, 4, none⟩ = some (.int .i64 j) := HS8.out.cell 1 rfl 4 rfl
     clear hsB6
     cases hbh : behindB b6 (b0 : Int) j with
     | false =>
       rw [hbh, if_pos rfl] at HE
       rw [hbh] at HBH
       clear hbh
       go_wp2_with (go_at_call 35; (with_reducible refine HBH.out.mono ?_); rintro e wn ⟨rfl, rfl⟩)
       go_ret2
       exact else_none HE.out (HS8.out.tail.tail.sub (List.sublist_append_right _ _))
     | true =>
       rw [hbh, if_neg (by simp)] at HE
       rw [hbh] at HBH
       unfold behindB at hbh
       simp only [Bool.and_eq_true, decide_eq_true_eq] at hbh
       obtain ⟨_, hj0, hj1⟩ := hbh
       obtain ⟨j0, rfl⟩ : ∃ j0 : Nat, j = j0 := ⟨j.toNat, by omega⟩
       go_upto_region 9 with (go_at_call 35; (with_reducible refine HBH.out.mono ?_); rintro e wn ⟨rfl, rfl⟩)
       have hbp : b0 < p6.length := by omega
       have hbb : b0 < b6.length := by omega
       have hst6 : stopsAt b6 (b0 : Int) = p6[b0].1.stops := by rw [stopsAt_lt hbb]; subst hb6; simp
       rw [hst6] at hj1 HE
       simp only [Int.toNat_natCast] at HE
       have hLb := HL2.out _ (List.getElem_mem hbp)
       obtain ⟨ab, cb, hvb, _⟩ := own_val hbp HS8.out
       have HRB := Lib.hid (own_row hbp [.row 3 1 (.slice A5 many c5) many (go1.map (.int .i64)), .blk nb #[.int .i64 kd, .int .i64 (k : Int), .int .i64 (i0 : Int), .int .i64 (b0 : Int), .int .i64 (j0 : Int)] 33] R (T := 44) (t := 3) (v := .slice (some ⟨g', off', none⟩) n' c') hvb)
       have HPM := Lib.hid (fun (l : List Int) (v : Value) => put_map p6 hbp l v)
       obtain ⟨t, ht⟩ : ∃ t, p6[b0].1.stops = t := ⟨_, rfl⟩
       have HTS := Lib.hid ht
       rw [ht] at hj1 HE hLb hvb HRB
       obtain ⟨m, hm⟩ : ∃ m, t.length = m := ⟨_, rfl⟩
       have HTM := Lib.hid hm
       rw [hm] at hj1 hLb hvb HRB
       have hj2 : j0 ≤ m := by omega
       clear hst6 hbb ht hm
       have HIN := Lib.hid (fun (wx : World) (h : SL W B ([.row 3 1 (.slice A5 many c5) many (go1.map (.int .i64)), .blk nb #[.int .i64 kd, .int .i64 (k : Int), .int .i64 (i0 : Int), .int .i64 (b0 : Int), .int .i64 (j0 : Int)] 33] ++ ((bikeN 44 3).own (.slice (some ⟨g', off', none⟩) n' c') p6 ++ R)) wx) => insert_any W B _ wx _ 0 m many cb c5 j0 ab A5 (t.map (.int .i64)) (go1.map (.int .i64)) h HRB.out rfl (by show 2 + (b0 + 1) ≠ 0; omega) (ints_one _ _) (ints_one _ _) hj2 hm0 (by omega))
       have hrs : [.row 3 1 (.slice A5 many c5) many (go1.map (.int .i64)), .blk nb #[.int .i64 kd, .int .i64 (k : Int), .int .i64 (i0 : Int), .int .i64 (b0 : Int), .int .i64 (j0 : Int)] 33, .row 44 2 (.slice (some ⟨g', off', none⟩) n' c') n' ((bikeN 44 3).heads p6)].Sublist ([.row 3 1 (.slice A5 many c5) many (go1.map (.int .i64)), .blk nb #[.int .i64 kd, .int .i64 (k : Int), .int .i64 (i0 : Int), .int .i64 (b0 : Int), .int .i64 (j0 : Int)] 33] ++ ((bikeN 44 3).own (.slice (some ⟨g', off', none⟩) n' c') p6 ++ R)) := by
        rw [own_cons hn6]; exact .cons_cons _ (.cons_cons _ (.cons_cons _ (List.nil_sublist _)))
       refine wp_region_sl [0,1,2,3,4,5,6,7,8,9,10,11] [12] [13,14,15] _ HS8.out hrs (by kernel_rfl) (by kernel_rfl) (.cons rfl (.cons rfl (.cons rfl .nil))) (fun C cw _ hC => ?_)
       have q1 : ∀ d, (cw d).cell? ⟨nb, 3, none⟩ = some (.int .i64 (b0 : Int)) := fun d => (hC d).cell 1 rfl 3 rfl
       have q2 : ∀ d, (cw d).cell? ⟨nb, 4, none⟩ = some (.int .i64 (j0 : Int)) := fun d => (hC d).cell 1 rfl 4 rfl
       have qa : ∀ d, (cw d).cell? ⟨g', off' + b0 * 2 + 1, none⟩ = some (.slice ab m cb) := fun d => by rw [heads_sl (hC d) 2 rfl hbp, hvb]
       repeat (refine pl_look rfl rfl rfl (fun Kv hK => ?_); go_big_quiet_op; refine hK _ ?_; clear hK Kv)
       clear q1 q2 qa hC HS8 HBH y3 y4 hrs
       refine pl_end ?_
       intro w10 hS10
       refine pm_eff rfl rfl fun Kv hK => ?_
       go_simp
       refine eff_call (HIN.out w10 hS10) (fun e w11 h => ?_)
       obtain ⟨v9, rfl, hS9⟩ := h
       have hS9' : SL W B ([.row 3 1 (.slice A5 many c5) many (go1.map (.int .i64)), .blk nb #[.int .i64 kd, .int .i64 (k : Int), .int .i64 (i0 : Int), .int .i64 (b0 : Int), .int .i64 (j0 : Int)] 33] ++ (.row 44 2 (.slice (some ⟨g', off', none⟩) n' c') n' ((bikeN 44 3).heads p6) :: ((p6.map (bikeN 44 3).inner ++ R).set b0 (.row 3 1 v9 (m + many) ((t.map (.int .i64)).take j0 ++ go1.map (.int .i64) ++ (t.map (.int .i64)).drop j0))))) w11 := by
        have h := hS9
        rw [own_cons hn6, own_left] at h
        exact h
       have h11 := hS9'.sub (l' := [.row 3 1 (.slice A5 many c5) many (go1.map (.int .i64)), .blk nb #[.int .i64 kd, .int .i64 (k : Int), .int .i64 (i0 : Int), .int .i64 (b0 : Int), .int .i64 (j0 : Int)] 33, .row 44 2 (.slice (some ⟨g', off', none⟩) n' c') n' ((bikeN 44 3).heads p6)]) (.cons_cons _ (.cons_cons _ (.cons_cons _ (List.nil_sublist _))))
       obtain ⟨A9, c9, rfl, _, _⟩ := (hS9'.row (b0 + 3) (by
        rw [show b0 + 3 = 2 + (b0 + 1) by omega]
        show ([_, _] ++ (_ :: _))[2 + (b0 + 1)]? = _
        rw [List.getElem?_append_right (by show 2 ≤ _; omega)]
        show (_ :: _)[2 + (b0 + 1) - 2]? = _
        rw [Nat.add_sub_cancel_left, List.getElem?_cons_succ, List.getElem?_set_self (by rw [List.length_append, List.length_map]; omega)])).slice_
       left
       refine ⟨_, rfl, h11, hK _ _ ?_⟩
       clear hK Kv hS10 HIN hS9'
       refine pm_end ?_
       obtain ⟨t2, ht2⟩ : ∃ t2, t.take j0 ++ go1 ++ t.drop j0 = t2 := ⟨_, rfl⟩
       have ht2l : t2.length = m + many := by rw [← ht2, List.length_append, List.length_append, List.length_take, List.length_drop, hd2, HTM.out]; omega
       rw [← List.map_take, ← List.map_drop, ← List.map_append, ← List.map_append, ht2, ← ht2l] at hS9
       rw [← ht2l]
       rw [ht2] at HE
       have hS12 := own_turn hn6 hbp t2 _ hS9
       have z1 : w11.cell? ⟨g', off' + b0 * 2 + 1, none⟩ = some (.slice ab m cb) := by rw [heads_sl h11 2 rfl hbp, hvb]
       have z2 := h11.rowFree 2 rfl (off' + b0 * 2 + 1) (by omega)
       have HEE : Hid (elseM bs ⟨kd, (k : Int), (i0 : Int), (b0 : Int), (j0 : Int)⟩ many = some ((p6.set b0 (⟨p6[b0].1.sat, t2⟩, .slice A9 t2.length c9)).map (·.1))) := Lib.hid (by
        rw [HE.out, HPM.out, hb6])
       obtain ⟨p9, hp9⟩ : ∃ p9, p6.set b0 ((⟨p6[b0].1.sat, t2⟩ : BikeV), .slice A9 t2.length c9) = p9 := ⟨_, rfl⟩
       rw [hp9] at hS12 HEE
       have HS12 := Lib.hid hS12
       clear hS9 hS12 h11 hp9 ht2l ht2 HRB
       go_wp2_with fail
       go_ret2
       exact else_some HEE.out HS12.out.tail.tail
end Go.Proofs.Ytpbhbmdghafkmaa
