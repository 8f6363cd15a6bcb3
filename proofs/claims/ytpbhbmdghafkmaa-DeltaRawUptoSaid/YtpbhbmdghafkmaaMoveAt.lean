/- move.at, move.behind, move.copied. (printed by gen/moveat.py) -/
import Derived.Test.YtpbhbmdghafkmaaMoveP
import Derived.Test.YtpbhbmdghafkmaaPlanClone
namespace Go.Proofs.Ytpbhbmdghafkmaa
open Go.ChangeShapes Go.WideShapes Go.ChangeAt Go.RowKit
set_option linter.unusedVariables false
set_option maxRecDepth 100000 in
theorem at_any (A : Option Addr) (c : Nat) (bs : List BikeV) (a i : Int) (w : World) (hB : Bikes w w.heap.size A bs) (hl : bs.length ≤ 1000000) (hs : ∀ b ∈ bs, b.stops.length ≤ 1000000) :
 Calls Try.prog 32 #[.slice A bs.length c, .int .i64 a, .int .i64 i] w fun e w' => e = .returned (.bool (atB bs a i)) ∧ w = w' := by
 by_cases z1 : 0 ≤ a
 case neg =>
  have HV : Hid (atB bs a i = false) := Lib.hid (by unfold atB; rw [decide_eq_false (by omega)]; rfl)
  have z1b : a < 0 := by omega
  clear z1 hB
  go_enter Try.func32, Try.ntmps32
  go_wp2
  go_ret
  exact ⟨retBool (by rw [HV.out]), rfl⟩
 case pos =>
 by_cases z2 : a < (bs.length : Int)
 case neg =>
  have HV : Hid (atB bs a i = false) := Lib.hid (by unfold atB; rw [decide_eq_false (by omega)]; rfl)
  have z2b : (bs.length : Int) ≤ a := by omega
  have z2c : decide (a < (bs.length : Int)) = false := decide_eq_false z2
  clear z2 hB
  go_enter Try.func32, Try.ntmps32
  go_wp2
  go_ret
  exact ⟨retBool (by rw [HV.out]), rfl⟩
 case pos =>
 by_cases z3 : 0 ≤ i
 case neg =>
  have HV : Hid (atB bs a i = false) := Lib.hid (by unfold atB; rw [decide_eq_false (p := 0 ≤ i ∧ _) (by omega)]; simp)
  have z3b : i < 0 := by omega
  clear z3 hB
  go_enter Try.func32, Try.ntmps32
  go_wp2
  go_ret
  exact ⟨retBool (by rw [HV.out]), rfl⟩
 case pos =>
 obtain ⟨k, rfl⟩ : ∃ k : Nat, a = k := ⟨a.toNat, by omega⟩
 have hk : k < bs.length := by omega
 obtain ⟨b, o, ad, cc, hA, hb, d0, d1, _⟩ := bikes_at hB hk
 have hsl := hs _ (List.getElem_mem hk)
 have HV : Hid (atB bs k i = decide (i < (bs[k].stops.length : Int))) := Lib.hid (by unfold atB; rw [decide_eq_true ⟨z1, z2⟩, stopsAt_lt hk, Bool.true_and]; simp [z3])
 obtain ⟨L, hL⟩ : ∃ L, bs[k].stops.length = L := ⟨_, rfl⟩
 rw [hL] at d1 HV hsl
 subst hA
 obtain ⟨n, hn⟩ : ∃ n, bs.length = n := ⟨_, rfl⟩
 rw [hn] at hk hl z2 ⊢
 obtain ⟨vb, hvb⟩ : ∃ vb, atB bs k i = vb := ⟨_, rfl⟩
 rw [hvb] at HV ⊢
 clear hL hs hB hn hvb
 go_enter Try.func32, Try.ntmps32
 go_wp2
 go_ret
 exact ⟨retBool (by rw [HV.out]), rfl⟩
set_option maxRecDepth 100000 in
theorem behind_any (A : Option Addr) (c : Nat) (bs : List BikeV) (a i : Int) (w : World) (hB : Bikes w w.heap.size A bs) (hl : bs.length ≤ 1000000) (hs : ∀ b ∈ bs, b.stops.length ≤ 1000000) :
 Calls Try.prog 35 #[.slice A bs.length c, .int .i64 a, .int .i64 i] w fun e w' => e = .returned (.bool (behindB bs a i)) ∧ w = w' := by
 by_cases z1 : 0 ≤ a
 case neg =>
  have HV : Hid (behindB bs a i = false) := Lib.hid (by unfold behindB; rw [decide_eq_false (by omega)]; rfl)
  have z1b : a < 0 := by omega
  clear z1 hB
  go_enter Try.func35, Try.ntmps35
  go_wp2
  go_ret
  exact ⟨retBool (by rw [HV.out]), rfl⟩
 case pos =>
 by_cases z2 : a < (bs.length : Int)
 case neg =>
  have HV : Hid (behindB bs a i = false) := Lib.hid (by unfold behindB; rw [decide_eq_false (by omega)]; rfl)
  have z2b : (bs.length : Int) ≤ a := by omega
  have z2c : decide (a < (bs.length : Int)) = false := decide_eq_false z2
  clear z2 hB
  go_enter Try.func35, Try.ntmps35
  go_wp2
  go_ret
  exact ⟨retBool (by rw [HV.out]), rfl⟩
 case pos =>
 by_cases z3 : 0 ≤ i
 case neg =>
  have HV : Hid (behindB bs a i = false) := Lib.hid (by unfold behindB; rw [decide_eq_false (p := 0 ≤ i ∧ _) (by omega)]; simp)
  have z3b : i < 0 := by omega
  clear z3 hB
  go_enter Try.func35, Try.ntmps35
  go_wp2
  go_ret
  exact ⟨retBool (by rw [HV.out]), rfl⟩
 case pos =>
 obtain ⟨k, rfl⟩ : ∃ k : Nat, a = k := ⟨a.toNat, by omega⟩
 have hk : k < bs.length := by omega
 obtain ⟨b, o, ad, cc, hA, hb, d0, d1, _⟩ := bikes_at hB hk
 have hsl := hs _ (List.getElem_mem hk)
 have HV : Hid (behindB bs k i = decide (i ≤ (bs[k].stops.length : Int))) := Lib.hid (by unfold behindB; rw [decide_eq_true ⟨z1, z2⟩, stopsAt_lt hk, Bool.true_and]; simp [z3])
 obtain ⟨L, hL⟩ : ∃ L, bs[k].stops.length = L := ⟨_, rfl⟩
 rw [hL] at d1 HV hsl
 subst hA
 obtain ⟨n, hn⟩ : ∃ n, bs.length = n := ⟨_, rfl⟩
 rw [hn] at hk hl z2 ⊢
 obtain ⟨vb, hvb⟩ : ∃ vb, behindB bs k i = vb := ⟨_, rfl⟩
 rw [hvb] at HV ⊢
 clear hL hs hB hn hvb
 go_enter Try.func35, Try.ntmps35
 go_wp2
 go_ret
 exact ⟨retBool (by rw [HV.out]), rfl⟩
def CopyPost (W : World) (bs : List BikeV) (e : Ending) (w' : World) : Prop :=
 ∃ v ps, e = .returned v ∧ ps.map (·.1) = bs ∧ SL W W.heap.size ((bikeN 44 3).own v ps) w'
set_option maxRecDepth 100000 in
theorem copied_any (A : Option Addr) (c : Nat) (bs : List BikeV) (w : World) (hB : Bikes w w.heap.size A bs) (hl : bs.length ≤ 100000) (hs : (allStops bs).length ≤ 100000) :
 Calls Try.prog 30 #[.slice A bs.length c] w (CopyPost w bs) := by
 have HC : Hid (Calls Try.prog 44 #[.agg #[.slice none 0 0, .slice A bs.length c]] w (ClonePost w ⟨[], bs⟩)) := Lib.hid (planClone_any none A 0 c ⟨[], bs⟩ w ⟨⟨fun _ => ⟨none, 0⟩, ⟨rfl, fun h => absurd h (by simp)⟩, fun i hi => absurd hi (by simp)⟩, hB⟩ ⟨by simp, hl, by simp, hs⟩)
 have hfd : ∀ (A1 A2 : Option Addr) (n1 n2 c1 c2 : Nat) (w : World), (Instr.field 39 (.agg #[.slice A1 n1 c1, .slice A2 n2 c2]) 1).run Try.prog w = .ok (.slice A2 n2 c2) w := fun _ _ _ _ _ _ _ => by kernel_rfl
 clear hB hl hs
 go_enter Try.func30, Try.ntmps30
 go_wp2_with (go_at_call 44; (with_reducible refine HC.out.mono ?_); rintro e w2 ⟨vt, vb, ts, ps, rfl, h1, h2, hS⟩
              obtain ⟨At, ct, rfl, _, _⟩ := (own_outer hS (fun r hr => List.mem_append_left _ hr)).slice_
              obtain ⟨Ab, cb, rfl, _, _⟩ := (own_outer hS (fun r hr => List.mem_append_right _ hr)).slice_
              have HP := Lib.hid (And.intro h2 (hS.sub (List.sublist_append_right _ _)))
              clear h1 h2 hS HC)
 go_ret
 exact ⟨_, ps, rfl, HP.out.1, HP.out.2⟩
end Go.Proofs.Ytpbhbmdghafkmaa
