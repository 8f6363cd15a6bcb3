/- The walk of the law SetTells. -/
import Derived.Test.YtoppnalfbgedmaaDoorSetBack
import Derived.Test.YtoppnalfbgedmaaDoorEqual
import Derived.DeepKeys
namespace Go.Proofs.YtoppnalfbgedmaaDoor
open Go.ChangeShapes Go.WideShapes Go.ChangeAt Go.RowKit
set_option linter.unusedVariables false
theorem ones_all (x : Nat) : ones x 64 = (allK x 64).length := by
  unfold ones allK
  rw [List.length_map, List.countP_eq_length_filter]
theorem all_zero : allK 0 64 = [] := by
  unfold allK
  have : (List.range 64).filter (fun i => Nat.testBit 0 i) = [] := by
    rw [List.filter_eq_nil_iff]; intro i _; simp
  rw [this]; rfl
theorem allK_succ (x k : Nat) : allK x (k + 1) = allK x k ++ (if x.testBit k then [(k : Int)] else []) := by
  unfold allK
  rw [List.range_succ, List.filter_append, List.map_append]
  cases h : x.testBit k <;> simp [h]
theorem all_head {x : Nat} (hx : x < 2 ^ 64) (h0 : x ≠ 0) : ∃ r, allK x 64 = (ctz x : Int) :: r := by
  obtain ⟨h64, ht, hl⟩ := ctz_spec hx h0
  have h1 : allK x (ctz x) = [] := by
    rw [allK_skip (Nat.zero_le _) (fun i _ h => hl i h)]; rfl
  have h2 : ∀ n, ctz x + 1 ≤ n → ∃ r, allK x n = (ctz x : Int) :: r := by
    intro n hn
    induction n with
    | zero => omega
    | succ n ih =>
      by_cases e : n = ctz x
      · subst e; exact ⟨[], by rw [allK_succ, h1, ht]; rfl⟩
      · obtain ⟨r, hr⟩ := ih (by omega)
        exact ⟨r ++ (if x.testBit n then [(n : Int)] else []), by rw [allK_succ, hr]; rfl⟩
  exact h2 64 (by omega)
theorem plainBoolT : Tryd.prog.plainKey 4 = true := by kernel_rfl
theorem index_row (x k : Nat) (hk : k < 64) (w : World) : (Instr.index 31 (.agg (arrf (bitv x))) (.int .i64 (k : Int))).run Tryd.prog w = .ok (.bool (bitv x k)) w := by
  have hs : (sizeOf 4).run Tryd.prog w = .ok 1 w := by kernel_rfl
  have hp := run_part_plain (P := Tryd.prog) w plainBoolT (xs := arrf (bitv x)) (off := k * 1) (v := .bool (bitv x k)) (by rw [Nat.mul_one]; exact arrf_get _ k hk)
  have h0 : (0 : Int) ≤ (k : Int) := by omega
  have h1 : (k : Int) < 64 := by omega
  have hk' : (0 : Int) ≤ (k : Int) ∧ (k : Int) < ((64 : Nat) : Int) := ⟨h0, h1⟩
  simp only [Instr.index, asIntOf, Sem.run_bind, Sem.run_pure, Result.andThen_ok, run_underlying Tryd.underlying31, if_pos hk', hs, Int.toNat_natCast, hp]
theorem list_row (x : Nat) (hx : x < 2 ^ 64) : ∃ F : Array Value, Hid (∀ k w, k < 64 → (Instr.index 31 (.agg F) (.int .i64 ((k : Nat) : Int))).run Tryd.prog w = .ok (.bool (bitv x k)) w) ∧
    Hid (∀ w, Calls Tryd.prog 12 #[.int .u64 x] w fun e w' => e = .returned (.agg F) ∧ Below w.heap.size w w') :=
  ⟨arrf (bitv x), fun k w hk => index_row x k hk w, fun w => list_any x w hx⟩
set_option maxHeartbeats 1000000 in
theorem setTells_walk0 (x : Nat) (w : World) (hx : x < 2 ^ 64) (hw : 0 < w.heap.size) (hT : Tab w) :
    Calls Tryd.prog 4 #[.int .u64 x] w fun e w' => e = .returned (.bool true) ∧ Below w.heap.size w w' := by
  obtain ⟨i0, hi0, hz0, hz1, hz2⟩ := info_parts int_infoA
  have HI := Lib.hid (And.intro hi0 (And.intro hz0 (And.intro hz1 hz2)))
  obtain ⟨F, HF, cL⟩ := list_row x hx
  have HX := Lib.hid hx
  have HT := Lib.hid hT
  clear hi0 hz0 hz1 hz2 hx hT
  go_enter Tryd.func4, Tryd.ntmps4
  go_wp2_with (first
    | (go_at_call 5; (with_reducible refine (awake_any _).mono ?_); rintro e w1 ⟨rfl, hb1⟩
       have HB1 := Lib.hid hb1
       clear hb1)
    | (go_at_call 12; (with_reducible refine (cL.out _).mono ?_); rintro e w2 ⟨rfl, hb2⟩
       have HB2 : Hid (Below w.heap.size w w2) := HB1.out.trans (hb2.mono HB1.out.size)
       clear hb2))
  go_loopw [4, 13] (fun v i' wr => ∃ k : Nat, k ≤ 64 ∧ i' = .int .i64 k ∧ wr.ownsRow w2.heap.size 3 1 v (allK x k).length ((allK x k).map (.int .i64)) ∧ Below w2.heap.size w2 wr) (fun _ i' _ => 64 - (intOf i').toNat)
  case atStart => exact ⟨0, by omega, rfl, by exact World.ownsRow_nil _ _ _ _, Below.refl _ _⟩
  case round =>
    obtain ⟨k, hk, rfl, hown, hB⟩ := hrel
    have hol := allK_len x k
    have hzz := hB.size
    by_cases hlt : k < 64
    · have hix := fun w' => HF.out k w' hlt
      cases hb : bitv x k
      · have HR : Hid (allK x (k + 1) = allK x k) := Lib.hid (by rw [allK_succ, show x.testBit k = false from hb]; simp)
        rw [hb] at hix
        have HO := Lib.hid hown
        clear hown hb
        go_wp2
        go_roundw
        case rel => exact ⟨k + 1, by omega, by go_num, by rw [HR.out]; exact HO.out, hB⟩
        case measure => simp [intOf]; omega
      · have HR : Hid (allK x (k + 1) = allK x k ++ [(k : Int)]) := Lib.hid (by rw [allK_succ, show x.testBit k = true from hb]; simp)
        rw [hb] at hix
        clear hb
        go_wp2_with (at_builtin; refine wpList_append_new rfl _ _ 26 rfl w2.heap.size i0 (.int .i64 0) 1 8 Tryd.underlying26 HI.out.1 HI.out.2.1 HI.out.2.2.1 HI.out.2.2.2 rfl (by decide) _ _ _ rfl hown _ rfl ?c0 rfl ?c1 ?c2 ?c3 ?c4 ?_)
        case c0 => rfl
        case c1 => simp [Value.oneCell']
        case c2 => omega
        case c3 => omega
        case c4 => exact hzz
        intro v' w' hown' hb' hz'
        have HO := Lib.hid (And.intro hown' hb')
        clear hown' hb' hown
        go_wp2
        go_roundw
        case rel => exact ⟨k + 1, by omega, by go_num, by rw [HR.out]; simpa using HO.out.1, hB.trans HO.out.2⟩
        case measure => simp [intOf]; omega
    · obtain rfl : k = 64 := by omega
      obtain ⟨A, c, rfl, _⟩ := ownsRow_slice hown
      have hrd := reads_own hown
      have HBr : Hid (Below w.heap.size w wr) := HB2.out.trans (hB.mono HB2.out.size)
      have HTr : Hid (Tab wr) := tab_below HT.out HBr.out hw
      have hwr : 0 < wr.heap.size := Nat.lt_of_lt_of_le hw HBr.out.size
      have cLen : Hid (∀ w', Calls Tryd.prog 11 #[.int .u64 x] w' fun e w'' => e = .returned (.int .i64 ((allK x 64).length : Nat)) ∧ w' = w'') := fun w' => by rw [← ones_all]; exact len_any x w' HX.out
      have cAll : Hid (∀ w', Tab w' → 0 < w'.heap.size → Calls Tryd.prog 7 #[.int .u64 x] w' (MadeIntsA w' (allK x 64))) := fun w' h1 h2 => all_any x w' HX.out h1 h2
      have hks : (allK x 64).length ≤ 64 := allK_len x 64
      have cEq : Hid (∀ (A A' : Option Addr) (c c' : Nat) (w' : World), Reads w' w'.heap.size 1 A (allK x 64).length ((allK x 64).map (.int .i64)) → Reads w' w'.heap.size 1 A' (allK x 64).length ((allK x 64).map (.int .i64)) →
          Calls Tryd.prog 14 #[.slice A (allK x 64).length c, .slice A' (allK x 64).length c'] w' fun e w'' => e = .returned (.bool true) ∧ Below w'.heap.size w' w'') := fun A A' c c' w' h1 h2 => equal_ints A A' c c' _ w' h1 h2 (by unfold maxLen; omega)
      have hfst : Hid (∀ w', Tab w' → Calls Tryd.prog 13 #[.int .u64 x] w' fun e w'' => e = .returned (.int .i64 (if x = 0 then -1 else (ctz x : Int))) ∧ w' = w'') := fun w' ht => by
        by_cases h0 : x = 0
        · subst h0; exact first_zero w'
        · rw [if_neg h0]; exact first_pos x w' HX.out h0 ht
      have hcase : ((allK x 64).length = 0 ∧ (if x = 0 then -1 else (ctz x : Int)) = -1) ∨ (0 < (allK x 64).length ∧ ((allK x 64).map (Value.int .i64))[0]? = some (.int .i64 (if x = 0 then -1 else (ctz x : Int)))) := by
        by_cases h0 : x = 0
        · left; subst h0; rw [all_zero]; exact ⟨rfl, rfl⟩
        · right
          obtain ⟨r, hr⟩ := all_head HX.out h0
          rw [hr, if_neg h0]
          exact ⟨by simp, by simp⟩
      have HRD := Lib.hid (And.intro hrd hks)
      clear hown hB hol hzz hlt hk hrd hks
      have cAll2 : Hid (∀ w', Tab w' → 0 < w'.heap.size → Calls Tryd.prog 7 #[.int .u64 x] w' fun e w'' => ∃ A c, e = .returned (.slice A (allK x 64).length c) ∧ Reads w'' w''.heap.size 1 A (allK x 64).length ((allK x 64).map (.int .i64)) ∧ Below w'.heap.size w' w'') := fun w' h1 h2 =>
        (cAll.out w' h1 h2).mono fun e w'' ⟨v, he, ho, hb⟩ => by
          obtain ⟨A, c, rfl, _⟩ := ownsRow_slice ho
          exact ⟨A, c, he, reads_own ho, hb⟩
      clear cAll
      generalize (if x = 0 then -1 else (ctz x : Int)) = fv at *
      generalize (allK x 64).map (Value.int .i64) = vs at *
      generalize (allK x 64).length = n at *
      rcases hcase with ⟨hn, hfv⟩ | ⟨hn, hfv⟩
      · subst hn hfv
        go_wp2_with (first
          | (go_at_call 11; (with_reducible refine (cLen.out _).mono ?_); rintro e w3 ⟨rfl, rfl⟩)
          | (go_at_call 13; (with_reducible refine (hfst.out _ HTr.out).mono ?_); rintro e w3 ⟨rfl, rfl⟩)
          | (go_at_call 7; (with_reducible refine (cAll2.out _ HTr.out hwr).mono ?_); rintro e w3 ⟨A3, c3, rfl, hr3, hb3⟩
             have HR3 := Lib.hid hr3
             have HB3 : Hid (Below w.heap.size w w3) := HBr.out.trans (hb3.mono HBr.out.size)
             have HRW : Hid (Reads w3 w3.heap.size 1 A 0 vs) := reads_more (HRD.out.1.below hb3) hb3.size
             clear hr3 hb3)
          | (go_at_call 14; (with_reducible refine (cEq.out _ _ _ _ _ HR3.out HRW.out).mono ?_); rintro e w4 ⟨rfl, hb4⟩
             have HB4 : Hid (Below w.heap.size w w4) := HB3.out.trans (hb4.mono HB3.out.size)
             clear hb4))
        go_ret
        exact ⟨rfl, HB4.out⟩
      · obtain ⟨b, o, rfl, _, hc⟩ := reads_plain HRD.out.1 hn Nat.one_pos
        have hc0 : wr.cell? ⟨b, o, none⟩ = some (.int .i64 fv) := hc 0 _ hfv
        have hnI : (0 : Int) < (n : Int) := by omega
        clear hc hfv
        go_wp2_with (first
          | (go_at_call 11; (with_reducible refine (cLen.out _).mono ?_); rintro e w3 ⟨rfl, rfl⟩)
          | (go_at_call 13; (with_reducible refine (hfst.out _ HTr.out).mono ?_); rintro e w3 ⟨rfl, rfl⟩)
          | (go_at_call 7; (with_reducible refine (cAll2.out _ HTr.out hwr).mono ?_); rintro e w3 ⟨A3, c3, rfl, hr3, hb3⟩
             have HR3 := Lib.hid hr3
             have HB3 : Hid (Below w.heap.size w w3) := HBr.out.trans (hb3.mono HBr.out.size)
             have HRW : Hid (Reads w3 w3.heap.size 1 (some ⟨b, o, none⟩) n vs) := reads_more (HRD.out.1.below hb3) hb3.size
             clear hr3 hb3)
          | (go_at_call 14; (with_reducible refine (cEq.out _ _ _ _ _ HR3.out HRW.out).mono ?_); rintro e w4 ⟨rfl, hb4⟩
             have HB4 : Hid (Below w.heap.size w w4) := HB3.out.trans (hb4.mono HB3.out.size)
             clear hb4))
        go_ret
        exact ⟨rfl, HB4.out⟩
end Go.Proofs.YtoppnalfbgedmaaDoor
