/- The walk of law DiceWithin: one dice within another. -/
import Derived.Test.YthdjmljoiflkjaaAwake25
import Derived.Laws.EntriesVeiled
namespace Go.Proofs.Ythdjmljoiflkjaa
open Go.ChangeShapes Go.WideShapes Go.ChangeAt Go.RowKit
set_option linter.unusedVariables false
theorem set_at {α : Type} {l : List α} {i : Nat} {x y : α} (h : l[i]? = some x) : (l.set i y)[i]? = some y := by
  have := (List.getElem?_eq_some_iff.1 h).1
  simp [this]
theorem set_same {α : Type} {l : List α} {i : Nat} {x : α} (h : l[i]? = some x) : l.set i x = l := by
  obtain ⟨h1, rfl⟩ := List.getElem?_eq_some_iff.1 h
  exact List.set_getElem_self h1
/-- So many draws: used; or all that there were, and no more. -/
def DrawPost (W : World) (B i bd : Nat) (A : Option Addr) (k c u n : Nat) (l : List Rs) (e : Ending) (w' : World) : Prop :=
  (e = .returned (.tuple #[]) ∧ u + n ≤ k ∧ SL W B (l.set i (.blk bd #[.slice A k c, .int .i64 ((u + n : Nat) : Int)] 68)) w') ∨
  (e = .panicked spentE ∧ k < u + n ∧ SL W B (l.set i (.blk bd #[.slice A k c, .int .i64 (k : Int)] 68)) w')
theorem draw_any (W w : World) (B i bd : Nat) (A : Option Addr) (c u n : Nat) (xs : List Int) (l : List Rs) (hr : Reads W B 1 A xs.length (xs.map (.int .u32))) (hl : xs.length ≤ 60) (hn : n ≤ 70) (hu : u ≤ xs.length) (hi : l[i]? = some (.blk bd #[.slice A xs.length c, .int .i64 (u : Int)] 68)) (hS : SL W B l w) :
    Calls Try.prog 20 #[.pointer (some ⟨bd, 0, none⟩), .int .i64 n] w (DrawPost W B i bd A xs.length c u n l) := by
  have HR := Lib.hid (And.intro hr hi)
  clear hr hi
  go_enter Try.func20, Try.ntmps20
  go_wp2
  go_loopw [5] (fun v wr => ∃ j : Nat, j ≤ n ∧ u + j ≤ xs.length ∧ v = .int .i64 j ∧ SL W B (l.set i (.blk bd #[.slice A xs.length c, .int .i64 ((u + j : Nat) : Int)] 68)) wr) (fun v _ => n - (intOf v).toNat)
  case atStart => exact ⟨0, by omega, by omega, rfl, by rw [Nat.add_zero, set_same HR.out.2]; exact hS⟩
  case round =>
    clear hS
    obtain ⟨j, hj, huj, rfl, hS⟩ := hrel
    have hat := set_at (y := Rs.blk bd #[.slice A xs.length c, .int .i64 ((u + j : Nat) : Int)] 68) HR.out.2
    have hbd := (hS.lt i hat).1
    by_cases hlt : j < n
    · by_cases hul : u + j < xs.length
      · have HN := Lib.hid (next_yes wr bd B A c xs (u + j) (hS.blk i hat) (Reads.below HR.out.1 hS.below) hbd hul (by unfold maxLen; omega))
        have HS := Lib.hid (And.intro hS hat)
        clear hS hat
        go_wp2_with (go_at_call 14; (with_reducible refine HN.out.mono ?_); rintro e w2 ⟨rfl, hg, hd⟩)
        go_roundw
        case rel => exact ⟨j + 1, by omega, by omega, by go_num, by have := HS.out.1.wrote i HS.out.2 hg hd; rw [List.set_set] at this; exact this⟩
        case measure => simp [intOf]; omega
      · have HN := Lib.hid (next_no wr bd A xs.length c (u + j) (hS.blk i hat) (by omega) (by unfold maxLen; omega))
        have HS := Lib.hid (And.intro hS hat)
        clear hS hat
        go_wp2_with (go_at_call 14; (with_reducible refine HN.out.mono ?_); rintro e w2 ⟨rfl, kd, rfl⟩)
        exact ⟨rfl, .inr ⟨rfl, by omega, by have h1 : u + j = xs.length := by omega
                                            have h2 := HS.out.1
                                            rw [h1] at h2
                                            exact h2.call (below_drewN (Below.refl _ _) _)⟩⟩
    · obtain rfl : j = n := by omega
      have HS := Lib.hid hS
      clear hS hat
      go_wp2
      go_end0
      exact .inl ⟨rfl, huj, HS.out⟩
def WiR (l : List Rs) (k n : Nat) (b : Bool) (m : Nat) (l' : List Rs) : Prop := l' = l ∧ m = min k n ∧ b = decide (n ≤ k)
theorem within_in (W w3 : World) (B s db ib : Nat) (A : Option Addr) (c : Nat) (inner : Int) (xs : List Int) (l : List Rs) (i j : Nat) (hr : Reads W B 1 A xs.length (xs.map (.int .u32))) (hl : xs.length ≤ 60) (h0 : 0 ≤ inner) (h1 : inner ≤ 255)
    (hi : l[i]? = some (.blk db #[.func (.func 20) #[] #[]] 41)) (hj : l[j]? = some (.blk ib #[.int .u8 inner] 5))
    (hS : SL W B (.blk (s + 1 + 1 + 1) #[.pointer (some ⟨s + 1 + 1, 0, none⟩)] 28 :: .blk (s + 1 + 1) #[.slice A xs.length c, .int .i64 0] 68 :: .blk (s + 1) #[.bool false] 4 :: .blk s #[.int .i64 0] 3 :: l) w3) :
    Calls Try.prog 22 #[.pointer (some ⟨s + 1 + 1, 0, none⟩), .pointer (some ⟨db, 0, none⟩), .pointer (some ⟨ib, 0, none⟩)] w3 (DoPost W B s A xs.length c (WiR l xs.length (inner % 70).toNat)) := by
  have c0 : w3.cell? ⟨db, 0, none⟩ = some (.func (.func 20) #[] #[]) := hS.cell (i + 4) (by simpa using hi) 0 rfl
  have c1 : w3.cell? ⟨ib, 0, none⟩ = some (.int .u8 inner) := hS.cell (j + 4) (by simpa using hj) 0 rfl
  obtain ⟨n, hn⟩ : ∃ n : Nat, inner % 70 = n := ⟨(inner % 70).toNat, by omega⟩
  have HD := Lib.hid (draw_any W w3 B 1 (s + 1 + 1) A c 0 n xs _ hr hl (by omega) (by omega) rfl hS)
  rw [hn]
  have HN := Lib.hid hn
  clear hi hj hr hS
  go_enter Try.func22, Try.ntmps22
  go_wp2_with fail
  refine HD.out.mono ?_
  rintro e w4 (⟨rfl, hle, hS4⟩ | ⟨rfl, hle, hS4⟩)
  · dsimp only
    have HS := Lib.hid hS4
    clear hS4
    go_wp2
    go_end0
    refine ⟨n, l, by simpa using HS.out, .inl ⟨rfl, rfl, by omega, (decide_eq_true (by omega)).symm⟩⟩
  · exact ⟨rfl, xs.length, l, hS4, .inr ⟨rfl, rfl, by omega, (decide_eq_false (by omega)).symm⟩⟩
/-- What the outer dice leaves. -/
def WoR (l0 : List Rs) (ab nb : Nat) (ki ni ko no : Nat) (b : Bool) (m : Nat) (l' : List Rs) : Prop :=
  l' = .blk nb #[.bool (decide (ni ≤ ki))] 4 :: .blk ab #[.int .i64 (min ki ni : Nat)] 3 :: l0 ∧ m = min ko no ∧ b = decide (no ≤ ko)
set_option maxHeartbeats 1000000 in
theorem within_out (W w3 : World) (B s mb db ib ob ab nb : Nat) (A M : Option Addr) (c mc : Nat) (inner outer : Int) (xs ms : List Int) (hr : Reads W B 1 A xs.length (xs.map (.int .u32))) (hm : Reads W B 1 M ms.length (ms.map (.int .u32))) (hl : xs.length ≤ 60) (hl2 : ms.length ≤ 60) (h0 : 0 ≤ inner) (h1 : inner ≤ 255) (h2 : 0 ≤ outer) (h3 : outer ≤ 255)
    (hS : SL W B (.blk (s + 1 + 1 + 1) #[.pointer (some ⟨s + 1 + 1, 0, none⟩)] 28 :: .blk (s + 1 + 1) #[.slice A xs.length c, .int .i64 0] 68 :: .blk (s + 1) #[.bool false] 4 :: .blk s #[.int .i64 0] 3 ::
      [.blk nb #[.bool false] 4, .blk ab #[.int .i64 0] 3, .blk db #[.func (.func 20) #[] #[]] 41, .blk ob #[.int .u8 outer] 5, .blk ib #[.int .u8 inner] 5, .blk mb #[.slice M ms.length mc] 22]) w3) :
    Calls Try.prog 21 #[.pointer (some ⟨s + 1 + 1, 0, none⟩), .pointer (some ⟨mb, 0, none⟩), .pointer (some ⟨db, 0, none⟩), .pointer (some ⟨ib, 0, none⟩), .pointer (some ⟨ab, 0, none⟩), .pointer (some ⟨nb, 0, none⟩), .pointer (some ⟨ob, 0, none⟩)] w3
      (DoPost W B s A xs.length c (WoR [.blk db #[.func (.func 20) #[] #[]] 41, .blk ob #[.int .u8 outer] 5, .blk ib #[.int .u8 inner] 5, .blk mb #[.slice M ms.length mc] 22] ab nb ms.length (inner % 70).toNat xs.length (outer % 70).toNat)) := by
  have hmf : ∀ (fn : Fn) (first cap : Array Value) (w : World), (Instr.makeFunc fn first cap).run Try.prog w = .ok (.func fn first cap) w := fun _ _ _ _ => rfl
  have c0 : w3.cell? ⟨mb, 0, none⟩ = some (.slice M ms.length mc) := hS.cell 9 rfl 0 rfl
  have HCF : Hid (∀ args w', (callFunc 22 args).run Try.prog w' = .ok (.enter 22 args) w') := Lib.hid (fun _ _ => by simp [go_sem])
  have HT := Lib.hid (try_any 22 #[.pointer (some ⟨db, 0, none⟩), .pointer (some ⟨ib, 0, none⟩)] M ms.length mc W w3 B _ _ (WiR _ ms.length (inner % 70).toNat) rfl hS HCF.out
    (fun w5 hS5 => within_in W w5 B w3.heap.size db ib M mc inner ms _ 6 8 hm hl2 h0 h1 rfl rfl hS5))
  obtain ⟨no, hno⟩ : ∃ n : Nat, outer % 70 = n := ⟨(outer % 70).toNat, by omega⟩
  have hno70 : no ≤ 70 := by omega
  have HR := Lib.hid hr
  have HNO := Lib.hid hno
  clear hS hr hm
  go_enter Try.func21, Try.ntmps21
  go_wp2_with (first
    | (go_at_call 12; (with_reducible refine HT.out.mono ?_); rintro e w4 ⟨b, m, l', rfl, ⟨rfl, hm, hb⟩, hS⟩
       have e0 : w4.cell? ⟨ab, 0, none⟩ = some (.int .i64 0) := hS.cell 5 rfl 0 rfl
       have e1 : w4.cell? ⟨nb, 0, none⟩ = some (.bool false) := hS.cell 4 rfl 0 rfl
       have e2 : w4.cell? ⟨db, 0, none⟩ = some (.func (.func 20) #[] #[]) := hS.cell 6 rfl 0 rfl
       have e3 : w4.cell? ⟨ob, 0, none⟩ = some (.int .u8 outer) := hS.cell 7 rfl 0 rfl
       have f0 := hS.free 5 rfl 0
       have f1 := hS.free 4 rfl 0
       have n0 := hS.ne 4 5 rfl rfl (by omega)
       have n1 := hS.ne 4 6 rfl rfl (by omega)
       have n2 := hS.ne 5 6 rfl rfl (by omega)
       have n3 := hS.ne 4 7 rfl rfl (by omega)
       have n4 := hS.ne 5 7 rfl rfl (by omega)
       have n5 := n0.symm
       have n6 := n1.symm
       have n7 := n2.symm
       have n8 := n3.symm
       have n9 := n4.symm
       have HMB := Lib.hid (And.intro hm hb)
       have HS := Lib.hid ((hS.setCell 5 rfl 0 (.int .i64 m)).setCell 4 rfl 0 (.bool b))
       clear hS HT hm hb))
  have HS1 : Hid (SL W B (.blk (s + 1 + 1 + 1) #[.pointer (some ⟨s + 1 + 1, 0, none⟩)] 28 :: .blk (s + 1 + 1) #[.slice A xs.length c, .int .i64 0] 68 :: .blk (s + 1) #[.bool false] 4 :: .blk s #[.int .i64 0] 3 ::
      [.blk nb #[.bool b] 4, .blk ab #[.int .i64 m] 3, .blk db #[.func (.func 20) #[] #[]] 41, .blk ob #[.int .u8 outer] 5, .blk ib #[.int .u8 inner] 5, .blk mb #[.slice M ms.length mc] 22]) _) := HS
  have HD := Lib.hid (draw_any W _ B 1 (s + 1 + 1) A c 0 no xs _ HR.out hl hno70 (by omega) rfl HS1.out)
  refine HD.out.mono ?_
  rintro e w5 (⟨rfl, hle, hS4⟩ | ⟨rfl, hle, hS4⟩)
  · dsimp only
    have HS4 := Lib.hid hS4
    clear hS4
    go_wp2
    go_end0
    refine ⟨no, _, by simpa using HS4.out, .inl ⟨rfl, ?_, by have := HNO.out; omega, (decide_eq_true (by have := HNO.out; omega)).symm⟩⟩
    rw [HMB.out.1, HMB.out.2]
  · refine ⟨rfl, xs.length, _, hS4, .inr ⟨rfl, ?_, by have := HNO.out; omega, (decide_eq_false (by have := HNO.out; omega)).symm⟩⟩
    rw [HMB.out.1, HMB.out.2]
set_option maxHeartbeats 4000000 in
theorem diceWithin0 (W : World) (A M : Option Addr) (c mc : Nat) (inner outer : Int) (xs ms : List Int) (hr : Reads W W.heap.size 1 A xs.length (xs.map (.int .u32))) (hm : Reads W W.heap.size 1 M ms.length (ms.map (.int .u32))) (hl : xs.length ≤ 60) (hl2 : ms.length ≤ 60) (h0 : 0 ≤ inner) (h1 : inner ≤ 255) (h2 : 0 ≤ outer) (h3 : outer ≤ 255) :
    Calls Try.prog 5 #[.slice A xs.length c, .slice M ms.length mc, .int .u8 inner, .int .u8 outer] W fun e w' => e = .returned (.bool true) ∧ Below W.heap.size W w' := by
  have hmf : ∀ (fn : Fn) (first cap : Array Value) (w : World), (Instr.makeFunc fn first cap).run Try.prog w = .ok (.func fn first cap) w := fun _ _ _ _ => rfl
  have HCF : Hid (∀ args w', (callFunc 21 args).run Try.prog w' = .ok (.enter 21 args) w') := Lib.hid (fun _ _ => by simp [go_sem])
  have HR := Lib.hid (And.intro hr hm)
  clear hr hm
  go_enter Try.func5, Try.ntmps5
  go_wp2_with (first
    | (go_at_call 11; (with_reducible refine (awake25 _).mono ?_); rintro e w2 ⟨rfl, hb2⟩
       have hS2 := ((((SL.start (Nat.le_refl W.heap.size)).alloc #[.slice M ms.length mc] 22).alloc #[.int .u8 inner] 5).alloc #[.int .u8 outer] 5).call hb2
       have c0 : w2.cell? ⟨W.heap.size, 0, none⟩ = some (.slice M ms.length mc) := hS2.cell 2 rfl 0 rfl
       have HS := Lib.hid hS2
       clear hS2 hb2))
  have hS3 := ((HS.out.alloc #[.func (.func 20) #[] #[]] 41).alloc #[.int .i64 0] 3).alloc #[.bool false] 4
  have HS3 : Hid (SL W W.heap.size [.blk (w2.heap.size + 1 + 1) #[.bool false] 4, .blk (w2.heap.size + 1) #[.int .i64 0] 3, .blk w2.heap.size #[.func (.func 20) #[] #[]] 41, .blk (W.heap.size + 1 + 1) #[.int .u8 outer] 5, .blk (W.heap.size + 1) #[.int .u8 inner] 5, .blk W.heap.size #[.slice M ms.length mc] 22] _) := Lib.hid (by simpa using hS3)
  have HT := Lib.hid (try_any 21 #[.pointer (some ⟨W.heap.size, 0, none⟩), .pointer (some ⟨w2.heap.size, 0, none⟩), .pointer (some ⟨W.heap.size + 1, 0, none⟩), .pointer (some ⟨w2.heap.size + 1, 0, none⟩), .pointer (some ⟨w2.heap.size + 1 + 1, 0, none⟩), .pointer (some ⟨W.heap.size + 1 + 1, 0, none⟩)] A xs.length c W _ W.heap.size _ _ (WoR _ (w2.heap.size + 1) (w2.heap.size + 1 + 1) ms.length (inner % 70).toNat xs.length (outer % 70).toNat) rfl HS3.out HCF.out
    (fun w5 hS5 => within_out W w5 W.heap.size _ W.heap.size w2.heap.size (W.heap.size + 1) (W.heap.size + 1 + 1) (w2.heap.size + 1) (w2.heap.size + 1 + 1) A M c mc inner outer xs ms HR.out.1 HR.out.2 hl hl2 h0 h1 h2 h3 hS5))
  clear hS3 c0
  refine HT.out.mono ?_
  rintro e w5 ⟨b, m, l', rfl, ⟨rfl, hm, hb⟩, hS⟩
  obtain ⟨ni, hni⟩ : ∃ n : Nat, inner % 70 = n := ⟨(inner % 70).toNat, by omega⟩
  obtain ⟨no, hno⟩ : ∃ n : Nat, outer % 70 = n := ⟨(outer % 70).toNat, by omega⟩
  have e1 : w5.cell? ⟨w2.heap.size + 1, 0, none⟩ = some (.int .i64 (min ms.length ni : Nat)) := by have := hS.cell 1 rfl 0 rfl; rw [hni] at this; exact this
  have e2 : w5.cell? ⟨w2.heap.size + 1 + 1, 0, none⟩ = some (.bool (decide (ni ≤ ms.length))) := by have := hS.cell 0 rfl 0 rfl; rw [hni] at this; exact this
  have e3 : w5.cell? ⟨W.heap.size, 0, none⟩ = some (.slice M ms.length mc) := hS.cell 5 rfl 0 rfl
  have e4 : w5.cell? ⟨W.heap.size + 1, 0, none⟩ = some (.int .u8 inner) := hS.cell 4 rfl 0 rfl
  have e5 : w5.cell? ⟨W.heap.size + 1 + 1, 0, none⟩ = some (.int .u8 outer) := hS.cell 3 rfl 0 rfl
  rw [hno] at hm hb
  simp only [Int.toNat_natCast] at hm hb
  have HB := Lib.hid hS.below
  have HNI := Lib.hid (And.intro hni hno)
  clear hS HT HS3 HS
  dsimp only
  rcases Nat.lt_trichotomy ni ms.length with p1 | p1 | p1
  · rw [Nat.min_eq_right (by omega)] at e1
    rw [decide_eq_true (by omega)] at e2
    have p3 : ¬ ms.length ≤ ni := by omega
    rcases Nat.lt_trichotomy no xs.length with p2 | p2 | p2
    · rw [Nat.min_eq_right (by omega)] at hm
      rw [decide_eq_true (by omega)] at hb
      have p4 : ¬ xs.length ≤ no := by omega
      subst hm hb
      go_wp2
      go_ret
      exact ⟨retBool (by first | rfl | exact decide_eq_true (by omega)), HB.out⟩
    · subst p2
      rw [Nat.min_self] at hm
      rw [decide_eq_true (by omega)] at hb
      subst hm hb
      go_wp2
      go_ret
      exact ⟨retBool (by first | rfl | exact decide_eq_true (by omega)), HB.out⟩
    · rw [Nat.min_eq_left (by omega)] at hm
      rw [decide_eq_false (by omega)] at hb
      have p4 : ¬ no ≤ xs.length := by omega
      subst hm hb
      go_wp2
      go_ret
      exact ⟨retBool (by first | rfl | exact decide_eq_true (by omega)), HB.out⟩
  · subst p1
    rw [Nat.min_self] at e1
    rw [decide_eq_true (by omega)] at e2
    rcases Nat.lt_trichotomy no xs.length with p2 | p2 | p2
    · rw [Nat.min_eq_right (by omega)] at hm
      rw [decide_eq_true (by omega)] at hb
      have p4 : ¬ xs.length ≤ no := by omega
      subst hm hb
      go_wp2
      go_ret
      exact ⟨retBool (by first | rfl | exact decide_eq_true (by omega)), HB.out⟩
    · subst p2
      rw [Nat.min_self] at hm
      rw [decide_eq_true (by omega)] at hb
      subst hm hb
      go_wp2
      go_ret
      exact ⟨retBool (by first | rfl | exact decide_eq_true (by omega)), HB.out⟩
    · rw [Nat.min_eq_left (by omega)] at hm
      rw [decide_eq_false (by omega)] at hb
      have p4 : ¬ no ≤ xs.length := by omega
      subst hm hb
      go_wp2
      go_ret
      exact ⟨retBool (by first | rfl | exact decide_eq_true (by omega)), HB.out⟩
  · rw [Nat.min_eq_left (by omega)] at e1
    rw [decide_eq_false (by omega)] at e2
    have p3 : ¬ ni ≤ ms.length := by omega
    rcases Nat.lt_trichotomy no xs.length with p2 | p2 | p2
    · rw [Nat.min_eq_right (by omega)] at hm
      rw [decide_eq_true (by omega)] at hb
      have p4 : ¬ xs.length ≤ no := by omega
      subst hm hb
      go_wp2
      go_ret
      exact ⟨retBool (by first | rfl | exact decide_eq_true (by omega)), HB.out⟩
    · subst p2
      rw [Nat.min_self] at hm
      rw [decide_eq_true (by omega)] at hb
      subst hm hb
      go_wp2
      go_ret
      exact ⟨retBool (by first | rfl | exact decide_eq_true (by omega)), HB.out⟩
    · rw [Nat.min_eq_left (by omega)] at hm
      rw [decide_eq_false (by omega)] at hb
      have p4 : ¬ no ≤ xs.length := by omega
      subst hm hb
      go_wp2
      go_ret
      exact ⟨retBool (by first | rfl | exact decide_eq_true (by omega)), HB.out⟩
theorem diceWithin_big (W : World) (A M : Option Addr) (c mc n m : Nat) (inner outer : Int) (hl : n ≤ maxLen) (hl2 : m ≤ maxLen) (h : 60 < n ∨ 60 < m) :
    Calls Try.prog 5 #[.slice A n c, .slice M m mc, .int .u8 inner, .int .u8 outer] W fun e w' => e = .returned (.bool true) ∧ Below W.heap.size W w' := by
  unfold maxLen at hl hl2
  have hd : ((60 : Int) < (n : Int)) ∨ ¬ ((60 : Int) < (n : Int)) ∧ (60 : Int) < (m : Int) := by omega
  clear h
  rcases hd with hd | ⟨hd, hd2⟩
  all_goals
    go_enter Try.func5, Try.ntmps5
    go_wp2_with (first
      | (go_at_call 11; (with_reducible refine (awake25 _).mono ?_); rintro e w2 ⟨rfl, hb2⟩
         have hS2 := ((((SL.start (Nat.le_refl W.heap.size)).alloc #[.slice M m mc] 22).alloc #[.int .u8 inner] 5).alloc #[.int .u8 outer] 5).call hb2
         have c0 : w2.cell? ⟨W.heap.size, 0, none⟩ = some (.slice M m mc) := hS2.cell 2 rfl 0 rfl
         have HB := Lib.hid hS2.below
         clear hS2 hb2))
    go_ret
    exact ⟨rfl, HB.out⟩
theorem u32_wf' {n : Int} (h : (Lit.int .u32 n).wf = true) : 0 ≤ n ∧ n ≤ 4294967295 := by
  simp [Lit.wf, IntKind.min, IntKind.max, IntKind.signed, IntKind.bits] at h; omega
theorem u8_wf {n : Int} (h : (Lit.int .u8 n).wf = true) : 0 ≤ n ∧ n ≤ 255 := by
  simp [Lit.wf, IntKind.min, IntKind.max, IntKind.signed, IntKind.bits] at h; omega
theorem diceWithin_walk (W : World) (A : Option Addr) (c : Nat) (l : List Int) (hr : Reads W W.heap.size 1 A l.length (l.map (.int .u32))) (hl : l.length ≤ maxLen) (_hw : ∀ n ∈ l, (Lit.int .u32 n).wf = true)
    (M : Option Addr) (mc : Nat) (ms : List Int) (hm : Reads W W.heap.size 1 M ms.length (ms.map (.int .u32))) (hl2 : ms.length ≤ maxLen) (_hw2 : ∀ n ∈ ms, (Lit.int .u32 n).wf = true) (inner : Int) (hi : (Lit.int .u8 inner).wf = true) (outer : Int) (ho : (Lit.int .u8 outer).wf = true) :
    Calls Try.prog 5 #[.slice A l.length c, .slice M ms.length mc, .int .u8 inner, .int .u8 outer] W fun e w' => e = .returned (.bool true) ∧ Below W.heap.size W w' := by
  by_cases h : 60 < l.length ∨ 60 < ms.length
  · exact diceWithin_big W A M c mc _ _ inner outer hl hl2 h
  · exact diceWithin0 W A M c mc inner outer l ms hr hm (by omega) (by omega) (u8_wf hi).1 (u8_wf hi).2 (u8_wf ho).1 (u8_wf ho).2
end Go.Proofs.Ythdjmljoiflkjaa
