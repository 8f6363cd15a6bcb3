/- The walk of the law SetBack. -/
import Derived.Test.YtoppnalfbgedmaaDoorAll
namespace Go.Proofs.YtoppnalfbgedmaaDoor
open Go.ChangeShapes Go.WideShapes Go.ChangeAt Go.RowKit
set_option linter.unusedVariables false
theorem setWith_bitA (x : Nat) (n : Int) (i : Nat) (hi : i < 64) : bitv (setWith x n) i = (decide ((i : Int) = n) || bitv x i) := by
  unfold setWith bitv
  split
  · rename_i h
    rw [Nat.testBit_or, Nat.testBit_two_pow, Bool.or_comm]
    congr 1
    rw [decide_eq_decide]; omega
  · rename_i h
    have : ¬ ((i : Int) = n) := by omega
    simp [this]
theorem setOf_bitA (l : List Int) (i : Nat) (hi : i < 64) : bitv (setOf l) i = decide ((i : Int) ∈ l) := by
  have : ∀ (l : List Int) (x : Nat), bitv (l.foldl setWith x) i = (decide ((i : Int) ∈ l) || bitv x i) := by
    intro l
    induction l with
    | nil => intro x; simp
    | cons a r ih =>
      intro x
      rw [List.foldl_cons, ih, setWith_bitA _ _ _ hi]
      by_cases h1 : (i : Int) = a <;> by_cases h2 : (i : Int) ∈ r <;> simp [h1, h2]
  unfold setOf
  rw [this]
  simp [bitv]
theorem allK_mem (x p i : Nat) : ((i : Int) ∈ allK x p) ↔ i < p ∧ x.testBit i = true := by
  unfold allK
  rw [List.mem_map]
  constructor
  · rintro ⟨j, hj, he⟩
    rw [List.mem_filter] at hj
    have : j = i := Int.ofNat.inj he
    subst this
    exact ⟨by simpa using hj.1, hj.2⟩
  · rintro ⟨h1, h2⟩
    exact ⟨i, List.mem_filter.2 ⟨by simpa using h1, h2⟩, rfl⟩
theorem setOf_all (x : Nat) (hx : x < 2 ^ 64) : setOf (allK x 64) = x := by
  apply Nat.eq_of_testBit_eq
  intro i
  by_cases hi : i < 64
  · have := setOf_bitA (allK x 64) i hi
    unfold bitv at this
    rw [this, Bool.eq_iff_iff, decide_eq_true_eq, allK_mem]
    simp [hi]
  · have h1 : (setOf (allK x 64)).testBit i = false := Nat.testBit_lt_two_pow (Nat.lt_of_lt_of_le (setOf_lt _) (Nat.pow_le_pow_right (by omega) (by omega)))
    have h2 : x.testBit i = false := Nat.testBit_lt_two_pow (Nat.lt_of_lt_of_le hx (Nat.pow_le_pow_right (by omega) (by omega)))
    rw [h1, h2]
theorem and_or_less (x y : Nat) (hx : x < 2 ^ 64) (hy : y < 2 ^ 64) : (x &&& y) ||| setLess x y = x := by
  apply Nat.eq_of_testBit_eq
  intro i
  by_cases hi : i < 64
  · have h := setLess_bit x y i hy hi
    unfold bitv at h
    rw [Nat.testBit_or, Nat.testBit_and, h]
    cases x.testBit i <;> cases y.testBit i <;> rfl
  · have h2 : x.testBit i = false := Nat.testBit_lt_two_pow (Nat.lt_of_lt_of_le hx (Nat.pow_le_pow_right (by omega) (by omega)))
    have h3 : (setLess x y).testBit i = false := Nat.testBit_lt_two_pow (Nat.lt_of_lt_of_le (setLess_lt x y hx) (Nat.pow_le_pow_right (by omega) (by omega)))
    rw [Nat.testBit_or, Nat.testBit_and, h2, h3]; rfl
theorem ones_sum (x y n : Nat) : ones (x &&& y) n + ones (x ||| y) n = ones x n + ones y n := by
  induction n with
  | zero => rfl
  | succ n ih =>
    rw [ones_succ, ones_succ, ones_succ, ones_succ, Nat.testBit_and, Nat.testBit_or]
    cases x.testBit n <;> cases y.testBit n <;> simp <;> omega
theorem ones_le (x n : Nat) : ones x n ≤ n := by
  unfold ones
  exact Nat.le_trans List.countP_le_length (by simp)
/-- The law's own steps, over plain numbers: a: what both have; l: the first alone; o: one of them; na .. ny: how many. -/
theorem setBack_core (x y a l o na no nx ny : Nat) (w : World) (hw : 0 < w.heap.size) (hT : Tab w) (ks : List Int) (hk : ks.length ≤ maxLen)
    (cAll : Hid (∀ w', Tab w' → 0 < w'.heap.size → Calls Tryd.prog 7 #[.int .u64 x] w' (MadeIntsA w' ks)))
    (cOf : Hid (∀ B A c w', Reads w' B 1 A ks.length (ks.map (.int .i64)) → Calls Tryd.prog 6 #[.slice A ks.length c] w' fun e w'' => e = .returned (.int .u64 x) ∧ w' = w''))
    (cAnd : Hid (∀ w', Calls Tryd.prog 8 #[.int .u64 x, .int .u64 y] w' fun e w'' => e = .returned (.int .u64 a) ∧ w' = w''))
    (cLess : Hid (∀ w', Calls Tryd.prog 10 #[.int .u64 x, .int .u64 y] w' fun e w'' => e = .returned (.int .u64 l) ∧ w' = w''))
    (cOr1 : Hid (∀ w', Calls Tryd.prog 9 #[.int .u64 a, .int .u64 l] w' fun e w'' => e = .returned (.int .u64 x) ∧ w' = w''))
    (cOr2 : Hid (∀ w', Calls Tryd.prog 9 #[.int .u64 x, .int .u64 y] w' fun e w'' => e = .returned (.int .u64 o) ∧ w' = w''))
    (cLa : Hid (∀ w', Calls Tryd.prog 11 #[.int .u64 a] w' fun e w'' => e = .returned (.int .i64 na) ∧ w' = w''))
    (cLo : Hid (∀ w', Calls Tryd.prog 11 #[.int .u64 o] w' fun e w'' => e = .returned (.int .i64 no) ∧ w' = w''))
    (cLx : Hid (∀ w', Calls Tryd.prog 11 #[.int .u64 x] w' fun e w'' => e = .returned (.int .i64 nx) ∧ w' = w''))
    (cLy : Hid (∀ w', Calls Tryd.prog 11 #[.int .u64 y] w' fun e w'' => e = .returned (.int .i64 ny) ∧ w' = w''))
    (b1 : na ≤ 64) (b2 : no ≤ 64) (b3 : nx ≤ 64) (b4 : ny ≤ 64) (hs : Hid (na + no = nx + ny)) :
    Calls Tryd.prog 3 #[.int .u64 x, .int .u64 y] w fun e w' => e = .returned (.bool true) ∧ Below w.heap.size w w' := by
  have HT := Lib.hid hT
  clear hT
  have hsum : ((na : Int) + (no : Int) == (nx : Int) + (ny : Int)) = true := by
    have := hs.out
    simp; omega
  go_enter Tryd.func3, Tryd.ntmps3
  go_wp2_with (first
    | (go_at_call 5; (with_reducible refine (awake_any _).mono ?_); rintro e w1 ⟨rfl, hb1⟩
       have HT1 : Hid (Tab w1) := tab_below HT.out hb1 hw
       have hw1 : 0 < w1.heap.size := Nat.lt_of_lt_of_le hw hb1.size
       have HB1 := Lib.hid hb1
       clear hb1)
    | (go_at_call 7; (with_reducible refine (cAll.out _ HT1.out hw1).mono ?_); rintro e w2 ⟨v2, rfl, hown2, hb2⟩
       obtain ⟨A2, c2, rfl, _⟩ := ownsRow_slice hown2
       have HR2 := Lib.hid (reads_own hown2)
       have HB2 := Lib.hid hb2
       clear hown2 hb2)
    | (go_at_call 6; (with_reducible refine (cOf.out _ _ _ _ HR2.out).mono ?_); rintro e w3 ⟨rfl, rfl⟩)
    | (go_at_call 8; (with_reducible refine (cAnd.out _).mono ?_); rintro e w3 ⟨rfl, rfl⟩)
    | (go_at_call 10; (with_reducible refine (cLess.out _).mono ?_); rintro e w3 ⟨rfl, rfl⟩)
    | (go_at_call 9; (with_reducible refine (cOr1.out _).mono ?_); rintro e w3 ⟨rfl, rfl⟩)
    | (go_at_call 9; (with_reducible refine (cOr2.out _).mono ?_); rintro e w3 ⟨rfl, rfl⟩)
    | (go_at_call 11; (with_reducible refine (cLa.out _).mono ?_); rintro e w3 ⟨rfl, rfl⟩)
    | (go_at_call 11; (with_reducible refine (cLo.out _).mono ?_); rintro e w3 ⟨rfl, rfl⟩)
    | (go_at_call 11; (with_reducible refine (cLx.out _).mono ?_); rintro e w3 ⟨rfl, rfl⟩)
    | (go_at_call 11; (with_reducible refine (cLy.out _).mono ?_); rintro e w3 ⟨rfl, rfl⟩))
  go_ret
  exact ⟨rfl, HB1.out.trans (HB2.out.mono HB1.out.size)⟩
theorem setBack_walk0 (x y : Nat) (w : World) (hx : x < 2 ^ 64) (hy : y < 2 ^ 64) (hw : 0 < w.heap.size) (hT : Tab w) :
    Calls Tryd.prog 3 #[.int .u64 x, .int .u64 y] w fun e w' => e = .returned (.bool true) ∧ Below w.heap.size w w' := by
  have hl := allK_len x 64
  refine setBack_core x y (x &&& y) (setLess x y) (x ||| y) (ones (x &&& y) 64) (ones (x ||| y) 64) (ones x 64) (ones y 64) w hw hT (allK x 64) (by unfold maxLen; omega)
    (fun w' h1 h2 => all_any x w' hx h1 h2) ?_ (fun w' => and_any x y w' hx hy) (fun w' => less_any x y w' hx hy) ?_ (fun w' => or_any x y w' hx hy)
    (fun w' => len_any _ w' (Nat.lt_of_le_of_lt Nat.and_le_left hx)) (fun w' => len_any _ w' (Nat.or_lt_two_pow hx hy)) (fun w' => len_any _ w' hx) (fun w' => len_any _ w' hy)
    (ones_le _ _) (ones_le _ _) (ones_le _ _) (ones_le _ _) (ones_sum x y 64)
  · intro B A c w' hr
    have := of_any B A c (allK x 64) w' hr (by unfold maxLen; omega)
    rwa [setOf_all x hx] at this
  · intro w'
    have := or_any (x &&& y) (setLess x y) w' (Nat.lt_of_le_of_lt Nat.and_le_left hx) (setLess_lt x y hx)
    rwa [and_or_less x y hx hy] at this
end Go.Proofs.YtoppnalfbgedmaaDoor
