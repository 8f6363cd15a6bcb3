/- Plain laws on bits: how many ones, the least one. No program in sight. Contracts: bits.OnesCount64, Set.Len. -/
import Derived.Test.YtjpejclfppbboaaSetB
namespace Go.Proofs.Ytjpejclfppbboaa
set_option linter.unusedVariables false
/-- How many of the first n bits are there. -/
def ones (x n : Nat) : Nat := (List.range n).countP fun i => x.testBit i
theorem ones_succ (x n : Nat) : ones x (n + 1) = ones x n + (if x.testBit n then 1 else 0) := by
  unfold ones
  rw [List.range_succ, List.countP_append]
  simp [List.countP_cons]
theorem ones_split (x a b : Nat) : ones x (a + b) = ones (x % 2 ^ a) a + ones (x / 2 ^ a) b := by
  induction b with
  | zero =>
    rw [Nat.add_zero]
    have : ones (x / 2 ^ a) 0 = 0 := rfl
    rw [this, Nat.add_zero]
    unfold ones
    apply List.countP_congr
    intro i hi
    have hi' : i < a := by simpa using hi
    rw [Nat.testBit_mod_two_pow]
    simp [hi']
  | succ b ih =>
    rw [← Nat.add_assoc, ones_succ, ih, ones_succ, Nat.testBit_div_two_pow, Nat.add_comm b a]
    omega
/-- Digits by bytes. -/
def byte (x j : Nat) : Nat := x / 256 ^ j % 256
theorem ones8 (x : Nat) : ones x 64 = ones (byte x 0) 8 + ones (byte x 1) 8 + ones (byte x 2) 8 + ones (byte x 3) 8 + ones (byte x 4) 8 + ones (byte x 5) 8 + ones (byte x 6) 8 + ones (byte x 7) 8 := by
  have s : ∀ (y n : Nat), ones y (8 + n) = ones (y % 256) 8 + ones (y / 256) n := fun y n => ones_split y 8 n
  have z : ∀ y, ones y 0 = 0 := fun _ => rfl
  rw [show (64 : Nat) = 8 + (8 + (8 + (8 + (8 + (8 + (8 + (8 + 0))))))) from rfl, s, s, s, s, s, s, s, s, z]
  unfold byte
  simp only [Nat.div_div_eq_div_mul, Nat.pow_zero, Nat.div_one, Nat.reducePow, Nat.reduceMul]
  omega
/-- 'and' with a mask of bytes goes byte by byte, under a shift that the mask's bytes leave room for. -/
theorem and_step (s : Nat) (hs : s ≤ 8) (y x' m M' : Nat) (hy : y < 256) (hm : m < 2 ^ (8 - s)) :
    ((y + 256 * x') / 2 ^ s) &&& (m + 256 * M') = ((y / 2 ^ s) &&& m) + 256 * ((x' / 2 ^ s) &&& M') := by
  have hm2 : m < 256 := Nat.lt_of_lt_of_le hm (by calc 2 ^ (8 - s) ≤ 2 ^ 8 := Nat.pow_le_pow_right (by omega) (by omega)
                                                      _ = 256 := rfl)
  have hr : ((y / 2 ^ s) &&& m) < 256 := Nat.lt_of_le_of_lt Nat.and_le_right hm2
  have split : ∀ a b : Nat, a < 256 → a + 256 * b = 2 ^ 8 * b + a := fun a b _ => by omega
  apply Nat.eq_of_testBit_eq
  intro i
  rw [split _ _ hr, Nat.testBit_and, Nat.testBit_div_two_pow, split _ _ hy, split _ _ hm2]
  rw [Nat.testBit_two_pow_mul_add _ (by simpa using hy), Nat.testBit_two_pow_mul_add _ (by simpa using hm2), Nat.testBit_two_pow_mul_add _ (by simpa using hr)]
  by_cases hi : i < 8
  · by_cases his : i + s < 8
    · simp only [hi, his, if_true, Nat.testBit_and, Nat.testBit_div_two_pow]
    · simp only [hi, his, if_true, if_false]
      have h1 : m.testBit i = false := Nat.testBit_lt_two_pow (Nat.lt_of_lt_of_le hm (Nat.pow_le_pow_right (by omega) (by omega)))
      simp [h1]
  · have his : ¬ i + s < 8 := by omega
    simp only [hi, his, if_false, Nat.testBit_and, Nat.testBit_div_two_pow]
    have e : i + s - 8 = i - 8 + s := by omega
    rw [e]
/-- A function on bytes, byte by byte. -/
def bw (g : Nat → Nat) : Nat → Nat → Nat
  | 0, _ => 0
  | n + 1, x => g (x % 256) + 256 * bw g n (x / 256)
def maskN (m : Nat) : Nat → Nat
  | 0 => 0
  | n + 1 => m + 256 * maskN m n
theorem and_bw (s m : Nat) (hs : s ≤ 8) (hm : m < 2 ^ (8 - s)) : ∀ n x : Nat, (x / 2 ^ s) &&& maskN m n = bw (fun y => (y / 2 ^ s) &&& m) n x
  | 0, x => by simp [maskN, bw]
  | n + 1, x => by
    have h := and_step s hs (x % 256) (x / 256) m (maskN m n) (Nat.mod_lt _ (by omega)) hm
    rw [Nat.mod_add_div] at h
    rw [maskN, h, bw, and_bw s m hs hm n]
theorem bw_add (g h : Nat → Nat) : ∀ n x : Nat, bw g n x + bw h n x = bw (fun y => g y + h y) n x
  | 0, _ => rfl
  | n + 1, x => by
    have := bw_add g h n (x / 256)
    simp only [bw]
    omega
theorem bw_comp (g h : Nat → Nat) (hh : ∀ y, y < 256 → h y < 256) : ∀ n x : Nat, bw g n (bw h n x) = bw (fun y => g (h y)) n x
  | 0, _ => rfl
  | n + 1, x => by
    have := bw_comp g h hh n (x / 256)
    have hl := hh (x % 256) (Nat.mod_lt _ (by omega))
    simp only [bw]
    have e1 : (h (x % 256) + 256 * bw h n (x / 256)) % 256 = h (x % 256) := by omega
    have e2 : (h (x % 256) + 256 * bw h n (x / 256)) / 256 = bw h n (x / 256) := by omega
    rw [e1, e2, this]
theorem bw_congr {g h : Nat → Nat} (hh : ∀ y, y < 256 → g y = h y) : ∀ n x : Nat, bw g n x = bw h n x
  | 0, _ => rfl
  | n + 1, x => by
    simp only [bw]
    rw [hh _ (Nat.mod_lt _ (by omega)), bw_congr hh n]
theorem bw_nib (q : Nat → Nat) (hq : ∀ y, y < 256 → q y % 16 ≤ 4 ∧ q y / 16 ≤ 4) : ∀ n x : Nat, (bw q n x / 16 + bw q n x) &&& maskN 15 n = bw (fun y => q y / 16 + q y % 16) n x
  | 0, x => by simp [maskN, bw]
  | n + 1, x => by
    have ih := bw_nib q hq n (x / 256)
    have hv : bw q n (x / 256) % 16 ≤ 4 := by
      cases n with
      | zero => simp [bw]
      | succ n =>
        have := (hq (x / 256 % 256) (Nat.mod_lt _ (by omega))).1
        simp only [bw]
        omega
    obtain ⟨h1, h2⟩ := hq (x % 256) (Nat.mod_lt _ (by omega))
    simp only [bw]
    generalize bw q n (x / 256) = v at *
    generalize q (x % 256) = y at *
    have ez : ((y + 256 * v) / 16 + (y + 256 * v)) / 256 = v / 16 + v := by omega
    have em : ((y + 256 * v) / 16 + (y + 256 * v)) % 256 % 16 = y / 16 + y % 16 := by omega
    generalize (y + 256 * v) / 16 + (y + 256 * v) = z at *
    have h := and_step 0 (by omega) (z % 256) (z / 256) 15 (maskN 15 n) (Nat.mod_lt _ (by omega)) (by omega)
    rw [Nat.mod_add_div] at h
    simp only [Nat.pow_zero, Nat.div_one] at h
    rw [maskN, h, ez, ih, nat_mask4, em]
def pop1 (y : Nat) : Nat := (y / 2 ^ 1 &&& 85) + (y / 2 ^ 0 &&& 85)
def pop2 (y : Nat) : Nat := (y / 2 ^ 2 &&& 51) + (y / 2 ^ 0 &&& 51)
theorem pop_byte : ∀ y, y < 256 → pop1 y < 256 ∧ pop2 (pop1 y) % 16 ≤ 4 ∧ pop2 (pop1 y) / 16 ≤ 4 ∧ pop2 (pop1 y) / 16 + pop2 (pop1 y) % 16 = ones y 8 ∧ ones y 8 ≤ 8 := by
  have : (List.range 256).all (fun y => decide (pop1 y < 256 ∧ pop2 (pop1 y) % 16 ≤ 4 ∧ pop2 (pop1 y) / 16 ≤ 4 ∧ pop2 (pop1 y) / 16 + pop2 (pop1 y) % 16 = ones y 8 ∧ ones y 8 ≤ 8)) = true := by decide +kernel
  intro y hy
  have := List.all_eq_true.1 this y (by simpa using hy)
  exact of_decide_eq_true this
def st1 (x : Nat) : Nat := (x / 2 &&& 6148914691236517205) + (x &&& 6148914691236517205)
def st2 (x : Nat) : Nat := (x / 4 &&& 3689348814741910323) + (x &&& 3689348814741910323)
def st3 (x : Nat) : Nat := (x / 16 + x) &&& 1085102592571150095
theorem st_all (x : Nat) : st3 (st2 (st1 x)) = bw (fun y => ones y 8) 8 x := by
  have m1 : 6148914691236517205 = maskN 85 8 := by decide
  have m2 : 3689348814741910323 = maskN 51 8 := by decide
  have m3 : 1085102592571150095 = maskN 15 8 := by decide
  have e1 : st1 x = bw pop1 8 x := by
    unfold st1
    rw [m1]
    have a := and_bw 1 85 (by omega) (by omega) 8 x
    have b := and_bw 0 85 (by omega) (by omega) 8 x
    simp only [Nat.pow_one, Nat.pow_zero, Nat.div_one] at a b
    rw [a, b, bw_add]
    exact bw_congr (fun y _ => by simp [pop1]) 8 x
  have e2 : st2 (st1 x) = bw (fun y => pop2 (pop1 y)) 8 x := by
    rw [e1]
    unfold st2
    rw [m2]
    have a := and_bw 2 51 (by omega) (by omega) 8 (bw pop1 8 x)
    have b := and_bw 0 51 (by omega) (by omega) 8 (bw pop1 8 x)
    simp only [Nat.pow_zero, Nat.div_one, show 2 ^ 2 = 4 from rfl] at a b
    rw [a, b, bw_add, ← bw_comp pop2 pop1 (fun y hy => (pop_byte y hy).1)]
    exact bw_congr (fun y _ => by simp [pop2]) 8 _
  rw [e2]
  unfold st3
  rw [m3, bw_nib _ (fun y hy => ⟨(pop_byte y hy).2.1, (pop_byte y hy).2.2.1⟩)]
  exact bw_congr (fun y hy => (pop_byte y hy).2.2.2.1) 8 x
def st4 (x : Nat) : Nat := x + x / 256
def st5 (x : Nat) : Nat := x + x / 65536
def st6 (x : Nat) : Nat := x + x / 4294967296
theorem div256 (a Q : Nat) (h : a < 256) : (a + 256 * Q) / 256 = Q := by omega
theorem div65536 (a b Q : Nat) (ha : a < 256) (hb : b < 256) : (a + 256 * (b + 256 * Q)) / 65536 = Q := by
  rw [show (65536 : Nat) = 256 * 256 from rfl, ← Nat.div_div_eq_div_mul, div256 _ _ ha, div256 _ _ hb]
theorem div32 (a b c d Q : Nat) (ha : a < 256) (hb : b < 256) (hc : c < 256) (hd : d < 256) : (a + 256 * (b + 256 * (c + 256 * (d + 256 * Q)))) / 4294967296 = Q := by
  rw [show (4294967296 : Nat) = 65536 * 65536 from rfl, ← Nat.div_div_eq_div_mul, div65536 _ _ _ ha hb, div65536 _ _ _ hc hd]
theorem add256 (a b Q R : Nat) : (a + 256 * Q) + (b + 256 * R) = (a + b) + 256 * (Q + R) := by omega
theorem mod128 (a Q : Nat) (h : a < 128) : (a + 256 * Q) % 128 = a := by omega
theorem lt256 (a Q n : Nat) (ha : a < 256) (hQ : Q < n) : a + 256 * Q < 256 * n := by omega
theorem bnd (q0 q1 q2 q3 q4 q5 q6 q7 : Nat) (h0 : q0 < 256) (h1 : q1 < 256) (h2 : q2 < 256) (h3 : q3 < 256) (h4 : q4 < 256) (h5 : q5 < 256) (h6 : q6 < 256) (h7 : q7 < 128) :
    q0 + 256 * (q1 + 256 * (q2 + 256 * (q3 + 256 * (q4 + 256 * (q5 + 256 * (q6 + 256 * q7)))))) < 2 ^ 63 := by
  have := lt256 _ _ _ h0 (lt256 _ _ _ h1 (lt256 _ _ _ h2 (lt256 _ _ _ h3 (lt256 _ _ _ h4 (lt256 _ _ _ h5 (lt256 _ _ _ h6 h7))))))
  exact this
theorem st_sum (p0 p1 p2 p3 p4 p5 p6 p7 P : Nat) (h : p0 ≤ 8 ∧ p1 ≤ 8 ∧ p2 ≤ 8 ∧ p3 ≤ 8 ∧ p4 ≤ 8 ∧ p5 ≤ 8 ∧ p6 ≤ 8 ∧ p7 ≤ 8)
    (hP : P = p0 + 256 * (p1 + 256 * (p2 + 256 * (p3 + 256 * (p4 + 256 * (p5 + 256 * (p6 + 256 * (p7 + 256 * 0)))))))) :
    st6 (st5 (st4 P)) % 128 = p0 + p1 + p2 + p3 + p4 + p5 + p6 + p7 ∧ st4 P < 2 ^ 63 ∧ st5 (st4 P) < 2 ^ 63 ∧ st6 (st5 (st4 P)) < 2 ^ 63 ∧ P < 2 ^ 63 := by
  obtain ⟨h0, h1, h2, h3, h4, h5, h6, h7⟩ := h
  have hP1 : Go.RowKit.Hid (P = p0 + 256 * (p1 + 256 * (p2 + 256 * (p3 + 256 * (p4 + 256 * (p5 + 256 * (p6 + 256 * p7))))))) := by show P = _; rw [hP, Nat.mul_zero, Nat.add_zero]
  clear hP
  have l0 : p0 < 256 := by omega
  have l1 : p1 < 256 := by omega
  have l2 : p2 < 256 := by omega
  have l3 : p3 < 256 := by omega
  have l4 : p4 < 256 := by omega
  have l5 : p5 < 256 := by omega
  have l6 : p6 < 256 := by omega
  have l7 : p7 < 128 := by omega
  have a0 : p0 + p1 < 256 := by omega
  have a1 : p1 + p2 < 256 := by omega
  have a2 : p2 + p3 < 256 := by omega
  have a3 : p3 + p4 < 256 := by omega
  have a4 : p4 + p5 < 256 := by omega
  have a5 : p5 + p6 < 256 := by omega
  have a6 : p6 + p7 < 256 := by omega
  have b0 : p0 + p1 + (p2 + p3) < 256 := by omega
  have b1 : p1 + p2 + (p3 + p4) < 256 := by omega
  have b2 : p2 + p3 + (p4 + p5) < 256 := by omega
  have b3 : p3 + p4 + (p5 + p6) < 256 := by omega
  have b4 : p4 + p5 + (p6 + p7) < 256 := by omega
  have b5 : p5 + p6 + p7 < 256 := by omega
  have c0 : p0 + p1 + (p2 + p3) + (p4 + p5 + (p6 + p7)) < 128 := by omega
  have c0' : p0 + p1 + (p2 + p3) + (p4 + p5 + (p6 + p7)) < 256 := by omega
  have c1 : p1 + p2 + (p3 + p4) + (p5 + p6 + p7) < 256 := by omega
  have c2 : p2 + p3 + (p4 + p5) + (p6 + p7) < 256 := by omega
  have c3 : p3 + p4 + (p5 + p6) + p7 < 256 := by omega
  have hP' := hP1.out
  have e4 : st4 P = (p0 + p1) + 256 * ((p1 + p2) + 256 * ((p2 + p3) + 256 * ((p3 + p4) + 256 * ((p4 + p5) + 256 * ((p5 + p6) + 256 * ((p6 + p7) + 256 * p7)))))) := by
    have hd : P / 256 = p1 + 256 * (p2 + 256 * (p3 + 256 * (p4 + 256 * (p5 + 256 * (p6 + 256 * p7))))) := by rw [hP', div256 _ _ l0]
    unfold st4
    rw [hd, hP']
    rw [add256, add256, add256, add256, add256, add256, Nat.add_right_comm p6 (256 * p7) p7]
  have e5 : st5 (st4 P) = (p0 + p1 + (p2 + p3)) + 256 * ((p1 + p2 + (p3 + p4)) + 256 * ((p2 + p3 + (p4 + p5)) + 256 * ((p3 + p4 + (p5 + p6)) + 256 * ((p4 + p5 + (p6 + p7)) + 256 * ((p5 + p6 + p7) + 256 * ((p6 + p7) + 256 * p7)))))) := by
    have hd : st4 P / 65536 = (p2 + p3) + 256 * ((p3 + p4) + 256 * ((p4 + p5) + 256 * ((p5 + p6) + 256 * ((p6 + p7) + 256 * p7)))) := by rw [e4, div65536 _ _ _ a0 a1]
    unfold st5
    rw [hd, e4]
    rw [add256, add256, add256, add256, add256, Nat.add_right_comm (p5 + p6) _ p7]
  have e6 : st6 (st5 (st4 P)) = (p0 + p1 + (p2 + p3) + (p4 + p5 + (p6 + p7))) + 256 * ((p1 + p2 + (p3 + p4) + (p5 + p6 + p7)) + 256 * ((p2 + p3 + (p4 + p5) + (p6 + p7)) + 256 * ((p3 + p4 + (p5 + p6) + p7) + 256 * ((p4 + p5 + (p6 + p7)) + 256 * ((p5 + p6 + p7) + 256 * ((p6 + p7) + 256 * p7)))))) := by
    have hd : st5 (st4 P) / 4294967296 = (p4 + p5 + (p6 + p7)) + 256 * ((p5 + p6 + p7) + 256 * ((p6 + p7) + 256 * p7)) := by rw [e5, div32 _ _ _ _ _ b0 b1 b2 b3]
    unfold st6
    rw [hd, e5]
    rw [add256, add256, add256, Nat.add_right_comm (p3 + p4 + (p5 + p6)) _ p7]
  refine ⟨?_, ?_, ?_, ?_, ?_⟩
  · rw [e6, mod128 _ _ c0]
    simp only [Nat.add_assoc]
  · rw [e4]; exact bnd _ _ _ _ _ _ _ _ a0 a1 a2 a3 a4 a5 a6 l7
  · rw [e5]; exact bnd _ _ _ _ _ _ _ _ b0 b1 b2 b3 b4 b5 a6 l7
  · rw [e6]; exact bnd _ _ _ _ _ _ _ _ c0' c1 c2 c3 b4 b5 a6 l7
  · rw [hP']; exact bnd _ _ _ _ _ _ _ _ l0 l1 l2 l3 l4 l5 l6 l7
theorem popcount (x : Nat) : st6 (st5 (st4 (st3 (st2 (st1 x))))) % 128 = ones x 64 ∧ st3 (st2 (st1 x)) < 2 ^ 63 ∧ st4 (st3 (st2 (st1 x))) < 2 ^ 63 ∧ st5 (st4 (st3 (st2 (st1 x)))) < 2 ^ 63 ∧ st6 (st5 (st4 (st3 (st2 (st1 x))))) < 2 ^ 63 := by
  have hb : ∀ j, ones (byte x j) 8 ≤ 8 := fun j => (pop_byte _ (Nat.mod_lt _ (by omega))).2.2.2.2
  have hP : st3 (st2 (st1 x)) = ones (byte x 0) 8 + 256 * (ones (byte x 1) 8 + 256 * (ones (byte x 2) 8 + 256 * (ones (byte x 3) 8 + 256 * (ones (byte x 4) 8 + 256 * (ones (byte x 5) 8 + 256 * (ones (byte x 6) 8 + 256 * (ones (byte x 7) 8 + 256 * 0))))))) := by
    rw [st_all]
    simp only [bw, byte, Nat.div_div_eq_div_mul, Nat.pow_zero, Nat.div_one, Nat.reducePow, Nat.reduceMul]
  obtain ⟨a, b, c, d, e⟩ := st_sum _ _ _ _ _ _ _ _ _ ⟨hb 0, hb 1, hb 2, hb 3, hb 4, hb 5, hb 6, hb 7⟩ hP
  exact ⟨by rw [a, ones8], e, b, c, d⟩
end Go.Proofs.Ytjpejclfppbboaa
namespace Go.Proofs.Ytjpejclfppbboaa
open Go.ChangeShapes Go.WideShapes Go.ChangeAt Go.RowKit
set_option linter.unusedVariables false
theorem and_nat (a m : Nat) (ha : a < 2 ^ 64) (hm : m < 2 ^ 64) : bits .and .u64 (a : Int) (m : Int) = ((a &&& m : Nat) : Int) := u64_and_nat _ _ (by simpa using ha) (by simpa using hm)
theorem wrapN (a : Nat) (ha : a < 2 ^ 64) : IntKind.u64.wrap (a : Int) = (a : Int) := by
  rw [IntKind.wrap_u64]; omega
theorem E1 (x : Nat) (hx : x < 2 ^ 64) : IntKind.u64.wrap (bits BinOp.and IntKind.u64 ((x : Int) / 2) 6148914691236517205 + bits BinOp.and IntKind.u64 (x : Int) 6148914691236517205) = ((st1 x : Nat) : Int) := by
  have e : ((x : Int) / 2) = ((x / 2 : Nat) : Int) := by simp
  have h1 : (x / 2 &&& 6148914691236517205) ≤ 6148914691236517205 := Nat.and_le_right
  have h2 : (x &&& 6148914691236517205) ≤ 6148914691236517205 := Nat.and_le_right
  rw [e, show (6148914691236517205 : Int) = ((6148914691236517205 : Nat) : Int) from rfl, and_nat _ _ (by omega) (by omega), and_nat _ _ hx (by omega), ← Int.natCast_add, wrapN _ (by omega)]
  rfl
theorem st1_lt (x : Nat) : st1 x < 2 ^ 64 := by
  have h1 : (x / 2 &&& 6148914691236517205) ≤ 6148914691236517205 := Nat.and_le_right
  have h2 : (x &&& 6148914691236517205) ≤ 6148914691236517205 := Nat.and_le_right
  unfold st1; omega
theorem st2_le (x : Nat) : st2 x ≤ 7378697629483820646 := by
  have h1 : (x / 4 &&& 3689348814741910323) ≤ 3689348814741910323 := Nat.and_le_right
  have h2 : (x &&& 3689348814741910323) ≤ 3689348814741910323 := Nat.and_le_right
  unfold st2; omega
theorem E2 (x : Nat) (hx : x < 2 ^ 64) : IntKind.u64.wrap (bits BinOp.and IntKind.u64 ((x : Int) / 4) 3689348814741910323 + bits BinOp.and IntKind.u64 (x : Int) 3689348814741910323) = ((st2 x : Nat) : Int) := by
  have e : ((x : Int) / 4) = ((x / 4 : Nat) : Int) := by simp
  have h := st2_le x
  unfold st2 at h
  rw [e, show (3689348814741910323 : Int) = ((3689348814741910323 : Nat) : Int) from rfl, and_nat _ _ (by omega) (by omega), and_nat _ _ hx (by omega), ← Int.natCast_add, wrapN _ (by omega)]
  rfl
theorem E3 (x : Nat) (hx : x ≤ 7378697629483820646) : bits BinOp.and IntKind.u64 (IntKind.u64.wrap ((x : Int) / 16 + (x : Int))) 1085102592571150095 = ((st3 x : Nat) : Int) := by
  have e : ((x : Int) / 16 + (x : Int)) = ((x / 16 + x : Nat) : Int) := by simp
  rw [e, wrapN _ (by omega), show (1085102592571150095 : Int) = ((1085102592571150095 : Nat) : Int) from rfl, and_nat _ _ (by omega) (by omega)]
  rfl
theorem E4 (x : Nat) (hx : st4 x < 2 ^ 63) : IntKind.u64.wrap ((x : Int) + (x : Int) / 256) = ((st4 x : Nat) : Int) := by
  have e : ((x : Int) + (x : Int) / 256) = ((st4 x : Nat) : Int) := by unfold st4; simp
  rw [e, wrapN _ (by omega)]
theorem E5 (x : Nat) (hx : st5 x < 2 ^ 63) : IntKind.u64.wrap ((x : Int) + (x : Int) / 65536) = ((st5 x : Nat) : Int) := by
  have e : ((x : Int) + (x : Int) / 65536) = ((st5 x : Nat) : Int) := by unfold st5; simp
  rw [e, wrapN _ (by omega)]
theorem E6 (x : Nat) (hx : st6 x < 2 ^ 63) : IntKind.u64.wrap ((x : Int) + (x : Int) / 4294967296) = ((st6 x : Nat) : Int) := by
  have e : ((x : Int) + (x : Int) / 4294967296) = ((st6 x : Nat) : Int) := by unfold st6; simp
  rw [e, wrapN _ (by omega)]
theorem E7 (x : Nat) (hx : x < 2 ^ 63) : bits BinOp.and IntKind.i64 (wrap64 (x : Int)) 127 = ((x % 128 : Nat) : Int) := by
  have e : wrap64 (x : Int) = (x : Int) := by unfold wrap64; omega
  rw [e]
  have h := bits_mask .i64 63 (by decide) (fun n h0 h1 => by rw [IntKind.wrap_i64]; omega) 7 (by decide) (x : Int) (by omega) (by exact_mod_cast hx)
  rw [show ((2 : Int) ^ 7 - 1) = 127 from rfl, show ((2 : Int) ^ 7) = 128 from rfl] at h
  rw [h]
  simp
theorem onesCount_any (x : Nat) (w : World) (hx : x < 2 ^ 64) : Calls Try.prog 92 #[.int .u64 x] w fun e w' => e = .returned (.int .i64 (ones x 64)) ∧ w = w' := by
  have Hx := Lib.hid hx
  clear hx
  go_enter Try.func92, Try.ntmps92
  go_wp2
  go_ret
  refine ⟨retInt ?_, rfl⟩
  obtain ⟨p1, p2, p3, p4, p5⟩ := popcount x
  rw [E1 x Hx.out, E2 _ (st1_lt x), E3 _ (st2_le _), E4 _ p3, E5 _ p4, E6 _ p5, E7 _ p5, p1]
theorem len_any (x : Nat) (w : World) (hx : x < 2 ^ 64) : Calls Try.prog 75 #[.int .u64 x] w fun e w' => e = .returned (.int .i64 (ones x 64)) ∧ w = w' := by
  have Hx := Lib.hid hx
  clear hx
  go_enter Try.func75, Try.ntmps75
  go_wp2_with (go_at_call 92; (with_reducible refine (onesCount_any x _ Hx.out).mono ?_); rintro e w' ⟨rfl, rfl⟩)
  go_ret
  exact ⟨rfl, rfl⟩
/-! the least one -/
def ctz (x : Nat) : Nat := ((List.range 64).find? fun i => x.testBit i).getD 64
theorem ctz_spec {x : Nat} (hx : x < 2 ^ 64) (h0 : x ≠ 0) : ctz x < 64 ∧ x.testBit (ctz x) = true ∧ ∀ j, j < ctz x → x.testBit j = false := by
  have hex : ∃ i, i < 64 ∧ x.testBit i = true := by
    obtain ⟨i, hi⟩ := Nat.exists_testBit_of_ne_zero h0
    refine ⟨i, ?_, hi⟩
    rcases Nat.lt_or_ge i 64 with h | h
    · exact h
    · rw [Nat.testBit_lt_two_pow (Nat.lt_of_lt_of_le hx (Nat.pow_le_pow_right (by omega) h))] at hi
      cases hi
  unfold ctz
  cases hf : (List.range 64).find? fun i => x.testBit i with
  | none =>
    rw [List.find?_eq_none] at hf
    obtain ⟨i, hi, hb⟩ := hex
    exact absurd hb (by simpa using hf i (by simpa using hi))
  | some i =>
    rw [List.find?_eq_some_iff_getElem] at hf
    obtain ⟨hb, n, hn, he, hall⟩ := hf
    simp at he hn
    subst he
    simp only [Option.getD_some]
    refine ⟨hn, hb, fun j hj => ?_⟩
    have := hall j hj
    simpa using this
end Go.Proofs.Ytjpejclfppbboaa
