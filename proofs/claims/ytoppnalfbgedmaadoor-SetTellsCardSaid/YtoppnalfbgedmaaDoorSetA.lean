/- Contracts of package set (With, Of ..) and of the law's list: what each call hands back; memory that was there stays. -/
import Derived.Test.YtoppnalfbgedmaaDoorRows
import Derived.Test.YtoppnalfbgedmaaDoorMem
import Derived.WalkKit
import Derived.ProofKit
import Derived.OpenShut
import Derived.Lib.Hide
import Derived.Laws.Rows
import Derived.Great.BuildSlice
import Derived.Laws.BitsAllLaws
import Derived.Deep.Draws
import Derived.Deep.AppendLies
import Derived.WalkSpells
import Derived.WalkLawsBesides
namespace Go.Proofs.YtoppnalfbgedmaaDoor
open Go.ChangeShapes Go.WideShapes Go.ChangeAt Go.RowKit
set_option linter.unusedVariables false

theorem u64_nat {a : Int} (h : (Lit.int .u64 a).wf = true) : ∃ x : Nat, a = (x : Int) ∧ x < 2 ^ 64 := by
  have hb : 0 ≤ a ∧ a ≤ 18446744073709551615 := by
    simp [Lit.wf, IntKind.min, IntKind.max, IntKind.signed, IntKind.bits] at h
    omega
  exact ⟨a.toNat, by omega, by omega⟩
def bitv (x i : Nat) : Bool := x.testBit i
def arrf (f : Nat → Bool) : Array Value := Array.ofFn (n := 64) fun i => Value.bool (f i.val)
def arrv (x k : Nat) : Array Value := arrf fun i => decide (i < k) && bitv x i
theorem arrf_size (f : Nat → Bool) : (arrf f).size = 64 := by simp [arrf]
theorem arrf_get (f : Nat → Bool) (i : Nat) (h : i < 64) : (arrf f)[i]? = some (Value.bool (f i)) := by simp [arrf, h]
theorem arrf_ext {f g : Nat → Bool} (h : ∀ i, i < 64 → f i = g i) : arrf f = arrf g := by
  unfold arrf; congr 1; funext i; rw [h i.val i.isLt]
theorem arrf_ext_iff {f g : Nat → Bool} : arrf f = arrf g ↔ ∀ i, i < 64 → f i = g i := by
  refine ⟨fun h i hi => ?_, arrf_ext⟩
  have := arrf_get f i hi
  rw [h, arrf_get g i hi] at this
  simpa using this.symm
theorem arrf_set (f : Nat → Bool) (k : Nat) (b : Bool) (h : k < 64) : (arrf f).setIfInBounds k (.bool b) = arrf fun i => if i = k then b else f i := by
  apply Array.ext_getElem?
  intro i
  by_cases hi : i < 64
  · rw [Array.getElem?_setIfInBounds, arrf_get _ _ hi, arrf_get _ _ hi, arrf_size]
    by_cases hk : k = i
    · subst hk; simp [h]
    · rw [if_neg hk, if_neg (Ne.symm hk)]
  · rw [Array.getElem?_eq_none (by simp [arrf_size]; omega), Array.getElem?_eq_none (by simp [arrf_size]; omega)]
theorem arrf_one (f : Nat → Bool) : (arrf f).all (·.oneCell') = true := by
  rw [Array.all_eq_true_iff_forall_mem]
  intro v hv
  obtain ⟨i, hi⟩ := Array.mem_ofFn.1 hv
  rw [← hi]; rfl
theorem arrf_false : arrf (fun _ => false) = Array.replicate 64 (.bool false) := by
  unfold arrf; apply Array.ext <;> simp
theorem arr0 (x : Nat) : arrv x 0 = Array.replicate 64 (.bool false) := by
  rw [← arrf_false]; exact arrf_ext fun i _ => by simp
theorem arr_set (x k : Nat) (h : k < 64) : (arrv x k).setIfInBounds k (.bool (bitv x k)) = arrv x (k+1) := by
  unfold arrv
  rw [arrf_set _ _ _ h]
  refine arrf_ext fun i _ => ?_
  by_cases e : i = k
  · subst e; simp
  · rw [if_neg e]; congr 1; rw [decide_eq_decide]; omega
theorem bit_spell (x k : Nat) : (((x : Int) / 2 ^ k).tmod 2 == 1) = bitv x k := by
  have e : ((x : Int) / 2 ^ k) = ((x / 2 ^ k : Nat) : Int) := by simp
  rw [e, Int.tmod_eq_emod_of_nonneg (Int.natCast_nonneg _)]
  unfold bitv
  rw [Nat.testBit_eq_decide_div_mod_eq, Bool.eq_iff_iff]
  simp
  omega
theorem list_is (x : Nat) : arrv x 64 = arrf (bitv x) := arrf_ext fun i h => by simp [h]

theorem cells64 : (Tryd.prog.info? 31).map (·.size) = some 64 := by kernel_rfl

theorem list_any (x : Nat) (w : World) (hx : x < 2^64) : Calls Tryd.prog 12 #[.int .u64 x] w fun e w' => e = .returned (.agg (arrf (bitv x))) ∧ Below w.heap.size w w' := by
  have hx' : Hid (x < 2^64) := hx
  clear hx
  go_enter Tryd.func12, Tryd.ntmps12
  go_wp2
  go_loopw [5] (fun i wr => ∃ k : Nat, k ≤ 64 ∧ i = .int .i64 k ∧ wr.heap[w.heap.size+1]? = some (.cells (arrv x k) 31) ∧ (∃ A, wr.heap[w.heap.size]? = some (.cells A 31) ∧ A.size = 64)  ∧ Below w.heap.size w wr) (fun i _ => 64 - (intOf i).toNat)
  case atStart =>
    exact ⟨0, by omega, rfl, by rw [arr0]; exact heap_alloc2_new _ _ _, ⟨_, heap_alloc2_old _ _ _, rfl⟩, ((Below.refl _ _).alloc (Nat.le_refl _) _).alloc (by simp) _⟩
  case round =>
    obtain ⟨k, hk, rfl, hb1, ⟨A, hA, hAs⟩, hB⟩ := hrel
    by_cases hlt : k < 64
    · have hb1' := Lib.hid hb1
      have hA' := Lib.hid hA
      have hAs' := Lib.hid hAs
      have hc : wr.cell? ⟨w.heap.size+1, k, none⟩ = some (Value.bool (decide (k < k) && bitv x k)) := by
        rw [cell_of_row _ _ _ _ _ _ hb1]; exact arrf_get _ _ hlt
      have hf : wr.frozen? ⟨w.heap.size+1, k, none⟩ = false := frozen_of_row _ _ _ _ _ hb1
      clear hb1 hA hAs
      go_wp2
      go_roundw
      case rel =>
        refine ⟨k+1, by omega, by go_num, ?_, ⟨A, ?_, hAs'.out⟩, hB.setCell (by simp) _⟩
        · rw [heap_setCell_same _ _ _ _ _ _ hb1'.out, bit_spell, arr_set _ _ hlt]
        · rw [heap_setCell_other _ _ _ _ (by simp)]; exact hA'.out
      case measure => simp [intOf]; omega
    · obtain rfl : k = 64 := by omega
      have hb1' := Lib.hid hb1
      have hA' := Lib.hid hA
      have hAs' := Lib.hid hAs
      clear hb1 hA hAs
      go_wp2_with (first
        | (refine wpList_load_row rfl 31 _ rfl _ rfl 31 (arrv x 64) _ _ hb1'.out Tryd.underlying31 rfl (by rw [arrv, arrf_size]; exact cells64) ?_)
        | (refine wpList_store_rowTo rfl 31 _ _ rfl rfl _ (arrv x 64) rfl rfl 31 A hA'.out (by rw [arrv, arrf_size]; exact cells64) (by rw [arrv, arrf_size]; exact hAs'.out) (arrf_one _) ?_))
      exact retArr rfl _ _ _ 31 (arrv x 64) _ rfl (setRow_heap _ _ _ _ _ _ hA'.out) Tryd.underlying31 rfl (by rw [arrv, arrf_size]; exact cells64) ⟨by rw [list_is], below_setRow hB (Nat.le_refl _) _⟩

theorem in_yes (n : Int) (w : World) (h0 : 0 ≤ n) (h1 : n < 64) : Calls Tryd.prog 18 #[.int .i64 n] w fun e w' => e = .returned (.bool true) ∧ w = w' := by
  go_enter Tryd.func18, Tryd.ntmps18
  go_wp2
  go_ret
  exact ⟨rfl, rfl⟩
theorem in_no (n : Int) (w : World) (h : n < 0 ∨ 64 ≤ n) : Calls Tryd.prog 18 #[.int .i64 n] w fun e w' => e = .returned (.bool false) ∧ w = w' := by
  rcases h with h | h
  all_goals
    first | have h' : (0 : Int) ≤ n := by omega | skip
    go_enter Tryd.func18, Tryd.ntmps18
    go_wp2
    go_ret
    exact ⟨retBool (by simp; try omega), rfl⟩
/-- x, with n. -/
def setWith (x : Nat) (n : Int) : Nat := if 0 ≤ n ∧ n < 64 then x ||| 2 ^ n.toNat else x
theorem pow_lt (n : Int) (h0 : 0 ≤ n) (h1 : n < 64) : 2 ^ n.toNat < 18446744073709551616 := by
  have : (2 : Nat) ^ n.toNat < 2 ^ 64 := Nat.pow_lt_pow_right (by omega) (by omega)
  simpa using this
theorem wrap_pow (n : Int) (h0 : 0 ≤ n) (h1 : n < 64) : IntKind.u64.wrap (2 ^ n.toNat) = ((2 ^ n.toNat : Nat) : Int) := by
  rw [IntKind.wrap_u64]
  have := pow_lt n h0 h1
  have e : ((2 : Int) ^ n.toNat) = ((2 ^ n.toNat : Nat) : Int) := by simp
  rw [e]
  generalize 2 ^ n.toNat = m at this
  omega
theorem setWith_lt (x : Nat) (n : Int) (hx : x < 2 ^ 64) : setWith x n < 2 ^ 64 := by
  unfold setWith
  split
  · rename_i h; exact Nat.or_lt_two_pow hx (by simpa using pow_lt n h.1 h.2)
  · exact hx
theorem with_any (x : Nat) (n : Int) (w : World) (hx : x < 2 ^ 64) : Calls Tryd.prog 15 #[.int .u64 x, .int .i64 n] w fun e w' => e = .returned (.int .u64 (setWith x n)) ∧ w = w' := by
  by_cases h : 0 ≤ n ∧ n < 64
  · have e : setWith x n = x ||| 2 ^ n.toNat := if_pos h
    have H := Lib.hid e
    clear e
    obtain ⟨h0, h1⟩ := h
    go_enter Tryd.func15, Tryd.ntmps15
    go_wp2_with (go_at_call 18; refine (in_yes _ _ h0 h1).mono ?_; rintro e w' ⟨rfl, rfl⟩)
    go_ret
    refine ⟨retInt ?_, rfl⟩
    rw [H.out, wrap_pow n h0 h1, u64_or_nat _ _ (by simpa using hx) (pow_lt n h0 h1)]
  · have e : setWith x n = x := if_neg h
    have H := Lib.hid e
    clear e
    go_enter Tryd.func15, Tryd.ntmps15
    go_wp2_with (go_at_call 18; refine (in_no _ _ (by omega)).mono ?_; rintro e w' ⟨rfl, rfl⟩)
    go_ret
    exact ⟨retInt (by rw [H.out]), rfl⟩
/-- The set of some numbers. -/
def setOf (l : List Int) : Nat := l.foldl setWith 0
theorem setOf_lt (l : List Int) : setOf l < 2 ^ 64 := by
  unfold setOf
  have : ∀ (l : List Int) (x : Nat), x < 2 ^ 64 → l.foldl setWith x < 2 ^ 64 := by
    intro l
    induction l with
    | nil => intro x h; exact h
    | cons a r ih => intro x h; exact ih _ (setWith_lt _ _ h)
  exact this l 0 (by omega)
theorem setOf_snoc (l : List Int) (k : Nat) (h : k < l.length) : setOf (l.take (k + 1)) = setWith (setOf (l.take k)) l[k] := by
  unfold setOf
  rw [List.take_succ_eq_append_getElem h, List.foldl_append]; rfl
theorem of_any (B : Nat) (A : Option Addr) (c : Nat) (l : List Int) (w : World) (hr : Reads w B 1 A l.length (l.map (.int .i64))) (hl : l.length ≤ maxLen) :
    Calls Tryd.prog 6 #[.slice A l.length c] w fun e w' => e = .returned (.int .u64 (setOf l)) ∧ w = w' := by
  unfold maxLen at hl
  go_enter Tryd.func6, Tryd.ntmps6
  go_wp2
  go_loop [3, 8] (fun s i => ∃ k : Nat, k ≤ l.length ∧ i = .int .i64 k ∧ s = .int .u64 (setOf (l.take k))) (fun _ i => l.length - (intOf i).toNat)
  case atStart => exact ⟨0, by omega, rfl, rfl⟩
  case round =>
    obtain ⟨k, hk, rfl, rfl⟩ := hrel
    by_cases hlt : k < l.length
    · have H := Lib.hid (setOf_snoc l k hlt)
      have hs := Lib.hid (setOf_lt (l.take k))
      obtain ⟨ad, u, rfl, _, hu, hc⟩ := hr.at_ hlt
      have hu' : u = .int .i64 l[k] := by simpa [hlt] using hu.symm
      subst hu'
      clear hu hr
      go_wp2_with (go_at_call 15; refine (with_any _ _ _ hs.out).mono ?_; rintro e w' ⟨rfl, rfl⟩)
      go_round
      case rel => exact ⟨k + 1, by omega, by go_num, by rw [H.out]⟩
      case measure => simp [intOf]; omega
    · obtain rfl : k = l.length := by omega
      go_wp2
      go_ret
      exact ⟨rfl, rfl⟩
theorem set9 : setOf [3, 70, 0] = 9 := by decide
theorem awake_any (w : World) : Calls Tryd.prog 5 #[] w fun e w' => e = .returned (.bool true) ∧ Below w.heap.size w w' := by
  have hr : Reads (w.alloc (.cells #[.int .i64 3, .int .i64 70, .int .i64 0] 3)) (w.alloc (.cells #[.int .i64 3, .int .i64 70, .int .i64 0] 3)).heap.size 1 (some ⟨w.heap.size, 0, none⟩) [(3 : Int), 70, 0].length ([(3 : Int), 70, 0].map (.int .i64)) := by
    refine ⟨rfl, fun _ => ⟨_, rfl, by simp, fun j u hu => ?_⟩⟩
    have e : (⟨w.heap.size, 0, none⟩ : Addr).add j = ⟨w.heap.size, j, none⟩ := by unfold Addr.add; split <;> simp_all
    rw [e, cell_of_row _ _ _ _ _ _ (heap_alloc_new w _)]
    simpa using hu
  go_enter Tryd.func5, Tryd.ntmps5
  go_wp2_with (go_at_call 6; refine (of_any _ _ 3 [3, 70, 0] _ hr (by decide)).mono ?_; rintro e w' ⟨rfl, rfl⟩; rw [set9])
  go_ret
  exact ⟨rfl, (Below.refl _ _).alloc (Nat.le_refl _) _⟩
end Go.Proofs.YtoppnalfbgedmaaDoor
