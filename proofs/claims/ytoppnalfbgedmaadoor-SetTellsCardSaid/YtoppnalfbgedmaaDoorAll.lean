/- Contract: Set.All: the numbers, rising. -/
import Derived.Test.YtoppnalfbgedmaaDoorTz
import Derived.Deep.LoopGhost
namespace Go.Proofs.YtoppnalfbgedmaaDoor
open Go.ChangeShapes Go.WideShapes Go.ChangeAt Go.RowKit
set_option linter.unusedVariables false
theorem clear_bit {y : Nat} (hy : y < 2 ^ 64) (h0 : y ≠ 0) (i : Nat) : (y &&& (y - 1)).testBit i = (y.testBit i && decide (i ≠ ctz y)) := by
  obtain ⟨h64, ht, hl⟩ := ctz_spec hy h0
  generalize ctz y = t at *
  obtain ⟨m, hm⟩ := odd_part hl ht
  have hp : 0 < 2 ^ t := Nat.two_pow_pos t
  have hy1 : y - 1 = 2 ^ t * (2 * m) + (2 ^ t - 1) := by rw [hm, Nat.mul_add, Nat.mul_one]; omega
  rw [Nat.testBit_and]
  by_cases hi : i < t
  · rw [hl i hi]; rfl
  · by_cases he : i = t
    · subst he
      have e : (y - 1).testBit i = false := by rw [hy1, Nat.testBit_two_pow_mul_add _ (by omega)]; simp
      simp [e]
    · obtain ⟨k, rfl⟩ : ∃ k, i = t + (k + 1) := ⟨i - t - 1, by omega⟩
      have e1 : y.testBit (t + (k + 1)) = m.testBit k := by
        have := Nat.testBit_two_pow_mul_add (i := t) (2 * m + 1) (b := 0) hp (t + (k + 1))
        rw [Nat.add_zero, ← hm] at this
        rw [this, if_neg (by omega), show t + (k + 1) - t = k + 1 by omega, Nat.testBit_succ]
        congr 1; omega
      have e2 : (y - 1).testBit (t + (k + 1)) = m.testBit k := by
        rw [hy1, Nat.testBit_two_pow_mul_add _ (by omega), if_neg (by omega), show t + (k + 1) - t = k + 1 by omega, Nat.testBit_succ]
        congr 1; omega
      rw [e1, e2]
      have : ¬ t + (k + 1) = t := by omega
      cases m.testBit k <;> simp [this]
/-- The numbers below p that are there. -/
def allK (x p : Nat) : List Int := ((List.range p).filter fun i => x.testBit i).map Int.ofNat
theorem allK_skip {x p t : Nat} (hpt : p ≤ t) (h : ∀ i, p ≤ i → i < t → x.testBit i = false) : allK x t = allK x p := by
  induction t with
  | zero => have : p = 0 := by omega
            subst this; rfl
  | succ t ih =>
    by_cases e : p = t + 1
    · subst e; rfl
    · rw [← ih (by omega) (fun i h1 h2 => h i h1 (by omega))]
      unfold allK
      rw [List.range_succ, List.filter_append, List.map_append]
      simp [h t (by omega) (by omega)]
theorem allK_add {x t : Nat} (h : x.testBit t = true) : allK x (t + 1) = allK x t ++ [(t : Int)] := by
  unfold allK
  rw [List.range_succ, List.filter_append, List.map_append]
  simp [h]
theorem allK_len (x p : Nat) : (allK x p).length ≤ p := by
  unfold allK
  rw [List.length_map]
  exact Nat.le_trans (List.length_filter_le _ _) (by simp)
/-- y is x above p. -/
def Above (x y p : Nat) : Prop := ∀ i, y.testBit i = (x.testBit i && decide (p ≤ i))
theorem above_step {x y p : Nat} (hy : y < 2 ^ 64) (h0 : y ≠ 0) (h : Above x y p) : p ≤ ctz y ∧ Above x (y &&& (y - 1)) (ctz y + 1) ∧ allK x (ctz y + 1) = allK x p ++ [(ctz y : Int)] ∧ y &&& (y - 1) < 2 ^ 64 := by
  obtain ⟨h64, ht, hl⟩ := ctz_spec hy h0
  have h1 := h (ctz y)
  rw [ht] at h1
  have h2 : x.testBit (ctz y) = true ∧ p ≤ ctz y := by
    have := h1.symm
    simpa using this
  refine ⟨h2.2, fun i => ?_, ?_, Nat.lt_of_le_of_lt Nat.and_le_left hy⟩
  · rw [clear_bit hy h0, h i]
    by_cases h3 : i < ctz y
    · have := hl i h3
      rw [h i] at this
      have h4 : ¬ ctz y + 1 ≤ i := by omega
      rw [this]; simp [h4]
    · by_cases h4 : i = ctz y
      · subst h4; simp
      · have h5 : ctz y + 1 ≤ i := by omega
        have h6 : p ≤ i := by omega
        simp [h4, h5, h6]
  · rw [allK_add h2.1, allK_skip h2.2 (fun i h3 h4 => by
      have := hl i h4
      rw [h i] at this
      simpa [h3] using this)]
theorem above_zero {x p : Nat} (hx : x < 2 ^ 64) (h : Above x 0 p) (hp : p ≤ 64) : allK x 64 = allK x p :=
  allK_skip hp (fun i h1 h2 => by
    have := h i
    rw [Nat.zero_testBit] at this
    simpa [h1] using this.symm)
theorem int_infoA : (Tryd.prog.info? 3).map (fun i => (i.zero, i.size, i.bytes)) = some (some (.int .i64 0), 1, 8) := by kernel_rfl
def MadeIntsA (W : World) (zs : List Int) (e : Ending) (w' : World) : Prop := ∃ v, e = .returned v ∧ w'.ownsRow W.heap.size 3 1 v zs.length (zs.map (.int .i64)) ∧ Below W.heap.size W w'
theorem clear_spell {y : Nat} (hy : y < 2 ^ 64) (h0 : y ≠ 0) : bits BinOp.and IntKind.u64 (y : Int) (IntKind.u64.wrap ((y : Int) - 1)) = ((y &&& (y - 1) : Nat) : Int) := by
  have e : IntKind.u64.wrap ((y : Int) - 1) = ((y - 1 : Nat) : Int) := by rw [IntKind.wrap_u64]; omega
  rw [e, and_nat _ _ hy (by omega)]
set_option maxHeartbeats 400000 in
theorem all_any (x : Nat) (w : World) (hx : x < 2 ^ 64) (hT : Tab w) (hw : 0 < w.heap.size) :
    Calls Tryd.prog 7 #[.int .u64 x] w (MadeIntsA w (allK x 64)) := by
  obtain ⟨i0, hi0, hz0, hz1, hz2⟩ := info_parts int_infoA
  have HI := Lib.hid (And.intro hi0 (And.intro hz0 (And.intro hz1 hz2)))
  have HX := Lib.hid hx
  have HT := Lib.hid hT
  clear hi0 hz0 hz1 hz2 hx hT
  go_enter Tryd.func7, Tryd.ntmps7
  go_wp2
  go_loopg [0, 3] 66 (fun gk sv v wr => ∃ y p : Nat, sv = .int .u64 y ∧ y < 2 ^ 64 ∧ p ≤ 64 ∧ 64 - p < gk ∧ Above x y p ∧ wr.ownsRow w.heap.size 3 1 v (allK x p).length ((allK x p).map (.int .i64)) ∧ Below w.heap.size w wr)
  case atStart => exact ⟨x, 0, rfl, HX.out, by omega, by omega, fun i => by simp, World.ownsRow_nil _ _ _ _, Below.refl _ _⟩
  case round =>
    obtain ⟨y, p, rfl, hy, hp, hgk, hab, hown, hB⟩ := hrel
    by_cases h0 : y = 0
    · subst h0
      have HO := Lib.hid (And.intro hab (And.intro hown hB))
      clear hab hown hB hy
      go_wp2
      go_ret
      obtain ⟨hab, hown, hB⟩ := HO.out
      exact ⟨_, rfl, by rw [above_zero HX.out hab hp]; exact hown, hB⟩
    · obtain ⟨h1, h2, h3, h4⟩ := above_step hy h0 hab
      have hct : ctz y < 64 := (ctz_spec hy h0).1
      have hsp := clear_spell hy h0
      have hne : ((y : Int) != 0) = true := by simpa using h0
      have hcf : Hid (∀ w', Tab w' → Calls Tryd.prog 13 #[.int .u64 y] w' fun e w'' => e = .returned (.int .i64 (ctz y)) ∧ w' = w'') := fun w' ht => first_pos y w' hy h0 ht
      have HTr : Hid (Tab wr) := tab_below HT.out hB hw
      have hlen := allK_len x p
      have HH := Lib.hid (And.intro h1 (And.intro h2 (And.intro h3 h4)))
      have hsz := hB.size
      clear h1 h2 h3 h4 hab hy h0
      generalize ctz y = t at *
      generalize y &&& (y - 1) = y' at *
      go_wp2_with (first
        | (go_at_call 13; (with_reducible refine (hcf.out _ HTr.out).mono ?_); rintro e w2 ⟨rfl, rfl⟩)
        | (at_builtin; refine wpList_append_new rfl _ _ 26 rfl w.heap.size i0 (.int .i64 0) 1 8 Tryd.underlying26 HI.out.1 HI.out.2.1 HI.out.2.2.1 HI.out.2.2.2 rfl (by decide) _ _ _ rfl hown _ rfl ?c0 rfl ?c1 ?c2 ?c3 ?c4 ?_
           case c0 => rfl
           case c1 => simp [Value.oneCell']
           case c2 => omega
           case c3 => omega
           case c4 => exact hsz
           intro v' w' hown' hb' hz'
           have HO := Lib.hid (And.intro hown' hb')
           clear hown' hb' hown))
      go_roundg (64 - (t + 1) + 1)
      case measure => have := HH.out.1; omega
      case rel => exact ⟨y', t + 1, rfl, HH.out.2.2.2, by omega, by omega, HH.out.2.1, by rw [HH.out.2.2.1]; simpa using HO.out.1, hB.trans HO.out.2⟩
end Go.Proofs.YtoppnalfbgedmaaDoor
