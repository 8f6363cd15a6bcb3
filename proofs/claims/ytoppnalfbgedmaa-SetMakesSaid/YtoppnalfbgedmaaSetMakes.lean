/- The walk of the law SetMakes. -/
import Derived.Test.YtoppnalfbgedmaaSetA
import Derived.Test.YtoppnalfbgedmaaSetEq
import Derived.Deep.RegionHeld3
import Derived.Deep.MidRow
namespace Go.Proofs.Ytoppnalfbgedmaa
open Go.ChangeShapes Go.WideShapes Go.ChangeAt Go.RowKit
set_option linter.unusedVariables false
def wantf (l : List Int) (i : Nat) : Bool := decide ((i : Int) ∈ l)
theorem setWith_bit (x : Nat) (n : Int) (i : Nat) (hi : i < 64) : bitv (setWith x n) i = (decide ((i : Int) = n) || bitv x i) := by
  unfold setWith bitv
  split
  · rename_i h
    rw [Nat.testBit_or, Nat.testBit_two_pow, Bool.or_comm]
    congr 1
    rw [decide_eq_decide]; omega
  · rename_i h
    have : ¬ ((i : Int) = n) := by omega
    simp [this]
theorem setOf_bit (l : List Int) (i : Nat) (hi : i < 64) : bitv (setOf l) i = wantf l i := by
  have : ∀ (l : List Int) (x : Nat), bitv (l.foldl setWith x) i = (wantf l i || bitv x i) := by
    intro l
    induction l with
    | nil => intro x; simp [wantf]
    | cons a r ih =>
      intro x
      rw [List.foldl_cons, ih, setWith_bit _ _ _ hi]
      unfold wantf
      by_cases h1 : (i : Int) = a <;> by_cases h2 : (i : Int) ∈ r <;> simp [h1, h2]
  unfold setOf
  rw [this]
  simp [bitv]
theorem want_snoc (l : List Int) (k : Nat) (h : k < l.length) (i : Nat) : wantf (l.take (k + 1)) i = (decide ((i : Int) = l[k]) || wantf (l.take k) i) := by
  rw [List.take_succ_eq_append_getElem h]
  unfold wantf
  rw [Bool.eq_iff_iff]; simp only [List.mem_append, List.mem_singleton, Bool.or_eq_true, decide_eq_true_eq]; exact or_comm
theorem want_in (l : List Int) (k : Nat) (h : k < l.length) (h0 : 0 ≤ l[k]) (h1 : l[k] < 64) : (arrf (wantf (l.take k))).setIfInBounds (l[k]).toNat (.bool true) = arrf (wantf (l.take (k + 1))) := by
  rw [arrf_set _ _ _ (by omega)]
  refine arrf_ext fun i hi => ?_
  rw [want_snoc l k h]
  by_cases e : i = (l[k]).toNat
  · subst e; simp; omega
  · rw [if_neg e]
    have : ¬ ((i : Int) = l[k]) := by omega
    simp [this]
theorem want_out (l : List Int) (k : Nat) (h : k < l.length) (h0 : l[k] < 0 ∨ 64 ≤ l[k]) : arrf (wantf (l.take k)) = arrf (wantf (l.take (k + 1))) := by
  refine arrf_ext fun i hi => ?_
  rw [want_snoc l k h]
  have : ¬ ((i : Int) = l[k]) := by omega
  simp [this]
theorem list_of (l : List Int) : arrf (bitv (setOf l)) = arrf (wantf l) := arrf_ext fun i hi => setOf_bit l i hi

theorem keep_row {w wr wx : World} {b : Nat} {cs : List Value} (h : w.rangeAt b 0 cs ∧ Below (b + 1) wr w) (hz : b + 1 ≤ wr.heap.size) (hb : Below w.heap.size w wx) : wx.rangeAt b 0 cs ∧ Below (b + 1) wr wx :=
  ⟨fun j v hv => (hb.cell (p := ⟨b, 0 + j, none⟩) (by have := h.2.size; show b < _; omega)).trans (h.1 j v hv), h.2.trans (hb.mono (by have := h.2.size; omega))⟩
theorem reads_held {w w1 w2 : World} {B b n sz : Nat} {A : Option Addr} {xs : List Value} {p : Prop} (hr : Reads w B sz A n xs) (hb : Below B w w1) (hle : B ≤ b) (h : p ∧ Below b w1 w2) : Reads w2 B sz A n xs :=
  (hr.below hb).below (h.2.mono hle)
theorem below_held {w w1 w2 : World} {B b : Nat} {p : Prop} (hb : Below B w w1) (hle : B ≤ b) (h : p ∧ Below b w1 w2) : Below B w w2 := hb.trans (h.2.mono hle)
theorem setMakes_long (A : Option Addr) (c : Nat) (len : Nat) (w : World) (h : 60 < len) (hl : len ≤ maxLen) :
    Calls Try.prog 3 #[.slice A len c] w fun e w' => e = .returned (.bool true) ∧ Below w.heap.size w w' := by
  unfold maxLen at hl
  go_enter Try.func3, Try.ntmps3
  go_wp2_with (go_at_call 6; refine (awake_any _).mono ?_; rintro e w' ⟨rfl, hb⟩)
  go_ret
  exact ⟨rfl, hb⟩
theorem setMakes_short (A : Option Addr) (c : Nat) (l : List Int) (w : World) (hr : Reads w w.heap.size 1 A l.length (l.map (.int .i64))) (h : l.length ≤ 60) :
    Calls Try.prog 3 #[.slice A l.length c] w fun e w' => e = .returned (.bool true) ∧ Below w.heap.size w w' := by
  go_enter Try.func3, Try.ntmps3
  go_wp2_with (go_at_call 6; refine (awake_any _).mono ?_; rintro e w1 ⟨rfl, hb⟩)
  go_loopw [13] (fun i wr => ∃ k : Nat, k ≤ l.length ∧ i = .int .i64 k ∧ wr.heap[w1.heap.size]? = some (.cells (arrf (wantf (l.take k))) 24) ∧ Below w1.heap.size w1 wr ∧ w1.heap.size < wr.heap.size) (fun i _ => l.length - (intOf i).toNat)
  case atStart => exact ⟨0, by omega, rfl, by rw [show arrf (wantf (l.take 0)) = arrf (fun _ => false) from arrf_ext fun i _ => by simp [wantf], arrf_false]; exact heap_alloc_new _ _, (Below.refl _ _).alloc (Nat.le_refl _) _, by simp⟩
  case round =>
    obtain ⟨k, hk, rfl, hb1, hB, hz⟩ := hrel
    have hbw : Below w.heap.size w wr := hb.trans (hB.mono hb.size)
    by_cases hlt : k < l.length
    · obtain ⟨ad, u, rfl, _, hu, hc⟩ := (hr.below hbw).at_ hlt
      have hu' : u = .int .i64 l[k] := by simpa [hlt] using hu.symm
      subst hu'
      clear hu
      have hb1' := Lib.hid hb1
      have hf : wr.frozen? ⟨w1.heap.size, (l[k]).toNat, none⟩ = false := frozen_of_row _ _ _ _ _ hb1
      by_cases hin : 0 ≤ l[k] ∧ l[k] < 64
      · have hc2 : wr.cell? ⟨w1.heap.size, (l[k]).toNat, none⟩ = some (Value.bool (wantf (l.take k) (l[k]).toNat)) := by
          rw [cell_of_row _ _ _ _ _ _ hb1]; exact arrf_get _ _ (by omega)
        obtain ⟨hn0, hn1⟩ := hin
        clear hb1
        go_wp2
        go_roundw
        case rel => exact ⟨k + 1, by omega, by go_num, by rw [heap_setCell_same _ _ _ _ _ _ hb1'.out, want_in _ _ hlt hn0 hn1], hB.setCell (by simp) _, by simpa using hz⟩
        case measure => simp [intOf]; omega
      · have hw := Lib.hid (want_out l k hlt (by omega))
        clear hb1 hf
        rcases (show l[k] < 0 ∨ 64 ≤ l[k] by omega) with hn | hn
        all_goals
          clear hin
          try (have hn' : (0 : Int) ≤ l[k] := by omega)
          go_wp2
          go_roundw
          case rel => exact ⟨k + 1, by omega, by go_num, by rw [← hw.out]; exact hb1'.out, hB, hz⟩
          case measure => simp [intOf]; omega
    · obtain rfl : k = l.length := by omega
      have hb1' := Lib.hid hb1
      have hr' := Lib.hid hr
      have hbw' := Lib.hid hbw
      clear hb1
      go_wp2
      have hu24 := Try.underlying24
      have hi24 : (Try.prog.info? 24).map (·.size) = some (arrf (wantf l)).toList.length := by rw [Array.length_toList, arrf_size]; exact cells64
      have hrange : wr.rangeAt w1.heap.size 0 (arrf (wantf l)).toList := fun j v hv => by
        have hg : wr.heap[w1.heap.size]? = some (.cells (arrf (wantf l)) 24) := by have := hb1'.out; rw [List.take_length] at this; exact this
        rw [cell_of_row _ _ _ _ _ _ hg]; simpa using hv
      have heq := run_eq_yes (bitv (setOf l)) (wantf l) (fun i hi => setOf_bit l i hi)
      have hle1 : w.heap.size ≤ w1.heap.size + 1 := by have := hb.size; omega
      have hz' : w1.heap.size + 1 ≤ wr.heap.size := hz
      go_region_held3 (fun w' => w'.rangeAt w1.heap.size 0 (arrf (wantf l)).toList ∧ Below (w1.heap.size + 1) wr w') (first
          | (exact ⟨hrange, (Below.refl _ _).drew⟩)
          | assumption
          | (exact keep_row (by assumption) hz' hb3))
        (first
          | (go_at_call 8; refine (of_any w.heap.size A c l _ (reads_held (b := w1.heap.size + 1) hr'.out hbw'.out hle1 (by assumption)) (by unfold maxLen; omega)).mono ?_; rintro e w' ⟨rfl, rfl⟩)
          | (go_at_call 7; refine (list_any _ _ (setOf_lt l)).mono ?_; rintro e w' ⟨rfl, hb3⟩))
      go_wp2
      go_ret
      exact ⟨rfl, below_held (b := w1.heap.size + 1) hbw'.out hle1 (by assumption)⟩
theorem setMakes_walk (W : World) (A : Option Addr) (c : Nat) (l : List Int) (hr : Reads W W.heap.size 1 A l.length (l.map (.int .i64))) (hl : l.length ≤ maxLen) (_hw : ∀ n ∈ l, (Lit.int .i64 n).wf = true) :
    Calls Try.prog 3 #[.slice A l.length c] W fun e w' => e = .returned (.bool true) ∧ Below W.heap.size W w' := by
  by_cases h : 60 < l.length
  · exact setMakes_long A c _ W h hl
  · exact setMakes_short A c l W hr (by omega)
end Go.Proofs.Ytoppnalfbgedmaa
