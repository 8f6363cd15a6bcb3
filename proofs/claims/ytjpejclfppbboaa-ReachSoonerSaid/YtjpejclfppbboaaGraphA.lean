/- Contracts of package graph: Has, Check. -/
import Derived.Test.YtjpejclfppbboaaRows
import Derived.Test.YtjpejclfppbboaaSL
import Derived.WalkSpells
import Derived.Outline
namespace Go.Proofs.Ytjpejclfppbboaa
open Go.ChangeShapes Go.WideShapes Go.ChangeAt Go.RowKit
set_option linter.unusedVariables false
/-- An arc: from, to, weight. -/
structure ArcV where
 fr : Int
 to : Int
 wt : Int
def ArcV.cells (a : ArcV) : List Value := [.int .i64 a.fr, .int .i64 a.to, .int .i64 a.wt]
def arcCells (l : List ArcV) : List Value := l.flatMap ArcV.cells
/-- The slice A, l.length holds the arcs l, below block B. -/
def Arcs (w : World) (B : Nat) (A : Option Addr) (l : List ArcV) : Prop := Reads w B 3 A l.length (arcCells l)
theorem arcCells_get (l : List ArcV) (k : Nat) (h : k < l.length) : (arcCells l)[k * 3]? = some (.int .i64 l[k].fr) ∧ (arcCells l)[k * 3 + 1]? = some (.int .i64 l[k].to) ∧ (arcCells l)[k * 3 + 2]? = some (.int .i64 l[k].wt) := by
 induction l generalizing k with
 | nil => simp at h
 | cons a r ih =>
   cases k with
   | zero => exact ⟨rfl, rfl, rfl⟩
   | succ k =>
     have := ih k (by simpa using h)
     unfold arcCells at this ⊢
     rw [List.flatMap_cons]
     have e0 : (k + 1) * 3 = a.cells.length + k * 3 := by simp [ArcV.cells]; omega
     rw [e0, List.getElem?_append_right (by omega), List.getElem?_append_right (by omega), List.getElem?_append_right (by omega)]
     simp only [Nat.add_sub_cancel_left, List.getElem_cons_succ]
     have e1 : a.cells.length + k * 3 + 1 - a.cells.length = k * 3 + 1 := by omega
     have e2 : a.cells.length + k * 3 + 2 - a.cells.length = k * 3 + 2 := by omega
     rw [e1, e2]
     exact this
theorem arcs_at {w : World} {B : Nat} {A : Option Addr} {l : List ArcV} (h : Arcs w B A l) {k : Nat} (hk : k < l.length) :
 ∃ b o, A = some ⟨b, o, none⟩ ∧ b < B ∧ w.cell? ⟨b, o + k * 3, none⟩ = some (.int .i64 l[k].fr) ∧ w.cell? ⟨b, o + k * 3 + 1, none⟩ = some (.int .i64 l[k].to) ∧ w.cell? ⟨b, o + k * 3 + 2, none⟩ = some (.int .i64 l[k].wt) := by
 obtain ⟨b, o, e, hb, hc⟩ := reads_plain h (by omega) (by omega)
 obtain ⟨g0, g1, g2⟩ := arcCells_get l k hk
 exact ⟨b, o, e, hb, hc _ _ g0, hc _ _ g1, hc _ _ g2⟩
theorem has_yes (N i : Int) (A : Option Addr) (len cap : Nat) (w : World) (h0 : 0 ≤ i) (h1 : i < N) :
 Calls Try.prog 95 #[.agg #[.int .i64 N, .slice A len cap], .int .i64 i] w fun e w' => e = .returned (.bool true) ∧ w.alloc (.cells #[.int .i64 N, .slice A len cap] 111) = w' := by
 go_enter Try.func95, Try.ntmps95
 go_wp2
 go_ret
 exact ⟨rfl, rfl⟩
theorem has_no (N i : Int) (A : Option Addr) (len cap : Nat) (w : World) (h : i < 0 ∨ N ≤ i) :
 Calls Try.prog 95 #[.agg #[.int .i64 N, .slice A len cap], .int .i64 i] w fun e w' => e = .returned (.bool false) ∧ w.alloc (.cells #[.int .i64 N, .slice A len cap] 111) = w' := by
 by_cases h0 : 0 ≤ i
 · have h1 : ¬ i < N := by omega
   clear h
   go_enter Try.func95, Try.ntmps95
   go_wp2
   go_ret
   exact ⟨rfl, rfl⟩
 · clear h
   go_enter Try.func95, Try.ntmps95
   go_wp2
   go_ret
   exact ⟨rfl, rfl⟩
def badArc (N : Int) (a : ArcV) : Bool := decide (¬ (0 ≤ a.fr ∧ a.fr < N) ∨ ¬ (0 ≤ a.to ∧ a.to < N) ∨ a.wt < -1099511627776 ∨ 1099511627776 < a.wt)
/-- 2 (ErrRange), where an arc may not be; 0 (OK). -/
def rangeG (N : Int) (l : List ArcV) : Int := if l.any (badArc N) then 2 else 0
/-- What Check answers: 4 (ErrSize), 2 (ErrRange), 0 (OK). -/
def checkG (N : Int) (l : List ArcV) : Int := if N < 0 ∨ 1000 < N ∨ 20000 < l.length then 4 else rangeG N l
theorem rangeG_bad {N : Int} {l : List ArcV} {k : Nat} (hk : k < l.length) (h : ¬ (0 ≤ l[k].fr ∧ l[k].fr < N) ∨ ¬ (0 ≤ l[k].to ∧ l[k].to < N) ∨ l[k].wt < -1099511627776 ∨ 1099511627776 < l[k].wt) : rangeG N l = 2 := by
 unfold rangeG
 rw [if_pos]
 rw [List.any_eq_true]
 exact ⟨l[k], List.getElem_mem hk, by unfold badArc; exact decide_eq_true h⟩
theorem rangeG_ok {N : Int} {l : List ArcV} (h : l.any (badArc N) = false) : rangeG N l = 0 := by
 unfold rangeG
 rw [h]; rfl
theorem bad_snoc {N : Int} {l : List ArcV} {k : Nat} (hk : k < l.length) (h : (l.take k).any (badArc N) = false) (g : ¬ (¬ (0 ≤ l[k].fr ∧ l[k].fr < N) ∨ ¬ (0 ≤ l[k].to ∧ l[k].to < N) ∨ l[k].wt < -1099511627776 ∨ 1099511627776 < l[k].wt)) : (l.take (k + 1)).any (badArc N) = false := by
 rw [List.take_succ_eq_append_getElem hk, List.any_append, h]
 unfold badArc
 simp only [List.any_cons, List.any_nil, Bool.or_false, Bool.false_or]
 exact decide_eq_false g
theorem check_size (N : Int) (A : Option Addr) (len cap : Nat) (w : World) (hl : len ≤ maxLen) (h : N < 0 ∨ 1000 < N ∨ 20000 < len) :
 Calls Try.prog 94 #[.agg #[.int .i64 N, .slice A len cap]] w fun e w' => e = .returned (.int .i64 4) ∧ Below w.heap.size w w' := by
 unfold maxLen at hl
 by_cases h0 : N < 0
 · clear h
   go_enter Try.func94, Try.ntmps94
   go_wp2
   go_ret
   exact ⟨rfl, (Below.refl _ _).alloc (Nat.le_refl _) _⟩
 · by_cases h1 : 1000 < N
   · clear h
     go_enter Try.func94, Try.ntmps94
     go_wp2
     go_ret
     exact ⟨rfl, (Below.refl _ _).alloc (Nat.le_refl _) _⟩
   · have h2 : (20000 : Int) < (len : Int) := by omega
     clear h
     go_enter Try.func94, Try.ntmps94
     go_wp2
     go_ret
     exact ⟨rfl, (Below.refl _ _).alloc (Nat.le_refl _) _⟩
set_option maxHeartbeats 400000 in
theorem check_loop (N : Int) (A : Option Addr) (cap : Nat) (l : List ArcV) (w : World) (hr : Arcs w w.heap.size A l) (h0 : 0 ≤ N) (h1 : N ≤ 1000) (h2 : l.length ≤ 20000) :
 Calls Try.prog 94 #[.agg #[.int .i64 N, .slice A l.length cap]] w fun e w' => e = .returned (.int .i64 (rangeG N l)) ∧ Below w.heap.size w w' := by
 go_enter Try.func94, Try.ntmps94
 go_wp2
 go_loopw [22] (fun i wr => ∃ k : Nat, k ≤ l.length ∧ i = .int .i64 k ∧ (l.take k).any (badArc N) = false ∧ wr.heap[w.heap.size]? = some (.cells #[.int .i64 N, .slice A l.length cap] 111) ∧ Below w.heap.size w wr) (fun i _ => l.length - (intOf i).toNat)
 case atStart => exact ⟨0, by omega, rfl, by simp, heap_alloc_new _ _, (Below.refl _ _).alloc (Nat.le_refl _) _⟩
 case round =>
  obtain ⟨k, hk, rfl, hany, hg, hB⟩ := hrel
  have Hany := Lib.hid hany
  have c0 : wr.cell? ⟨w.heap.size, 0, none⟩ = some (.int .i64 N) := cell_of_row _ _ _ _ _ _ hg
  have c1 : wr.cell? ⟨w.heap.size, 1, none⟩ = some (.slice A l.length cap) := cell_of_row _ _ _ _ _ _ hg
  have hz : w.heap.size < wr.heap.size := block_lt_of_cell c0
  have HG := Lib.hid hg
  clear hany hg
  by_cases hlt : k < l.length
  · obtain ⟨b, o, rfl, hb, d0, d1, d2⟩ := arcs_at (Reads.below hr hB) hlt
    by_cases hf : 0 ≤ l[k].fr ∧ l[k].fr < N
    · by_cases ht : 0 ≤ l[k].to ∧ l[k].to < N
      · by_cases hw1 : l[k].wt < -1099511627776
        · have HR := Lib.hid (rangeG_bad (N := N) hlt (.inr (.inr (.inl hw1))))
          go_wp2_with (go_at_call 95; first | ((with_reducible refine (has_yes _ _ _ _ _ _ hf.1 hf.2).mono ?_); rintro e w2 ⟨rfl, rfl⟩) | ((with_reducible refine (has_yes _ _ _ _ _ _ ht.1 ht.2).mono ?_); rintro e w2 ⟨rfl, rfl⟩))
          go_ret
          exact ⟨retInt (by rw [HR.out]), (((hB.alloc hB.size _).alloc (by simp; omega) _).alloc (by simp; omega) _)⟩
        · by_cases hw2 : 1099511627776 < l[k].wt
          · have HR := Lib.hid (rangeG_bad (N := N) hlt (.inr (.inr (.inr hw2))))
            go_wp2_with (go_at_call 95; first | ((with_reducible refine (has_yes _ _ _ _ _ _ hf.1 hf.2).mono ?_); rintro e w2 ⟨rfl, rfl⟩) | ((with_reducible refine (has_yes _ _ _ _ _ _ ht.1 ht.2).mono ?_); rintro e w2 ⟨rfl, rfl⟩))
            go_ret
            exact ⟨retInt (by rw [HR.out]), (((hB.alloc hB.size _).alloc (by simp; omega) _).alloc (by simp; omega) _)⟩
          · have HR := Lib.hid (bad_snoc hlt Hany.out (by omega))
            go_wp2_with (go_at_call 95; first | ((with_reducible refine (has_yes _ _ _ _ _ _ hf.1 hf.2).mono ?_); rintro e w2 ⟨rfl, rfl⟩) | ((with_reducible refine (has_yes _ _ _ _ _ _ ht.1 ht.2).mono ?_); rintro e w2 ⟨rfl, rfl⟩))
            go_roundw
            case rel => exact ⟨k + 1, by omega, by go_num, HR.out, by rw [Below.heap_alloc _ _ _ (by simp; omega), Below.heap_alloc _ _ _ (by simp; omega), Below.heap_alloc _ _ _ (by omega)]; exact HG.out, (((hB.alloc hB.size _).alloc (by simp; omega) _).alloc (by simp; omega) _)⟩
            case measure => simp [intOf]; omega
      · have HR := Lib.hid (rangeG_bad (N := N) hlt (.inr (.inl ht)))
        have ht' : l[k].to < 0 ∨ N ≤ l[k].to := by omega
        go_wp2_with (go_at_call 95; first | ((with_reducible refine (has_yes _ _ _ _ _ _ hf.1 hf.2).mono ?_); rintro e w2 ⟨rfl, rfl⟩) | ((with_reducible refine (has_no _ l[k].to _ _ _ _ ht').mono ?_); rintro e w2 ⟨rfl, rfl⟩))
        go_ret
        exact ⟨retInt (by rw [HR.out]), (((hB.alloc hB.size _).alloc (by simp; omega) _).alloc (by simp; omega) _)⟩
    · have HR := Lib.hid (rangeG_bad (N := N) hlt (.inl hf))
      have hf' : l[k].fr < 0 ∨ N ≤ l[k].fr := by omega
      go_wp2_with (go_at_call 95; (with_reducible refine (has_no _ l[k].fr _ _ _ _ hf').mono ?_); rintro e w2 ⟨rfl, rfl⟩)
      go_ret
      exact ⟨retInt (by rw [HR.out]), ((hB.alloc hB.size _).alloc (by simp; omega) _)⟩
  · obtain rfl : k = l.length := by omega
    have HR := Lib.hid (rangeG_ok (by have := Hany.out; rwa [List.take_length] at this))
    go_wp2
    go_ret
    exact ⟨retInt (by rw [HR.out]), hB⟩
/-- Check, whatever the graph. -/
theorem checkG_any (N : Int) (A : Option Addr) (cap : Nat) (l : List ArcV) (w : World) (hr : Arcs w w.heap.size A l) (hl : l.length ≤ maxLen) :
 Calls Try.prog 94 #[.agg #[.int .i64 N, .slice A l.length cap]] w fun e w' => e = .returned (.int .i64 (checkG N l)) ∧ Below w.heap.size w w' := by
 by_cases h : N < 0 ∨ 1000 < N ∨ 20000 < l.length
 · rw [show checkG N l = 4 from if_pos h]
   exact check_size N A l.length cap w hl h
 · rw [show checkG N l = rangeG N l from if_neg h]
   exact check_loop N A cap l w hr (by omega) (by omega) (by omega)
end Go.Proofs.Ytjpejclfppbboaa
