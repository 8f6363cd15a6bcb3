/- What so many rounds over all arcs come to at most; beginnings as a list. No program in sight. -/
import Derived.Test.YtaaffahjlkfbgaaLateM
import Derived.Test.YtaaffahjlkfbgaaIarr
namespace Go.Proofs.Ytaaffahjlkfbgaa
open Go.ChangeShapes Go.WideShapes Go.ChangeAt Go.RowKit
set_option linter.unusedVariables false
theorem roundsA_le {L : List ArcV} (hlen : L.length ≤ 24) (hwt : ∀ a ∈ L, -32768 ≤ a.wt ∧ a.wt ≤ 32767) {V0 : Nat → Int} {b : Int} (h : ∀ j, V0 j ≤ b) (r : Nat) : ∀ j, roundsA L V0 r j ≤ b + r * 786432 := by
  induction r with
  | zero => intro j; have := h j; show V0 j ≤ _; omega
  | succ r ih =>
    intro j
    have := foldA_le L 32768 (fun a ha => by have := hwt a ha; omega) (by omega) _ _ ih j
    show roundA L (roundsA L V0 r) j ≤ _
    unfold roundA
    omega
theorem late_bnd {L : List ArcV} (hlen : L.length ≤ 24) (hwt : ∀ a ∈ L, -32768 ≤ a.wt ∧ a.wt ≤ 32767) {V0 : Nat → Int} (h : ∀ j, -4294967296 ≤ V0 j ∧ V0 j ≤ 4294967296) (r : Nat) (hr : r ≤ 8) (k j : Nat) : -4294967296 ≤ (L.take k).foldl relaxA (roundsA L V0 r) j ∧ (L.take k).foldl relaxA (roundsA L V0 r) j ≤ 8589934592 := by
  constructor
  · exact Int.le_trans (Int.le_trans (h j).1 (roundsA_ge L V0 r j)) (foldA_ge _ _ _)
  · have h1 := roundsA_le hlen hwt (fun j => (h j).2) r
    have h2 := foldA_le (L.take k) 32768 (fun a ha => by have := hwt a (List.mem_of_mem_take ha); omega) (by omega) _ _ h1 j
    have h3 : (L.take k).length ≤ 24 := by rw [List.length_take]; omega
    omega
/-- The beginnings that there are; else 0. -/
def begF (N : Nat) (fl : List Int) (j : Nat) : Int := if j < N then fl.getD j 0 else 0
theorem begF_at {N : Nat} {fl : List Int} {j : Nat} (hN : j < N) (h : j < fl.length) : begF N fl j = fl[j] := by
  unfold begF; rw [if_pos hN, List.getD_eq_getElem?_getD, List.getElem?_eq_getElem h]; rfl
theorem begF_out {N : Nat} {fl : List Int} {j : Nat} (h : ¬ j < fl.length) : begF N fl j = 0 := by
  unfold begF; rw [List.getD_eq_getElem?_getD, List.getElem?_eq_none (by omega)]; simp
theorem begF_bnd {fl : List Int} (hb : ∀ x ∈ fl, (Lit.int .i32 x).wf = true) (N j : Nat) : -2147483648 ≤ begF N fl j ∧ begF N fl j ≤ 2147483647 := by
  unfold begF
  split
  · rw [List.getD_eq_getElem?_getD]
    cases h : fl[j]? with
    | none => simp
    | some x =>
      have := hb x (List.mem_of_getElem? h)
      simp [Lit.wf, IntKind.min, IntKind.max, IntKind.signed, IntKind.bits] at this
      simpa using this
  · omega
theorem begF_list (N : Nat) (fl : List Int) (j : Nat) : ((List.range N).map (begF N fl)).getD j 0 = begF N fl j := by
  rw [List.getD_eq_getElem?_getD]
  by_cases h : j < N
  · simp [h]
  · rw [List.getElem?_eq_none (by simp; omega)]
    unfold begF; rw [if_neg h]; rfl
end Go.Proofs.Ytaaffahjlkfbgaa
