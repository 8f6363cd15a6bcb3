/- The plain law of flow.Most: what the loop keeps; how far it can go. Things owned, joined. No program in sight. -/
import Derived.Test.YtgnmbmlpfjlbiaaAlongM
namespace Go.Proofs.Ytgnmbmlpfjlbiaa
open Go.ChangeShapes Go.WideShapes Go.ChangeAt Go.RowKit
set_option linter.unusedVariables false
/-- All the room that there is. -/
def roomK (ps : List PipeV) : Nat → Int
  | 0 => 0
  | k + 1 => roomK ps k + (match ps[k]? with | some p => p.room | none => 0)
def rooms (ps : List PipeV) : Int := roomK ps ps.length
theorem innK_le {N : Nat} {ps : List PipeV} {x : Nat → Int} (hP : InP N ps) (hF : Feas ps x) (v : Int) : ∀ k, k ≤ ps.length → innK ps x v k ≤ roomK ps k ∧ roomK ps k ≤ 1099511627776 * k ∧ 0 ≤ roomK ps k ∧ - roomK ps k ≤ innK ps x v k
  | 0, _ => by simp [innK, roomK]
  | k + 1, hk => by
    have ih := innK_le hP hF v k (by omega)
    have hkl : k < ps.length := by omega
    have hf := hF k hkl
    have hp := hP ps[k] (List.getElem_mem hkl)
    unfold innK roomK
    rw [cont_at hkl, List.getElem?_eq_getElem hkl]
    simp only
    split <;> split <;> refine ⟨by omega, by omega, by omega, by omega⟩
theorem inn_le {N : Nat} {ps : List PipeV} {x : Nat → Int} (hP : InP N ps) (hF : Feas ps x) (v : Int) : inn ps x v ≤ rooms ps ∧ rooms ps ≤ 1099511627776 * ps.length ∧ - rooms ps ≤ inn ps x v := by
  have h := innK_le hP hF v ps.length (Nat.le_refl _)
  exact ⟨h.1, h.2.1, h.2.2.2⟩
theorem innK_zero {ps : List PipeV} (v : Int) : ∀ k, innK ps (fun _ => 0) v k = 0
  | 0 => rfl
  | k + 1 => by
    unfold innK
    rw [innK_zero v k]
    unfold cont
    split <;> simp
theorem feas_zero {N : Nat} {ps : List PipeV} (hP : InP N ps) : Feas ps (fun _ => 0) := fun k hk => ⟨Int.le_refl _, (hP ps[k] (List.getElem_mem hk)).2.2.1⟩
/-- A flow from s to t; so much flows. -/
structure FlowOf (ps : List PipeV) (s t : Int) (y : Nat → Int) (sum : Int) : Prop where
  feas : Feas ps y
  amount : inn ps y t = sum
  pos : 0 ≤ sum
  kept : ∀ v, v ≠ s → v ≠ t → inn ps y v = 0
theorem flow_zero {N : Nat} {ps : List PipeV} {s t : Int} (hP : InP N ps) : FlowOf ps s t (fun _ => 0) 0 :=
  ⟨feas_zero hP, innK_zero _ _, Int.le_refl _, fun v _ _ => innK_zero _ _⟩
theorem flow_more {ps : List PipeV} {s t : Int} {x y : Nat → Int} {sum d : Int} (h : FlowOf ps s t x sum) (hst : s ≠ t) (hd : 1 ≤ d) (hF : Feas ps y) (hi : ∀ v, inn ps y v = inn ps x v + (if t = v then d else 0) - (if s = v then d else 0)) : FlowOf ps s t y (sum + d) := by
  refine ⟨hF, ?_, by have := h.pos; omega, fun v h1 h2 => ?_⟩
  · rw [hi, h.amount, if_pos rfl, if_neg hst]; omega
  · rw [hi, h.kept v h1 h2, if_neg (Ne.symm h2), if_neg (Ne.symm h1)]; omega
/-- What Most answers of: a flow by which no more can flow. -/
structure MostOf (N : Nat) (ps : List PipeV) (s t : Int) (y : Nat → Int) (sum : Int) : Prop where
  flow : FlowOf ps s t y sum
  stuck : ∃ seen by_, Walked N ps y s seen by_ ∧ seen t.toNat = false
end Go.Proofs.Ytgnmbmlpfjlbiaa
