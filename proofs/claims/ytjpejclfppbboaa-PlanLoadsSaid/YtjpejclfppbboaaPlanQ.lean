/- A region that draws its order, walked once in the order of the text, at a class of what is owned; a call may make memory. No program in sight. -/
import Derived.Test.YtjpejclfppbboaaPlanB
import Derived.Deep.QuietTactic
import Derived.BigQuiet
namespace Go.Proofs.Ytjpejclfppbboaa
open Go Go.ChangeShapes Go.WideShapes Go.ChangeAt Go.RowKit
set_option linter.unusedVariables false
theorem wp_region_sq {P : Program} {id : Nat} {Q : Exit → Act → World → Prop} {a : Act} {W w : World} {B : Nat} {l : List Oper} (rs : List Rs) (hS : SL W B rs w) (hm : P.follows .mixedOrders = true) (hB : Region.lexB .any l.toArray = true)
    (h : ∀ (C : Type) (cw : C → World), Nonempty C → (∀ c, SL W B rs (cw c)) → (∀ w, SL W B rs w → ∃ c, w = cw c) → wpQuiet P l.toArray (fun w => ∃ c, w = cw c) (fun a' => ∀ w', SL W B rs w' → Q .normal a' w') l a) : (Code.region id l.toArray true).wp P Q a w := by
  refine wp_region_quiet (C := SL W B rs) hm hB hS.drew ?_
  have h1 := h (InC (SL W B rs)) InC.w ⟨⟨w.drew, hS.drew⟩⟩ InC.h (fun w hw => ⟨⟨w, hw⟩, rfl⟩)
  have e : (fun w => ∃ c : InC (SL W B rs), w = c.w) = SL W B rs := funext fun w => propext ⟨fun ⟨c, hc⟩ => hc ▸ c.h, fun hw => ⟨⟨w, hw⟩, rfl⟩⟩
  rw [e] at h1
  exact h1
/-- A call that hands back one value and only makes memory, at the class. -/
theorem sq_call {P : Program} {W : World} {B : Nat} {rs : List Rs} {C : Type} {cw : C → World} {f : FuncId} {args : Array Value} {v : Value} {c : C} (hC : SL W B rs (cw c)) (hin : ∀ w, SL W B rs w → ∃ c, w = cw c) (h : Calls P f args (cw c) fun e w' => e = .returned v ∧ Below (cw c).heap.size (cw c) w') :
    Calls P f args (cw c) fun e w' => e = .returned v ∧ ∃ c', w' = cw c' := h.mono fun _ _ h => ⟨h.1, hin _ (hC.call h.2)⟩
end Go.Proofs.Ytjpejclfppbboaa
