/- More of the plan: at a class of worlds of one's own; a nil check; a pile's steps at a thing told by its two numbers. -/
import Derived.Test.YtgnmbmlpfjlbiaaPile
import Derived.Test.YtgnmbmlpfjlbiaaPlanB
namespace Go.Proofs.Ytgnmbmlpfjlbiaa
open Go.ChangeShapes Go.WideShapes Go.ChangeAt Go.RowKit
set_option linter.unusedVariables false
/-- A plan at a class of worlds of one's own. -/
theorem wp_region_kl {P : Program} {id : Nat} {Q : Exit → Act → World → Prop} {a : Act} {w : World} {l : List Oper} (Ls Ms Hs : List Nat) (K : World → Prop) (hK : K w.drew) (hm : P.follows .mixedOrders = true) (hB : planB .any l.toArray Ls Ms Hs = true) {os : List Oper} (hos : Picks l Hs os)
    (h : ∀ (C : Type) (cw : C → World), Nonempty C → (∀ c, K (cw c)) → wpPlanL P l.toArray (fun w => ∃ c, w = cw c) (fun a' => wpPlanM P l.toArray K (fun _ _ => False) (fun a'' w'' => wpList P l.toArray Q os a'' w'') Ms a' w.drew) Ls a) : (Code.region id l.toArray true).wp P Q a w := by
  refine wp_region_plan (fun _ _ => False) Ls Ms Hs K hm hB hK hos (fun _ _ _ _ h => h.elim) ?_
  have h1 := h (InC K) InC.w ⟨⟨w.drew, hK⟩⟩ InC.h
  have key : ∀ (L : List Nat) (a : Act), wpPlanL P l.toArray (fun w => ∃ c : InC K, w = c.w) (fun a' => wpPlanM P l.toArray K (fun _ _ => False) (fun a'' w'' => wpList P l.toArray Q os a'' w'') Ms a' w.drew) L a →
      wpPlanL P l.toArray K (fun a' => wpPlanM P l.toArray K (fun _ _ => False) (fun a'' w'' => wpList P l.toArray Q os a'' w'') Ms a' w.drew) L a := by
    intro L
    induction L with
    | nil => intro a h; exact h
    | cons i r ih =>
      intro a ⟨o, v, h1, h2, h3⟩
      refine ⟨o, v, h1, ?_, ih _ h3⟩
      rcases h2 with ⟨h2, h4⟩ | h2
      · exact .inl ⟨h2, fun w hw => h4 w ⟨⟨w, hw⟩, rfl⟩⟩
      · exact .inr h2
  exact key Ls a h1
/-- The same, with operations that change memory in more than one order. -/
theorem wp_region_kb {P : Program} {id : Nat} {Q : Exit → Act → World → Prop} {a : Act} {w : World} {l : List Oper} (Ls Ms Hs : List Nat) (K : World → Prop) (hK : K w.drew) (hm : P.follows .mixedOrders = true) (hB : planBB .any l.toArray Ls Ms Hs = true) {os : List Oper} (hos : Picks l Hs os)
    (h : ∀ (C : Type) (cw : C → World), Nonempty C → (∀ c, K (cw c)) → wpPlanL P l.toArray (fun w => ∃ c, w = cw c) (fun a' => wpRest P l.toArray K (fun _ _ => False) Ls Ms Hs (fun a'' w'' => wpList P l.toArray Q os a'' w'') Ms.length (listedAll Ls (Array.replicate l.toArray.size false)) a' w.drew) Ls a) : (Code.region id l.toArray true).wp P Q a w := by
  refine wp_region_planB (fun _ _ => False) Ls Ms Hs K hm hB hK hos (fun _ _ _ _ h => h.elim) ?_
  have h1 := h (InC K) InC.w ⟨⟨w.drew, hK⟩⟩ InC.h
  have key : ∀ (L : List Nat) (a : Act), wpPlanL P l.toArray (fun w => ∃ c : InC K, w = c.w) (fun a' => wpRest P l.toArray K (fun _ _ => False) Ls Ms Hs (fun a'' w'' => wpList P l.toArray Q os a'' w'') Ms.length (listedAll Ls (Array.replicate l.toArray.size false)) a' w.drew) L a →
      wpPlanL P l.toArray K (fun a' => wpRest P l.toArray K (fun _ _ => False) Ls Ms Hs (fun a'' w'' => wpList P l.toArray Q os a'' w'') Ms.length (listedAll Ls (Array.replicate l.toArray.size false)) a' w.drew) L a := by
    intro L
    induction L with
    | nil => intro a h; exact h
    | cons i r ih =>
      intro a ⟨o, v, h1, h2, h3⟩
      refine ⟨o, v, h1, ?_, ih _ h3⟩
      rcases h2 with ⟨h2, h4⟩ | h2
      · exact .inl ⟨h2, fun w hw => h4 w ⟨⟨w, hw⟩, rfl⟩⟩
      · exact .inr h2
  exact key Ls a h1
/-- A pointer that is none of nil. -/
theorem pl_nil {P : Program} {lo : List Oper} {K : World → Prop} {Lq : Act → Prop} {a : Act} {i : Nat} {rest : List Nat} {o : Oper} (x : Operand) (A : Addr) (hi : lo[i]? = some o) (hw : Region.wanted o (yielded lo.toArray a.tmps) = true) (ho : o.op = .nilCheck x) (hx : a.eval x = .pointer (some A))
    (hk : ∀ Kv : Act → Prop, (∀ a, wpPlanL P lo.toArray K Lq rest a → Kv a) → Kv (a.put o.dst (.pointer (some A)))) : wpPlanL P lo.toArray K Lq (i :: rest) a :=
  pl_told (.pointer (some A)) hi hw (fun w _ => by
    unfold execOp
    simp only [ho, hx]
    rfl) hk
theorem put_kv (W : World) (B : Nat) (rs : List Rs) (w : World) (pb n : Nat) (v : Value) (f : Nat → ItemV) (k i : Int) (hS : SL W B (PileRs pb v n f rs) w) (hn : n ≤ 900000) :
    Calls Try.prog 43 #[.pointer (some ⟨pb, 0, none⟩), .agg #[.int .i64 k, .int .i64 i]] w fun e w' => e = .returned (.tuple #[]) ∧ ∃ v', SL W B (PileRs pb v' (n + 1) (putM f n ⟨k, i⟩) rs) w' := put_any W B rs w pb n v f ⟨k, i⟩ hS hn
theorem take_kv (W : World) (B : Nat) (rs : List Rs) (w : World) (pb n : Nat) (v : Value) (f : Nat → ItemV) (k i : Int) (hf : f 0 = ⟨k, i⟩) (hS : SL W B (PileRs pb v (n + 1) f rs) w) (hn : n ≤ 900000) :
    Calls Try.prog 44 #[.pointer (some ⟨pb, 0, none⟩)] w fun e w' => e = .returned (.tuple #[.agg #[.int .i64 k, .int .i64 i], .bool true]) ∧ ∃ v', SL W B (PileRs pb v' n (takeM f n) rs) w' := by
  have h := take_any W B rs w pb n v f hS hn
  rw [hf] at h
  exact h
end Go.Proofs.Ytgnmbmlpfjlbiaa
