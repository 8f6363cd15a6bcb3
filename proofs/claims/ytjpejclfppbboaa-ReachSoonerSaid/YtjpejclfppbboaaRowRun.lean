/- append(row, s...): the elements are read wherever they lie. No program in sight. Runs of stores into an owned row; a row cut short; an append whose run is known. No program in sight. append as a step of a plan whose operations may come in several orders. No program in sight. append(row, s...) for any s, none of its elements or some; a byte of a row that came in; a whole struct's load as a stated value. No program in sight. More steps of a plan (XPlanB): operations that look, behind ones that change memory; append; picking out of what is owned. No program in sight. A region that draws its order, walked once in the order of the text, at a class of what is owned; a call may make memory. No program in sight. -/
import Derived.Test.YtjpejclfppbboaaIarr
import Derived.ArgAppend
import Derived.Laws.IdiomCopy
import Derived.BigFrame
import Derived.Deep.QuietTactic
import Derived.BigQuiet
namespace Go.Proofs.Ytjpejclfppbboaa
open Go.ChangeShapes Go.WideShapes Go.ChangeAt Go.RowKit
set_option linter.unusedVariables false
end Go.Proofs.Ytjpejclfppbboaa
namespace Go.Proofs.Ytjpejclfppbboaa
open Go.ChangeShapes Go.WideShapes Go.ChangeAt Go.RowKit
set_option linter.unusedVariables false
theorem set_self' {α : Type} {l : List α} {i : Nat} {a : α} (h : l[i]? = some a) : l.set i a = l := by
 obtain ⟨h1, rfl⟩ := List.getElem?_eq_some_iff.1 h
 exact List.set_getElem_self h1
section
variable {P : Program} {Pn : List PanicEntry → World → Prop} {lo : List Oper} {K : World → Prop} {Lm : Act → World → Prop} {rest : List Nat} {i : Nat} {o : Oper} {a : Act} {w : World}
end
end Go.Proofs.Ytjpejclfppbboaa
namespace Go.Proofs.Ytjpejclfppbboaa
open Go
set_option linter.unusedVariables false
end Go.Proofs.Ytjpejclfppbboaa
namespace Go.Proofs.Ytjpejclfppbboaa
open Go.ChangeShapes Go.WideShapes Go.ChangeAt Go.RowKit
set_option linter.unusedVariables false
end Go.Proofs.Ytjpejclfppbboaa
namespace Go.Proofs.Ytjpejclfppbboaa
open Go
set_option linter.unusedVariables false
/-- Some of what is owned, in another order. -/
theorem SL.pick {W w : World} {B : Nat} {l l' : List Rs} (h : SL W B l w) (is : List Nat) (hn : is.Nodup) (hp : is.mapM (fun i => l[i]?) = some l') : SL W B l' w := by
 have hk : ∀ (is : List Nat) (l' : List Rs), is.mapM (fun i => l[i]?) = some l' → is.length = l'.length ∧ ∀ j (hj : j < is.length) (hj' : j < l'.length), l[is[j]]? = some l'[j] := by
  intro is
  induction is with
  | nil => intro l' hp; simp at hp; subst hp; exact ⟨rfl, fun j hj => absurd hj (by simp)⟩
  | cons i r ih =>
    intro l' hp
    rw [List.mapM_cons] at hp
    cases hi : l[i]? with
    | none => rw [hi] at hp; cases hp
    | some x =>
      cases hr : r.mapM (fun i => l[i]?) with
      | none => rw [hi, hr] at hp; cases hp
      | some y =>
        rw [hi, hr] at hp
        obtain rfl : x :: y = l' := by injection hp
        obtain ⟨h1, h2⟩ := ih y hr
        refine ⟨by simp [h1], fun j hj hj' => ?_⟩
        cases j with
        | zero => simpa using hi
        | succ j => simpa using h2 j (by simpa using hj) (by simpa using hj')
 obtain ⟨hl, hg⟩ := hk is l' hp
 have hmem : ∀ r ∈ l', r ∈ l := by
  intro r hr
  obtain ⟨j, hj, rfl⟩ := List.getElem_of_mem hr
  exact List.mem_of_getElem? (hg j (by omega) hj)
 refine ⟨h.below, h.size, fun r hr => h.holds r (hmem r hr), fun r hr => h.block r (hmem r hr), ?_⟩
 rw [List.pairwise_iff_getElem]
 intro a b ha hb hab
 have ga := hg a (by omega) ha
 have gb := hg b (by omega) hb
 have hne : is[a]'(by omega) ≠ is[b]'(by omega) := by
  intro e
  have := (List.pairwise_iff_getElem.1 hn) a b (by omega) (by omega) hab
  exact this e
 obtain ⟨ha1, ha2⟩ := List.getElem?_eq_some_iff.1 ga
 obtain ⟨hb1, hb2⟩ := List.getElem?_eq_some_iff.1 gb
 have hap := List.pairwise_iff_getElem.1 h.apart
 intro g h1 h2
 rw [← ha2] at h1
 rw [← hb2] at h2
 rcases Nat.lt_or_gt_of_ne hne with hlt | hgt
 · exact hap _ _ ha1 hb1 hlt g h1 h2
 · exact hap _ _ hb1 ha1 hgt g h2 h1
def planInvB (ops : Array Oper) (Hs : List Nat) (listed : Array Bool) : Bool :=
 listed.size == ops.size && (List.range ops.size).all (fun j => !listed.getD j false || match ops[j]? with | some oj => oj.after.all (fun e => !Region.binds .any e || listed.getD e.on false) | none => true) && Hs.all (fun t => !listed.getD t true)
section
variable {P : Program} {lo : List Oper} {K : World → Prop} {Pn : List PanicEntry → World → Prop} {Ls Ms Hs : List Nat} {Tq : Act → World → Prop} {f : Nat} {listed : Array Bool} {a : Act} {w : World} {o : Oper}
/-- It looks; whenever it comes, it sees the same. -/
theorem pb_told (i : Nat) (v : Value) (hB : planBB .any lo.toArray Ls Ms Hs = true) (hi : lo[i]? = some o) (hP : planInvB lo.toArray Hs listed = true) (hr : (Region.ready .any lo.toArray listed).contains i = true) (hf : Region.free .any lo.toArray listed i = true) (hin : (Ls ++ Ms).contains i = true) (hK : K w)
 (hw : Region.wanted o (yielded lo.toArray a.tmps) = true) (h : ∀ w, K w → (execOp a.eval o).run P w = .ok (.value v) w) (hk : ∀ Kv : Act → Prop, (∀ a, wpRest P lo.toArray K Pn Ls Ms Hs Tq f (listed.setIfInBounds i true) a w → Kv a) → Kv (a.put o.dst v)) : wpRest P lo.toArray K Pn Ls Ms Hs Tq (f + 1) listed a w := by
 have hH := hk _ fun _ h => h
 simp only [planBB, Bool.and_eq_true, decide_eq_true_eq] at hB
 obtain ⟨⟨⟨⟨⟨⟨hsel, hpart⟩, hdis⟩, hlen⟩, hs⟩, hc⟩, hpl⟩ := hB
 have hhd : ∀ t, (Ls ++ Ms).contains t = false → t < lo.toArray.size → t ∈ Hs := by
  intro t ht hlt
  have h1 := List.all_eq_true.1 hpart t (List.mem_range.2 hlt)
  simp only [ht] at h1
  simpa using h1
 have hHs : ∀ t ∈ Hs, (Ls ++ Ms).contains t = false := by
  intro t ht
  cases hc' : (Ls ++ Ms).contains t
  · rfl
  · have h1 := List.all_eq_true.1 hdis t (by simpa using hc')
    simp [ht] at h1
 simp only [planInvB, Bool.and_eq_true, beq_iff_eq] at hP
 obtain ⟨⟨p1, p2⟩, p3⟩ := hP
 have inv : PlanInv .any lo.toArray (fun t => (Ls ++ Ms).contains t) listed := by
  refine ⟨p1, fun j oj hj hl e he hb => ?_, fun t ht ht' => ?_⟩
  · have hjs := (Array.getElem?_eq_some_iff.1 hj).1
    have := List.all_eq_true.1 p2 j (List.mem_range.2 hjs)
    simp only [hl, hj, Bool.not_true, Bool.false_or] at this
    have := Array.all_eq_true_iff_forall_mem.1 this e he
    simpa [hb] using this
  · have := List.all_eq_true.1 p3 t (hhd t ht ht')
    simpa using this
 have hi' : lo.toArray[i]? = some o := by simpa using hi
 exact wpAnyK_first (v := v) (K := K) (Pn := Pn) (Lq := fun listed' a' w' => seqL .any lo.toArray Hs listed' = true ∧ Tq a' w') (head := Ls ++ Ms) hi' (Region.noSelect_spec hsel) hhd hHs (fun h1 r e => by subst e; exact hs) hc (by simpa using hin) hin (fun _ _ _ hq => seqL_ready hHs hq.1) f listed a w hK inv (Region.free_spec hi' hf) (by simpa using hr)
  (.inl ⟨hw, fun w hw' => by rw [h w hw']; exact ⟨rfl, rfl⟩⟩) hH
end
end Go.Proofs.Ytjpejclfppbboaa
namespace Go.Proofs.Ytjpejclfppbboaa
open Go Go.ChangeShapes Go.WideShapes Go.ChangeAt Go.RowKit
set_option linter.unusedVariables false
theorem wp_region_sq {P : Program} {id : Nat} {Q : Exit → Act → World → Prop} {a : Act} {W w : World} {B : Nat} {l : List Oper} (rs : List Rs) (hS : SL W B rs w) (hm : P.follows .mixedOrders = true) (hB : Region.lexB .any l.toArray = true)
 (h : ∀ (C : Type) (cw : C → World), Nonempty C → (∀ c, SL W B rs (cw c)) → (∀ w, SL W B rs w → ∃ c, w = cw c) → wpQuiet P l.toArray (fun w => ∃ c, w = cw c) (fun a' => ∀ w', SL W B rs w' → Q .normal a' w') l a) : (Code.region id l.toArray true).wp P Q a w := by
 refine wp_region_quiet (C := SL W B rs) hm hB hS.drew ?_
 have h1 := h (InC (SL W B rs)) InC.w ⟨⟨w.drew, hS.drew⟩⟩ InC.h (fun w hw => ⟨⟨w, hw⟩, rfl⟩)
 have e : (fun w => ∃ c : InC (SL W B rs), w = c.w) = SL W B rs := funext fun w => propext ⟨fun ⟨c, hc⟩ => hc ▸ c.h, fun hw => ⟨⟨w, hw⟩, rfl⟩⟩
 rw [e] at h1
 exact h1
/-- A call that hands back one value and only makes memory, at the class. -/
theorem sq_call {P : Program} {W : World} {B : Nat} {rs : List Rs} {C : Type} {cw : C → World} {f : FuncId} {args : Array Value} {v : Value} {c : C} (hC : SL W B rs (cw c)) (hin : ∀ w, SL W B rs w → ∃ c, w = cw c) (h : Calls P f args (cw c) fun e w' => e = .returned v ∧ Below (cw c).heap.size (cw c) w') :
 Calls P f args (cw c) fun e w' => e = .returned v ∧ ∃ c', w' = cw c' := h.mono fun _ _ h => ⟨h.1, hin _ (hC.call h.2)⟩
end Go.Proofs.Ytjpejclfppbboaa
