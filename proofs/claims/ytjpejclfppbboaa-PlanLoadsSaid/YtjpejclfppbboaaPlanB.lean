/- A plan (XPlan) whose operations that change memory may come in more than one order: one goal for each. No program in sight. -/
import Derived.Test.YtjpejclfppbboaaPlanS
namespace Go.Proofs.Ytjpejclfppbboaa
open Go
set_option linter.unusedVariables false
def planLO (md : Region.Mode) (ops : Array Oper) : List Nat → Array Bool → Bool
  | [], _ => true
  | i :: rest, listed => (Region.ready md ops listed).contains i && Region.free md ops listed i && planLO md ops rest (listed.setIfInBounds i true)
def planBB (md : Region.Mode) (ops : Array Oper) (Ls Ms Hs : List Nat) : Bool :=
  Region.noSelect ops && (List.range ops.size).all (fun t => (Ls ++ Ms).contains t != Hs.contains t) && (Ls ++ Ms).all (fun t => !Hs.contains t) && decide ((Ls ++ Ms).length + Hs.length = ops.size) && sinkH md ops (Ls ++ Ms) Hs && chainL md ops Hs && planLO md ops Ls (Array.replicate ops.size false)
def listedAll (Ls : List Nat) (l : Array Bool) : Array Bool := Ls.foldl (fun l i => l.setIfInBounds i true) l
section
variable {P : Program} {ops : Array Oper} {md : Region.Mode} {K : World → Prop} {Pn : List PanicEntry → World → Prop}
theorem wpAnyK_LB {hd : Nat → Bool} {Hs head : List Nat} {f : Nat} {Lq : Array Bool → Act → World → Prop} (hsel : Region.noSelect ops = true) (hhd : ∀ t, hd t = false → t < ops.size → t ∈ Hs) (hHs : ∀ t ∈ Hs, hd t = false)
    (hs : ∀ h1 r, Hs = h1 :: r → sinkL md ops h1 head = true) (hc : chainL md ops Hs = true) (hdone : ∀ listed a w, Lq listed a w → ∀ j ∈ Region.ready md ops listed, hd j = false) {w : World} (hK : K w) :
    ∀ (Ls : List Nat) (listed : Array Bool) (a : Act), (∀ i ∈ Ls, hd i = true ∧ i ∈ head) → PlanInv md ops hd listed → planLO md ops Ls listed = true → wpPlanL P ops K (fun a' => wpAnyK P md ops K Pn hd Lq f (listedAll Ls listed) a' w) Ls a →
    wpAnyK P md ops K Pn hd Lq (Ls.length + f) listed a w
  | [], listed, a, _, inv, hB, h => by
    rw [List.length_nil, Nat.zero_add]
    exact h
  | i :: rest, listed, a, hL, inv, hB, h => by
    obtain ⟨o, v, h0, hy, hk⟩ := h
    simp only [planLO, Bool.and_eq_true] at hB
    obtain ⟨⟨hr, hf⟩, hB'⟩ := hB
    have hr' : i ∈ Region.ready md ops listed := by simpa using hr
    have hin := hL i (by simp)
    have := wpAnyK_first (v := v) (K := K) (Pn := Pn) (Lq := Lq) h0 (Region.noSelect_spec hsel) hhd hHs hs hc hin.2 hin.1 hdone (rest.length + f) listed a w hK inv (Region.free_spec h0 hf) hr' hy
      (wpAnyK_LB hsel hhd hHs hs hc hdone hK rest _ _ (fun i hi => hL i (by simp [hi])) (inv.set hr' hin.1) hB' hk)
    rw [List.length_cons, show rest.length + 1 + f = rest.length + f + 1 by omega]
    exact this
/-- What is left behind those that only look. -/
def wpRest (P : Program) (ops : Array Oper) (K : World → Prop) (Pn : List PanicEntry → World → Prop) (Ls Ms Hs : List Nat) (Tq : Act → World → Prop) (f : Nat) (listed : Array Bool) (a : Act) (w : World) : Prop :=
  wpAnyK P .any ops K Pn (fun t => (Ls ++ Ms).contains t) (fun listed' a' w' => seqL .any ops Hs listed' = true ∧ Tq a' w') f listed a w
theorem wp_region_planB (Pn : List PanicEntry → World → Prop) {id : Nat} {Q : Exit → Act → World → Prop} {a : Act} {w : World} {l : List Oper} (Ls Ms Hs : List Nat) (K : World → Prop) (hm : P.follows .mixedOrders = true) (hB : planBB .any l.toArray Ls Ms Hs = true) (hK : K w.drew) {os : List Oper} (hos : Picks l Hs os) (hP : ∀ ch a' w', a'.defers = a.defers → Pn ch w' → Q (.panic ch) a' w')
    (h : wpPlanL P l.toArray K (fun a' => wpRest P l.toArray K Pn Ls Ms Hs (fun a'' w'' => wpList P l.toArray Q os a'' w'') Ms.length (listedAll Ls (Array.replicate l.toArray.size false)) a' w.drew) Ls a) : (Code.region id l.toArray true).wp P Q a w := by
  simp only [planBB, Bool.and_eq_true, decide_eq_true_eq] at hB
  obtain ⟨⟨⟨⟨⟨⟨hsel, hpart⟩, hdis⟩, hlen⟩, hs⟩, hc⟩, hpl⟩ := hB
  refine wp_region_any hm ?_
  have hhd : ∀ t, (Ls ++ Ms).contains t = false → t < l.toArray.size → t ∈ Hs := by
    intro t ht hlt
    have h1 := List.all_eq_true.1 hpart t (List.mem_range.2 hlt)
    simp only [ht] at h1
    simpa using h1
  have hHs : ∀ t ∈ Hs, (Ls ++ Ms).contains t = false := by
    intro t ht
    cases hc' : (Ls ++ Ms).contains t
    · rfl
    · have h1 := List.all_eq_true.1 hdis t (by simpa using hc')
      simp [ht] at h1
  have hL : ∀ i ∈ Ls, (Ls ++ Ms).contains i = true ∧ i ∈ Ls ++ Ms := fun i hi => by simp [hi]
  have inv0 : PlanInv .any l.toArray (fun t => (Ls ++ Ms).contains t) (Array.replicate l.toArray.size false) :=
    ⟨by simp, fun j oj _ hl => (by rw [getD_replicate_false] at hl; cases hl), fun t _ ht => getD_in (by simpa using ht) (getD_replicate_false _ _)⟩
  have H := wpAnyK_LB (P := P) (md := .any) (K := K) (Pn := Pn) (f := Ms.length) (Lq := fun listed' a' w' => seqL .any l.toArray Hs listed' = true ∧ wpList P l.toArray Q os a' w') (head := Ls ++ Ms) hsel hhd hHs (fun h1 r e => by subst e; exact hs) hc (fun _ _ _ hq => seqL_ready hHs hq.1) hK Ls (Array.replicate l.toArray.size false) a hL inv0 hpl h
  have := wpAny_of_planK (Q' := Q) (g := Hs.length) (ds := a.defers) hP (fun listed a' w' hq => wpAny_of_seqL (md := .any) (Q' := Q) Hs os listed a' w' (by simpa using hos) hq.1 hq.2) _ _ _ _ rfl hK H
  rw [show Ls.length + Ms.length + Hs.length = l.toArray.size by rw [← hlen, List.length_append]] at this
  exact this
end
section
variable {P : Program} {lo : List Oper} {K : World → Prop} {Pn : List PanicEntry → World → Prop} {Ls Ms Hs : List Nat} {Tq : Act → World → Prop} {f : Nat} {listed : Array Bool} {a : Act} {w : World}
theorem pb_end (hs : seqL .any lo.toArray Hs listed = true) (h : Tq a w) : wpRest P lo.toArray K Pn Ls Ms Hs Tq 0 listed a w := ⟨hs, h⟩
/-- Two may come next. -/
theorem pb_two (i j : Nat) (hr : Region.ready .any lo.toArray listed = [i, j]) (hi : (Ls ++ Ms).contains i = true) (hj : (Ls ++ Ms).contains j = true)
    (h1 : kOp P lo.toArray K Pn i (wpRest P lo.toArray K Pn Ls Ms Hs Tq f (listed.setIfInBounds i true)) a w) (h2 : kOp P lo.toArray K Pn j (wpRest P lo.toArray K Pn Ls Ms Hs Tq f (listed.setIfInBounds j true)) a w) : wpRest P lo.toArray K Pn Ls Ms Hs Tq (f + 1) listed a w := by
  refine ⟨by rw [hr]; simp, fun k hk => ?_⟩
  rw [hr] at hk
  rcases List.mem_cons.1 hk with rfl | hk
  · exact ⟨hi, h1⟩
  · have : k = j := by simpa using hk
    subst this
    exact ⟨hj, h2⟩
theorem pb_one (i : Nat) (hr : Region.ready .any lo.toArray listed = [i]) (hi : (Ls ++ Ms).contains i = true)
    (h1 : kOp P lo.toArray K Pn i (wpRest P lo.toArray K Pn Ls Ms Hs Tq f (listed.setIfInBounds i true)) a w) : wpRest P lo.toArray K Pn Ls Ms Hs Tq (f + 1) listed a w := by
  refine ⟨by rw [hr]; simp, fun k hk => ?_⟩
  rw [hr] at hk
  have : k = i := by simpa using hk
  subst this
  exact ⟨hi, h1⟩
theorem kOp_eff {i : Nat} {o : Oper} {Kont : Act → World → Prop} (hi : lo[i]? = some o) (hg : o.guard = none) (h : ∀ Kv : Act → World → Prop, (∀ a w, Kont a w → Kv a w) → effRes P Pn (fun v w' => K w' ∧ Kv (a.put o.dst v) w') ((execOp a.eval o).run P w)) : kOp P lo.toArray K Pn i Kont a w := by
  unfold kOp
  simp only [show lo.toArray[i]? = some o by simpa using hi]
  rw [if_pos (by simp [Region.wanted, hg])]
  exact .inr (h _ fun _ _ h => h)
end
/-- At a class of what is owned. -/
theorem wp_region_slb {P : Program} {id : Nat} {Q : Exit → Act → World → Prop} {a : Act} {W w : World} {B : Nat} {rf : List Rs} {l : List Oper} (Ls Ms Hs : List Nat) (rs : List Rs) (hS : SL W B rf w) (hsub : rs.Sublist rf) (hm : P.follows .mixedOrders = true) (hB : planBB .any l.toArray Ls Ms Hs = true) {os : List Oper} (hos : Picks l Hs os)
    (h : ∀ (C : Type) (cw : C → World), Nonempty C → (∀ c, SL W B rs (cw c)) → wpPlanL P l.toArray (fun w => ∃ c, w = cw c) (fun a' => ∀ w1, SL W B rf w1 → wpRest P l.toArray (SL W B rs) (fun _ _ => False) Ls Ms Hs (fun a'' w'' => wpList P l.toArray Q os a'' w'') Ms.length (listedAll Ls (Array.replicate l.toArray.size false)) a' w1) Ls a) : (Code.region id l.toArray true).wp P Q a w := by
  refine wp_region_planB (fun _ _ => False) Ls Ms Hs (SL W B rs) hm hB (hS.drew.sub hsub) hos (fun _ _ _ _ h => h.elim) ?_
  have h1 := h (InC (SL W B rs)) InC.w ⟨⟨w.drew, hS.drew.sub hsub⟩⟩ InC.h
  have key : ∀ (L : List Nat) (a : Act), wpPlanL P l.toArray (fun w => ∃ c : InC (SL W B rs), w = c.w) (fun a' => ∀ w1, SL W B rf w1 → wpRest P l.toArray (SL W B rs) (fun _ _ => False) Ls Ms Hs (fun a'' w'' => wpList P l.toArray Q os a'' w'') Ms.length (listedAll Ls (Array.replicate l.toArray.size false)) a' w1) L a →
      wpPlanL P l.toArray (SL W B rs) (fun a' => wpRest P l.toArray (SL W B rs) (fun _ _ => False) Ls Ms Hs (fun a'' w'' => wpList P l.toArray Q os a'' w'') Ms.length (listedAll Ls (Array.replicate l.toArray.size false)) a' w.drew) L a := by
    intro L
    induction L with
    | nil => intro a h; exact h _ hS.drew
    | cons i r ih =>
      intro a ⟨o, v, h1, h2, h3⟩
      refine ⟨o, v, h1, ?_, ih _ h3⟩
      rcases h2 with ⟨h2, h4⟩ | h2
      · exact .inl ⟨h2, fun w hw => h4 w ⟨⟨w, hw⟩, rfl⟩⟩
      · exact .inr h2
  exact key Ls a h1
/-- A whole row goes into a block of its size, as a step. -/
theorem eff_store_row {P : Program} {Pn : List PanicEntry → World → Prop} {o : Oper} {a : Act} {w : World} {next : Value → World → Prop} (ty : TypeId) (x y : Operand) (ho : o.op = .store ty x y) (g : Nat) (cells : Array Value) (hx : a.eval x = .pointer (some ⟨g, 0, none⟩)) (hy : a.eval y = .agg cells)
    (t : TypeId) (old : Array Value) (hg : w.heap[g]? = some (.cells old t (0, 0))) (hi : (P.info? ty).map (·.size) = some cells.size) (hold : old.size = cells.size) (h1 : cells.all (·.oneCell') = true)
    (h : ∀ w', Only g w w' → w'.heap[g]? = some (.cells cells t (0, 0)) → next undef w') : effRes P Pn next ((execOp a.eval o).run P w) := by
  unfold execOp
  simp only [ho, hx, hy, Instr.storeAt, Instr.sureAddr, Sem.run_bind, Sem.run_pure, Result.andThen_ok, run_storeVar_row w g t ty old cells hg hi hold h1]
  exact h _ (only_setRow w g cells) (setRow_heap _ _ _ _ _ _ hg)
end Go.Proofs.Ytjpejclfppbboaa
