/- A region that draws its order, walked by a plan: first the operations that only look (each yields one value in every world of a class K), in an order of ours; then some that change memory but stay in K, in their forced order; then a forced tail, walked as a plain list. No program in sight. Steps of a plan (XPlan): operations that look, by the kit's quiet step; operations that change memory; append to a row that the call owns. No program in sight. A plan (XPlan) whose operations that change memory may come in more than one order: one goal for each. No program in sight. Rows of numbers in memory, told by a function. No program in sight. Cells of a row that the call owns, wherever it lies in its block: read, and written. No program in sight. A block as a row. -/
import Derived.Test.YtpbhbmdghafkmaaSL
import Derived.StillTail
import Derived.Deep.Quiet
import Derived.BigQuiet
namespace Go.Proofs.Ytpbhbmdghafkmaa
open Go
set_option linter.unusedVariables false
section
variable {P : Program} {ops : Array Oper} {md : Region.Mode} {K : World → Prop} {Pn : List PanicEntry → World → Prop}
def stillRes (v : Value) (w : World) : Result Next → Prop
 | .ok (.value u) w' => u = v ∧ w' = w
 | .ok .skip w' => v = undef ∧ w' = w
 | _ => False
def effRes (P : Program) (Pn : List PanicEntry → World → Prop) (next : Value → World → Prop) : Result Next → Prop
 | .ok (.value v) w' => next v w'
 | .ok .skip w' => next undef w'
 | .ok (.enter f args) w' => Calls P f args w' fun e w'' => (∃ v, e = .returned v ∧ next v w'') ∨ ∃ ch, e = .panicked ch ∧ Pn ch w''
 | _ => False
theorem effRes_mono {next next' : Value → World → Prop} (h : ∀ v w, next v w → next' v w) {r : Result Next} (hr : effRes P Pn next r) : effRes P Pn next' r := by
 cases r with
 | ok n w' =>
   cases n <;> simp only [effRes] at hr ⊢
   case value => exact h _ _ hr
   case skip => exact h _ _ hr
   case enter f args => exact hr.mono fun e w'' h2 => h2.elim (fun ⟨v, e1, h1⟩ => .inl ⟨v, e1, h _ _ h1⟩) .inr
 | halt => simp only [effRes] at hr
theorem wp_of_effRes {o : Oper} {a : Act} {next : Act → World → Prop} {Q : Exit → Act → World → Prop} {r : Result Next} (hP : ∀ ch w'', Pn ch w'' → Q (.panic ch) a w'') (h : effRes P Pn (fun v w' => next (a.put o.dst v) w') r) : o.upon P a next Q r := by
 cases r with
 | ok n w' =>
   cases n <;> simp only [effRes] at h <;> simp only [Oper.upon]
   case value => exact h
   case skip => exact h
   case enter f args =>
    refine h.mono fun e w'' h2 => ?_
    rcases h2 with ⟨v, e1, h1⟩ | ⟨ch, e1, h1⟩
    · subst e1; exact h1
    · subst e1; exact hP _ _ h1
 | halt => simp only [effRes] at h
theorem wp_of_stillRes {o : Oper} {a : Act} {w : World} {v : Value} {next : Act → World → Prop} {Q : Exit → Act → World → Prop} {r : Result Next} (h : stillRes v w r) (hn : next (a.put o.dst v) w) : o.upon P a next Q r := by
 cases r with
 | ok n w' =>
   cases n <;> simp only [stillRes] at h <;> simp only [Oper.upon]
   case value => obtain ⟨rfl, rfl⟩ := h; exact hn
   case skip => obtain ⟨rfl, rfl⟩ := h; exact hn
 | halt => simp only [stillRes] at h
def kUpon (P : Program) (K : World → Prop) (Pn : List PanicEntry → World → Prop) (o : Oper) (a : Act) (w : World) (Kont : Act → World → Prop) : Prop :=
 (∃ v, (∀ w, K w → stillRes v w ((execOp a.eval o).run P w)) ∧ Kont (a.put o.dst v) w) ∨ effRes P Pn (fun v w' => K w' ∧ Kont (a.put o.dst v) w') ((execOp a.eval o).run P w)
def kOp (P : Program) (ops : Array Oper) (K : World → Prop) (Pn : List PanicEntry → World → Prop) (i : Nat) (Kont : Act → World → Prop) (a : Act) (w : World) : Prop :=
 match ops[i]? with
 | none => Kont a w
 | some o => if Region.wanted o (yielded ops a.tmps) then kUpon P K Pn o a w Kont else Kont (a.put o.dst undef) w
theorem kUpon_mono {o : Oper} {a : Act} {w : World} {Kont Kont' : Act → World → Prop} (hK : K w) (h : ∀ a w, K w → Kont a w → Kont' a w) (hh : kUpon P K Pn o a w Kont) : kUpon P K Pn o a w Kont' := by
 rcases hh with ⟨v, h1, h2⟩ | h1
 · exact .inl ⟨v, h1, h _ _ hK h2⟩
 · exact .inr (effRes_mono (fun v w' ⟨hk, h2⟩ => ⟨hk, h _ _ hk h2⟩) h1)
theorem kOp_mono {i : Nat} {a : Act} {w : World} {Kont Kont' : Act → World → Prop} (hK : K w) (h : ∀ a w, K w → Kont a w → Kont' a w) (hh : kOp P ops K Pn i Kont a w) : kOp P ops K Pn i Kont' a w := by
 unfold kOp at *
 split
 · rename_i ho; simp only [ho] at hh; exact h _ _ hK hh
 · rename_i o ho
   simp only [ho] at hh
   split
   · rename_i hw; simp only [hw, if_true] at hh; exact kUpon_mono hK h hh
   · rename_i hw; simp only [hw] at hh; exact h _ _ hK hh
theorem put_defers (a : Act) (d : Option Tmp) (v : Value) : (a.put d v).defers = a.defers := by cases d <;> rfl
theorem wpOp_of_kOp {i : Nat} {a : Act} {w : World} {Kont Kont' : Act → World → Prop} {Q' : Exit → Act → World → Prop} (hK : K w) (hP : ∀ ch w'', Pn ch w'' → Q' (.panic ch) a w'') (h : ∀ a' w, a'.defers = a.defers → K w → Kont a' w → Kont' a' w) (hh : kOp P ops K Pn i Kont a w) : wpOp P ops Q' i Kont' a w := by
 unfold kOp at hh
 unfold wpOp
 split
 · rename_i ho; simp only [ho] at hh; exact h _ _ rfl hK hh
 · rename_i o ho
   simp only [ho] at hh
   split
   · rename_i hw
     simp only [hw, if_true] at hh
     refine .inl ?_
     rcases hh with ⟨v, h1, h2⟩ | h1
     · exact wp_of_stillRes (h1 w hK) (h _ _ (put_defers _ _ _) hK h2)
     · exact wp_of_effRes hP (effRes_mono (fun v w' ⟨hk, h2⟩ => h _ _ (put_defers _ _ _) hk h2) h1)
   · rename_i hw; simp only [hw] at hh; exact h _ _ (put_defers _ _ _) hK hh
/-- In every world of the class the operation leaves v in its temporary. -/
def YieldsK (P : Program) (ops : Array Oper) (K : World → Prop) (o : Oper) (v : Value) (a : Act) : Prop :=
 (Region.wanted o (yielded ops a.tmps) = true ∧ ∀ w, K w → stillRes v w ((execOp a.eval o).run P w)) ∨ (Region.wanted o (yielded ops a.tmps) = false ∧ v = undef)
theorem YieldsK.kOp {i : Nat} {o : Oper} {v : Value} {a : Act} {w : World} (hi : ops[i]? = some o) (hy : YieldsK P ops K o v a) {Kont : Act → World → Prop} (h : Kont (a.put o.dst v) w) : kOp P ops K Pn i Kont a w := by
 unfold Proofs.Ytpbhbmdghafkmaa.kOp
 simp only [hi]
 rcases hy with ⟨hw, hv⟩ | ⟨hw, rfl⟩
 · simp only [hw, if_true]; exact .inl ⟨v, hv, h⟩
 · simp only [hw, Bool.false_eq_true, if_false]; exact h
theorem YieldsK.of_same {o : Oper} {v : Value} {a a' : Act} (hy : YieldsK P ops K o v a) (he : execOp a'.eval o = execOp a.eval o) (hw : Region.wanted o (yielded ops a'.tmps) = Region.wanted o (yielded ops a.tmps)) : YieldsK P ops K o v a' := by
 unfold YieldsK at *
 rw [he, hw]
 exact hy
theorem kOp_put {j : Nat} {oi oj : Oper} {v : Value} (hj : ops[j]? = some oj) (hap : oi.apart ops oj = true) (hsi : ∀ cs b, oi.op ≠ .select cs b) (hsj : ∀ cs b, oj.op ≠ .select cs b)
 {Kont : Act → World → Prop} {a : Act} {w : World} (hy : YieldsK P ops K oi v a) (h : kOp P ops K Pn j Kont (a.put oi.dst v) w) :
 kOp P ops K Pn j (fun a' w' => YieldsK P ops K oi v a' ∧ Kont (a'.put oi.dst v) w') a w := by
 obtain ⟨h1, h2, h3⟩ := Oper.apart_spec hap
 have keep : ∀ (a : Act), YieldsK P ops K oi v a → ∀ u, YieldsK P ops K oi v (a.put oj.dst u) := fun a hy u =>
  hy.of_same (execOp_put oi hsi a oj.dst u h3) (wanted_put oi a oj.dst u h3)
 unfold kOp at *
 simp only [hj] at *
 rw [wanted_put oj a oi.dst v h1] at h
 split
 · rename_i hw
   simp only [hw, if_true] at h
   unfold kUpon at *
   rw [execOp_put oj hsj a oi.dst v h1] at h
   rcases h with ⟨u, hu, hn⟩ | h
   · exact .inl ⟨u, hu, keep a hy u, by rw [← Act.put_comm a v u h2]; exact hn⟩
   · exact .inr (effRes_mono (fun u w' ⟨hk, hn⟩ => ⟨hk, keep a hy u, by rw [← Act.put_comm a v u h2]; exact hn⟩) h)
 · rename_i hw
   simp only [hw] at h
   exact ⟨keep a hy _, by rw [← Act.put_comm a v undef h2]; exact h⟩
/-- What has been listed is closed; of the tail nothing is. -/
structure PlanInv (md : Region.Mode) (ops : Array Oper) (hd : Nat → Bool) (listed : Array Bool) : Prop where
 size : listed.size = ops.size
 closed : ∀ j oj, ops[j]? = some oj → listed.getD j false = true → ∀ e ∈ oj.after, Region.binds md e = true → listed.getD e.on false = true
 tail : ∀ t, hd t = false → t < ops.size → listed.getD t true = false
theorem PlanInv.set {hd : Nat → Bool} {i : Nat} {listed : Array Bool} (inv : PlanInv md ops hd listed) (hi : i ∈ Region.ready md ops listed) (hin : hd i = true) : PlanInv md ops hd (listed.setIfInBounds i true) := by
 obtain ⟨_, oi, hoi, hall⟩ := mem_ready.1 hi
 refine ⟨by simp [inv.size], fun j oj hj hl e he hb => ?_, fun t ht ht' => by rw [getD_set_ne true (by intro e; subst e; rw [hin] at ht; cases ht)]; exact inv.tail t ht ht'⟩
 by_cases hij : i = j
 · subst hij
   have : oj = oi := Option.some.inj (hj.symm.trans hoi)
   subst this
   exact getD_set_true (hall e he hb)
 · rw [getD_set_ne false hij] at hl
   exact getD_set_true (inv.closed j oj hj hl e he hb)
/-- Each of these is waited for by a later one, or by t. -/
def sinkL (md : Region.Mode) (ops : Array Oper) (t : Nat) : List Nat → Bool
 | [] => true
 | i :: rest => (rest.any (fun j => Region.waitsFor md ops j i) || Region.waitsFor md ops t i) && sinkL md ops t rest
theorem sinkL_listed {hd : Nat → Bool} {listed : Array Bool} {t : Nat} (inv : PlanInv md ops hd listed) (ht : t ∈ Region.ready md ops listed) : ∀ l : List Nat, sinkL md ops t l = true → ∀ i ∈ l, listed.getD i false = true
 | [], _ => by simp
 | i :: rest, h => by
   simp only [sinkL, Bool.and_eq_true, Bool.or_eq_true] at h
   have ih := sinkL_listed inv ht rest h.2
   have hi : listed.getD i false = true := by
    rcases h.1 with h1 | h1
    · obtain ⟨j, hj, hj2⟩ := List.any_eq_true.1 h1
      obtain ⟨oj, hoj, e, he, hb, hon⟩ := Region.waitsFor_spec hj2
      have := inv.closed j oj hoj (ih j hj) e he hb
      rwa [hon] at this
    · obtain ⟨oj, hoj, e, he, hb, hon⟩ := Region.waitsFor_spec h1
      obtain ⟨_, o', ho', hall⟩ := mem_ready.1 ht
      have : oj = o' := Option.some.inj (hoj.symm.trans ho')
      subst this
      have := hall e he hb
      rwa [hon] at this
   intro k hk
   rcases List.mem_cons.1 hk with rfl | hk
   · exact hi
   · exact ih k hk
/-- The tail: each waits for the one ahead of it. -/
def chainL (md : Region.Mode) (ops : Array Oper) : List Nat → Bool
 | i :: j :: rest => Region.waitsFor md ops j i && chainL md ops (j :: rest)
 | _ => true
/-- Of the tail nothing is ready while one of the head is missing. -/
theorem tail_waitsL {hd : Nat → Bool} {listed : Array Bool} {i : Nat} {Hs : List Nat} {head : List Nat} (inv : PlanInv md ops hd listed) (hhd : ∀ t, hd t = false → t < ops.size → t ∈ Hs) (hHs : ∀ t ∈ Hs, hd t = false)
 (hs : ∀ h1 r, Hs = h1 :: r → sinkL md ops h1 head = true) (hc : chainL md ops Hs = true) (hi : i ∈ head) (hun : listed.getD i true = false) : ∀ t, hd t = false → t ∉ Region.ready md ops listed := by
 intro t ht hr
 obtain ⟨hr0, ot, hot, hall⟩ := mem_ready.1 hr
 have htlt : t < ops.size := (Array.getElem?_eq_some_iff.1 hot).1
 have hmem := hhd t ht htlt
 have key : ∀ (l : List Nat), (∀ x ∈ l, hd x = false) → chainL md ops l = true → ∀ x r, l = x :: r → t ∈ r → False := by
  intro l
  induction l with
  | nil => intro _ _ x r h; cases h
  | cons y l ih =>
    intro hl hcl x r h htr
    injection h with h1 h2
    subst h1 h2
    cases l with
    | nil => cases htr
    | cons z l =>
      simp only [chainL, Bool.and_eq_true] at hcl
      rcases List.mem_cons.1 htr with rfl | htr
      · obtain ⟨o', ho', e, he, hb, hon⟩ := Region.waitsFor_spec hcl.1
        have : o' = ot := Option.some.inj (ho'.symm.trans hot)
        subst this
        have h2 := hall e he hb
        have hy := hl y (by simp)
        rcases Nat.lt_or_ge y ops.size with hlt | hge
        · rw [hon, getD_both (inv.tail y hy hlt)] at h2; cases h2
        · rw [hon] at h2
          have : listed.getD y false = false := by simp [Array.getElem?_eq_none (show listed.size ≤ y by rw [inv.size]; exact hge)]
          rw [this] at h2; cases h2
      · exact ih (fun x hx => hl x (by simp [hx])) hcl.2 z l rfl htr
 cases Hs with
 | nil => cases hmem
 | cons h1 r =>
   rcases List.mem_cons.1 hmem with rfl | hmem
   · have := sinkL_listed inv hr head (hs _ _ rfl) i hi
     rw [getD_both hun] at this
     cases this
   · exact key _ hHs hc h1 r rfl hmem
def wpAnyK (P : Program) (md : Region.Mode) (ops : Array Oper) (K : World → Prop) (Pn : List PanicEntry → World → Prop) (hd : Nat → Bool) (Lq : Array Bool → Act → World → Prop) : Nat → Array Bool → Act → World → Prop
 | 0, listed, a, w => Lq listed a w
 | f + 1, listed, a, w => Region.ready md ops listed ≠ [] ∧ ∀ i ∈ Region.ready md ops listed, hd i = true ∧ kOp P ops K Pn i (wpAnyK P md ops K Pn hd Lq f (listed.setIfInBounds i true)) a w
theorem wpAny_of_planK {hd : Nat → Bool} {g : Nat} {ds : List Deferred} {Lq : Array Bool → Act → World → Prop} {Q' : Exit → Act → World → Prop} (hP : ∀ ch a w, a.defers = ds → Pn ch w → Q' (.panic ch) a w) (hL : ∀ listed a w, Lq listed a w → wpAny P md ops Q' g listed a w) :
 ∀ (f : Nat) (listed : Array Bool) (a : Act) (w : World), a.defers = ds → K w → wpAnyK P md ops K Pn hd Lq f listed a w → wpAny P md ops Q' (f + g) listed a w
 | 0, listed, a, w, _, _, h => by rw [Nat.zero_add]; exact hL _ _ _ h
 | f + 1, listed, a, w, hds, hK, h => by
   rw [show f + 1 + g = (f + g) + 1 by omega]
   exact ⟨fun h0 => absurd h0 h.1, fun i hi => wpOp_of_kOp hK (fun ch w'' hp => hP ch a w'' hds hp) (fun a' w' hds' hK' h' => wpAny_of_planK hP hL f _ a' w' (hds'.trans hds) hK' h') (h.2 i hi).2⟩
theorem wpAnyK_first {hd : Nat → Bool} {i : Nat} {oi : Oper} {v : Value} {Lq : Array Bool → Act → World → Prop} {Hs head : List Nat} (hi : ops[i]? = some oi) (hsel : ∀ (j : Nat) (o : Oper) cs b, ops[j]? = some o → o.op ≠ .select cs b)
 (hhd : ∀ t, hd t = false → t < ops.size → t ∈ Hs) (hHs : ∀ t ∈ Hs, hd t = false) (hs : ∀ h1 r, Hs = h1 :: r → sinkL md ops h1 head = true) (hc : chainL md ops Hs = true) (hih : i ∈ head) (hin : hd i = true)
 (hdone : ∀ listed a w, Lq listed a w → ∀ j ∈ Region.ready md ops listed, hd j = false) :
 ∀ (f : Nat) (listed : Array Bool) (a : Act) (w : World), K w → PlanInv md ops hd listed →
  (∀ j oj, ops[j]? = some oj → j ≠ i → listed.getD j true = false → (∀ e ∈ oj.after, Region.binds md e = true → e.on ≠ i) → oi.apart ops oj = true) →
  i ∈ Region.ready md ops listed → YieldsK P ops K oi v a →
  wpAnyK P md ops K Pn hd Lq f (listed.setIfInBounds i true) (a.put oi.dst v) w → wpAnyK P md ops K Pn hd Lq (f + 1) listed a w := by
 intro f
 induction f with
 | zero =>
   intro listed a w hK inv _ hr hy H
   have hun := (mem_ready.1 hr).1
   refine ⟨fun h => (by rw [h] at hr; cases hr), fun j hj => ?_⟩
   have hjn : hd j = true := by
    cases h : hd j
    · exact absurd hj (tail_waitsL inv hhd hHs hs hc hih hun j h)
    · rfl
   refine ⟨hjn, ?_⟩
   by_cases hji : j = i
   · subst hji; exact hy.kOp hi H
   · have := hdone _ _ _ H j (ready_mono hj hji)
     rw [hjn] at this; cases this
 | succ f ih =>
   intro listed a w hK inv hfree hr hy H
   have hun := (mem_ready.1 hr).1
   refine ⟨fun h => (by rw [h] at hr; cases hr), fun j hj => ?_⟩
   have hjn : hd j = true := by
    cases h : hd j
    · exact absurd hj (tail_waitsL inv hhd hHs hs hc hih hun j h)
    · rfl
   refine ⟨hjn, ?_⟩
   by_cases hji : j = i
   · subst hji; exact hy.kOp hi H
   · have h1 := (H.2 j (ready_mono hj hji)).2
     obtain ⟨hjun, oj, hoj, hall⟩ := mem_ready.1 hj
     have hnot : ∀ e ∈ oj.after, Region.binds md e = true → e.on ≠ i := fun e he hb heq => by
      have h1 := hall e he hb
      rw [heq, getD_both hun] at h1
      cases h1
     have h2 := kOp_put hoj (hfree j oj hoj hji hjun hnot) (fun cs b => hsel i oi cs b hi) (fun cs b => hsel j oj cs b hoj) hy h1
     have hfree' : ∀ k ok, ops[k]? = some ok → k ≠ i → (listed.setIfInBounds j true).getD k true = false →
      (∀ e ∈ ok.after, Region.binds md e = true → e.on ≠ i) → oi.apart ops ok = true := fun k ok hk hki hun hno => by
      refine hfree k ok hk hki ?_ hno
      by_cases hjk : j = k
      · subst hjk; exact hjun
      · rw [getD_set_ne true hjk] at hun; exact hun
     refine kOp_mono hK (fun a' w' hK' h3 => ih (listed.setIfInBounds j true) a' w' hK' (inv.set hj hjn) hfree' (ready_mono hr (Ne.symm hji)) h3.1 ?_) h2
     rw [Array.setIfInBounds_comm _ _ hji]
     exact h3.2
/-! the plan -/
inductive Picks (ops : List Oper) : List Nat → List Oper → Prop
 | nil : Picks ops [] []
 | cons {i : Nat} {o : Oper} {is : List Nat} {os : List Oper} (h : ops[i]? = some o) (t : Picks ops is os) : Picks ops (i :: is) (o :: os)
def seqL (md : Region.Mode) (ops : Array Oper) : List Nat → Array Bool → Bool
 | [], listed => (Region.ready md ops listed).isEmpty
 | i :: rest, listed => decide (Region.ready md ops listed = [i]) && seqL md ops rest (listed.setIfInBounds i true)
def planM (md : Region.Mode) (ops : Array Oper) (Hs : List Nat) : List Nat → Array Bool → Bool
 | [], listed => seqL md ops Hs listed
 | i :: rest, listed => decide (Region.ready md ops listed = [i]) && planM md ops Hs rest (listed.setIfInBounds i true)
def planL (md : Region.Mode) (ops : Array Oper) (Ms Hs : List Nat) : List Nat → Array Bool → Bool
 | [], listed => planM md ops Hs Ms listed
 | i :: rest, listed => (Region.ready md ops listed).contains i && Region.free md ops listed i && planL md ops Ms Hs rest (listed.setIfInBounds i true)
def sinkH (md : Region.Mode) (ops : Array Oper) (head : List Nat) : List Nat → Bool
 | [] => true
 | h1 :: _ => sinkL md ops h1 head
def planB (md : Region.Mode) (ops : Array Oper) (Ls Ms Hs : List Nat) : Bool :=
 Region.noSelect ops && (List.range ops.size).all (fun t => (Ls ++ Ms).contains t != Hs.contains t) && (Ls ++ Ms).all (fun t => !Hs.contains t) && decide ((Ls ++ Ms).length + Hs.length = ops.size) && sinkH md ops (Ls ++ Ms) Hs && chainL md ops Hs && planL md ops Ms Hs Ls (Array.replicate ops.size false)
theorem wpAny_of_seqL {Q' : Exit → Act → World → Prop} : ∀ (is : List Nat) (os : List Oper) (listed : Array Bool) (a : Act) (w : World), Picks ops.toList is os →
 seqL md ops is listed = true → wpList P ops Q' os a w → wpAny P md ops Q' is.length listed a w
 | _, _, _, _, _, .nil, hB, h => ⟨by simpa [seqL] using hB, h⟩
 | _, _, listed, a, w, .cons (i := i) (o := o) (is := is) (os := os) h0 t, hB, h => by
   simp only [seqL, Bool.and_eq_true, decide_eq_true_eq] at hB
   refine ⟨fun h1 => (by rw [hB.1] at h1; cases h1), fun j hj => ?_⟩
   rw [hB.1] at hj
   have hik : j = i := by simpa using hj
   subst hik
   have h0' : ops[j]? = some o := by rw [← Array.getElem?_toList]; exact h0
   have hw : wpOp P ops Q' j (wpList P ops Q' os) a w := by unfold wpOp; simp only [h0']; exact h
   exact wpOp_mono (fun a' w' h' => wpAny_of_seqL is os _ a' w' t hB.2 h') hw
/-- Those that change memory, in their order. -/
def wpPlanM (P : Program) (ops : Array Oper) (K : World → Prop) (Pn : List PanicEntry → World → Prop) (Lq : Act → World → Prop) : List Nat → Act → World → Prop
 | [], a, w => Lq a w
 | i :: rest, a, w => kOp P ops K Pn i (wpPlanM P ops K Pn Lq rest) a w
/-- Those that only look. -/
def wpPlanL (P : Program) (ops : Array Oper) (K : World → Prop) (Lq : Act → Prop) : List Nat → Act → Prop
 | [], a => Lq a
 | i :: rest, a => ∃ o v, ops[i]? = some o ∧ YieldsK P ops K o v a ∧ wpPlanL P ops K Lq rest (a.put o.dst v)
theorem seqL_ready {hd : Nat → Bool} {Hs : List Nat} {listed : Array Bool} (hHs : ∀ t ∈ Hs, hd t = false) (h : seqL md ops Hs listed = true) : ∀ j ∈ Region.ready md ops listed, hd j = false := by
 cases Hs with
 | nil => intro j hj; simp only [seqL, List.isEmpty_iff] at h; rw [h] at hj; cases hj
 | cons k r =>
   intro j hj
   simp only [seqL, Bool.and_eq_true, decide_eq_true_eq] at h
   rw [h.1] at hj
   have : j = k := by simpa using hj
   subst this
   exact hHs j (by simp)
theorem wpAnyK_M {hd : Nat → Bool} {Hs : List Nat} {Lq : Act → World → Prop} (hHs : ∀ t ∈ Hs, hd t = false) : ∀ (Ms : List Nat) (listed : Array Bool) (a : Act) (w : World), K w → (∀ i ∈ Ms, hd i = true) → planM md ops Hs Ms listed = true → wpPlanM P ops K Pn Lq Ms a w →
 wpAnyK P md ops K Pn hd (fun listed' a' w' => seqL md ops Hs listed' = true ∧ Lq a' w') Ms.length listed a w
 | [], listed, a, w, _, _, hB, h => ⟨hB, h⟩
 | i :: rest, listed, a, w, hK, hM, hB, h => by
   simp only [planM, Bool.and_eq_true, decide_eq_true_eq] at hB
   refine ⟨fun h1 => (by rw [hB.1] at h1; cases h1), fun j hj => ?_⟩
   rw [hB.1] at hj
   have hik : j = i := by simpa using hj
   subst hik
   exact ⟨hM j (by simp), kOp_mono hK (fun a' w' hK' h' => wpAnyK_M hHs rest _ a' w' hK' (fun i hi => hM i (by simp [hi])) hB.2 h') h⟩
theorem wpAnyK_L {hd : Nat → Bool} {Hs Ms head : List Nat} {Lq : Act → World → Prop} (hsel : Region.noSelect ops = true) (hhd : ∀ t, hd t = false → t < ops.size → t ∈ Hs) (hHs : ∀ t ∈ Hs, hd t = false)
 (hs : ∀ h1 r, Hs = h1 :: r → sinkL md ops h1 head = true) (hc : chainL md ops Hs = true) (hM : ∀ i ∈ Ms, hd i = true) {w : World} (hK : K w) :
 ∀ (Ls : List Nat) (listed : Array Bool) (a : Act), (∀ i ∈ Ls, hd i = true ∧ i ∈ head) → PlanInv md ops hd listed → planL md ops Ms Hs Ls listed = true → wpPlanL P ops K (fun a' => wpPlanM P ops K Pn Lq Ms a' w) Ls a →
 wpAnyK P md ops K Pn hd (fun listed' a' w' => seqL md ops Hs listed' = true ∧ Lq a' w') (Ls.length + Ms.length) listed a w
 | [], listed, a, _, inv, hB, h => by
   rw [List.length_nil, Nat.zero_add]
   exact wpAnyK_M hHs Ms listed a w hK hM hB h
 | i :: rest, listed, a, hL, inv, hB, h => by
   obtain ⟨o, v, h0, hy, hk⟩ := h
   simp only [planL, Bool.and_eq_true] at hB
   obtain ⟨⟨hr, hf⟩, hB'⟩ := hB
   have hr' : i ∈ Region.ready md ops listed := by simpa using hr
   have hin := hL i (by simp)
   have := wpAnyK_first (v := v) (K := K) (Pn := Pn) (Lq := fun listed' a' w' => seqL md ops Hs listed' = true ∧ Lq a' w') h0 (Region.noSelect_spec hsel) hhd hHs hs hc hin.2 hin.1 (fun l' a' w' hq => seqL_ready hHs hq.1) (rest.length + Ms.length) listed a w hK inv (Region.free_spec h0 hf) hr' hy
    (wpAnyK_L hsel hhd hHs hs hc hM hK rest _ _ (fun i hi => hL i (by simp [hi])) (inv.set hr' hin.1) hB' hk)
   rw [List.length_cons, show rest.length + 1 + Ms.length = rest.length + Ms.length + 1 by omega]
   exact this
/-- **A region that draws its order, by a plan.** -/
theorem wp_region_plan (Pn : List PanicEntry → World → Prop) {id : Nat} {Q : Exit → Act → World → Prop} {a : Act} {w : World} {l : List Oper} (Ls Ms Hs : List Nat) (K : World → Prop) (hm : P.follows .mixedOrders = true) (hB : planB .any l.toArray Ls Ms Hs = true) (hK : K w.drew) {os : List Oper} (hos : Picks l Hs os) (hP : ∀ ch a' w', a'.defers = a.defers → Pn ch w' → Q (.panic ch) a' w')
 (h : wpPlanL P l.toArray K (fun a' => wpPlanM P l.toArray K Pn (fun a'' w'' => wpList P l.toArray Q os a'' w'') Ms a' w.drew) Ls a) : (Code.region id l.toArray true).wp P Q a w := by
 simp only [planB, Bool.and_eq_true, decide_eq_true_eq] at hB
 obtain ⟨⟨⟨⟨⟨⟨hsel, hpart⟩, hdis⟩, hlen⟩, hs⟩, hc⟩, hpl⟩ := hB
 refine wp_region_any hm ?_
 have hhd : ∀ t, (Ls ++ Ms).contains t = false → t < l.toArray.size → t ∈ Hs := by
  intro t ht hlt
  have h1 := List.all_eq_true.1 hpart t (List.mem_range.2 hlt)
  simp only [ht] at h1
  simpa using h1
 have hHs : ∀ t ∈ Hs, (Ls ++ Ms).contains t = false := by
  intro t ht
  cases hc' : (Ls ++ Ms).contains t
  · rfl
  · have h1 := List.all_eq_true.1 hdis t (by simpa using hc')
    simp [ht] at h1
 have hM : ∀ i ∈ Ms, (Ls ++ Ms).contains i = true := fun i hi => by simp [hi]
 have hL : ∀ i ∈ Ls, (Ls ++ Ms).contains i = true ∧ i ∈ Ls ++ Ms := fun i hi => by simp [hi]
 have inv0 : PlanInv .any l.toArray (fun t => (Ls ++ Ms).contains t) (Array.replicate l.toArray.size false) :=
  ⟨by simp, fun j oj _ hl => (by rw [getD_replicate_false] at hl; cases hl), fun t _ ht => getD_in (by simpa using ht) (getD_replicate_false _ _)⟩
 have H := wpAnyK_L (P := P) (md := .any) (K := K) (Pn := Pn) (Lq := fun a'' w'' => wpList P l.toArray Q os a'' w'') (head := Ls ++ Ms) hsel hhd hHs (fun h1 r e => by subst e; exact hs) hc hM hK Ls (Array.replicate l.toArray.size false) a hL inv0 hpl h
 have := wpAny_of_planK (Q' := Q) (g := Hs.length) (ds := a.defers) hP (fun listed a' w' hq => wpAny_of_seqL (md := .any) (Q' := Q) Hs os listed a' w' (by simpa using hos) hq.1 hq.2) _ _ _ _ rfl hK H
 rw [show Ls.length + Ms.length + Hs.length = l.toArray.size by rw [← hlen, List.length_append]] at this
 exact this
end
end Go.Proofs.Ytpbhbmdghafkmaa
namespace Go.Proofs.Ytpbhbmdghafkmaa
open Go
set_option linter.unusedVariables false
/-- A world of the class. -/
structure InC (K : World → Prop) where
 w : World
 h : K w
section
variable {P : Program} {lo : List Oper} {K : World → Prop} {Lq : Act → Prop} {a : Act} {i : Nat} {rest : List Nat} {o : Oper}
/-- Operations whose run ends in a value, or nowhere: no call, no defer, no communication. -/
def plainOp : Op → Bool
 | .move _ | .assign _ | .pick .. | .build .. | .load .. | .binOp .. | .unOp .. | .convert .. | .fieldAddr .. | .field .. | .indexAddr .. | .index .. | .slice .. | .makeInterface .. | .extract .. => true
 | _ => false
theorem value_only {α : Type} {s : Sem α} {f : α → Value} {w : World} {r : Result Next} (h : (s >>= fun x => pure (Next.value (f x)) : Sem Next).run P w = r) : (∃ v w', r = .ok (.value v) w') ∨ ∃ x w', r = .halt x w' := by
 rw [Sem.run_bind] at h
 cases hr : s.run P w with
 | ok v w' => rw [hr] at h; left; exact ⟨f v, w', by rw [← h]; rfl⟩
 | halt x w' => rw [hr] at h; right; exact ⟨x, w', by rw [← h]; rfl⟩
theorem plainOp_spec (h : plainOp o.op = true) (w : World) : (∃ v w', (execOp a.eval o).run P w = .ok (.value v) w') ∨ ∃ x w', (execOp a.eval o).run P w = .halt x w' := by
 obtain ⟨ty, op, dst, after, pos, guard⟩ := o
 unfold execOp
 simp only at h ⊢
 cases op <;> simp only [plainOp] at h <;> first | cases h | skip
 all_goals first
  | exact .inl ⟨_, _, rfl⟩
  | exact value_only (f := fun x => x) rfl
  | exact value_only (f := fun x => if x = true then a.eval _ else a.eval _) rfl
theorem stillRes_of_quiet (hp : plainOp o.op = true) {C : World → Prop} {w : World} {v : Value} (h : o.quietAt P a C w v) : stillRes v w ((execOp a.eval o).run P w) := by
 unfold Oper.quietAt at h
 rcases plainOp_spec (P := P) (a := a) hp w with ⟨u, w', e⟩ | ⟨x, w', e⟩
 · rw [e] at h ⊢
   exact ⟨h.2, h.1⟩
 · rw [e] at h
   exact absurd h (by simp [Oper.quietUpon])
/-- It looks: by the kit's quiet step. -/
theorem pl_look (hi : lo[i]? = some o) (hw : Region.wanted o (yielded lo.toArray a.tmps) = true) (hp : plainOp o.op = true) (h : ∀ Kv : Act → Prop, (∀ a, wpPlanL P lo.toArray K Lq rest a → Kv a) → o.quiet P a K Kv) : wpPlanL P lo.toArray K Lq (i :: rest) a := by
 obtain ⟨v, h1, h2⟩ := h _ fun _ h => h
 exact ⟨o, v, by simpa using hi, .inl ⟨hw, fun w hw => stillRes_of_quiet hp (h1 w hw)⟩, h2⟩
/-- The same, the value told. -/
theorem pl_told (v : Value) (hi : lo[i]? = some o) (hw : Region.wanted o (yielded lo.toArray a.tmps) = true) (h : ∀ w, K w → (execOp a.eval o).run P w = .ok (.value v) w) (hk : ∀ Kv : Act → Prop, (∀ a, wpPlanL P lo.toArray K Lq rest a → Kv a) → Kv (a.put o.dst v)) : wpPlanL P lo.toArray K Lq (i :: rest) a :=
 ⟨o, v, by simpa using hi, .inl ⟨hw, fun w hw => by rw [h w hw]; exact ⟨rfl, rfl⟩⟩, hk _ fun _ h => h⟩
/-- len of a slice. -/
theorem pl_len (x : Operand) (t : TypeId) (A : Option Addr) (n c : Nat) (ht : P.underlying t = some (.slice (P.elem t))) (hi : lo[i]? = some o) (hw : Region.wanted o (yielded lo.toArray a.tmps) = true) (ho : o.op = .call { callee := .builtin .len, args := #[x], argTypes := #[t] }) (hx : a.eval x = .slice A n c)
 (hk : ∀ Kv : Act → Prop, (∀ a, wpPlanL P lo.toArray K Lq rest a → Kv a) → Kv (a.put o.dst (.int .i64 n))) : wpPlanL P lo.toArray K Lq (i :: rest) a :=
 pl_told (.int .i64 n) hi hw (fun w _ => by
  unfold execOp
  simp only [ho, resolve, invoke, builtin, Sem.run_bind, Sem.run_pure, Result.andThen_ok, List.map_toArray, List.map_cons, List.map_nil, hx, run_len_slice _ _ _ _ _ _ ht]
  rfl) hk
theorem pl_end (h : Lq a) : wpPlanL P lo.toArray K Lq [] a := h
variable {Lm : Act → World → Prop} {w : World} {Pn : List PanicEntry → World → Prop}
theorem pm_end (h : Lm a w) : wpPlanM P lo.toArray K Pn Lm [] a w := h
/-- It changes memory. -/
theorem pm_eff (hi : lo[i]? = some o) (hg : o.guard = none) (h : ∀ Kv : Act → World → Prop, (∀ a w, wpPlanM P lo.toArray K Pn Lm rest a w → Kv a w) → effRes P Pn (fun v w' => K w' ∧ Kv (a.put o.dst v) w') ((execOp a.eval o).run P w)) : wpPlanM P lo.toArray K Pn Lm (i :: rest) a w := by
 unfold wpPlanM kOp
 simp only [show lo.toArray[i]? = some o by simpa using hi]
 rw [if_pos (by simp [Region.wanted, hg])]
 exact .inr (h _ fun _ _ h => h)
/-- append to a row that the call owns; the new elements have just been laid in a block of their own. -/
theorem pm_append {W w0 : World} {B : Nat} {l : List Rs} {cs : Array Value} {e : TypeId} (hi0 : lo[i]? = some o) (hgd : o.guard = none) (s x : Operand) (t : TypeId)
 (ho : o.op = .call { callee := .builtin .append, args := #[s, x], argTypes := #[t, t] }) (h : SL W B l w0) (it : Nat)
 (ti : TypeInfo) (z : Value) (size bytes : Nat) (ht : P.underlying t = some (.slice e)) (hi : P.info? e = some ti) (hz : ti.zero = some z)
 (hsize : ti.size = size) (hby : ti.bytes = bytes) (hzs : z.cells.size = size) (hsz : 0 < size)
 (v : Value) (n m : Nat) (xs : List Value) (hit : l[it]? = some (.row e size v n xs)) (hs : a.eval s = v) (G : Nat) (hx : a.eval x = .slice (some ⟨G, 0, none⟩) m m) (hG : w0.heap.size = G) (hm : 0 < m) (hcs : cs.size = m * size) (h1 : ∀ u ∈ cs.toList, u.oneCell' = true)
 (hn : n + m ≤ 1000000000) (hb1 : bytes ≤ 1024)
 (hK : ∀ v' w', SL W B (l.set it (.row e size v' (n + m) (xs ++ cs.toList))) w' → w0.heap.size < w'.heap.size → K w' ∧ ∀ Kv : Act → World → Prop, (∀ a w, wpPlanM P lo.toArray K Pn Lm rest a w → Kv a w) → Kv (a.put o.dst v') w') : wpPlanM P lo.toArray K Pn Lm (i :: rest) a (w0.alloc (.cells cs e)) := by
 subst hG
 obtain ⟨v', w', hr, h2, h3⟩ := run_append_sl (P := P) t o.type h it ti z size bytes ht hi hz hsize hby hzs hsz v n m xs hit hm hcs h1 hn hb1
 refine pm_eff hi0 hgd fun Kv hKv => ?_
 unfold execOp
 simp only [ho, resolve, invoke, builtin, Sem.run_bind, Sem.run_pure, Result.andThen_ok, List.map_toArray, List.map_cons, List.map_nil, hs, hx, hr]
 exact ⟨(hK v' w' h2 h3).1, (hK v' w' h2 h3).2 Kv hKv⟩
end
/-- At a class of what is owned (rs: some of all that is owned, rf): the region's plan; cw c: any world of the class; a callee may throw (Pn). -/
theorem wp_region_slp {P : Program} (Pn : List PanicEntry → World → Prop) {id : Nat} {Q : Exit → Act → World → Prop} {a : Act} {W w : World} {B : Nat} {rf : List Rs} {l : List Oper} (Ls Ms Hs : List Nat) (rs : List Rs) (hS : SL W B rf w) (hsub : rs.Sublist rf) (hm : P.follows .mixedOrders = true) (hB : planB .any l.toArray Ls Ms Hs = true) {os : List Oper} (hos : Picks l Hs os)
 (hP : ∀ ch a' w', a'.defers = a.defers → Pn ch w' → Q (.panic ch) a' w')
 (h : ∀ (C : Type) (cw : C → World), Nonempty C → (∀ c, SL W B rs (cw c)) → wpPlanL P l.toArray (fun w => ∃ c, w = cw c) (fun a' => ∀ w1, SL W B rf w1 → wpPlanM P l.toArray (SL W B rs) Pn (fun a'' w'' => wpList P l.toArray Q os a'' w'') Ms a' w1) Ls a) : (Code.region id l.toArray true).wp P Q a w := by
 refine wp_region_plan Pn Ls Ms Hs (SL W B rs) hm hB (hS.drew.sub hsub) hos hP ?_
 have h1 := h (InC (SL W B rs)) InC.w ⟨⟨w.drew, hS.drew.sub hsub⟩⟩ InC.h
 have key : ∀ (Ls : List Nat) (a : Act), wpPlanL P l.toArray (fun w => ∃ c : InC (SL W B rs), w = c.w) (fun a' => ∀ w1, SL W B rf w1 → wpPlanM P l.toArray (SL W B rs) Pn (fun a'' w'' => wpList P l.toArray Q os a'' w'') Ms a' w1) Ls a →
  wpPlanL P l.toArray (SL W B rs) (fun a' => wpPlanM P l.toArray (SL W B rs) Pn (fun a'' w'' => wpList P l.toArray Q os a'' w'') Ms a' w.drew) Ls a := by
  intro Ls
  induction Ls with
  | nil => intro a h; exact h _ hS.drew
  | cons i r ih =>
    intro a ⟨o, v, h1, h2, h3⟩
    refine ⟨o, v, h1, ?_, ih _ h3⟩
    rcases h2 with ⟨h2, h4⟩ | h2
    · exact .inl ⟨h2, fun w hw => h4 w ⟨⟨w, hw⟩, rfl⟩⟩
    · exact .inr h2
 exact key Ls a h1
/-- The same where no callee throws. -/
theorem wp_region_sl {P : Program} {id : Nat} {Q : Exit → Act → World → Prop} {a : Act} {W w : World} {B : Nat} {rf : List Rs} {l : List Oper} (Ls Ms Hs : List Nat) (rs : List Rs) (hS : SL W B rf w) (hsub : rs.Sublist rf) (hm : P.follows .mixedOrders = true) (hB : planB .any l.toArray Ls Ms Hs = true) {os : List Oper} (hos : Picks l Hs os)
 (h : ∀ (C : Type) (cw : C → World), Nonempty C → (∀ c, SL W B rs (cw c)) → wpPlanL P l.toArray (fun w => ∃ c, w = cw c) (fun a' => ∀ w1, SL W B rf w1 → wpPlanM P l.toArray (SL W B rs) (fun _ _ => False) (fun a'' w'' => wpList P l.toArray Q os a'' w'') Ms a' w1) Ls a) : (Code.region id l.toArray true).wp P Q a w :=
 wp_region_slp (fun _ _ => False) Ls Ms Hs rs hS hsub hm hB hos (fun _ _ _ _ h => h.elim) h
/-- A call met by its contract. -/
theorem eff_call {P : Program} {Pn : List PanicEntry → World → Prop} {f : FuncId} {args : Array Value} {w : World} {next : Value → World → Prop} {R : Ending → World → Prop} (h : Calls P f args w R) (hR : ∀ e w', R e w' → (∃ v, e = .returned v ∧ next v w') ∨ ∃ ch, e = .panicked ch ∧ Pn ch w') : effRes P Pn next (.ok (.enter f args) w) := h.mono hR
end Go.Proofs.Ytpbhbmdghafkmaa
namespace Go.Proofs.Ytpbhbmdghafkmaa
open Go
set_option linter.unusedVariables false
def planLO (md : Region.Mode) (ops : Array Oper) : List Nat → Array Bool → Bool
 | [], _ => true
 | i :: rest, listed => (Region.ready md ops listed).contains i && Region.free md ops listed i && planLO md ops rest (listed.setIfInBounds i true)
def planBB (md : Region.Mode) (ops : Array Oper) (Ls Ms Hs : List Nat) : Bool :=
 Region.noSelect ops && (List.range ops.size).all (fun t => (Ls ++ Ms).contains t != Hs.contains t) && (Ls ++ Ms).all (fun t => !Hs.contains t) && decide ((Ls ++ Ms).length + Hs.length = ops.size) && sinkH md ops (Ls ++ Ms) Hs && chainL md ops Hs && planLO md ops Ls (Array.replicate ops.size false)
def listedAll (Ls : List Nat) (l : Array Bool) : Array Bool := Ls.foldl (fun l i => l.setIfInBounds i true) l
section
variable {P : Program} {ops : Array Oper} {md : Region.Mode} {K : World → Prop} {Pn : List PanicEntry → World → Prop}
theorem wpAnyK_LB {hd : Nat → Bool} {Hs head : List Nat} {f : Nat} {Lq : Array Bool → Act → World → Prop} (hsel : Region.noSelect ops = true) (hhd : ∀ t, hd t = false → t < ops.size → t ∈ Hs) (hHs : ∀ t ∈ Hs, hd t = false)
 (hs : ∀ h1 r, Hs = h1 :: r → sinkL md ops h1 head = true) (hc : chainL md ops Hs = true) (hdone : ∀ listed a w, Lq listed a w → ∀ j ∈ Region.ready md ops listed, hd j = false) {w : World} (hK : K w) :
 ∀ (Ls : List Nat) (listed : Array Bool) (a : Act), (∀ i ∈ Ls, hd i = true ∧ i ∈ head) → PlanInv md ops hd listed → planLO md ops Ls listed = true → wpPlanL P ops K (fun a' => wpAnyK P md ops K Pn hd Lq f (listedAll Ls listed) a' w) Ls a →
 wpAnyK P md ops K Pn hd Lq (Ls.length + f) listed a w
 | [], listed, a, _, inv, hB, h => by
   rw [List.length_nil, Nat.zero_add]
   exact h
 | i :: rest, listed, a, hL, inv, hB, h => by
   obtain ⟨o, v, h0, hy, hk⟩ := h
   simp only [planLO, Bool.and_eq_true] at hB
   obtain ⟨⟨hr, hf⟩, hB'⟩ := hB
   have hr' : i ∈ Region.ready md ops listed := by simpa using hr
   have hin := hL i (by simp)
   have := wpAnyK_first (v := v) (K := K) (Pn := Pn) (Lq := Lq) h0 (Region.noSelect_spec hsel) hhd hHs hs hc hin.2 hin.1 hdone (rest.length + f) listed a w hK inv (Region.free_spec h0 hf) hr' hy
    (wpAnyK_LB hsel hhd hHs hs hc hdone hK rest _ _ (fun i hi => hL i (by simp [hi])) (inv.set hr' hin.1) hB' hk)
   rw [List.length_cons, show rest.length + 1 + f = rest.length + f + 1 by omega]
   exact this
/-- What is left behind those that only look. -/
def wpRest (P : Program) (ops : Array Oper) (K : World → Prop) (Pn : List PanicEntry → World → Prop) (Ls Ms Hs : List Nat) (Tq : Act → World → Prop) (f : Nat) (listed : Array Bool) (a : Act) (w : World) : Prop :=
 wpAnyK P .any ops K Pn (fun t => (Ls ++ Ms).contains t) (fun listed' a' w' => seqL .any ops Hs listed' = true ∧ Tq a' w') f listed a w
theorem wp_region_planB (Pn : List PanicEntry → World → Prop) {id : Nat} {Q : Exit → Act → World → Prop} {a : Act} {w : World} {l : List Oper} (Ls Ms Hs : List Nat) (K : World → Prop) (hm : P.follows .mixedOrders = true) (hB : planBB .any l.toArray Ls Ms Hs = true) (hK : K w.drew) {os : List Oper} (hos : Picks l Hs os) (hP : ∀ ch a' w', a'.defers = a.defers → Pn ch w' → Q (.panic ch) a' w')
 (h : wpPlanL P l.toArray K (fun a' => wpRest P l.toArray K Pn Ls Ms Hs (fun a'' w'' => wpList P l.toArray Q os a'' w'') Ms.length (listedAll Ls (Array.replicate l.toArray.size false)) a' w.drew) Ls a) : (Code.region id l.toArray true).wp P Q a w := by
 simp only [planBB, Bool.and_eq_true, decide_eq_true_eq] at hB
 obtain ⟨⟨⟨⟨⟨⟨hsel, hpart⟩, hdis⟩, hlen⟩, hs⟩, hc⟩, hpl⟩ := hB
 refine wp_region_any hm ?_
 have hhd : ∀ t, (Ls ++ Ms).contains t = false → t < l.toArray.size → t ∈ Hs := by
  intro t ht hlt
  have h1 := List.all_eq_true.1 hpart t (List.mem_range.2 hlt)
  simp only [ht] at h1
  simpa using h1
 have hHs : ∀ t ∈ Hs, (Ls ++ Ms).contains t = false := by
  intro t ht
  cases hc' : (Ls ++ Ms).contains t
  · rfl
  · have h1 := List.all_eq_true.1 hdis t (by simpa using hc')
    simp [ht] at h1
 have hL : ∀ i ∈ Ls, (Ls ++ Ms).contains i = true ∧ i ∈ Ls ++ Ms := fun i hi => by simp [hi]
 have inv0 : PlanInv .any l.toArray (fun t => (Ls ++ Ms).contains t) (Array.replicate l.toArray.size false) :=
  ⟨by simp, fun j oj _ hl => (by rw [getD_replicate_false] at hl; cases hl), fun t _ ht => getD_in (by simpa using ht) (getD_replicate_false _ _)⟩
 have H := wpAnyK_LB (P := P) (md := .any) (K := K) (Pn := Pn) (f := Ms.length) (Lq := fun listed' a' w' => seqL .any l.toArray Hs listed' = true ∧ wpList P l.toArray Q os a' w') (head := Ls ++ Ms) hsel hhd hHs (fun h1 r e => by subst e; exact hs) hc (fun _ _ _ hq => seqL_ready hHs hq.1) hK Ls (Array.replicate l.toArray.size false) a hL inv0 hpl h
 have := wpAny_of_planK (Q' := Q) (g := Hs.length) (ds := a.defers) hP (fun listed a' w' hq => wpAny_of_seqL (md := .any) (Q' := Q) Hs os listed a' w' (by simpa using hos) hq.1 hq.2) _ _ _ _ rfl hK H
 rw [show Ls.length + Ms.length + Hs.length = l.toArray.size by rw [← hlen, List.length_append]] at this
 exact this
end
section
variable {P : Program} {lo : List Oper} {K : World → Prop} {Pn : List PanicEntry → World → Prop} {Ls Ms Hs : List Nat} {Tq : Act → World → Prop} {f : Nat} {listed : Array Bool} {a : Act} {w : World}
theorem pb_end (hs : seqL .any lo.toArray Hs listed = true) (h : Tq a w) : wpRest P lo.toArray K Pn Ls Ms Hs Tq 0 listed a w := ⟨hs, h⟩
theorem pb_one (i : Nat) (hr : Region.ready .any lo.toArray listed = [i]) (hi : (Ls ++ Ms).contains i = true)
 (h1 : kOp P lo.toArray K Pn i (wpRest P lo.toArray K Pn Ls Ms Hs Tq f (listed.setIfInBounds i true)) a w) : wpRest P lo.toArray K Pn Ls Ms Hs Tq (f + 1) listed a w := by
 refine ⟨by rw [hr]; simp, fun k hk => ?_⟩
 rw [hr] at hk
 have : k = i := by simpa using hk
 subst this
 exact ⟨hi, h1⟩
theorem kOp_eff {i : Nat} {o : Oper} {Kont : Act → World → Prop} (hi : lo[i]? = some o) (hg : o.guard = none) (h : ∀ Kv : Act → World → Prop, (∀ a w, Kont a w → Kv a w) → effRes P Pn (fun v w' => K w' ∧ Kv (a.put o.dst v) w') ((execOp a.eval o).run P w)) : kOp P lo.toArray K Pn i Kont a w := by
 unfold kOp
 simp only [show lo.toArray[i]? = some o by simpa using hi]
 rw [if_pos (by simp [Region.wanted, hg])]
 exact .inr (h _ fun _ _ h => h)
end
/-- At a class of what is owned. -/
theorem wp_region_slb {P : Program} {id : Nat} {Q : Exit → Act → World → Prop} {a : Act} {W w : World} {B : Nat} {rf : List Rs} {l : List Oper} (Ls Ms Hs : List Nat) (rs : List Rs) (hS : SL W B rf w) (hsub : rs.Sublist rf) (hm : P.follows .mixedOrders = true) (hB : planBB .any l.toArray Ls Ms Hs = true) {os : List Oper} (hos : Picks l Hs os)
 (h : ∀ (C : Type) (cw : C → World), Nonempty C → (∀ c, SL W B rs (cw c)) → wpPlanL P l.toArray (fun w => ∃ c, w = cw c) (fun a' => ∀ w1, SL W B rf w1 → wpRest P l.toArray (SL W B rs) (fun _ _ => False) Ls Ms Hs (fun a'' w'' => wpList P l.toArray Q os a'' w'') Ms.length (listedAll Ls (Array.replicate l.toArray.size false)) a' w1) Ls a) : (Code.region id l.toArray true).wp P Q a w := by
 refine wp_region_planB (fun _ _ => False) Ls Ms Hs (SL W B rs) hm hB (hS.drew.sub hsub) hos (fun _ _ _ _ h => h.elim) ?_
 have h1 := h (InC (SL W B rs)) InC.w ⟨⟨w.drew, hS.drew.sub hsub⟩⟩ InC.h
 have key : ∀ (L : List Nat) (a : Act), wpPlanL P l.toArray (fun w => ∃ c : InC (SL W B rs), w = c.w) (fun a' => ∀ w1, SL W B rf w1 → wpRest P l.toArray (SL W B rs) (fun _ _ => False) Ls Ms Hs (fun a'' w'' => wpList P l.toArray Q os a'' w'') Ms.length (listedAll Ls (Array.replicate l.toArray.size false)) a' w1) L a →
  wpPlanL P l.toArray (SL W B rs) (fun a' => wpRest P l.toArray (SL W B rs) (fun _ _ => False) Ls Ms Hs (fun a'' w'' => wpList P l.toArray Q os a'' w'') Ms.length (listedAll Ls (Array.replicate l.toArray.size false)) a' w.drew) L a := by
  intro L
  induction L with
  | nil => intro a h; exact h _ hS.drew
  | cons i r ih =>
    intro a ⟨o, v, h1, h2, h3⟩
    refine ⟨o, v, h1, ?_, ih _ h3⟩
    rcases h2 with ⟨h2, h4⟩ | h2
    · exact .inl ⟨h2, fun w hw => h4 w ⟨⟨w, hw⟩, rfl⟩⟩
    · exact .inr h2
 exact key Ls a h1
end Go.Proofs.Ytpbhbmdghafkmaa
namespace Go.Proofs.Ytpbhbmdghafkmaa
open Go.ChangeShapes Go.WideShapes Go.ChangeAt Go.RowKit
set_option linter.unusedVariables false
def iarr (f : Nat → Int) (n : Nat) : Array Value := Array.ofFn (n := n) fun i => Value.int .i64 (f i.val)
theorem iarr_size (f : Nat → Int) (n : Nat) : (iarr f n).size = n := by simp [iarr]
theorem iarr_get (f : Nat → Int) (n i : Nat) (h : i < n) : (iarr f n)[i]? = some (Value.int .i64 (f i)) := by simp [iarr, h]
theorem iarr_ext {f g : Nat → Int} {n : Nat} (h : ∀ i, i < n → f i = g i) : iarr f n = iarr g n := by
 unfold iarr; congr 1; funext i; rw [h i.val i.isLt]
theorem iarr_set (f : Nat → Int) (n k : Nat) (b : Int) : (iarr f n).setIfInBounds k (.int .i64 b) = iarr (fun i => if i = k then b else f i) n := by
 apply Array.ext_getElem?
 intro i
 by_cases hi : i < n
 · rw [Array.getElem?_setIfInBounds, iarr_get _ _ _ hi, iarr_get _ _ _ hi, iarr_size]
   by_cases hk : k = i
   · subst hk; simp [hi]
   · rw [if_neg hk, if_neg (Ne.symm hk)]
 · rw [Array.getElem?_eq_none (by simp [iarr_size]; omega), Array.getElem?_eq_none (by simp [iarr_size]; omega)]
theorem iarr_made (n : Nat) : madeCells #[Value.int .i64 0] n = iarr (fun _ => 0) n := by
 apply Array.ext
 · rw [size_madeCells, iarr_size]
 · intro i h1 h2; simp [madeCells, iarr, Nat.mod_one]
/-- A row of numbers, as a list. -/
theorem iarr_list (f : Nat → Int) (n : Nat) : (iarr f n).toList = ((List.range n).map f).map (.int .i64) := by
 apply List.ext_getElem?
 intro i
 rw [Array.getElem?_toList]
 by_cases hi : i < n
 · rw [iarr_get _ _ _ hi]; simp [hi]
 · rw [Array.getElem?_eq_none (by simp [iarr_size]; omega), List.getElem?_eq_none (by simp; omega)]
theorem SL.setInt {W w : World} {B : Nat} {l : List Rs} (h : SL W B l w) (i : Nat) {g n : Nat} {f : Nat → Int} {t : TypeId} (hi : l[i]? = some (.blk g (iarr f n) t)) (k : Nat) (b : Int) : SL W B (l.set i (.blk g (iarr (fun j => if j = k then b else f j) n) t)) (w.setCell ⟨g, k, none⟩ (.int .i64 b)) := by
 rw [← iarr_set]; exact h.setCell i hi k _
theorem SL.join {W w w' : World} {B : Nat} {l l2 : List Rs} (h : SL W B l w) (h2 : SL w w.heap.size l2 w') : SL W B (l2 ++ l) w' := by
 have h' := h.call h2.below
 refine ⟨h'.below, h'.size, ?_, ?_, ?_⟩
 · intro s hs
   rcases List.mem_append.1 hs with hs | hs
   · exact h2.holds s hs
   · exact h'.holds s hs
 · intro s hs g hg
   rcases List.mem_append.1 hs with hs | hs
   · exact ⟨Nat.le_trans h.size (h2.block s hs g hg).1, (h2.block s hs g hg).2⟩
   · exact h'.block s hs g hg
 · refine List.pairwise_append.2 ⟨h2.apart, h'.apart, fun a ha b hb g hg hbg => ?_⟩
   have := (h2.block a ha g hg).1
   have := (h.block b hb g hbg).2
   omega
/-- A number out of a row that is read. -/
theorem ints_at {w : World} {B : Nat} {A : Option Addr} {l : List Int} (h : Reads w B 1 A l.length (l.map (.int .i64))) {k : Nat} (hk : k < l.length) : ∃ b o, A = some ⟨b, o, none⟩ ∧ b < B ∧ w.cell? ⟨b, o + k, none⟩ = some (.int .i64 l[k]) := by
 obtain ⟨b, o, e, hb, hc⟩ := reads_plain h (by omega) Nat.one_pos
 exact ⟨b, o, e, hb, hc k _ (by simp [hk])⟩
end Go.Proofs.Ytpbhbmdghafkmaa
namespace Go.Proofs.Ytpbhbmdghafkmaa
open Go.ChangeShapes Go.WideShapes Go.ChangeAt Go.RowKit
set_option linter.unusedVariables false
theorem SL.rowCell {W w : World} {B : Nat} {l : List Rs} (h : SL W B l w) (i : Nat) {e : TypeId} {size n c g off : Nat} {xs : List Value} (hi : l[i]? = some (.row e size (.slice (some ⟨g, off, none⟩) n c) n xs)) (k : Nat) {v : Value} (hv : xs[k]? = some v) : w.cell? ⟨g, off + k, none⟩ = some v := by
 have hr := h.row i hi
 rcases hr.2 with ⟨h0, h1⟩ | ⟨g', off', cap, cur, e1, hb, hg, hnc, hcm, hcs, ht⟩
 · have := hr.1
   rw [h0, Nat.zero_mul] at this
   have h2 := (List.getElem?_eq_some_iff.1 hv).1
   omega
 · simp only [Value.slice.injEq, Option.some.injEq, Addr.mk.injEq] at e1
   obtain ⟨⟨rfl, rfl, _⟩, _, rfl⟩ := e1
   rw [cell_of_row _ _ _ _ _ _ hg]
   have h2 := (List.getElem?_eq_some_iff.1 hv).1
   rw [← ht, List.getElem?_take_of_lt (by have := hr.1; omega), List.getElem?_drop] at hv
   rw [← hv]
   simp
theorem SL.rowFree {W w : World} {B : Nat} {l : List Rs} (h : SL W B l w) (i : Nat) {e : TypeId} {size n c g off : Nat} {xs : List Value} (hi : l[i]? = some (.row e size (.slice (some ⟨g, off, none⟩) n c) n xs)) (k : Nat) (hn : 0 < n) : w.frozen? ⟨g, k, none⟩ = false := by
 have hr := h.row i hi
 rcases hr.2 with ⟨h0, h1⟩ | ⟨g', off', cap, cur, e1, hb, hg, hnc, hcm, hcs, ht⟩
 · omega
 · simp only [Value.slice.injEq, Option.some.injEq, Addr.mk.injEq] at e1
   obtain ⟨⟨rfl, rfl, _⟩, _, rfl⟩ := e1
   simp [World.frozen?, hg]
/-- A store into a row. -/
theorem SL.setRowCell {W w : World} {B : Nat} {l : List Rs} (h : SL W B l w) (i : Nat) {e : TypeId} {size n c g off : Nat} {xs : List Value} (hi : l[i]? = some (.row e size (.slice (some ⟨g, off, none⟩) n c) n xs)) (k : Nat) (hk : k < n * size) (u : Value) :
 SL W B (l.set i (.row e size (.slice (some ⟨g, off, none⟩) n c) n (xs.set k u))) (w.setCell ⟨g, off + k, none⟩ u) := by
 have hr := h.row i hi
 have hb := h.block _ (List.mem_of_getElem? hi) g rfl
 refine h.turn i hi rfl rfl rfl (by simp [World.setCell]) (fun j _ hj => Below.heap_setCell _ _ _ _ (by intro e; exact hj (by simp [Rs.block, Value.ownBlock, e]))) ?_
  (by intro g' hg'; simp only [Rs.block, Value.ownBlock, Option.some.injEq] at hg'; subst hg'; exact ⟨.inl rfl, by simpa [World.setCell] using hb.2⟩)
 refine ⟨by simpa using hr.1, ?_⟩
 rcases hr.2 with ⟨h0, h1⟩ | ⟨g', off', cap, cur, e1, hb', hg, hnc, hcm, hcs, ht⟩
 · rw [h0] at hk; omega
 · simp only [Value.slice.injEq, Option.some.injEq, Addr.mk.injEq] at e1
   obtain ⟨⟨rfl, rfl, _⟩, _, rfl⟩ := e1
   refine .inr ⟨g, off, c, cur.setIfInBounds (off + k) u, rfl, hb', only_range hg (off + k) u, hnc, hcm, by simpa using hcs, ?_⟩
   rw [← ht]
   simp only [Array.toList_setIfInBounds]
   apply List.ext_getElem?
   intro j
   by_cases hj : j < n * size
   · rw [List.getElem?_take_of_lt hj, List.getElem?_drop, List.getElem?_set, List.getElem?_set, List.getElem?_take_of_lt hj, List.getElem?_drop]
     by_cases ejk : k = j
     · subst ejk
       have h1 : off + k < cur.toList.length := by
        have : n * size ≤ c * size := Nat.mul_le_mul_right _ hnc
        simp; omega
       have h2 : k < (List.take (n * size) (List.drop off cur.toList)).length := by
        have : n * size ≤ c * size := Nat.mul_le_mul_right _ hnc
        simp; omega
       rw [if_pos rfl, if_pos rfl, if_pos h1, if_pos h2]
     · rw [if_neg (by omega), if_neg ejk]
   · rw [List.getElem?_eq_none (by simp; omega), List.getElem?_eq_none (by simp; omega)]
/-- A row of numbers, told by a function. -/
def nums (f : Nat → Int) (n : Nat) : List Value := (List.range n).map fun j => .int .i64 (f j)
end Go.Proofs.Ytpbhbmdghafkmaa
namespace Go.Proofs.Ytpbhbmdghafkmaa
open Go.ChangeShapes Go.WideShapes Go.ChangeAt Go.RowKit
set_option linter.unusedVariables false
/-- A block as a row. -/
theorem SL.asRow {W w : World} {B : Nat} {l : List Rs} (h : SL W B l w) (i : Nat) {g n : Nat} {f : Nat → Int} {t : TypeId} (hi : l[i]? = some (.blk g (iarr f n) t)) (hn : n ≤ maxLen) : SL W B (l.set i (.row t 1 (.slice (some ⟨g, 0, none⟩) n n) n (nums f n))) w := by
 have hg := h.blk i hi
 have hl := h.lt i hi
 refine h.turn i hi rfl rfl rfl (Nat.le_refl _) (fun _ _ _ => rfl) ?_ (fun g' hg' => ?_)
 · refine ⟨by simp [nums], .inr ⟨g, 0, n, iarr f n, rfl, Nat.zero_le _, hg, Nat.le_refl _, hn, by rw [iarr_size]; omega, ?_⟩⟩
   rw [iarr_list]
   unfold nums
   simp only [List.drop_zero, Nat.mul_one, List.map_map]
   rw [List.take_of_length_le (by simp)]
   rfl
 · simp only [Rs.block, Value.ownBlock, Option.some.injEq] at hg'
   subst hg'
   exact ⟨.inl rfl, hl.2⟩
end Go.Proofs.Ytpbhbmdghafkmaa
