/- More steps of a plan (XPlanB): operations that look, behind ones that change memory; append; picking out of what is owned. No program in sight. -/
import Derived.Test.YtjpejclfppbboaaAppendFrom
namespace Go.Proofs.Ytjpejclfppbboaa
open Go
set_option linter.unusedVariables false
/-- Some of what is owned, in another order. -/
theorem SL.pick {W w : World} {B : Nat} {l l' : List Rs} (h : SL W B l w) (is : List Nat) (hn : is.Nodup) (hp : is.mapM (fun i => l[i]?) = some l') : SL W B l' w := by
  have hk : ∀ (is : List Nat) (l' : List Rs), is.mapM (fun i => l[i]?) = some l' → is.length = l'.length ∧ ∀ j (hj : j < is.length) (hj' : j < l'.length), l[is[j]]? = some l'[j] := by
    intro is
    induction is with
    | nil => intro l' hp; simp at hp; subst hp; exact ⟨rfl, fun j hj => absurd hj (by simp)⟩
    | cons i r ih =>
      intro l' hp
      rw [List.mapM_cons] at hp
      cases hi : l[i]? with
      | none => rw [hi] at hp; cases hp
      | some x =>
        cases hr : r.mapM (fun i => l[i]?) with
        | none => rw [hi, hr] at hp; cases hp
        | some y =>
          rw [hi, hr] at hp
          obtain rfl : x :: y = l' := by injection hp
          obtain ⟨h1, h2⟩ := ih y hr
          refine ⟨by simp [h1], fun j hj hj' => ?_⟩
          cases j with
          | zero => simpa using hi
          | succ j => simpa using h2 j (by simpa using hj) (by simpa using hj')
  obtain ⟨hl, hg⟩ := hk is l' hp
  have hmem : ∀ r ∈ l', r ∈ l := by
    intro r hr
    obtain ⟨j, hj, rfl⟩ := List.getElem_of_mem hr
    exact List.mem_of_getElem? (hg j (by omega) hj)
  refine ⟨h.below, h.size, fun r hr => h.holds r (hmem r hr), fun r hr => h.block r (hmem r hr), ?_⟩
  rw [List.pairwise_iff_getElem]
  intro a b ha hb hab
  have ga := hg a (by omega) ha
  have gb := hg b (by omega) hb
  have hne : is[a]'(by omega) ≠ is[b]'(by omega) := by
    intro e
    have := (List.pairwise_iff_getElem.1 hn) a b (by omega) (by omega) hab
    exact this e
  obtain ⟨ha1, ha2⟩ := List.getElem?_eq_some_iff.1 ga
  obtain ⟨hb1, hb2⟩ := List.getElem?_eq_some_iff.1 gb
  have hap := List.pairwise_iff_getElem.1 h.apart
  intro g h1 h2
  rw [← ha2] at h1
  rw [← hb2] at h2
  rcases Nat.lt_or_gt_of_ne hne with hlt | hgt
  · exact hap _ _ ha1 hb1 hlt g h1 h2
  · exact hap _ _ hb1 ha1 hgt g h2 h1
def planInvB (ops : Array Oper) (Hs : List Nat) (listed : Array Bool) : Bool :=
  listed.size == ops.size && (List.range ops.size).all (fun j => !listed.getD j false || match ops[j]? with | some oj => oj.after.all (fun e => !Region.binds .any e || listed.getD e.on false) | none => true) && Hs.all (fun t => !listed.getD t true)
section
variable {P : Program} {lo : List Oper} {K : World → Prop} {Pn : List PanicEntry → World → Prop} {Ls Ms Hs : List Nat} {Tq : Act → World → Prop} {f : Nat} {listed : Array Bool} {a : Act} {w : World} {o : Oper}
/-- It looks; whenever it comes, it sees the same. -/
theorem pb_told (i : Nat) (v : Value) (hB : planBB .any lo.toArray Ls Ms Hs = true) (hi : lo[i]? = some o) (hP : planInvB lo.toArray Hs listed = true) (hr : (Region.ready .any lo.toArray listed).contains i = true) (hf : Region.free .any lo.toArray listed i = true) (hin : (Ls ++ Ms).contains i = true) (hK : K w)
    (hw : Region.wanted o (yielded lo.toArray a.tmps) = true) (h : ∀ w, K w → (execOp a.eval o).run P w = .ok (.value v) w) (hk : ∀ Kv : Act → Prop, (∀ a, wpRest P lo.toArray K Pn Ls Ms Hs Tq f (listed.setIfInBounds i true) a w → Kv a) → Kv (a.put o.dst v)) : wpRest P lo.toArray K Pn Ls Ms Hs Tq (f + 1) listed a w := by
  have hH := hk _ fun _ h => h
  simp only [planBB, Bool.and_eq_true, decide_eq_true_eq] at hB
  obtain ⟨⟨⟨⟨⟨⟨hsel, hpart⟩, hdis⟩, hlen⟩, hs⟩, hc⟩, hpl⟩ := hB
  have hhd : ∀ t, (Ls ++ Ms).contains t = false → t < lo.toArray.size → t ∈ Hs := by
    intro t ht hlt
    have h1 := List.all_eq_true.1 hpart t (List.mem_range.2 hlt)
    simp only [ht] at h1
    simpa using h1
  have hHs : ∀ t ∈ Hs, (Ls ++ Ms).contains t = false := by
    intro t ht
    cases hc' : (Ls ++ Ms).contains t
    · rfl
    · have h1 := List.all_eq_true.1 hdis t (by simpa using hc')
      simp [ht] at h1
  simp only [planInvB, Bool.and_eq_true, beq_iff_eq] at hP
  obtain ⟨⟨p1, p2⟩, p3⟩ := hP
  have inv : PlanInv .any lo.toArray (fun t => (Ls ++ Ms).contains t) listed := by
    refine ⟨p1, fun j oj hj hl e he hb => ?_, fun t ht ht' => ?_⟩
    · have hjs := (Array.getElem?_eq_some_iff.1 hj).1
      have := List.all_eq_true.1 p2 j (List.mem_range.2 hjs)
      simp only [hl, hj, Bool.not_true, Bool.false_or] at this
      have := Array.all_eq_true_iff_forall_mem.1 this e he
      simpa [hb] using this
    · have := List.all_eq_true.1 p3 t (hhd t ht ht')
      simpa using this
  have hi' : lo.toArray[i]? = some o := by simpa using hi
  exact wpAnyK_first (v := v) (K := K) (Pn := Pn) (Lq := fun listed' a' w' => seqL .any lo.toArray Hs listed' = true ∧ Tq a' w') (head := Ls ++ Ms) hi' (Region.noSelect_spec hsel) hhd hHs (fun h1 r e => by subst e; exact hs) hc (by simpa using hin) hin (fun _ _ _ hq => seqL_ready hHs hq.1) f listed a w hK inv (Region.free_spec hi' hf) (by simpa using hr)
    (.inl ⟨hw, fun w hw' => by rw [h w hw']; exact ⟨rfl, rfl⟩⟩) hH
theorem eff_append_run {next : Value → World → Prop} {w' : World} {v' : Value} (s x : Operand) (t : TypeId) (ho : o.op = .call { callee := .builtin .append, args := #[s, x], argTypes := #[t, t] }) (v u : Value) (hs : a.eval s = v) (hx : a.eval x = u) (hr : (Builtin.append_ #[t, t] o.type #[v, u]).run P w = .ok v' w') (h : next v' w') : effRes P Pn next ((execOp a.eval o).run P w) := by
  unfold execOp
  simp only [ho, resolve, invoke, builtin, Sem.run_bind, Sem.run_pure, Result.andThen_ok, List.map_toArray, List.map_cons, List.map_nil, hs, hx, hr]
  exact h
end
end Go.Proofs.Ytjpejclfppbboaa
