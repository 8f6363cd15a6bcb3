/- Steps of a plan (XPlan): operations that look, by the kit's quiet step; operations that change memory; append to a row that the call owns. No program in sight. -/
import Derived.Test.YtjpejclfppbboaaPlan
import Derived.Test.YtjpejclfppbboaaSL
namespace Go.Proofs.Ytjpejclfppbboaa
open Go
set_option linter.unusedVariables false
/-- A world of the class. -/
structure InC (K : World → Prop) where
  w : World
  h : K w
section
variable {P : Program} {lo : List Oper} {K : World → Prop} {Lq : Act → Prop} {a : Act} {i : Nat} {rest : List Nat} {o : Oper}
/-- Operations whose run ends in a value, or nowhere: no call, no defer, no communication. -/
def plainOp : Op → Bool
  | .move _ | .assign _ | .pick .. | .build .. | .load .. | .binOp .. | .unOp .. | .convert .. | .fieldAddr .. | .field .. | .indexAddr .. | .index .. | .slice .. | .makeInterface .. | .extract .. => true
  | _ => false
theorem value_only {α : Type} {s : Sem α} {f : α → Value} {w : World} {r : Result Next} (h : (s >>= fun x => pure (Next.value (f x)) : Sem Next).run P w = r) : (∃ v w', r = .ok (.value v) w') ∨ ∃ x w', r = .halt x w' := by
  rw [Sem.run_bind] at h
  cases hr : s.run P w with
  | ok v w' => rw [hr] at h; left; exact ⟨f v, w', by rw [← h]; rfl⟩
  | halt x w' => rw [hr] at h; right; exact ⟨x, w', by rw [← h]; rfl⟩
theorem plainOp_spec (h : plainOp o.op = true) (w : World) : (∃ v w', (execOp a.eval o).run P w = .ok (.value v) w') ∨ ∃ x w', (execOp a.eval o).run P w = .halt x w' := by
  obtain ⟨ty, op, dst, after, pos, guard⟩ := o
  unfold execOp
  simp only at h ⊢
  cases op <;> simp only [plainOp] at h <;> first | cases h | skip
  all_goals first
    | exact .inl ⟨_, _, rfl⟩
    | exact value_only (f := fun x => x) rfl
    | exact value_only (f := fun x => if x = true then a.eval _ else a.eval _) rfl
theorem stillRes_of_quiet (hp : plainOp o.op = true) {C : World → Prop} {w : World} {v : Value} (h : o.quietAt P a C w v) : stillRes v w ((execOp a.eval o).run P w) := by
  unfold Oper.quietAt at h
  rcases plainOp_spec (P := P) (a := a) hp w with ⟨u, w', e⟩ | ⟨x, w', e⟩
  · rw [e] at h ⊢
    exact ⟨h.2, h.1⟩
  · rw [e] at h
    exact absurd h (by simp [Oper.quietUpon])
/-- The guard shuts it out. -/
theorem pl_skip (hi : lo[i]? = some o) (hw : Region.wanted o (yielded lo.toArray a.tmps) = false) (h : ∀ Kv : Act → Prop, (∀ a, wpPlanL P lo.toArray K Lq rest a → Kv a) → Kv (a.put o.dst undef)) : wpPlanL P lo.toArray K Lq (i :: rest) a :=
  ⟨o, undef, by simpa using hi, .inr ⟨hw, rfl⟩, h _ fun _ h => h⟩
/-- It looks: by the kit's quiet step. -/
theorem pl_look (hi : lo[i]? = some o) (hw : Region.wanted o (yielded lo.toArray a.tmps) = true) (hp : plainOp o.op = true) (h : ∀ Kv : Act → Prop, (∀ a, wpPlanL P lo.toArray K Lq rest a → Kv a) → o.quiet P a K Kv) : wpPlanL P lo.toArray K Lq (i :: rest) a := by
  obtain ⟨v, h1, h2⟩ := h _ fun _ h => h
  exact ⟨o, v, by simpa using hi, .inl ⟨hw, fun w hw => stillRes_of_quiet hp (h1 w hw)⟩, h2⟩
/-- The same, the value told. -/
theorem pl_told (v : Value) (hi : lo[i]? = some o) (hw : Region.wanted o (yielded lo.toArray a.tmps) = true) (h : ∀ w, K w → (execOp a.eval o).run P w = .ok (.value v) w) (hk : ∀ Kv : Act → Prop, (∀ a, wpPlanL P lo.toArray K Lq rest a → Kv a) → Kv (a.put o.dst v)) : wpPlanL P lo.toArray K Lq (i :: rest) a :=
  ⟨o, v, by simpa using hi, .inl ⟨hw, fun w hw => by rw [h w hw]; exact ⟨rfl, rfl⟩⟩, hk _ fun _ h => h⟩
/-- len of a slice. -/
theorem pl_len (x : Operand) (t : TypeId) (A : Option Addr) (n c : Nat) (ht : P.underlying t = some (.slice (P.elem t))) (hi : lo[i]? = some o) (hw : Region.wanted o (yielded lo.toArray a.tmps) = true) (ho : o.op = .call { callee := .builtin .len, args := #[x], argTypes := #[t] }) (hx : a.eval x = .slice A n c)
    (hk : ∀ Kv : Act → Prop, (∀ a, wpPlanL P lo.toArray K Lq rest a → Kv a) → Kv (a.put o.dst (.int .i64 n))) : wpPlanL P lo.toArray K Lq (i :: rest) a :=
  pl_told (.int .i64 n) hi hw (fun w _ => by
    unfold execOp
    simp only [ho, resolve, invoke, builtin, Sem.run_bind, Sem.run_pure, Result.andThen_ok, List.map_toArray, List.map_cons, List.map_nil, hx, run_len_slice _ _ _ _ _ _ ht]
    rfl) hk
/-- min of two. -/
theorem pl_min (x y : Operand) (ts : Array TypeId) (k k' : IntKind) (X Y z : Int) (hi : lo[i]? = some o) (hw : Region.wanted o (yielded lo.toArray a.tmps) = true) (ho : o.op = .call { callee := .builtin .min, args := #[x, y], argTypes := ts }) (hx : a.eval x = .int k X) (hy : a.eval y = .int k' Y) (hz : (if Y < X then Y else X) = z)
    (hk : ∀ Kv : Act → Prop, (∀ a, wpPlanL P lo.toArray K Lq rest a → Kv a) → Kv (a.put o.dst (.int k z))) : wpPlanL P lo.toArray K Lq (i :: rest) a :=
  pl_told (.int k z) hi hw (fun w _ => by
    unfold execOp
    simp only [ho, resolve, invoke, builtin, Sem.run_bind, Sem.run_pure, Result.andThen_ok, List.map_toArray, List.map_cons, List.map_nil, hx, hy, run_min_int2, hz]) hk
theorem pl_end (h : Lq a) : wpPlanL P lo.toArray K Lq [] a := h
variable {Lm : Act → World → Prop} {w : World} {Pn : List PanicEntry → World → Prop}
theorem pm_end (h : Lm a w) : wpPlanM P lo.toArray K Pn Lm [] a w := h
/-- It changes memory. -/
theorem pm_eff (hi : lo[i]? = some o) (hg : o.guard = none) (h : ∀ Kv : Act → World → Prop, (∀ a w, wpPlanM P lo.toArray K Pn Lm rest a w → Kv a w) → effRes P Pn (fun v w' => K w' ∧ Kv (a.put o.dst v) w') ((execOp a.eval o).run P w)) : wpPlanM P lo.toArray K Pn Lm (i :: rest) a w := by
  unfold wpPlanM kOp
  simp only [show lo.toArray[i]? = some o by simpa using hi]
  rw [if_pos (by simp [Region.wanted, hg])]
  exact .inr (h _ fun _ _ h => h)
/-- append to a row that the call owns; the new elements have just been laid in a block of their own. -/
theorem pm_append {W w0 : World} {B : Nat} {l : List Rs} {cs : Array Value} {e : TypeId} (hi0 : lo[i]? = some o) (hgd : o.guard = none) (s x : Operand) (t : TypeId)
    (ho : o.op = .call { callee := .builtin .append, args := #[s, x], argTypes := #[t, t] }) (h : SL W B l w0) (it : Nat)
    (ti : TypeInfo) (z : Value) (size bytes : Nat) (ht : P.underlying t = some (.slice e)) (hi : P.info? e = some ti) (hz : ti.zero = some z)
    (hsize : ti.size = size) (hby : ti.bytes = bytes) (hzs : z.cells.size = size) (hsz : 0 < size)
    (v : Value) (n m : Nat) (xs : List Value) (hit : l[it]? = some (.row e size v n xs)) (hs : a.eval s = v) (G : Nat) (hx : a.eval x = .slice (some ⟨G, 0, none⟩) m m) (hG : w0.heap.size = G) (hm : 0 < m) (hcs : cs.size = m * size) (h1 : ∀ u ∈ cs.toList, u.oneCell' = true)
    (hn : n + m ≤ 1000000000) (hb1 : bytes ≤ 1024)
    (hK : ∀ v' w', SL W B (l.set it (.row e size v' (n + m) (xs ++ cs.toList))) w' → w0.heap.size < w'.heap.size → K w' ∧ ∀ Kv : Act → World → Prop, (∀ a w, wpPlanM P lo.toArray K Pn Lm rest a w → Kv a w) → Kv (a.put o.dst v') w') : wpPlanM P lo.toArray K Pn Lm (i :: rest) a (w0.alloc (.cells cs e)) := by
  subst hG
  obtain ⟨v', w', hr, h2, h3⟩ := run_append_sl (P := P) t o.type h it ti z size bytes ht hi hz hsize hby hzs hsz v n m xs hit hm hcs h1 hn hb1
  refine pm_eff hi0 hgd fun Kv hKv => ?_
  unfold execOp
  simp only [ho, resolve, invoke, builtin, Sem.run_bind, Sem.run_pure, Result.andThen_ok, List.map_toArray, List.map_cons, List.map_nil, hs, hx, hr]
  exact ⟨(hK v' w' h2 h3).1, (hK v' w' h2 h3).2 Kv hKv⟩
end
/-- At a class of what is owned (rs: some of all that is owned, rf): the region's plan; cw c: any world of the class; a callee may throw (Pn). -/
theorem wp_region_slp {P : Program} (Pn : List PanicEntry → World → Prop) {id : Nat} {Q : Exit → Act → World → Prop} {a : Act} {W w : World} {B : Nat} {rf : List Rs} {l : List Oper} (Ls Ms Hs : List Nat) (rs : List Rs) (hS : SL W B rf w) (hsub : rs.Sublist rf) (hm : P.follows .mixedOrders = true) (hB : planB .any l.toArray Ls Ms Hs = true) {os : List Oper} (hos : Picks l Hs os)
    (hP : ∀ ch a' w', a'.defers = a.defers → Pn ch w' → Q (.panic ch) a' w')
    (h : ∀ (C : Type) (cw : C → World), Nonempty C → (∀ c, SL W B rs (cw c)) → wpPlanL P l.toArray (fun w => ∃ c, w = cw c) (fun a' => ∀ w1, SL W B rf w1 → wpPlanM P l.toArray (SL W B rs) Pn (fun a'' w'' => wpList P l.toArray Q os a'' w'') Ms a' w1) Ls a) : (Code.region id l.toArray true).wp P Q a w := by
  refine wp_region_plan Pn Ls Ms Hs (SL W B rs) hm hB (hS.drew.sub hsub) hos hP ?_
  have h1 := h (InC (SL W B rs)) InC.w ⟨⟨w.drew, hS.drew.sub hsub⟩⟩ InC.h
  have key : ∀ (Ls : List Nat) (a : Act), wpPlanL P l.toArray (fun w => ∃ c : InC (SL W B rs), w = c.w) (fun a' => ∀ w1, SL W B rf w1 → wpPlanM P l.toArray (SL W B rs) Pn (fun a'' w'' => wpList P l.toArray Q os a'' w'') Ms a' w1) Ls a →
      wpPlanL P l.toArray (SL W B rs) (fun a' => wpPlanM P l.toArray (SL W B rs) Pn (fun a'' w'' => wpList P l.toArray Q os a'' w'') Ms a' w.drew) Ls a := by
    intro Ls
    induction Ls with
    | nil => intro a h; exact h _ hS.drew
    | cons i r ih =>
      intro a ⟨o, v, h1, h2, h3⟩
      refine ⟨o, v, h1, ?_, ih _ h3⟩
      rcases h2 with ⟨h2, h4⟩ | h2
      · exact .inl ⟨h2, fun w hw => h4 w ⟨⟨w, hw⟩, rfl⟩⟩
      · exact .inr h2
  exact key Ls a h1
/-- The same where no callee throws. -/
theorem wp_region_sl {P : Program} {id : Nat} {Q : Exit → Act → World → Prop} {a : Act} {W w : World} {B : Nat} {rf : List Rs} {l : List Oper} (Ls Ms Hs : List Nat) (rs : List Rs) (hS : SL W B rf w) (hsub : rs.Sublist rf) (hm : P.follows .mixedOrders = true) (hB : planB .any l.toArray Ls Ms Hs = true) {os : List Oper} (hos : Picks l Hs os)
    (h : ∀ (C : Type) (cw : C → World), Nonempty C → (∀ c, SL W B rs (cw c)) → wpPlanL P l.toArray (fun w => ∃ c, w = cw c) (fun a' => ∀ w1, SL W B rf w1 → wpPlanM P l.toArray (SL W B rs) (fun _ _ => False) (fun a'' w'' => wpList P l.toArray Q os a'' w'') Ms a' w1) Ls a) : (Code.region id l.toArray true).wp P Q a w :=
  wp_region_slp (fun _ _ => False) Ls Ms Hs rs hS hsub hm hB hos (fun _ _ _ _ h => h.elim) h
/-- A call met by its contract. -/
theorem eff_call {P : Program} {Pn : List PanicEntry → World → Prop} {f : FuncId} {args : Array Value} {w : World} {next : Value → World → Prop} {R : Ending → World → Prop} (h : Calls P f args w R) (hR : ∀ e w', R e w' → (∃ v, e = .returned v ∧ next v w') ∨ ∃ ch, e = .panicked ch ∧ Pn ch w') : effRes P Pn next (.ok (.enter f args) w) := h.mono hR
end Go.Proofs.Ytjpejclfppbboaa
