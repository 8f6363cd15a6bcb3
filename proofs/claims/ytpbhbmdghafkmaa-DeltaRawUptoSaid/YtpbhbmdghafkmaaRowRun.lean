/- append(row, s...): the elements are read wherever they lie. No program in sight. Runs of stores into an owned row; a row cut short; an append whose run is known. No program in sight. append as a step of a plan whose operations may come in several orders. No program in sight. append(row, s...) for any s, none of its elements or some; a byte of a row that came in; a whole struct's load as a stated value. No program in sight. More steps of a plan (XPlanB): operations that look, behind ones that change memory; append; picking out of what is owned. No program in sight. A region that draws its order, walked once in the order of the text, at a class of what is owned; a call may make memory. No program in sight. -/
import Derived.Test.YtpbhbmdghafkmaaIarr
import Derived.ArgAppend
import Derived.Laws.IdiomCopy
import Derived.BigFrame
import Derived.Deep.QuietTactic
import Derived.BigQuiet
namespace Go.Proofs.Ytpbhbmdghafkmaa
open Go.ChangeShapes Go.WideShapes Go.ChangeAt Go.RowKit
set_option linter.unusedVariables false
theorem run_append_from {P : Program} {W w : World} {B : Nat} {l : List Rs} {e : TypeId} (t ty : TypeId) (h : SL W B l w) (it : Nat) (i : TypeInfo) (z : Value) (size bytes : Nat) (ht : P.underlying t = some (.slice e)) (hi : P.info? e = some i) (hz : i.zero = some z)
 (hsize : i.size = size) (hby : i.bytes = bytes) (hzs : z.cells.size = size) (hsz : 0 < size)
 (v : Value) (n m c : Nat) (xs news : List Value) (hit : l[it]? = some (.row e size v n xs)) (hm : 0 < m) (a : Addr) (hl : news.length = m * size) (hnews : ∀ j u, news[j]? = some u → w.cell? (a.add j) = some u) (h1 : ∀ u ∈ news, u.oneCell' = true) (hn : n + m ≤ 1000000000) (hb1 : bytes ≤ 1024) :
 ∃ v' w', (Builtin.append_ #[t, t] ty #[v, .slice (some a) m c]).run P w = .ok v' w' ∧ SL W B (l.set it (.row e size v' (n + m) (xs ++ news))) w' := by
 have hrow := h.row it hit
 obtain ⟨v', w', hr, h2, h3, h4⟩ := run_append_q (P := P) w 0 t ty e i z size bytes ht hi hz hsize hby hzs hsz v n xs hrow a m c news hm hl hnews h1 (by unfold maxLen; omega)
  (by calc (n + m) * bytes ≤ 1000000000 * 1024 := Nat.mul_le_mul hn hb1
       _ ≤ 140737488355328 := by omega) (Nat.zero_le _)
 refine ⟨v', w', hr, h.turn it hit h3.os h3.tape h3.output h3.size (fun k hk hne => h3.block k hk (fun e => hne e.symm)) h2 ?_⟩
 intro g hg
 have hg' : v'.ownBlock = some g := hg
 refine ⟨?_, ?_⟩
 · rcases h4 with h4 | ⟨k, h4, h5⟩
   · left; show v.ownBlock = some g; rw [← h4]; exact hg'
   · right
     rw [h4] at hg'
     injection hg' with hg'
     omega
 · rcases h2.in_ with h0 | ⟨g', off, cap, hv, hlt⟩
   · omega
   · rw [hv] at hg'
     simp [Value.ownBlock] at hg'
     omega
theorem run_append_none {P : Program} {w : World} {e t ty : TypeId} {i : TypeInfo} (ht : P.underlying t = some (.slice e)) (hi : P.info? e = some i) (b : Addr) (A : Option Addr) (c : Nat) :
 (Builtin.append_ #[t, t] ty #[.slice (some b) 0 0, .slice A 0 c]).run P w = .ok (.slice (some b) 0 0) w := by
 cases A with
 | none => simp [Builtin.append_, run_underlying ht, sizeOf, typeInfo, hi, Builtin.lenOf, Builtin.firstCells, storeCells]
 | some a =>
   have hf := run_firstCells_some (P := P) w i.size 0 a 0 c [] (by simp) (by simp)
   simp [Builtin.append_, run_underlying ht, sizeOf, typeInfo, hi, Builtin.lenOf, hf, storeCells]
theorem wpList_append_run {P : Program} {ops : Array Oper} {rest : List Oper} {o : Oper} {a : Act} {w w' : World} {v' : Value} {Q : Exit → Act → World → Prop} (hgd : o.guard = none) (s x : Operand) (t : TypeId)
 (ho : o.op = .call { callee := .builtin .append, args := #[s, x], argTypes := #[t, t] }) (v u : Value) (hs : a.eval s = v) (hx : a.eval x = u) (hr : (Builtin.append_ #[t, t] o.type #[v, u]).run P w = .ok v' w') (hK : wpList P ops Q rest (a.put o.dst v') w') : wpList P ops Q (o :: rest) a w := by
 refine wpList_plain hgd fun K hK' => ?_
 unfold Oper.wp execOp
 simp only [ho, resolve, invoke, builtin, Sem.run_bind, Sem.run_pure, Result.andThen_ok, List.map_toArray, List.map_cons, List.map_nil, hs, hx, hr]
 exact hK' _ _ hK
/-- A made row of no elements. -/
theorem SL.empty {W w : World} {B : Nat} {l : List Rs} (h : SL W B l w) (e : TypeId) (size : Nat) : SL W B (.row e size (.slice (some ⟨w.heap.size, 0, none⟩) 0 0) 0 [] :: l) (w.alloc (.cells #[] e)) :=
 h.more ((Below.refl _ _).alloc (Nat.le_refl _) _) (.row e size (.slice (some ⟨w.heap.size, 0, none⟩) 0 0) 0 []) ⟨by simp, .inl ⟨rfl, .inr ⟨_, rfl, Nat.zero_le _⟩⟩⟩ (by intro g hg; simp [Rs.block, Value.ownBlock] at hg; subst hg; simp)
end Go.Proofs.Ytpbhbmdghafkmaa
namespace Go.Proofs.Ytpbhbmdghafkmaa
open Go.ChangeShapes Go.WideShapes Go.ChangeAt Go.RowKit
set_option linter.unusedVariables false
theorem set_self' {α : Type} {l : List α} {i : Nat} {a : α} (h : l[i]? = some a) : l.set i a = l := by
 obtain ⟨h1, rfl⟩ := List.getElem?_eq_some_iff.1 h
 exact List.set_getElem_self h1
theorem SL.setRun {W : World} {B : Nat} (i : Nat) {e : TypeId} {size n c g off : Nat} : ∀ (vs : List Value) (k : Nat) (xs : List Value) (l : List Rs) (w : World), SL W B l w → l[i]? = some (.row e size (.slice (some ⟨g, off, none⟩) n c) n xs) → k + vs.length ≤ n * size →
 SL W B (l.set i (.row e size (.slice (some ⟨g, off, none⟩) n c) n (xs.take k ++ vs ++ xs.drop (k + vs.length)))) (w.setCells g (off + k) vs)
 | [], k, xs, l, w, h, hi, hk => by
   have e1 : xs.take k ++ [] ++ xs.drop (k + ([] : List Value).length) = xs := by simp
   rw [e1, set_self' hi]
   exact h
 | v :: r, k, xs, l, w, h, hi, hk => by
   simp only [List.length_cons] at hk
   have hl := (h.row i hi).1
   have h1 := h.setRowCell i hi k (by omega) v
   have h2 := SL.setRun i r (k + 1) (xs.set k v) _ _ h1 (List.getElem?_set_self (List.getElem?_eq_some_iff.1 hi).1) (by omega)
   rw [List.set_set] at h2
   have e1 : (xs.set k v).take (k + 1) ++ r ++ (xs.set k v).drop (k + 1 + r.length) = xs.take k ++ (v :: r) ++ xs.drop (k + (v :: r).length) := by
    rw [List.drop_set_of_lt (by omega), List.take_succ_eq_append_getElem (by rw [List.length_set]; omega), List.take_set_of_le (Nat.le_refl k)]
    simp [Nat.add_assoc, Nat.add_comm 1]
   rw [e1] at h2
   exact h2
theorem SL.cutRow {W w : World} {B : Nat} {l : List Rs} (h : SL W B l w) (i : Nat) {e : TypeId} {size n c g off : Nat} {xs : List Value} (hi : l[i]? = some (.row e size (.slice (some ⟨g, off, none⟩) n c) n xs)) (m : Nat) (hm : m ≤ n) (hn : 0 < n) :
 SL W B (l.set i (.row e size (.slice (some ⟨g, off, none⟩) m c) m (xs.take (m * size)))) w := by
 have hb := h.block _ (List.mem_of_getElem? hi) g rfl
 have hms : m * size ≤ n * size := Nat.mul_le_mul_right _ hm
 refine h.turn i hi rfl rfl rfl (Nat.le_refl _) (fun _ _ _ => rfl) ?_ (fun g' hg' => ?_)
 · have hr := h.row i hi
   refine ⟨by rw [List.length_take, hr.1]; omega, ?_⟩
   rcases hr.2 with ⟨h0, h1⟩ | ⟨g', off', cap, cur, e1, hb', hg, hnc, hcm, hcs, ht⟩
   · omega
   · simp only [Value.slice.injEq, Option.some.injEq, Addr.mk.injEq] at e1
     obtain ⟨⟨rfl, rfl, _⟩, _, rfl⟩ := e1
     refine .inr ⟨g, off, c, cur, rfl, hb', hg, by omega, hcm, hcs, ?_⟩
     rw [← ht, List.take_take, Nat.min_eq_left hms]
 · simp only [Rs.block, Value.ownBlock, Option.some.injEq] at hg'
   subst hg'
   exact ⟨.inl rfl, hb.2⟩
section
variable {P : Program} {Pn : List PanicEntry → World → Prop} {lo : List Oper} {K : World → Prop} {Lm : Act → World → Prop} {rest : List Nat} {i : Nat} {o : Oper} {a : Act} {w : World}
/-- An append whose run is known. -/
theorem pm_append_run (hi0 : lo[i]? = some o) (hgd : o.guard = none) (s x : Operand) (t : TypeId) (ho : o.op = .call { callee := .builtin .append, args := #[s, x], argTypes := #[t, t] }) (v y v' : Value) (w2 : World) (hs : a.eval s = v) (hx : a.eval x = y)
 (hr : (Builtin.append_ #[t, t] o.type #[v, y]).run P w = .ok v' w2) (hk : K w2) (hK : ∀ Kv : Act → World → Prop, (∀ a w, wpPlanM P lo.toArray K Pn Lm rest a w → Kv a w) → Kv (a.put o.dst v') w2) : wpPlanM P lo.toArray K Pn Lm (i :: rest) a w := by
 refine pm_eff hi0 hgd fun Kv hKv => ?_
 unfold execOp
 simp only [ho, resolve, invoke, builtin, Sem.run_bind, Sem.run_pure, Result.andThen_ok, List.map_toArray, List.map_cons, List.map_nil, hs, hx, hr]
 exact ⟨hk, hK Kv hKv⟩
end
theorem zeroCells_one (z : Value) (hz : z.cells = #[z]) (n : Nat) : (Builtin.zeroCells z.cells n).toList = List.replicate n z := by
 rw [hz]
 unfold Builtin.zeroCells
 apply List.ext_getElem
 · simp
 · intro i h1 h2
   simp [Nat.mod_one]
end Go.Proofs.Ytpbhbmdghafkmaa
namespace Go.Proofs.Ytpbhbmdghafkmaa
open Go
set_option linter.unusedVariables false
end Go.Proofs.Ytpbhbmdghafkmaa
namespace Go.Proofs.Ytpbhbmdghafkmaa
open Go.ChangeShapes Go.WideShapes Go.ChangeAt Go.RowKit
set_option linter.unusedVariables false
theorem run_append_zero {P : Program} {w : World} {e t ty : TypeId} {i : TypeInfo} (ht : P.underlying t = some (.slice e)) (hi : P.info? e = some i) (A A' : Option Addr) (n c c' : Nat) (hnc : n ≤ c) :
 (Builtin.append_ #[t, t] ty #[.slice A n c, .slice A' 0 c']).run P w = .ok (.slice A n c) w := by
 cases A' with
 | none => cases A <;> simp [Builtin.append_, run_underlying ht, sizeOf, typeInfo, hi, Builtin.lenOf, Builtin.firstCells, storeCells, hnc]
 | some a =>
   have hf := run_firstCells_some (P := P) w i.size 0 a 0 c' [] (by simp) (by simp)
   cases A <;> simp [Builtin.append_, run_underlying ht, sizeOf, typeInfo, hi, Builtin.lenOf, hf, storeCells, hnc]
/-- append(row, s...), s a row that reads as news. -/
theorem run_append_reads {P : Program} {W w : World} {B B' : Nat} {l : List Rs} {e : TypeId} (t ty : TypeId) (h : SL W B l w) (it : Nat) (i : TypeInfo) (z : Value) (size bytes : Nat) (ht : P.underlying t = some (.slice e)) (hi : P.info? e = some i) (hz : i.zero = some z)
 (hsize : i.size = size) (hby : i.bytes = bytes) (hzs : z.cells.size = size) (hsz : 0 < size)
 (v : Value) (n m c : Nat) (xs news : List Value) (hit : l[it]? = some (.row e size v n xs)) (A : Option Addr) (hr : Reads w B' size A m news) (h1 : ∀ u ∈ news, u.oneCell' = true) (hn : n + m ≤ 1000000000) (hb1 : bytes ≤ 1024) :
 ∃ v' w', (Builtin.append_ #[t, t] ty #[v, .slice A m c]).run P w = .ok v' w' ∧ SL W B (l.set it (.row e size v' (n + m) (xs ++ news))) w' := by
 rcases Nat.eq_zero_or_pos m with rfl | hm
 · obtain ⟨A0, c0, rfl, hnc, _⟩ := (h.row it hit).slice_
   have hn0 : news = [] := List.eq_nil_of_length_eq_zero (by rw [hr.1]; simp)
   subst hn0
   refine ⟨_, w, run_append_zero ht hi A0 A n c0 c hnc, ?_⟩
   have e1 : l.set it (.row e size (.slice A0 n c0) (n + 0) (xs ++ [])) = l := by
    rw [List.append_nil, Nat.add_zero]
    have hl := (List.getElem?_eq_some_iff.1 hit)
    rw [← hl.2]
    exact List.set_getElem_self hl.1
   rw [e1]; exact h
 · obtain ⟨a, rfl, _, hc⟩ := hr.2 hm
   exact run_append_from t ty h it i z size bytes ht hi hz hsize hby hzs hsz v n m c xs news hit hm a hr.1 hc h1 hn hb1
theorem ints_one (l : List Int) (kd : IntKind) : ∀ u ∈ l.map (Value.int kd), u.oneCell' = true := by
 intro u hu
 obtain ⟨n, _, rfl⟩ := List.mem_map.1 hu
 rfl
/-- A whole struct is loaded, behind a guard or not. -/
theorem wpList_load_row_g {P : Program} {ops : Array Oper} {rest : List Oper} {o : Oper} {a : Act} {w : World} {Q : Exit → Act → World → Prop} (hw : Region.wanted o (yielded ops a.tmps) = true) (ty : TypeId) (x : Operand) (ho : o.op = .load ty x)
 (g : Nat) (hx : a.eval x = .pointer (some ⟨g, 0, none⟩)) (t : TypeId) (cs : Array Value) (fr : Nat × Nat) (d : TypeDesc) (hg : w.heap[g]? = some (.cells cs t fr))
 (hu : P.underlying ty = some d) (hd : (match d with | .struct _ | .array _ _ => true | _ => false) = true) (hi : (P.info? ty).map (·.size) = some cs.size)
 (h : wpList P ops Q rest (a.put o.dst (.agg cs)) w) : wpList P ops Q (o :: rest) a w :=
 BigFrame.wpList_want hw fun _ hK => wp_load_row ty x ho g hx t cs fr d hg hu hd hi (hK _ _ h)
end Go.Proofs.Ytpbhbmdghafkmaa
namespace Go.Proofs.Ytpbhbmdghafkmaa
open Go
set_option linter.unusedVariables false
/-- Some of what is owned, in another order. -/
theorem SL.pick {W w : World} {B : Nat} {l l' : List Rs} (h : SL W B l w) (is : List Nat) (hn : is.Nodup) (hp : is.mapM (fun i => l[i]?) = some l') : SL W B l' w := by
 have hk : ∀ (is : List Nat) (l' : List Rs), is.mapM (fun i => l[i]?) = some l' → is.length = l'.length ∧ ∀ j (hj : j < is.length) (hj' : j < l'.length), l[is[j]]? = some l'[j] := by
  intro is
  induction is with
  | nil => intro l' hp; simp at hp; subst hp; exact ⟨rfl, fun j hj => absurd hj (by simp)⟩
  | cons i r ih =>
    intro l' hp
    rw [List.mapM_cons] at hp
    cases hi : l[i]? with
    | none => rw [hi] at hp; cases hp
    | some x =>
      cases hr : r.mapM (fun i => l[i]?) with
      | none => rw [hi, hr] at hp; cases hp
      | some y =>
        rw [hi, hr] at hp
        obtain rfl : x :: y = l' := by injection hp
        obtain ⟨h1, h2⟩ := ih y hr
        refine ⟨by simp [h1], fun j hj hj' => ?_⟩
        cases j with
        | zero => simpa using hi
        | succ j => simpa using h2 j (by simpa using hj) (by simpa using hj')
 obtain ⟨hl, hg⟩ := hk is l' hp
 have hmem : ∀ r ∈ l', r ∈ l := by
  intro r hr
  obtain ⟨j, hj, rfl⟩ := List.getElem_of_mem hr
  exact List.mem_of_getElem? (hg j (by omega) hj)
 refine ⟨h.below, h.size, fun r hr => h.holds r (hmem r hr), fun r hr => h.block r (hmem r hr), ?_⟩
 rw [List.pairwise_iff_getElem]
 intro a b ha hb hab
 have ga := hg a (by omega) ha
 have gb := hg b (by omega) hb
 have hne : is[a]'(by omega) ≠ is[b]'(by omega) := by
  intro e
  have := (List.pairwise_iff_getElem.1 hn) a b (by omega) (by omega) hab
  exact this e
 obtain ⟨ha1, ha2⟩ := List.getElem?_eq_some_iff.1 ga
 obtain ⟨hb1, hb2⟩ := List.getElem?_eq_some_iff.1 gb
 have hap := List.pairwise_iff_getElem.1 h.apart
 intro g h1 h2
 rw [← ha2] at h1
 rw [← hb2] at h2
 rcases Nat.lt_or_gt_of_ne hne with hlt | hgt
 · exact hap _ _ ha1 hb1 hlt g h1 h2
 · exact hap _ _ hb1 ha1 hgt g h2 h1
def planInvB (ops : Array Oper) (Hs : List Nat) (listed : Array Bool) : Bool :=
 listed.size == ops.size && (List.range ops.size).all (fun j => !listed.getD j false || match ops[j]? with | some oj => oj.after.all (fun e => !Region.binds .any e || listed.getD e.on false) | none => true) && Hs.all (fun t => !listed.getD t true)
section
variable {P : Program} {lo : List Oper} {K : World → Prop} {Pn : List PanicEntry → World → Prop} {Ls Ms Hs : List Nat} {Tq : Act → World → Prop} {f : Nat} {listed : Array Bool} {a : Act} {w : World} {o : Oper}
/-- It looks; whenever it comes, it sees the same. -/
theorem pb_told (i : Nat) (v : Value) (hB : planBB .any lo.toArray Ls Ms Hs = true) (hi : lo[i]? = some o) (hP : planInvB lo.toArray Hs listed = true) (hr : (Region.ready .any lo.toArray listed).contains i = true) (hf : Region.free .any lo.toArray listed i = true) (hin : (Ls ++ Ms).contains i = true) (hK : K w)
 (hw : Region.wanted o (yielded lo.toArray a.tmps) = true) (h : ∀ w, K w → (execOp a.eval o).run P w = .ok (.value v) w) (hk : ∀ Kv : Act → Prop, (∀ a, wpRest P lo.toArray K Pn Ls Ms Hs Tq f (listed.setIfInBounds i true) a w → Kv a) → Kv (a.put o.dst v)) : wpRest P lo.toArray K Pn Ls Ms Hs Tq (f + 1) listed a w := by
 have hH := hk _ fun _ h => h
 simp only [planBB, Bool.and_eq_true, decide_eq_true_eq] at hB
 obtain ⟨⟨⟨⟨⟨⟨hsel, hpart⟩, hdis⟩, hlen⟩, hs⟩, hc⟩, hpl⟩ := hB
 have hhd : ∀ t, (Ls ++ Ms).contains t = false → t < lo.toArray.size → t ∈ Hs := by
  intro t ht hlt
  have h1 := List.all_eq_true.1 hpart t (List.mem_range.2 hlt)
  simp only [ht] at h1
  simpa using h1
 have hHs : ∀ t ∈ Hs, (Ls ++ Ms).contains t = false := by
  intro t ht
  cases hc' : (Ls ++ Ms).contains t
  · rfl
  · have h1 := List.all_eq_true.1 hdis t (by simpa using hc')
    simp [ht] at h1
 simp only [planInvB, Bool.and_eq_true, beq_iff_eq] at hP
 obtain ⟨⟨p1, p2⟩, p3⟩ := hP
 have inv : PlanInv .any lo.toArray (fun t => (Ls ++ Ms).contains t) listed := by
  refine ⟨p1, fun j oj hj hl e he hb => ?_, fun t ht ht' => ?_⟩
  · have hjs := (Array.getElem?_eq_some_iff.1 hj).1
    have := List.all_eq_true.1 p2 j (List.mem_range.2 hjs)
    simp only [hl, hj, Bool.not_true, Bool.false_or] at this
    have := Array.all_eq_true_iff_forall_mem.1 this e he
    simpa [hb] using this
  · have := List.all_eq_true.1 p3 t (hhd t ht ht')
    simpa using this
 have hi' : lo.toArray[i]? = some o := by simpa using hi
 exact wpAnyK_first (v := v) (K := K) (Pn := Pn) (Lq := fun listed' a' w' => seqL .any lo.toArray Hs listed' = true ∧ Tq a' w') (head := Ls ++ Ms) hi' (Region.noSelect_spec hsel) hhd hHs (fun h1 r e => by subst e; exact hs) hc (by simpa using hin) hin (fun _ _ _ hq => seqL_ready hHs hq.1) f listed a w hK inv (Region.free_spec hi' hf) (by simpa using hr)
  (.inl ⟨hw, fun w hw' => by rw [h w hw']; exact ⟨rfl, rfl⟩⟩) hH
theorem eff_append_run {next : Value → World → Prop} {w' : World} {v' : Value} (s x : Operand) (t : TypeId) (ho : o.op = .call { callee := .builtin .append, args := #[s, x], argTypes := #[t, t] }) (v u : Value) (hs : a.eval s = v) (hx : a.eval x = u) (hr : (Builtin.append_ #[t, t] o.type #[v, u]).run P w = .ok v' w') (h : next v' w') : effRes P Pn next ((execOp a.eval o).run P w) := by
 unfold execOp
 simp only [ho, resolve, invoke, builtin, Sem.run_bind, Sem.run_pure, Result.andThen_ok, List.map_toArray, List.map_cons, List.map_nil, hs, hx, hr]
 exact h
end
end Go.Proofs.Ytpbhbmdghafkmaa
namespace Go.Proofs.Ytpbhbmdghafkmaa
open Go Go.ChangeShapes Go.WideShapes Go.ChangeAt Go.RowKit
set_option linter.unusedVariables false
theorem wp_region_sq {P : Program} {id : Nat} {Q : Exit → Act → World → Prop} {a : Act} {W w : World} {B : Nat} {l : List Oper} (rs : List Rs) (hS : SL W B rs w) (hm : P.follows .mixedOrders = true) (hB : Region.lexB .any l.toArray = true)
 (h : ∀ (C : Type) (cw : C → World), Nonempty C → (∀ c, SL W B rs (cw c)) → (∀ w, SL W B rs w → ∃ c, w = cw c) → wpQuiet P l.toArray (fun w => ∃ c, w = cw c) (fun a' => ∀ w', SL W B rs w' → Q .normal a' w') l a) : (Code.region id l.toArray true).wp P Q a w := by
 refine wp_region_quiet (C := SL W B rs) hm hB hS.drew ?_
 have h1 := h (InC (SL W B rs)) InC.w ⟨⟨w.drew, hS.drew⟩⟩ InC.h (fun w hw => ⟨⟨w, hw⟩, rfl⟩)
 have e : (fun w => ∃ c : InC (SL W B rs), w = c.w) = SL W B rs := funext fun w => propext ⟨fun ⟨c, hc⟩ => hc ▸ c.h, fun hw => ⟨⟨w, hw⟩, rfl⟩⟩
 rw [e] at h1
 exact h1
/-- A call that hands back one value and only makes memory, at the class. -/
theorem sq_call {P : Program} {W : World} {B : Nat} {rs : List Rs} {C : Type} {cw : C → World} {f : FuncId} {args : Array Value} {v : Value} {c : C} (hC : SL W B rs (cw c)) (hin : ∀ w, SL W B rs w → ∃ c, w = cw c) (h : Calls P f args (cw c) fun e w' => e = .returned v ∧ Below (cw c).heap.size (cw c) w') :
 Calls P f args (cw c) fun e w' => e = .returned v ∧ ∃ c', w' = cw c' := h.mono fun _ _ h => ⟨h.1, hin _ (hC.call h.2)⟩
end Go.Proofs.Ytpbhbmdghafkmaa
