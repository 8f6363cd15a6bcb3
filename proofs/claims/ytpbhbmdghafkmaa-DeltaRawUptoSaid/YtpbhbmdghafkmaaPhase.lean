/- A drawn region, step by step: looks and calls in turn. No program in sight. -/
import Derived.Test.YtpbhbmdghafkmaaIarr
namespace Go.Proofs.Ytpbhbmdghafkmaa
open Go
set_option linter.unusedVariables false
def planP (ops : Array Oper) (Ns Hs : List Nat) : Bool :=
 Region.noSelect ops && (List.range ops.size).all (fun t => Ns.contains t != Hs.contains t) && Ns.all (fun t => !Hs.contains t) && decide (Ns.length + Hs.length = ops.size) && sinkH .any ops Ns Hs && chainL .any ops Hs
/-- What is left of a region: any order of it will do. C, cw: the worlds at which one may look. -/
def wpPh (P : Program) (lo : List Oper) (K : World → Prop) (Ns Hs : List Nat) (Tq : Act → World → Prop) (C : Type) (cw : C → World) (f : Nat) (listed : Array Bool) (a : Act) (w : World) : Prop :=
 planP lo.toArray Ns Hs = true → (∀ w, K w → ∃ c, w = cw c) → PlanInv .any lo.toArray (fun t => Ns.contains t) listed → K w →
  wpAnyK P .any lo.toArray K (fun _ _ => False) (fun t => Ns.contains t) (fun l' a' w' => seqL .any lo.toArray Hs l' = true ∧ Tq a' w') f listed a w
section
variable {P : Program} {lo : List Oper} {K : World → Prop} {Ns Hs : List Nat} {Tq : Act → World → Prop} {C : Type} {cw : C → World} {f : Nat} {listed : Array Bool} {a : Act} {w : World}
structure PlanPs (ops : Array Oper) (Ns Hs : List Nat) : Prop where
 sel : Region.noSelect ops = true
 hhd : ∀ t, Ns.contains t = false → t < ops.size → t ∈ Hs
 hHs : ∀ t ∈ Hs, Ns.contains t = false
 sink : ∀ h1 r, Hs = h1 :: r → sinkL .any ops h1 Ns = true
 chain : chainL .any ops Hs = true
 len : Ns.length + Hs.length = ops.size
theorem planPs {ops : Array Oper} (h : planP ops Ns Hs = true) : PlanPs ops Ns Hs := by
 simp only [planP, Bool.and_eq_true, decide_eq_true_eq] at h
 obtain ⟨⟨⟨⟨⟨hsel, hpart⟩, hdis⟩, hlen⟩, hs⟩, hc⟩ := h
 refine ⟨hsel, fun t ht hlt => ?_, fun t ht => ?_, fun h1 r e => by subst e; exact hs, hc, hlen⟩
 · have h1 := List.all_eq_true.1 hpart t (List.mem_range.2 hlt)
   simp only [ht] at h1
   simpa using h1
 · cases hc' : Ns.contains t
   · rfl
   · have h1 := List.all_eq_true.1 hdis t (by simpa using hc')
     simp [ht] at h1
theorem ph_end (hs : seqL .any lo.toArray Hs listed = true) (h : Tq a w) : wpPh P lo K Ns Hs Tq C cw 0 listed a w := fun _ _ _ _ => ⟨hs, h⟩
theorem ph_first {i : Nat} {o : Oper} {v : Value} (hi : lo[i]? = some o) (hr : (Region.ready .any lo.toArray listed).contains i = true) (hn : Ns.contains i = true) (hf : Region.free .any lo.toArray listed i = true) (hy : (∀ w, K w → ∃ c, w = cw c) → YieldsK P lo.toArray K o v a)
 (h : wpPh P lo K Ns Hs Tq C cw f (listed.setIfInBounds i true) (a.put o.dst v) w) : wpPh P lo K Ns Hs Tq C cw (f + 1) listed a w := by
 intro hB hC inv hK
 have ps := planPs hB
 have hi' : lo.toArray[i]? = some o := by simpa using hi
 have hr' : i ∈ Region.ready .any lo.toArray listed := by simpa using hr
 refine wpAnyK_first (v := v) (K := K) (Hs := Hs) (head := Ns) hi' (Region.noSelect_spec ps.sel) ps.hhd ps.hHs ps.sink ps.chain (by simpa using hn) hn (fun _ _ _ hq => seqL_ready ps.hHs hq.1) f listed a w hK inv (Region.free_spec hi' hf) hr' (hy hC) ?_
 exact h hB hC (inv.set hr' hn) hK
/-- It looks: by the kit's quiet step. -/
theorem ph_look (i : Nat) {o : Oper} (hi : lo[i]? = some o) (hr : (Region.ready .any lo.toArray listed).contains i = true) (hn : Ns.contains i = true) (hf : Region.free .any lo.toArray listed i = true) (hw : Region.wanted o (yielded lo.toArray a.tmps) = true) (hp : plainOp o.op = true)
 (h : ∀ Kv : Act → Prop, (∀ a, wpPh P lo K Ns Hs Tq C cw f (listed.setIfInBounds i true) a w → Kv a) → o.quiet P a (fun w => ∃ c, w = cw c) Kv) : wpPh P lo K Ns Hs Tq C cw (f + 1) listed a w := by
 obtain ⟨v, h1, h2⟩ := h _ fun _ h => h
 exact ph_first hi hr hn hf (fun hC => .inl ⟨hw, fun w hK => stillRes_of_quiet hp (h1 w (hC w hK))⟩) h2
/-- Nothing else may come next, and it changes memory. -/
theorem ph_eff (i : Nat) {o : Oper} (hi : lo[i]? = some o) (hr : Region.ready .any lo.toArray listed = [i]) (hn : Ns.contains i = true) (hw : Region.wanted o (yielded lo.toArray a.tmps) = true)
 (h : ∀ Kv : Act → World → Prop, (∀ a w, wpPh P lo K Ns Hs Tq C cw f (listed.setIfInBounds i true) a w → Kv a w) → effRes P (fun _ _ => False) (fun v w' => K w' ∧ Kv (a.put o.dst v) w') ((execOp a.eval o).run P w)) : wpPh P lo K Ns Hs Tq C cw (f + 1) listed a w := by
 intro hB hC inv hK
 refine ⟨by rw [hr]; simp, fun k hk => ?_⟩
 have hk0 := hk
 rw [hr] at hk
 have : k = i := by simpa using hk
 subst this
 refine ⟨hn, ?_⟩
 have h1 := h _ fun _ _ h => h
 have h2 : kOp P lo.toArray K (fun _ _ => False) k (fun a w => wpPh P lo K Ns Hs Tq C cw f (listed.setIfInBounds k true) a w) a w := by
  unfold kOp
  simp only [show lo.toArray[k]? = some o by simpa using hi]
  rw [if_pos hw]
  exact .inr h1
 exact kOp_mono hK (fun a' w' hK' h' => h' hB hC (inv.set hk0 hn) hK') h2
/-- One of two may come next. -/
theorem ph_two (i j : Nat) (hr : Region.ready .any lo.toArray listed = [i, j]) (hi : Ns.contains i = true) (hj : Ns.contains j = true)
 (h1 : kOp P lo.toArray K (fun _ _ => False) i (wpPh P lo K Ns Hs Tq C cw f (listed.setIfInBounds i true)) a w) (h2 : kOp P lo.toArray K (fun _ _ => False) j (wpPh P lo K Ns Hs Tq C cw f (listed.setIfInBounds j true)) a w) : wpPh P lo K Ns Hs Tq C cw (f + 1) listed a w := by
 intro hB hC inv hK
 refine ⟨by rw [hr]; simp, fun k hk => ?_⟩
 have hk0 := hk
 rw [hr] at hk
 rcases List.mem_cons.1 hk with rfl | hk
 · exact ⟨hi, kOp_mono hK (fun a' w' hK' h' => h' hB hC (inv.set hk0 hi) hK') h1⟩
 · have : k = j := by simpa using hk
   subst this
   exact ⟨hj, kOp_mono hK (fun a' w' hK' h' => h' hB hC (inv.set hk0 hj) hK') h2⟩
/-- For ph_two: one of them, as a step. -/
theorem ph_op {i : Nat} {o : Oper} {Kont : Act → World → Prop} (hi : lo[i]? = some o) (hw : Region.wanted o (yielded lo.toArray a.tmps) = true) (h : ∀ Kv : Act → World → Prop, (∀ a w, Kont a w → Kv a w) → effRes P (fun _ _ => False) (fun v w' => K w' ∧ Kv (a.put o.dst v) w') ((execOp a.eval o).run P w)) : kOp P lo.toArray K (fun _ _ => False) i Kont a w := by
 unfold kOp
 simp only [show lo.toArray[i]? = some o by simpa using hi]
 rw [if_pos hw]
 exact .inr (h _ fun _ _ h => h)
end
/-- A region that draws its order, step by step: rs: some of what is owned, which stays as it is all along; cw c: any world at which that is so. -/
theorem wp_region_ph {P : Program} {id : Nat} {Q : Exit → Act → World → Prop} {a : Act} {W w : World} {B : Nat} {rf : List Rs} {l : List Oper} (Ns Hs : List Nat) (rs : List Rs) (hS : SL W B rf w) (hsub : rs.Sublist rf) (hm : P.follows .mixedOrders = true) (hB : planP l.toArray Ns Hs = true) {os : List Oper} (hos : Picks l Hs os)
 (h : ∀ (C : Type) (cw : C → World), Nonempty C → (∀ c, SL W B rs (cw c)) → ∀ w1, SL W B rf w1 → wpPh P l (SL W B rs) Ns Hs (fun a'' w'' => wpList P l.toArray Q os a'' w'') C cw Ns.length (Array.replicate l.length false) a w1) : (Code.region id l.toArray true).wp P Q a w := by
 have ps := planPs hB
 refine wp_region_any hm ?_
 have inv0 : PlanInv .any l.toArray (fun t => Ns.contains t) (Array.replicate l.length false) :=
  ⟨by simp, fun j oj _ hl => (by rw [getD_replicate_false] at hl; cases hl), fun t _ ht => getD_in (by simpa using ht) (getD_replicate_false _ _)⟩
 have H := h (InC (SL W B rs)) InC.w ⟨⟨w.drew, hS.drew.sub hsub⟩⟩ InC.h w.drew hS.drew hB (fun w hw => ⟨⟨w, hw⟩, rfl⟩) inv0 (hS.drew.sub hsub)
 have := wpAny_of_planK (Q' := Q) (g := Hs.length) (ds := a.defers) (fun _ _ _ _ h => h.elim) (fun listed a' w' hq => wpAny_of_seqL (md := .any) (Q' := Q) Hs os listed a' w' (by simpa using hos) hq.1 hq.2) _ _ _ _ rfl (hS.drew.sub hsub) H
 rw [ps.len] at this
 simpa using this
end Go.Proofs.Ytpbhbmdghafkmaa
