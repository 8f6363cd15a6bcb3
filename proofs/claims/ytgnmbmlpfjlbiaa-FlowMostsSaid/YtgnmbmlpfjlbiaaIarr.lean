/- Rows of numbers in memory, told by a function. No program in sight. -/
import Derived.Test.YtgnmbmlpfjlbiaaPlanB
namespace Go.Proofs.Ytgnmbmlpfjlbiaa
open Go.ChangeShapes Go.WideShapes Go.ChangeAt Go.RowKit
set_option linter.unusedVariables false
def iarr (f : Nat → Int) (n : Nat) : Array Value := Array.ofFn (n := n) fun i => Value.int .i64 (f i.val)
theorem iarr_size (f : Nat → Int) (n : Nat) : (iarr f n).size = n := by simp [iarr]
theorem iarr_get (f : Nat → Int) (n i : Nat) (h : i < n) : (iarr f n)[i]? = some (Value.int .i64 (f i)) := by simp [iarr, h]
theorem iarr_ext {f g : Nat → Int} {n : Nat} (h : ∀ i, i < n → f i = g i) : iarr f n = iarr g n := by
  unfold iarr; congr 1; funext i; rw [h i.val i.isLt]
theorem iarr_set (f : Nat → Int) (n k : Nat) (b : Int) : (iarr f n).setIfInBounds k (.int .i64 b) = iarr (fun i => if i = k then b else f i) n := by
  apply Array.ext_getElem?
  intro i
  by_cases hi : i < n
  · rw [Array.getElem?_setIfInBounds, iarr_get _ _ _ hi, iarr_get _ _ _ hi, iarr_size]
    by_cases hk : k = i
    · subst hk; simp [hi]
    · rw [if_neg hk, if_neg (Ne.symm hk)]
  · rw [Array.getElem?_eq_none (by simp [iarr_size]; omega), Array.getElem?_eq_none (by simp [iarr_size]; omega)]
theorem iarr_made (n : Nat) : madeCells #[Value.int .i64 0] n = iarr (fun _ => 0) n := by
  apply Array.ext
  · rw [size_madeCells, iarr_size]
  · intro i h1 h2; simp [madeCells, iarr, Nat.mod_one]
theorem barr_made (n : Nat) : madeCells #[Value.bool false] n = barr (fun _ => false) n := by
  apply Array.ext
  · rw [size_madeCells, barr_size]
  · intro i h1 h2; simp [madeCells, barr, Nat.mod_one]
/-- A row of numbers, as a list. -/
theorem iarr_list (f : Nat → Int) (n : Nat) : (iarr f n).toList = ((List.range n).map f).map (.int .i64) := by
  apply List.ext_getElem?
  intro i
  rw [Array.getElem?_toList]
  by_cases hi : i < n
  · rw [iarr_get _ _ _ hi]; simp [hi]
  · rw [Array.getElem?_eq_none (by simp [iarr_size]; omega), List.getElem?_eq_none (by simp; omega)]
theorem SL.setInt {W w : World} {B : Nat} {l : List Rs} (h : SL W B l w) (i : Nat) {g n : Nat} {f : Nat → Int} {t : TypeId} (hi : l[i]? = some (.blk g (iarr f n) t)) (k : Nat) (b : Int) : SL W B (l.set i (.blk g (iarr (fun j => if j = k then b else f j) n) t)) (w.setCell ⟨g, k, none⟩ (.int .i64 b)) := by
  rw [← iarr_set]; exact h.setCell i hi k _
theorem reads_iarr {w : World} {g n : Nat} {y : Nat → Int} {t : TypeId} (h : w.heap[g]? = some (.cells (iarr y n) t (0, 0))) : Reads w w.heap.size 1 (some ⟨g, 0, none⟩) ((List.range n).map y).length (((List.range n).map y).map (.int .i64)) := by
  refine ⟨by simp, fun hn => ⟨_, rfl, (Array.getElem?_eq_some_iff.1 h).1, fun j u hu => ?_⟩⟩
  rw [Addr.add_mid, Nat.zero_add, cell_of_row _ _ _ _ _ _ h]
  rw [← iarr_list] at hu
  simpa using hu
theorem SL.join {W w w' : World} {B : Nat} {l l2 : List Rs} (h : SL W B l w) (h2 : SL w w.heap.size l2 w') : SL W B (l2 ++ l) w' := by
  have h' := h.call h2.below
  refine ⟨h'.below, h'.size, ?_, ?_, ?_⟩
  · intro s hs
    rcases List.mem_append.1 hs with hs | hs
    · exact h2.holds s hs
    · exact h'.holds s hs
  · intro s hs g hg
    rcases List.mem_append.1 hs with hs | hs
    · exact ⟨Nat.le_trans h.size (h2.block s hs g hg).1, (h2.block s hs g hg).2⟩
    · exact h'.block s hs g hg
  · refine List.pairwise_append.2 ⟨h2.apart, h'.apart, fun a ha b hb g hg hbg => ?_⟩
    have := (h2.block a ha g hg).1
    have := (h.block b hb g hbg).2
    omega
/-- Results: an aggregate out of memory, and a value. -/
theorem retArr2 {fn : Func} {R : Ending → World → Prop} {P : Program} {p q : Tmp} {ty : TypeId} (h : fn.results = #[.cell p ty, .tmp q]) (tmps : Array Value) (w : World) (g : Nat) (t : TypeId) (cs : Array Value) (d : TypeDesc) (v : Value)
    (hp : tmps.getD p undef = .pointer (some ⟨g, 0, none⟩)) (hq : tmps.getD q undef = v) (hg : w.heap[g]? = some (.cells cs t (0,0)))
    (hu : P.underlying ty = some d) (hd : (match d with | .struct _ | .array _ _ => true | _ => false) = true) (hi : (P.info? ty).map (·.size) = some cs.size)
    (hR : R (.returned (.tuple #[.agg cs, v])) w) : bodyPost P fn R .ret ⟨tmps, []⟩ w :=
  bodyPost_ret (v := .tuple #[.agg cs, v]) (by
    have hp' : tmps[p]?.getD undef = .pointer (some ⟨g, 0, none⟩) := by simpa using hp
    have hq' : tmps[q]?.getD undef = v := by simpa using hq
    simp [results, h, hp', hq', asAddr, run_loadVar_row w g t ty cs (0, 0) d hg hu hd hi]) rfl hR
/-- It changes memory; its guard lets it. -/
theorem pm_effg {P : Program} {lo : List Oper} {K : World → Prop} {Pn : List PanicEntry → World → Prop} {Lm : Act → World → Prop} {a : Act} {w : World} {i : Nat} {rest : List Nat} {o : Oper} (hi : lo[i]? = some o) (hw : Region.wanted o (yielded lo.toArray a.tmps) = true) (h : ∀ Kv : Act → World → Prop, (∀ a w, wpPlanM P lo.toArray K Pn Lm rest a w → Kv a w) → effRes P Pn (fun v w' => K w' ∧ Kv (a.put o.dst v) w') ((execOp a.eval o).run P w)) : wpPlanM P lo.toArray K Pn Lm (i :: rest) a w := by
  unfold wpPlanM kOp
  simp only [show lo.toArray[i]? = some o by simpa using hi]
  rw [if_pos hw]
  exact .inr (h _ fun _ _ h => h)
/-- Three may come next. -/
theorem pb_three {P : Program} {lo : List Oper} {K : World → Prop} {Pn : List PanicEntry → World → Prop} {Ls Ms Hs : List Nat} {Tq : Act → World → Prop} {f : Nat} {listed : Array Bool} {a : Act} {w : World} (i j m : Nat) (hr : Region.ready .any lo.toArray listed = [i, j, m]) (hi : (Ls ++ Ms).contains i = true) (hj : (Ls ++ Ms).contains j = true) (hm : (Ls ++ Ms).contains m = true)
    (h1 : kOp P lo.toArray K Pn i (wpRest P lo.toArray K Pn Ls Ms Hs Tq f (listed.setIfInBounds i true)) a w) (h2 : kOp P lo.toArray K Pn j (wpRest P lo.toArray K Pn Ls Ms Hs Tq f (listed.setIfInBounds j true)) a w) (h3 : kOp P lo.toArray K Pn m (wpRest P lo.toArray K Pn Ls Ms Hs Tq f (listed.setIfInBounds m true)) a w) : wpRest P lo.toArray K Pn Ls Ms Hs Tq (f + 1) listed a w := by
  refine ⟨by rw [hr]; simp, fun k hk => ?_⟩
  rw [hr] at hk
  rcases List.mem_cons.1 hk with rfl | hk
  · exact ⟨hi, h1⟩
  · rcases List.mem_cons.1 hk with rfl | hk
    · exact ⟨hj, h2⟩
    · have : k = m := by simpa using hk
      subst this
      exact ⟨hm, h3⟩
/-- A number out of a row that is read. -/
theorem ints_at {w : World} {B : Nat} {A : Option Addr} {l : List Int} (h : Reads w B 1 A l.length (l.map (.int .i64))) {k : Nat} (hk : k < l.length) : ∃ b o, A = some ⟨b, o, none⟩ ∧ b < B ∧ w.cell? ⟨b, o + k, none⟩ = some (.int .i64 l[k]) := by
  obtain ⟨b, o, e, hb, hc⟩ := reads_plain h (by omega) Nat.one_pos
  exact ⟨b, o, e, hb, hc k _ (by simp [hk])⟩
end Go.Proofs.Ytgnmbmlpfjlbiaa
