/- The walk of (pile.row).Swap. -/
import Derived.Test.YtjpejclfppbboaaPileA
import Derived.Test.YtjpejclfppbboaaIarr
import Derived.Deep.MidRow
import Derived.Deep.LoopGhost
import Derived.Deep.CutRange
import Derived.Deep.DeepCutAuto
import Derived.WalkSpells
import Derived.Outline
namespace Go.Proofs.Ytjpejclfppbboaa
open Go.ChangeShapes Go.WideShapes Go.ChangeAt Go.RowKit
set_option linter.unusedVariables false
theorem set_self' {α : Type} {l : List α} {i : Nat} {a : α} (h : l[i]? = some a) : l.set i a = l := by
 apply List.ext_getElem?
 intro j
 rw [List.getElem?_set]
 by_cases e : i = j
 · subst e; rw [if_pos rfl, if_pos (List.getElem?_eq_some_iff.1 h).1, h]
 · rw [if_neg e]
theorem SL.thereItem {W w : World} {B : Nat} {l : List Rs} (h : SL W B l w) (i : Nat) {e : TypeId} {n c g off : Nat} {f : Nat → ItemV} (hi : l[i]? = some (.row e 2 (.slice (some ⟨g, off, none⟩) n c) n (itemCells f n))) {k : Nat} (hk : k < n) : w.there g (off + k * 2) 2 := by
 intro j hj
 obtain ⟨g0, g1⟩ := itemCells_get f hk
 have h0 := h.rowCell i hi _ g0
 have h1 := h.rowCell i hi _ g1
 have hf := fun k => h.rowFree i hi k (by omega)
 rcases (show j = 0 ∨ j = 1 by omega) with e | e
 · subst e; exact ⟨by rw [Nat.add_zero, h0]; rfl, hf _⟩
 · subst e; exact ⟨by rw [Nat.add_assoc, h1]; rfl, hf _⟩
theorem SL.setItem {W w : World} {B : Nat} {l : List Rs} (h : SL W B l w) (i : Nat) {e : TypeId} {n c g off : Nat} {f : Nat → ItemV} (hi : l[i]? = some (.row e 2 (.slice (some ⟨g, off, none⟩) n c) n (itemCells f n))) {k : Nat} (hk : k < n) (x : ItemV) : SL W B (l.set i (.row e 2 (.slice (some ⟨g, off, none⟩) n c) n (itemCells (upd f k x) n))) (w.setCells g (off + k * 2) x.cells) := by
 have h1 := h.setRowCell i hi (k * 2) (by omega) (.int .i64 x.key)
 have h2 := h1.setRowCell i (by rw [List.getElem?_set_self (List.getElem?_eq_some_iff.1 hi).1]) (k * 2 + 1) (by omega) (.int .i64 x.id)
 rw [List.set_set, itemCells_upd f x hk, ← Nat.add_assoc] at h2
 exact h2
theorem eff_store_item {P : Program} {Pn : List PanicEntry → World → Prop} {o : Oper} {a : Act} {w : World} {next : Value → World → Prop} (ty : TypeId) (x y : Operand) (ho : o.op = .store ty x y) (g off : Nat) (v : ItemV) (hx : a.eval x = .pointer (some ⟨g, off, none⟩)) (hy : a.eval y = .agg v.cells.toArray)
 (ht : w.there g off 2) (hi : (P.info? ty).map (·.size) = some 2) (h : next undef (w.setCells g off v.cells)) : effRes P Pn next ((execOp a.eval o).run P w) := by
 unfold execOp
 simp only [ho, hx, hy, Instr.storeAt, Instr.sureAddr, Sem.run_bind, Sem.run_pure, Result.andThen_ok, run_storeVar_mid w g off ty v.cells.toArray ht hi (by simp [ItemV.cells, Value.oneCell'])]
 exact h
theorem wpList_store_item {P : Program} {ops : Array Oper} {rest : List Oper} {op : Oper} {a : Act} {w : World} {Q : Exit → Act → World → Prop} (hgd : op.guard = none) (ty : TypeId) (x y : Operand) (ho : op.op = .store ty x y)
 (g off : Nat) (v : ItemV) (hx : a.eval x = .pointer (some ⟨g, off, none⟩)) (hy : a.eval y = .agg v.cells.toArray) (ht : w.there g off 2) (hi : (P.info? ty).map (·.size) = some 2)
 (h : wpList P ops Q rest (a.put op.dst undef) (w.setCells g off v.cells)) : wpList P ops Q (op :: rest) a w :=
 wpList_store_mid hgd ty x y ho g off v.cells.toArray hx hy ht hi (by simp [ItemV.cells, Value.oneCell']) h
set_option maxRecDepth 100000 in
set_option maxHeartbeats 4000000 in
theorem swap_any (W : World) (B : Nat) (rs : List Rs) (w : World) (it n c : Nat) (A : Option Addr) (f : Nat → ItemV) (i j : Nat) (hS : SL W B rs w) (hi0 : rs[it]? = some (.row 148 2 (.slice A n c) n (itemCells f n))) (hn : n ≤ 1000000) (hi : i < n) (hj : j < n) :
 Calls Try.prog 126 #[.slice A n c, .int .i64 i, .int .i64 j] w fun e w' => e = .returned (.tuple #[]) ∧ SL W B (rs.set it (.row 148 2 (.slice A n c) n (itemCells (swapF f i j) n))) w' := by
 obtain ⟨g, off, hA⟩ : ∃ g off, A = some ⟨g, off, none⟩ := by
  rcases (hS.row it hi0).in_ with h0 | ⟨g, o, c, e, _⟩
  · omega
  · injection e with e; exact ⟨g, o, e⟩
 subst hA
 have hil := (List.getElem?_eq_some_iff.1 hi0).1
 have hS : SL W B (rs.set it (.row 148 2 (.slice (some ⟨g, off, none⟩) n c) n (itemCells f n))) w := by
  rw [set_self' hi0]; exact hS
 have HI : Hid (∀ ff, (rs.set it (.row 148 2 (.slice (some ⟨g, off, none⟩) n c) n (itemCells ff n)))[it]? = some (.row 148 2 (.slice (some ⟨g, off, none⟩) n c) n (itemCells ff n))) := Lib.hid (fun ff => List.getElem?_set_self hil)
 have HII : Hid (∀ x y, (rs.set it x).set it y = rs.set it y) := Lib.hid (fun x y => List.set_set _)
 obtain ⟨x, hx⟩ : ∃ x, f i = x := ⟨_, rfl⟩
 obtain ⟨y, hy⟩ : ∃ y, f j = y := ⟨_, rfl⟩
 have HXY : Hid (swapF f i j = upd (upd f i y) j x) := Lib.hid (by rw [← hx, ← hy]; rfl)
 have HX := Lib.hid (And.intro hx hy)
 have hi1 : (i : Int) < (n : Int) := by omega
 have hj1 : (j : Int) < (n : Int) := by omega
 clear hi0 hil hx hy
 go_enter Try.func126, Try.ntmps126
 go_upto_region 0 with fail
 refine wp_region_slb [0,1,2,3,4,5,6,8,9,10] [7,11,12,13] [14,15] [] hS (List.nil_sublist _) (by kernel_rfl) (by kernel_rfl) (.cons rfl (.cons rfl .nil)) (fun C cw _ hC => ?_)
 repeat (refine pl_look rfl rfl rfl (fun Kv hK => ?_); go_big_quiet_op; refine hK _ ?_; clear hK Kv)
 clear hC
 refine pl_end ?_
 intro w1 hT
 have q0 : w1.cell? ⟨g, off + i * 2, none⟩ = some (.int .i64 x.key) := by rw [← HX.out.1]; exact hT.rowCell it (HI.out _) _ (itemCells_get f hi).1
 have q1 : w1.cell? ⟨g, off + i * 2 + 1, none⟩ = some (.int .i64 x.id) := by rw [← HX.out.1, Nat.add_assoc]; exact hT.rowCell it (HI.out _) _ (itemCells_get f hi).2
 have q2 : w1.cell? ⟨g, off + j * 2, none⟩ = some (.int .i64 y.key) := by rw [← HX.out.2]; exact hT.rowCell it (HI.out _) _ (itemCells_get f hj).1
 have q3 : w1.cell? ⟨g, off + j * 2 + 1, none⟩ = some (.int .i64 y.id) := by rw [← HX.out.2, Nat.add_assoc]; exact hT.rowCell it (HI.out _) _ (itemCells_get f hj).2
 have HK := Lib.hid (SL.sub hT (List.nil_sublist _))
 have HT0 := Lib.hid (hT.thereItem it (HI.out _) hi)
 have hT1 := hT.setItem it (HI.out _) hi y
 rw [HII.out] at hT1
 have HT1 := Lib.hid hT1
 clear hS hT hT1
 refine pb_two 7 11 (by kernel_rfl) (by kernel_rfl) (by kernel_rfl) ?_ ?_
 · skip
   refine kOp_eff rfl rfl fun Kv hK => ?_
   go_simp
   refine ⟨HK.out, hK _ _ ?_⟩
   clear hK Kv
   refine pb_one 11 (by kernel_rfl) (by kernel_rfl) ?_
   refine kOp_eff rfl rfl fun Kv hK => ?_
   go_simp
   refine ⟨HK.out, hK _ _ ?_⟩
   clear hK Kv
   refine pb_one 12 (by kernel_rfl) (by kernel_rfl) ?_
   refine kOp_eff rfl rfl fun Kv hK => ?_
   go_simp
   refine ⟨HK.out, hK _ _ ?_⟩
   clear hK Kv
   refine pb_one 13 (by kernel_rfl) (by kernel_rfl) ?_
   refine kOp_eff rfl rfl fun Kv hK => ?_
   refine eff_store_item 148 _ _ rfl g (off + i * 2) y rfl rfl HT0.out (by kernel_rfl) ?_
   refine ⟨SL.sub HT1.out (List.nil_sublist _), hK _ _ ?_⟩
   clear hK Kv
   refine pb_end (by kernel_rfl) ?_
   clear q0 q1 q2 q3 HK HT0
   generalize (w1.setCells g (off + i * 2) y.cells) = w2 at *
   go_wp2_with (refine wpList_store_item rfl 148 _ _ rfl g (off + j * 2) x rfl rfl (HT1.out.thereItem it (HI.out _) hj) (by kernel_rfl) ?_)
   refine bodyPost_end (results_none rfl _ _ _) rfl ⟨rfl, ?_⟩
   have h := HT1.out.setItem it (HI.out _) hj x
   rw [HII.out, ← HXY.out] at h
   exact h
 · skip
   refine kOp_eff rfl rfl fun Kv hK => ?_
   go_simp
   refine ⟨HK.out, hK _ _ ?_⟩
   clear hK Kv
   refine pb_one 7 (by kernel_rfl) (by kernel_rfl) ?_
   refine kOp_eff rfl rfl fun Kv hK => ?_
   go_simp
   refine ⟨HK.out, hK _ _ ?_⟩
   clear hK Kv
   refine pb_one 12 (by kernel_rfl) (by kernel_rfl) ?_
   refine kOp_eff rfl rfl fun Kv hK => ?_
   go_simp
   refine ⟨HK.out, hK _ _ ?_⟩
   clear hK Kv
   refine pb_one 13 (by kernel_rfl) (by kernel_rfl) ?_
   refine kOp_eff rfl rfl fun Kv hK => ?_
   refine eff_store_item 148 _ _ rfl g (off + i * 2) y rfl rfl HT0.out (by kernel_rfl) ?_
   refine ⟨SL.sub HT1.out (List.nil_sublist _), hK _ _ ?_⟩
   clear hK Kv
   refine pb_end (by kernel_rfl) ?_
   clear q0 q1 q2 q3 HK HT0
   generalize (w1.setCells g (off + i * 2) y.cells) = w2 at *
   go_wp2_with (refine wpList_store_item rfl 148 _ _ rfl g (off + j * 2) x rfl rfl (HT1.out.thereItem it (HI.out _) hj) (by kernel_rfl) ?_)
   refine bodyPost_end (results_none rfl _ _ _) rfl ⟨rfl, ?_⟩
   have h := HT1.out.setItem it (HI.out _) hj x
   rw [HII.out, ← HXY.out] at h
   exact h
end Go.Proofs.Ytjpejclfppbboaa
