/- slices.Concat of two lists of numbers. (printed by gen/concat.py) -/
import Derived.Test.YtpbhbmdghafkmaaRowRun
import Derived.Test.YtpbhbmdghafkmaaRows
import Derived.LoopN
import Derived.Shelf.Spec.SlicesGrow
import Derived.Shelf.SlGeneric
import Derived.Ground.Names8Prog
import Derived.Deep.CutBlock
import Derived.Deep.CutRange
import Derived.Deep.DeepCutAuto
namespace Go.Proofs.Ytpbhbmdghafkmaa
open Go.ChangeShapes Go.WideShapes Go.ChangeAt Go.RowKit Go.Shelf
set_option linter.unusedVariables false
def Try.growL_ren : Go.Shelf.Ren := ⟨fun | 4 => 78 | n => n, fun | 22 => 42 | 25 => 3 | 3 => 3 | 4 => 4 | 9 => 9 | 20 => 20 | 0 => 0 | n => n, fun | n => n⟩
theorem Try.growL : Go.Proofs.Lays8.n4 Try.prog Try.growL_ren := {
 mixed := by kernel_rfl
 f4 := ⟨Try.f78.name, by decide, Try.func78.trans (congrArg some (by kernel_rfl))⟩
 t0 := Try.underlying0
 a0 := Try.isAgg0
 z0 := Try.sizeOf0
 v0 := Try.zeroValue0
 t3 := Try.underlying3
 a3 := Try.isAgg3
 z3 := Try.sizeOf3
 v3 := Try.zeroValue3
 t4 := Try.underlying4
 a4 := Try.isAgg4
 z4 := Try.sizeOf4
 v4 := Try.zeroValue4
 t9 := Try.underlying9
 a9 := Try.isAgg9
 z9 := Try.sizeOf9
 v9 := Try.zeroValue9
 t20 := Try.underlying20
 a20 := Try.isAgg20
 z20 := Try.sizeOf20
 v20 := Try.zeroValue20
 t22 := Try.underlying42
 a22 := Try.isAgg42
 z22 := Try.sizeOf42
 v22 := Try.zeroValue42 }
theorem info_intG : (Try.prog.info? 3).map (fun i => (i.zero, i.size, i.bytes)) = some (some (.int .i64 0), 1, 8) := by kernel_rfl
/-- slices.Grow(nil, n): a row of no elements of the call's own. -/
theorem grow_nil (n : Nat) (w : World) (hn : n ≤ 1000000000) :
 Calls Try.prog 78 #[.slice none 0 0, .int .i64 (n : Int)] w fun e w' => ∃ v, e = .returned v ∧ SL w w.heap.size [.row 3 1 v 0 []] w' := by
 obtain ⟨i0, hi0, hz0, hz1, hz2⟩ := info_parts info_intG
 by_cases h0 : n = 0
 · subst h0
   have h := Any8.slices_Grow_room Try.growL none 0 0 0 w (Nat.le_refl _) (by omega) (by omega) (by omega)
   change Calls Try.prog 78 _ _ _ at h
   refine h.mono ?_
   rintro e w' ⟨rfl, rfl⟩
   exact ⟨_, rfl, (SL.start (Nat.le_refl _)).nil 3 1⟩
 · have h := Any8.slices_Grow_grow Try.growL i0 (.int .i64 0) hi0 hz0 (by omega) none 0 0 n [] w (Nat.le_refl _) (by omega) (by rw [hz2]; omega) (by omega) (by simp) (fun _ => rfl) (fun a ha => by cases ha)
   change Calls Try.prog 78 _ _ _ at h
   refine h.mono ?_
   rintro e w' ⟨rfl, rfl⟩
   refine ⟨_, rfl, ?_⟩
   have hge := grownCap_ge w (0 + n) 0 3
   have hle := grownCap_le_maxLen w (0 + n) 0 3 (by unfold maxLen; omega)
   refine SL.more (SL.start (Nat.le_refl w.heap.size)) (((Below.refl _ w).drew).alloc (Nat.le_refl _) _) _ ?_ (fun g hg => ?_)
   · refine ⟨by simp, .inr ⟨w.heap.size, 0, _, _, rfl, Nat.zero_le _, heap_alloc_new w.drew _, Nat.zero_le _, hle, ?_, by simp⟩⟩
     simp only [Array.size_append, size_zeroCells, Value.cells]
     simp
     omega
   · simp only [Rs.block, Value.ownBlock, Option.some.injEq] at hg
     subst hg
     exact ⟨Nat.le_refl _, by simp⟩
set_option maxRecDepth 100000 in
set_option maxHeartbeats 2000000 in
theorem concat_two (gb : Nat) (A1 A2 : Option Addr) (c1 c2 : Nat) (xs ys : List Int) (w : World) (hb : w.heap[gb]? = some (.cells #[.slice A1 xs.length c1, .slice A2 ys.length c2] 42 (0, 0))) (h1 : Reads w w.heap.size 1 A1 xs.length (xs.map (.int .i64))) (h2 : Reads w w.heap.size 1 A2 ys.length (ys.map (.int .i64))) (hl : xs.length + ys.length ≤ 100000000) :
 Calls Try.prog 59 #[.slice (some ⟨gb, 0, none⟩) 2 2] w fun e w' => ∃ v, e = .returned v ∧ SL w w.heap.size [.row 3 1 v (xs.length + ys.length) ((xs ++ ys).map (.int .i64))] w' := by
 obtain ⟨i0, hi0, hz0, hz1, hz2⟩ := info_parts info_intG
 have HII := Lib.hid (And.intro hi0 (And.intro hz0 (And.intro hz1 hz2)))
 have hgl : gb < w.heap.size := by
  rcases Nat.lt_or_ge gb w.heap.size with h | h
  · exact h
  · rw [Array.getElem?_eq_none h] at hb; cases hb
 have y0 : w.cell? ⟨gb, 0, none⟩ = some (.slice A1 xs.length c1) := by rw [cell_of_row _ _ _ _ _ _ hb]; rfl
 have y1 : w.cell? ⟨gb, 1, none⟩ = some (.slice A2 ys.length c2) := by rw [cell_of_row _ _ _ _ _ _ hb]; rfl
 have H1 := Lib.hid h1
 have H2 := Lib.hid h2
 have HG := Lib.hid (grow_nil (xs.length + ys.length) w (by omega))
 have hpc : ((xs.length + ys.length : Nat) : Int) = (xs.length : Int) + (ys.length : Int) := by omega
 rw [hpc] at HG
 clear h1 h2 hb hpc hi0 hz0 hz1 hz2
 go_enter Try.func59, Try.ntmps59
 go_upto_region 3 with fail
 refine wp_loop_rounds 3 ?_
 rw [rounds_succ]
 go_wp2_with fail
 rw [rounds_succ]
 go_wp2_with fail
 rw [rounds_succ]
 go_wp2_with (go_at_call 78; (with_reducible refine HG.out.mono ?_); rintro e w2 ⟨v, rfl, hS⟩
              have HS := Lib.hid hS
              clear hS)
 obtain ⟨v1, w3, hr1, hS3⟩ := run_append_reads (P := Try.prog) 42 42 HS.out 0 i0 (.int .i64 0) 1 8 Try.underlying42 HII.out.1 HII.out.2.1 HII.out.2.2.1 HII.out.2.2.2 rfl (by decide) _ 0 xs.length c1 [] (xs.map (.int .i64)) rfl A1 (Reads.below H1.out HS.out.below) (ints_one xs .i64) (by omega) (by decide)
 simp only [Nat.zero_add, List.nil_append, List.set_cons_zero] at hr1 hS3
 obtain ⟨v2, w4, hr2, hS4⟩ := run_append_reads (P := Try.prog) 42 42 hS3 0 i0 (.int .i64 0) 1 8 Try.underlying42 HII.out.1 HII.out.2.1 HII.out.2.2.1 HII.out.2.2.2 rfl (by decide) v1 xs.length ys.length c2 _ (ys.map (.int .i64)) rfl A2 (Reads.below H2.out hS3.below) (ints_one ys .i64) (by omega) (by decide)
 have z0 := (HS.out.below.cell (p := ⟨gb, 0, none⟩) hgl).trans y0
 have z1 := (hS3.below.cell (p := ⟨gb, 1, none⟩) hgl).trans y1
 obtain ⟨Av, cv, rfl, _, _⟩ := (HS.out.row 0 rfl).slice_
 obtain ⟨Av1, cv1, rfl, _, _⟩ := (hS3.row 0 rfl).slice_
 obtain ⟨Av2, cv2, rfl, _, _⟩ := (hS4.row 0 rfl).slice_
 have HR1 := Lib.hid hr1
 have HR2 := Lib.hid hr2
 have HS4 := Lib.hid hS4
 clear hr1 hr2 hS3 hS4 y0 y1 HS H1 H2 HG HII
 refine wp_loop_rounds 3 ?_
 rw [rounds_succ]
 go_wp2_with (at_builtin; refine wpList_append_run rfl _ _ 42 rfl _ _ rfl rfl HR1.out ?_)
 rw [rounds_succ]
 go_wp2_with (at_builtin; refine wpList_append_run rfl _ _ 42 rfl _ _ rfl rfl HR2.out ?_)
 rw [rounds_succ]
 go_wp2_with fail
 go_ret
 refine ⟨_, rfl, ?_⟩
 have h := HS4.out
 simp only [List.set_cons_zero, List.nil_append, Nat.zero_add] at h
 rw [List.map_append]
 exact h
end Go.Proofs.Ytpbhbmdghafkmaa
