/- The walk of least.run.look. -/
import Derived.Test.YtgnmbmlpfjlbiaaNearer
import Derived.Test.YtgnmbmlpfjlbiaaScan
import Derived.Test.YtgnmbmlpfjlbiaaRepeat
import Derived.Test.YtgnmbmlpfjlbiaaPlanC
import Derived.Deep.LoopGhost
import Derived.Deep.CutRange
import Derived.Deep.CutBlock
import Derived.Deep.DeepCutAuto
import Derived.WalkSpells
import Derived.Outline
namespace Go.Proofs.Ytgnmbmlpfjlbiaa
open Go.ChangeShapes Go.WideShapes Go.ChangeAt Go.RowKit
set_option linter.unusedVariables false
theorem lstep_info : (Try.prog.info? 92).map (fun i => (i.zero, i.size, i.bytes)) = some (some (.agg #[.int .i64 0, .bool false]), 2, 16) := by kernel_rfl
theorem make_lsteps (N : Nat) (hN : N ≤ 1000) (w : World) : (Instr.makeSlice 71 (.int .i64 (N : Int)) (.int .i64 (N : Int))).run Try.prog w = .ok (.slice (some ⟨w.heap.size, 0, none⟩) N N) (w.alloc (.cells (sarr (fun _ => (0, false)) N) 92)) := by
  obtain ⟨i, h1, h2, h3, h4⟩ := info_parts lstep_info
  have := run_make (P := Try.prog) w 71 92 i _ Try.underlying71 h1 h2 .i64 .i64 N N (by omega) (by omega) (by rw [h4]; omega) (by omega)
  rw [this, h3]
  simp only [Int.toNat_natCast, Value.cells]
  rw [sarr_made]
section
variable {W w : World} {B rb fb hb gf gb N L cap pb n : Nat} {A : Option Addr} {cst : Int} {x h far : Nat → Int} {by_ : Nat → Int × Bool} {v : Value} {f : Nat → ItemV} {rs : List Rs} {r : Rs}
theorem order_run {a b c d e : Rs} (h : SL W B (a :: b :: c :: d :: e :: rs) w) : SL W B (c :: d :: e :: a :: b :: rs) w := h.perm (List.perm_append_comm_assoc [_, _] [_, _, _] rs)
theorem box_in (hS : SL W B (r :: RunRs rb fb hb gf gb N L cap A cst x h far by_ (PileRs pb v n f rs)) w) : SL W B (RunRs rb fb hb gf gb N L cap A cst x h far by_ (PileRs pb v n f (r :: rs))) w :=
  hS.perm (List.perm_append_comm_assoc [_] [_, _, _, _, _, _, _] rs)
theorem order_b (hS : SL W B (PileRs pb v n f (r :: RunRs rb fb hb gf gb N L cap A cst x h far by_ rs)) w) : SL W B (RunRs rb fb hb gf gb N L cap A cst x h far by_ (PileRs pb v n f (r :: rs))) w :=
  hS.perm (List.perm_append_comm_assoc [_, _, _] [_, _, _, _, _] rs)
theorem order_a (hS : SL W B (r :: PileRs pb v n f (RunRs rb fb hb gf gb N L cap A cst x h far by_ rs)) w) : SL W B (RunRs rb fb hb gf gb N L cap A cst x h far by_ (PileRs pb v n f (r :: rs))) w :=
  order_b (hS.perm (List.perm_append_comm_assoc [_] [_, _] _))
theorem box_out (hS : SL W B (RunRs rb fb hb gf gb N L cap A cst x h far by_ (PileRs pb v n f (r :: rs))) w) : SL W B (RunRs rb fb hb gf gb N L cap A cst x h far by_ (PileRs pb v n f rs)) w :=
  hS.sub (.cons_cons _ (.cons_cons _ (.cons_cons _ (.cons_cons _ (.cons_cons _ (.cons_cons _ (.cons_cons _ (.cons _ (List.Sublist.refl _)))))))))
end
/-- What look does. -/
def LookPost (W : World) (B rb fb hb N L cap : Nat) (A : Option Addr) (cst : Int) (x h : Nat → Int) (ps : List PipeV) (s : Nat) (rs : List Rs) (e : Ending) (w' : World) : Prop :=
  e = .returned (.tuple #[]) ∧ ∃ (gf gb : Nat) (far : Nat → Int) (by_ : Nat → Int × Bool), SL W B (RunRs rb fb hb gf gb N L cap A cst x h far by_ rs) w' ∧ Looked N ps x h s far by_
/-- In the midst of look: what is known of the numbers. -/
def LookSt (N : Nat) (ps : List PipeV) (x h : Nat → Int) (s : Nat) (far : Nat → Int) (by_ : Nat → Int × Bool) (done : Nat → Bool) (f : Nat → ItemV) (n : Nat) (ok : Bool) (y : ItemV) : Prop :=
  ∃ (M : ItemV → Nat) (rank : Nat → Nat), Dij N ps x h s far by_ done M rank (fun _ => False) (fun _ _ => False) ∧ ((ok = true ∧ 0 < M y ∧ (∀ z, 0 < M z → ¬ z.lt y) ∧ PileIs f n (fun z => M z - if y = z then 1 else 0)) ∨ (ok = false ∧ ∀ z, M z = 0))
set_option maxRecDepth 100000 in
set_option maxHeartbeats 16000000 in
theorem look_any (W w : World) (B rb fb hb N cap : Nat) (A : Option Addr) (cst : Int) (fv bv : Value) (x h : Nat → Int) (ps : List PipeV) (s : Nat) (rs : List Rs) (hr : Pipes W B A ps) (hI : DijIn N ps x h s) (hup : ∀ j, j < N → h j ≤ 4398046511104) (hL : ps.length ≤ 20000) (hNL : N * (2 * ps.length + 1) + 2 ≤ 800000)
    (hS : SL W B (.blk rb (runCells N ps.length cap A fb hb cst fv bv) 73 :: .blk fb (iarr x ps.length) 2 :: .blk hb (iarr h N) 2 :: rs) w) :
    Calls Try.prog 36 #[.pointer (some ⟨rb, 0, none⟩), .int .i64 (s : Int)] w (LookPost W B rb fb hb N ps.length cap A cst x h ps s rs) := by
  have hN1 : 1 ≤ N := by have := hI.sN; omega
  have hN := hI.nN
  have hsN := hI.sN
  have HI := Lib.hid (And.intro hI hup)
  have HR := Lib.hid hr
  have HNL := Lib.hid hNL
  clear hI hup hr hNL
  go_enter Try.func36, Try.ntmps36
  go_upto_region 0 with fail
  go_cut [] (fun wx => ∃ gf gb, SL W B (RunRs rb fb hb gf gb N ps.length cap A cst x h (fun _ => 1152921504606846976) (fun _ => (0, false)) rs) wx)
  case first =>
    have hmk := make_lsteps N hN
    refine wp_region_kb [0,1,3,4,5,6,7,9,10,11,12,13] [2,8,14,15,16,17] [18,19,20] (fun w' => w'.cell? ⟨rb, 0, none⟩ = some (.int .i64 (N : Int))) (hS.drew.cell 0 rfl 0 rfl) (by kernel_rfl) (by kernel_rfl) (.cons rfl (.cons rfl (.cons rfl .nil))) (fun C cw _ hC => ?_)
    have q0 : ∀ c, (cw c).cell? ⟨rb, 0, none⟩ = some (.int .i64 (N : Int)) := hC
    clear hC
    repeat (first | (refine pl_nil _ _ rfl rfl rfl rfl (fun Kv hK => ?_); go_simp; refine hK _ ?_; clear hK Kv) | (refine pl_look rfl rfl rfl (fun Kv hK => ?_); go_big_quiet_op; refine hK _ ?_; clear hK Kv))
    clear q0
    have hS1 := hS.drew
    clear hS
    generalize w.drew = w1 at *
    refine pl_end ?_
    refine pb_two 2 14 (by kernel_rfl) (by kernel_rfl) (by kernel_rfl) ?_ ?_
    · skip
      refine kOp_eff rfl rfl fun Kv hK => ?_
      go_simp
      have hT0 := hS1.alloc #[.int .i64 1152921504606846976] 2
      (try simp only [show ∀ (w : World) (o : Obj), (w.alloc o).heap.size = w.heap.size + 1 from fun w o => by simp] at hT0)
      refine ⟨hT0.cell 1 rfl 0 rfl, hK _ _ ?_⟩
      clear hK Kv
      refine pb_two 8 14 (by kernel_rfl) (by kernel_rfl) (by kernel_rfl) ?_ ?_
      · skip
        refine kOp_eff rfl rfl fun Kv hK => ?_
        go_simp
        refine eff_call (repeat_any 1152921504606846976 N _ 1 _ hN1 hN (hT0.cell 0 rfl 0 rfl)) (fun e w2 hc => ?_)
        obtain ⟨gf, rfl, hc⟩ := hc
        have hT1 := hT0.join hc
        clear hc
        refine .inl ⟨_, rfl, hT1.cell 2 rfl 0 rfl, hK _ _ ?_⟩
        clear hK Kv
        refine pb_told 15 (.pointer (some ⟨rb, 0, none⟩)) (by kernel_rfl) rfl (by kernel_rfl) (by kernel_rfl) (by kernel_rfl) (by kernel_rfl) (hT1.cell 2 rfl 0 rfl) rfl (fun _ _ => rfl) (fun Kv hK => ?_)
        go_simp
        refine hK _ ?_
        clear hK Kv
        refine pb_told 16 (.pointer (some ⟨rb, 5, none⟩)) (by kernel_rfl) rfl (by kernel_rfl) (by kernel_rfl) (by kernel_rfl) (by kernel_rfl) (hT1.cell 2 rfl 0 rfl) rfl (fun _ _ => rfl) (fun Kv hK => ?_)
        go_simp
        refine hK _ ?_
        clear hK Kv
        refine pb_two 14 17 (by kernel_rfl) (by kernel_rfl) (by kernel_rfl) ?_ ?_
        · skip
          refine kOp_eff rfl rfl fun Kv hK => ?_
          go_simp
          have hT2 := hT1.alloc (sarr (fun _ => (0, false)) N) 92
          (try simp only [show ∀ (w : World) (o : Obj), (w.alloc o).heap.size = w.heap.size + 1 from fun w o => by simp] at hT2)
          refine ⟨hT2.cell 3 rfl 0 rfl, hK _ _ ?_⟩
          clear hK Kv
          refine pb_one 17 (by kernel_rfl) (by kernel_rfl) ?_
          refine kOp_eff rfl rfl fun Kv hK => ?_
          have y0 := hT2.cell 3 rfl 5 rfl
          have y1 := hT2.free 3 rfl 5
          go_simp
          have hU : SL W B _ _ := hT2.setCell 3 rfl 5 (.slice (some ⟨gf, 0, none⟩) N N)
          refine ⟨hU.cell 3 rfl 0 rfl, hK _ _ ?_⟩
          clear hK Kv y0 y1
          generalize ((w2.alloc (.cells (sarr (fun _ => (0, false)) N) 92)).setCell ⟨rb, 5, none⟩ (.slice (some ⟨gf, 0, none⟩) N N)) = w3 at *
          refine pb_end (by kernel_rfl) ?_
          have y0 := hU.cell 3 rfl 6 rfl
          have y1 := hU.free 3 rfl 6
          have hV : SL W B _ _ := hU.setCell 3 rfl 6 (.slice (some ⟨w2.heap.size, 0, none⟩) N N)
          have HV := Lib.hid hV
          clear hV hU
          go_wp2_with fail
          go_meet
          exact ⟨gf, w2.heap.size, order_run ((HV.out.sub (.cons_cons _ (.cons_cons _ (.cons _ (List.Sublist.refl _))))).perm (List.Perm.swap _ _ _))⟩
        · skip
          refine kOp_eff rfl rfl fun Kv hK => ?_
          have y0 := hT1.cell 2 rfl 5 rfl
          have y1 := hT1.free 2 rfl 5
          go_simp
          have hU : SL W B _ _ := hT1.setCell 2 rfl 5 (.slice (some ⟨gf, 0, none⟩) N N)
          refine ⟨hU.cell 2 rfl 0 rfl, hK _ _ ?_⟩
          clear hK Kv y0 y1
          generalize (w2.setCell ⟨rb, 5, none⟩ (.slice (some ⟨gf, 0, none⟩) N N)) = w3 at *
          refine pb_one 14 (by kernel_rfl) (by kernel_rfl) ?_
          refine kOp_eff rfl rfl fun Kv hK => ?_
          go_simp
          have hT2 := hU.alloc (sarr (fun _ => (0, false)) N) 92
          (try simp only [show ∀ (w : World) (o : Obj), (w.alloc o).heap.size = w.heap.size + 1 from fun w o => by simp] at hT2)
          refine ⟨hT2.cell 3 rfl 0 rfl, hK _ _ ?_⟩
          clear hK Kv
          refine pb_end (by kernel_rfl) ?_
          have y0 := hT2.cell 3 rfl 6 rfl
          have y1 := hT2.free 3 rfl 6
          have hV : SL W B _ _ := hT2.setCell 3 rfl 6 (.slice (some ⟨w3.heap.size, 0, none⟩) N N)
          have HV := Lib.hid hV
          clear hV hT2
          go_wp2_with fail
          go_meet
          exact ⟨gf, w3.heap.size, order_run ((HV.out.sub (.cons_cons _ (.cons_cons _ (.cons _ (List.Sublist.refl _))))).perm (List.Perm.swap _ _ _))⟩
      · skip
        refine kOp_eff rfl rfl fun Kv hK => ?_
        go_simp
        have hT1 := hT0.alloc (sarr (fun _ => (0, false)) N) 92
        (try simp only [show ∀ (w : World) (o : Obj), (w.alloc o).heap.size = w.heap.size + 1 from fun w o => by simp] at hT1)
        refine ⟨hT1.cell 2 rfl 0 rfl, hK _ _ ?_⟩
        clear hK Kv
        refine pb_one 8 (by kernel_rfl) (by kernel_rfl) ?_
        refine kOp_eff rfl rfl fun Kv hK => ?_
        go_simp
        refine eff_call (repeat_any 1152921504606846976 N _ 1 _ hN1 hN (hT1.cell 1 rfl 0 rfl)) (fun e w2 hc => ?_)
        obtain ⟨gf, rfl, hc⟩ := hc
        have hT2 := hT1.join hc
        clear hc
        refine .inl ⟨_, rfl, hT2.cell 3 rfl 0 rfl, hK _ _ ?_⟩
        clear hK Kv
        refine pb_told 15 (.pointer (some ⟨rb, 0, none⟩)) (by kernel_rfl) rfl (by kernel_rfl) (by kernel_rfl) (by kernel_rfl) (by kernel_rfl) (hT2.cell 3 rfl 0 rfl) rfl (fun _ _ => rfl) (fun Kv hK => ?_)
        go_simp
        refine hK _ ?_
        clear hK Kv
        refine pb_told 16 (.pointer (some ⟨rb, 5, none⟩)) (by kernel_rfl) rfl (by kernel_rfl) (by kernel_rfl) (by kernel_rfl) (by kernel_rfl) (hT2.cell 3 rfl 0 rfl) rfl (fun _ _ => rfl) (fun Kv hK => ?_)
        go_simp
        refine hK _ ?_
        clear hK Kv
        refine pb_one 17 (by kernel_rfl) (by kernel_rfl) ?_
        refine kOp_eff rfl rfl fun Kv hK => ?_
        have y0 := hT2.cell 3 rfl 5 rfl
        have y1 := hT2.free 3 rfl 5
        go_simp
        have hU : SL W B _ _ := hT2.setCell 3 rfl 5 (.slice (some ⟨gf, 0, none⟩) N N)
        refine ⟨hU.cell 3 rfl 0 rfl, hK _ _ ?_⟩
        clear hK Kv y0 y1
        generalize (w2.setCell ⟨rb, 5, none⟩ (.slice (some ⟨gf, 0, none⟩) N N)) = w3 at *
        refine pb_end (by kernel_rfl) ?_
        have y0 := hU.cell 3 rfl 6 rfl
        have y1 := hU.free 3 rfl 6
        have hV : SL W B _ _ := hU.setCell 3 rfl 6 (.slice (some ⟨(w1.heap.size + 1), 0, none⟩) N N)
        have HV := Lib.hid hV
        clear hV hU
        go_wp2_with fail
        go_meet
        exact ⟨gf, (w1.heap.size + 1), order_run (HV.out.sub (.cons_cons _ (.cons_cons _ (.cons _ (List.Sublist.refl _)))))⟩
    · skip
      refine kOp_eff rfl rfl fun Kv hK => ?_
      go_simp
      have hT0 := hS1.alloc (sarr (fun _ => (0, false)) N) 92
      (try simp only [show ∀ (w : World) (o : Obj), (w.alloc o).heap.size = w.heap.size + 1 from fun w o => by simp] at hT0)
      refine ⟨hT0.cell 1 rfl 0 rfl, hK _ _ ?_⟩
      clear hK Kv
      refine pb_one 2 (by kernel_rfl) (by kernel_rfl) ?_
      refine kOp_eff rfl rfl fun Kv hK => ?_
      go_simp
      have hT1 := hT0.alloc #[.int .i64 1152921504606846976] 2
      (try simp only [show ∀ (w : World) (o : Obj), (w.alloc o).heap.size = w.heap.size + 1 from fun w o => by simp] at hT1)
      refine ⟨hT1.cell 2 rfl 0 rfl, hK _ _ ?_⟩
      clear hK Kv
      refine pb_one 8 (by kernel_rfl) (by kernel_rfl) ?_
      refine kOp_eff rfl rfl fun Kv hK => ?_
      go_simp
      refine eff_call (repeat_any 1152921504606846976 N _ 1 _ hN1 hN (hT1.cell 0 rfl 0 rfl)) (fun e w2 hc => ?_)
      obtain ⟨gf, rfl, hc⟩ := hc
      have hT2 := hT1.join hc
      clear hc
      refine .inl ⟨_, rfl, hT2.cell 3 rfl 0 rfl, hK _ _ ?_⟩
      clear hK Kv
      refine pb_told 15 (.pointer (some ⟨rb, 0, none⟩)) (by kernel_rfl) rfl (by kernel_rfl) (by kernel_rfl) (by kernel_rfl) (by kernel_rfl) (hT2.cell 3 rfl 0 rfl) rfl (fun _ _ => rfl) (fun Kv hK => ?_)
      go_simp
      refine hK _ ?_
      clear hK Kv
      refine pb_told 16 (.pointer (some ⟨rb, 5, none⟩)) (by kernel_rfl) rfl (by kernel_rfl) (by kernel_rfl) (by kernel_rfl) (by kernel_rfl) (hT2.cell 3 rfl 0 rfl) rfl (fun _ _ => rfl) (fun Kv hK => ?_)
      go_simp
      refine hK _ ?_
      clear hK Kv
      refine pb_one 17 (by kernel_rfl) (by kernel_rfl) ?_
      refine kOp_eff rfl rfl fun Kv hK => ?_
      have y0 := hT2.cell 3 rfl 5 rfl
      have y1 := hT2.free 3 rfl 5
      go_simp
      have hU : SL W B _ _ := hT2.setCell 3 rfl 5 (.slice (some ⟨gf, 0, none⟩) N N)
      refine ⟨hU.cell 3 rfl 0 rfl, hK _ _ ?_⟩
      clear hK Kv y0 y1
      generalize (w2.setCell ⟨rb, 5, none⟩ (.slice (some ⟨gf, 0, none⟩) N N)) = w3 at *
      refine pb_end (by kernel_rfl) ?_
      have y0 := hU.cell 3 rfl 6 rfl
      have y1 := hU.free 3 rfl 6
      have hV : SL W B _ _ := hU.setCell 3 rfl 6 (.slice (some ⟨w1.heap.size, 0, none⟩) N N)
      have HV := Lib.hid hV
      clear hV hU
      go_wp2_with fail
      go_meet
      exact ⟨gf, w1.heap.size, order_run (HV.out.sub (.cons_cons _ (.cons _ (List.Sublist.refl _))))⟩
  case rest =>
  clear hS
  obtain ⟨gf, gb, hS⟩ := hcut
  have y5 : wc.cell? ⟨rb, 5, none⟩ = some (.slice (some ⟨gf, 0, none⟩) N N) := hS.cell 0 rfl 5 rfl
  have y0 : wc.cell? ⟨gf, s, none⟩ = some (.int .i64 1152921504606846976) := hS.cell 3 rfl s (iarr_get _ _ _ hsN)
  have y1 := hS.free 3 rfl s
  have hS1 : SL W B (RunRs rb fb hb gf gb N ps.length cap A cst x h (fun j => if j = s then 0 else FarI) (fun _ => (0, false)) rs) (wc.setCell ⟨gf, s, none⟩ (.int .i64 0)) := hS.setInt 3 rfl s 0
  clear hS
  go_upto_region 2 with fail
  generalize (wc.setCell ⟨gf, s, none⟩ (.int .i64 0)) = w1 at *
  clear y5 y0 y1
  go_cut [4, 5] (fun s4 s5 wx => ∃ pb db, s4 = .pointer (some ⟨pb, 0, none⟩) ∧ s5 = .slice (some ⟨db, 0, none⟩) N N ∧ SL W B (RunRs rb fb hb gf gb N ps.length cap A cst x h (fun j => if j = s then 0 else FarI) (fun _ => (0, false)) (PileRs pb (.slice none 0 0) 0 (fun _ => ⟨0, 0⟩) (.blk db (barr (fun _ => false) N) 4 :: rs))) wx)
  case first =>
    have hmb := make_bools N hN
    refine wp_region_kb [1,2,3,4,5] [0,6,7] [8] (fun w' => w'.cell? ⟨rb, 0, none⟩ = some (.int .i64 (N : Int))) (hS1.drew.cell 0 rfl 0 rfl) (by kernel_rfl) (by kernel_rfl) (.cons rfl .nil) (fun C cw _ hC => ?_)
    have q0 : ∀ c, (cw c).cell? ⟨rb, 0, none⟩ = some (.int .i64 (N : Int)) := hC
    clear hC
    repeat (first | (refine pl_nil _ _ rfl rfl rfl rfl (fun Kv hK => ?_); go_simp; refine hK _ ?_; clear hK Kv) | (refine pl_look rfl rfl rfl (fun Kv hK => ?_); go_big_quiet_op; refine hK _ ?_; clear hK Kv))
    clear q0
    have hS2 := hS1.drew
    clear hS1
    generalize w1.drew = w2 at *
    refine pl_end ?_
    refine pb_two 0 6 (by kernel_rfl) (by kernel_rfl) (by kernel_rfl) ?_ ?_
    · refine kOp_eff rfl rfl fun Kv hK => ?_
      go_simp
      refine eff_call (new_any W B _ _ hS2) (fun e w3 hc => ?_)
      obtain ⟨pb, rfl, hS3⟩ := hc
      refine .inl ⟨_, rfl, hS3.cell 2 rfl 0 rfl, hK _ _ ?_⟩
      clear hK Kv hS2
      refine pb_told 7 (.pointer (some ⟨pb, 0, none⟩)) (by kernel_rfl) rfl (by kernel_rfl) (by kernel_rfl) (by kernel_rfl) (by kernel_rfl) (hS3.cell 2 rfl 0 rfl) rfl (fun _ _ => rfl) (fun Kv hK => ?_)
      go_simp
      refine hK _ ?_
      clear hK Kv
      refine pb_one 6 (by kernel_rfl) (by kernel_rfl) ?_
      refine kOp_eff rfl rfl fun Kv hK => ?_
      go_simp
      have hS4 := hS3.alloc (barr (fun _ => false) N) 4
      refine ⟨hS4.cell 3 rfl 0 rfl, hK _ _ ?_⟩
      clear hK Kv
      refine pb_end (by kernel_rfl) ?_
      have HS4 := Lib.hid hS4
      clear hS3 hS4
      go_wp2_with fail
      go_meet
      exact ⟨_, _, rfl, rfl, order_a HS4.out⟩
    · refine kOp_eff rfl rfl fun Kv hK => ?_
      go_simp
      have hS3 := hS2.alloc (barr (fun _ => false) N) 4
      refine ⟨hS3.cell 1 rfl 0 rfl, hK _ _ ?_⟩
      clear hK Kv
      refine pb_one 0 (by kernel_rfl) (by kernel_rfl) ?_
      refine kOp_eff rfl rfl fun Kv hK => ?_
      go_simp
      refine eff_call (new_any W B _ _ hS3) (fun e w3 hc => ?_)
      obtain ⟨pb, rfl, hS4⟩ := hc
      refine .inl ⟨_, rfl, hS4.cell 3 rfl 0 rfl, hK _ _ ?_⟩
      clear hK Kv hS2 hS3
      refine pb_one 7 (by kernel_rfl) (by kernel_rfl) ?_
      refine kOp_eff rfl rfl fun Kv hK => ?_
      go_simp
      refine ⟨hS4.cell 3 rfl 0 rfl, hK _ _ ?_⟩
      clear hK Kv
      refine pb_end (by kernel_rfl) ?_
      have HS4 := Lib.hid hS4
      clear hS4
      go_wp2_with fail
      go_meet
      exact ⟨_, _, rfl, rfl, order_b HS4.out⟩
  case rest =>
  clear hS1
  obtain ⟨pb, db, rfl, rfl, hS⟩ := hcut
  have hD0 := dij_start HI.out.1 (fun _ => (0, false)) (fun _ _ => False)
  have hP0 := PileIs.empty.put ⟨0, (s : Int)⟩
  have HPUT := Lib.hid (put_kv _ _ _ _ pb 0 _ _ 0 (s : Int) (run_pile hS) (by omega))
  clear hS
  go_upto_region 4 with (go_at_call 43; (with_reducible refine HPUT.out.mono ?_); rintro e w3 ⟨rfl, v3, hS3⟩)
  clear HPUT
  obtain ⟨f1, hf1⟩ : ∃ f1, f1 = putM (fun _ => (⟨0, 0⟩ : ItemV)) 0 ⟨0, (s : Int)⟩ := ⟨_, rfl⟩
  rw [← hf1] at hS3 hP0
  clear hf1
  obtain ⟨y, hy⟩ : ∃ y, f1 0 = y := ⟨_, rfl⟩
  have hfst := hP0.first
  have htk := hP0.take
  rw [hy] at hfst htk
  have HTK := Lib.hid (take_kv _ _ _ _ pb 0 v3 f1 y.key y.id hy hS3 (by omega))
  have HSt : Hid (LookSt N ps x h s (fun j => if j = s then 0 else FarI) (fun _ => (0, false)) (fun _ => false) (takeM f1 0) 0 true y) := Lib.hid ⟨_, _, hD0, .inl ⟨rfl, hfst.1, hfst.2, htk⟩⟩
  clear hS3 hfst htk hy hP0 hD0
  go_wp2_with (go_at_call 44; (with_reducible refine HTK.out.mono ?_); rintro e w4 ⟨rfl, v4, hS4⟩
               have hS5 := hS4.alloc #[.int .i64 y.key, .int .i64 y.id] 86
               clear hS4)
  clear HTK
  obtain ⟨bx, hbx⟩ : ∃ bx, bx = w4.heap.size := ⟨_, rfl⟩
  generalize (w4.alloc (.cells #[.int .i64 y.key, .int .i64 y.id] 86)) = w5 at *
  rw [← hbx] at hS5 ⊢
  clear hbx
  have HS6 := Lib.hid (order_a hS5)
  clear hS5
  go_loopg [6, 7] (N * (2 * ps.length + 1) + 2) (fun gk u6 u7 wr => ∃ (far : Nat → Int) (by_ : Nat → Int × Bool) (done : Nat → Bool) (f : Nat → ItemV) (n : Nat) (v : Value) (bx : Nat) (ok : Bool) (y : ItemV), u6 = .pointer (some ⟨bx, 0, none⟩) ∧ u7 = .bool ok ∧ SL W B (RunRs rb fb hb gf gb N ps.length cap A cst x h far by_ (PileRs pb v n f (.blk bx #[.int .i64 y.key, .int .i64 y.id] 86 :: .blk db (barr done N) 4 :: rs))) wr ∧ Hid (LookSt N ps x h s far by_ done f n ok y) ∧ unseen done N * (2 * ps.length + 1) + n + (if ok then 1 else 0) < gk ∧ gk ≤ N * (2 * ps.length + 1) + 2)
  case atStart => exact ⟨_, _, fun _ => false, _, 0, _, bx, true, y, rfl, rfl, HS6.out, HSt, by rw [unseen_none]; simp, Nat.le_refl _⟩
  case round =>
    clear HS6 HSt
    obtain ⟨far, by_, done, f, n, v, bx, ok, y, rfl, rfl, hS, HSt, hms, hgk⟩ := hrel
    cases ok
    · have HLK : Hid (Looked N ps x h s far by_) := Lib.hid (by
        obtain ⟨M, rank, hd, h | ⟨_, h⟩⟩ := HSt.out
        · cases h.1
        · exact dij_end HI.out.1 hd h)
      have HS := Lib.hid hS
      clear hS HSt
      go_wp2_with fail
      go_end0
      exact ⟨rfl, gf, gb, far, by_, HS.out.sub (.cons_cons _ (.cons_cons _ (.cons_cons _ (.cons_cons _ (.cons_cons _ (.cons _ (.cons _ (.cons _ (.cons _ (List.Sublist.refl _)))))))))), HLK.out⟩
    · obtain ⟨M, rank, hd, ⟨_, hy0, hymin, hp⟩ | ⟨h, _⟩⟩ := HSt.out
      case inr => cases h
      obtain ⟨j, hj, hid, hk1, hk2⟩ := hd.items y hy0
      obtain ⟨yk, yi⟩ := y
      simp only at hid hk1 hk2
      subst hid
      have HD := Lib.hid (And.intro hd (And.intro hy0 (And.intro hymin hp)))
      have HMS : Hid (unseen done N * (2 * ps.length + 1) + n + 1 < gk) := Lib.hid (by simpa using hms)
      clear hd hy0 hymin hp hk1 hk2 HSt hms
      obtain ⟨wo, rfl⟩ : ∃ wo : World, wo = wr := ⟨_, rfl⟩
      obtain ⟨gO, rfl⟩ : ∃ gO : Nat, gO = gk := ⟨_, rfl⟩
      go_upto_block 1 with fail
      go_cut [] (fun wx => ∃ (far' : Nat → Int) (by' : Nat → Int × Bool) (done' : Nat → Bool) (M' : ItemV → Nat) (rank' : Nat → Nat) (f' : Nat → ItemV) (n' : Nat) (v' : Value), SL W B (RunRs rb fb hb gf gb N ps.length cap A cst x h far' by' (PileRs pb v' n' f' (.blk bx #[.int .i64 yk, .int .i64 (j : Int)] 86 :: .blk db (barr done' N) 4 :: rs))) wx ∧ Hid (Dij N ps x h s far' by' done' M' rank' (fun _ => False) (fun _ _ => False)) ∧ Hid (PileIs f' n' M') ∧ unseen done' N * (2 * ps.length + 1) + n' + 1 < gO)
      case first =>
        have y1 : wo.cell? ⟨bx, 1, none⟩ = some (.int .i64 (j : Int)) := hS.cell 7 rfl 1 rfl
        have y2 : wo.cell? ⟨db, j, none⟩ = some (.bool (done j)) := hS.cell 8 rfl j (barr_get _ _ _ hj)
        cases hdn : done j
        · rw [hdn] at y2
          have HM := Lib.hid (dij_mark HD.out.1 HD.out.2.1 HD.out.2.2.1 (by simpa using hdn))
          have y3 := hS.free 8 rfl j
          have hS1 : SL W B (RunRs rb fb hb gf gb N ps.length cap A cst x h far by_ (PileRs pb v n f (.blk bx #[.int .i64 yk, .int .i64 (j : Int)] 86 :: .blk db (barr (setB done j) N) 4 :: rs))) (wo.setCell ⟨db, j, none⟩ (.bool true)) := hS.setBool 8 rfl j true
          clear hS
          go_upto_region 9 with fail
          generalize (wo.setCell ⟨db, j, none⟩ (.bool true)) = w5 at *
          clear y1 y2 y3
          have y4 : w5.cell? ⟨rb, 1, none⟩ = some (.slice A ps.length cap) := hS1.cell 0 rfl 1 rfl
          have HS1 := Lib.hid hS1
          clear hS1
          go_wp2_with fail
          clear y4
          go_loopg [72] (ps.length + 1) (fun gk' u72 wi => ∃ (k : Nat) (far' : Nat → Int) (by' : Nat → Int × Bool) (M' : ItemV → Nat) (rank' : Nat → Nat) (f' : Nat → ItemV) (n' : Nat) (v' : Value), k ≤ ps.length ∧ u72 = .int .i64 k ∧ ps.length - k < gk' ∧ SL W B (RunRs rb fb hb gf gb N ps.length cap A cst x h far' by' (PileRs pb v' n' f' (.blk bx #[.int .i64 yk, .int .i64 (j : Int)] 86 :: .blk db (barr (setB done j) N) 4 :: rs))) wi ∧ Hid (Dij N ps x h s far' by' (setB done j) M' rank' (fun u => u = j) (Till k false)) ∧ Hid (PileIs f' n' M') ∧ Hid (far' j = yk) ∧ Hid (unseen (setB done j) N * (2 * ps.length + 1) + n' + 2 * (ps.length - k) + 1 < gO))
          case atStart => exact ⟨0, far, by_, _, rank, f, n, v, by omega, rfl, by omega, HS1.out, Lib.hid (scan_start (by simpa using HM.out.2.2)), Lib.hid HD.out.2.2.2, Lib.hid (by simpa using HM.out.1), Lib.hid (by
            have h1 : unseen (setB done j) N + 1 = unseen done N := by simpa using HM.out.2.1
            have h2 := HMS.out
            rw [← h1, Nat.add_mul] at h2
            omega)⟩
          case round =>
            clear HS1 HM HD HMS
            obtain ⟨k, far', by', M', rank', f', n', v', hk, rfl, hgk', hS, HD, HP, HYK, HMS⟩ := hrel
            by_cases hlt : k < ps.length
            · obtain ⟨b, o, rfl, hbB, d0, d1, d2, d3⟩ := pipes_at (Reads.below HR.out hS.below) hlt
              obtain ⟨⟨f0, f1⟩, ⟨t0, t1⟩, r0, r1⟩ := HI.out.1.inn _ (List.getElem_mem hlt)
              have hcc := HI.out.1.costs _ (List.getElem_mem hlt)
              obtain ⟨u, hu⟩ : ∃ u : Nat, ps[k].fr = (u : Int) := ⟨ps[k].fr.toNat, by omega⟩
              obtain ⟨t, ht⟩ : ∃ t : Nat, ps[k].to = (t : Int) := ⟨ps[k].to.toNat, by omega⟩
              obtain ⟨rm, hrm⟩ : ∃ r, ps[k].room = r := ⟨_, rfl⟩
              obtain ⟨ct, hct⟩ : ∃ r, ps[k].cost = r := ⟨_, rfl⟩
              rw [hu] at d0 f0 f1
              rw [ht] at d1 t0 t1
              rw [hrm] at d2
              rw [hct] at d3 hcc
              have huN : u < N := by omega
              have htN : t < N := by omega
              have HU := Lib.hid (And.intro hu (And.intro ht (And.intro hrm (And.intro hct hcc))))
              have hS2 := hS.alloc #[.int .i64 (u : Int), .int .i64 (t : Int), .int .i64 rm, .int .i64 ct] 40
              have hz1 : b < wr.heap.size := Nat.lt_of_lt_of_le hbB hS.size
              clear hS hu ht hrm hct hcc r0 r1 f0 f1 t0 t1
              go_upto_region 12 with fail
              obtain ⟨ar, har⟩ : ∃ ar, ar = wr.heap.size := ⟨_, rfl⟩
              generalize (wr.alloc (.cells #[.int .i64 (u : Int), .int .i64 (t : Int), .int .i64 rm, .int .i64 ct] 40)) = w9 at *
              rw [← har] at hS2 ⊢
              clear har d0 d1 d2 d3 hz1
              have hS3 := box_in hS2
              clear hS2
              go_cut [94] (fun s wx => s = .bool (decide (u = j ∧ x k < rm)) ∧ SL W B (RunRs rb fb hb gf gb N ps.length cap (some ⟨b, o, none⟩) cst x h far' by' (PileRs pb v' n' f' (.blk ar #[.int .i64 (u : Int), .int .i64 (t : Int), .int .i64 rm, .int .i64 ct] 40 :: .blk bx #[.int .i64 yk, .int .i64 (j : Int)] 86 :: .blk db (barr (setB done j) N) 4 :: rs))) wx)
              case first =>
                by_cases p1 : u = j
                · have z1 : ((u : Int) == (j : Int)) = true := by rw [beq_iff_eq]; omega
                  by_cases p2 : x k < rm
                  · have z2 : decide (x k < rm) = true := by simpa using p2
                    have P1 := Lib.hid p1
                    have P2 := Lib.hid p2
                    clear p1 p2
                    refine wp_region_sl [0,1,2,3,4,5,6,7,8,9,10,11,12,13,14,15,16,17] [] [] _ hS3 (List.Sublist.refl _) (by kernel_rfl) (by kernel_rfl) .nil (fun C cw _ hC => ?_)
                    have q0 : ∀ c, (cw c).cell? ⟨ar, 0, none⟩ = some (.int .i64 (u : Int)) := fun c => (hC c).cell 7 rfl 0 rfl
                    have q2 : ∀ c, (cw c).cell? ⟨ar, 2, none⟩ = some (.int .i64 rm) := fun c => (hC c).cell 7 rfl 2 rfl
                    have q3 : ∀ c, (cw c).cell? ⟨bx, 1, none⟩ = some (.int .i64 (j : Int)) := fun c => (hC c).cell 8 rfl 1 rfl
                    have q4 : ∀ c, (cw c).cell? ⟨rb, 2, none⟩ = some (.slice (some ⟨fb, 0, none⟩) ps.length ps.length) := fun c => (hC c).cell 0 rfl 2 rfl
                    have q5 : ∀ c, (cw c).cell? ⟨fb, k, none⟩ = some (.int .i64 (x k)) := fun c => (hC c).cell 1 rfl k (iarr_get _ _ _ hlt)
                    repeat (first | (refine pl_nil _ _ rfl rfl rfl rfl (fun Kv hK => ?_); go_simp; refine hK _ ?_; clear hK Kv) | (refine pl_look rfl rfl rfl (fun Kv hK => ?_); go_big_quiet_op; refine hK _ ?_; clear hK Kv) | (refine pl_skip rfl rfl (fun Kv hK => ?_); go_simp; refine hK _ ?_; clear hK Kv))
                    clear q0 q2 q3 q4 q5 hC
                    refine pl_end ?_
                    intro w1 hS4
                    refine pm_end ?_
                    clear hS3
                    go_wp2_with fail
                    go_meet
                    exact ⟨congrArg Value.bool (decide_eq_true ⟨P1.out, P2.out⟩).symm, hS4⟩
                  · have z2 : decide (x k < rm) = false := by simpa using p2
                    have P1 := Lib.hid p1
                    have P2 := Lib.hid p2
                    clear p1 p2
                    refine wp_region_sl [0,1,2,3,4,5,6,7,8,9,10,11,12,13,14,15,16,17] [] [] _ hS3 (List.Sublist.refl _) (by kernel_rfl) (by kernel_rfl) .nil (fun C cw _ hC => ?_)
                    have q0 : ∀ c, (cw c).cell? ⟨ar, 0, none⟩ = some (.int .i64 (u : Int)) := fun c => (hC c).cell 7 rfl 0 rfl
                    have q2 : ∀ c, (cw c).cell? ⟨ar, 2, none⟩ = some (.int .i64 rm) := fun c => (hC c).cell 7 rfl 2 rfl
                    have q3 : ∀ c, (cw c).cell? ⟨bx, 1, none⟩ = some (.int .i64 (j : Int)) := fun c => (hC c).cell 8 rfl 1 rfl
                    have q4 : ∀ c, (cw c).cell? ⟨rb, 2, none⟩ = some (.slice (some ⟨fb, 0, none⟩) ps.length ps.length) := fun c => (hC c).cell 0 rfl 2 rfl
                    have q5 : ∀ c, (cw c).cell? ⟨fb, k, none⟩ = some (.int .i64 (x k)) := fun c => (hC c).cell 1 rfl k (iarr_get _ _ _ hlt)
                    repeat (first | (refine pl_nil _ _ rfl rfl rfl rfl (fun Kv hK => ?_); go_simp; refine hK _ ?_; clear hK Kv) | (refine pl_look rfl rfl rfl (fun Kv hK => ?_); go_big_quiet_op; refine hK _ ?_; clear hK Kv) | (refine pl_skip rfl rfl (fun Kv hK => ?_); go_simp; refine hK _ ?_; clear hK Kv))
                    clear q0 q2 q3 q4 q5 hC
                    refine pl_end ?_
                    intro w1 hS4
                    refine pm_end ?_
                    clear hS3
                    go_wp2_with fail
                    go_meet
                    exact ⟨congrArg Value.bool (decide_eq_false (fun h => by have := P2.out; omega)).symm, hS4⟩
                · have z1 : ((u : Int) == (j : Int)) = false := by rw [beq_eq_false_iff_ne]; omega
                  have P1 := Lib.hid p1
                  clear p1
                  refine wp_region_sl [0,1,2,3,4,5,6,7,8,9,10,11,12,13,14,15,16,17] [] [] _ hS3 (List.Sublist.refl _) (by kernel_rfl) (by kernel_rfl) .nil (fun C cw _ hC => ?_)
                  have q0 : ∀ c, (cw c).cell? ⟨ar, 0, none⟩ = some (.int .i64 (u : Int)) := fun c => (hC c).cell 7 rfl 0 rfl
                  have q2 : ∀ c, (cw c).cell? ⟨ar, 2, none⟩ = some (.int .i64 rm) := fun c => (hC c).cell 7 rfl 2 rfl
                  have q3 : ∀ c, (cw c).cell? ⟨bx, 1, none⟩ = some (.int .i64 (j : Int)) := fun c => (hC c).cell 8 rfl 1 rfl
                  have q4 : ∀ c, (cw c).cell? ⟨rb, 2, none⟩ = some (.slice (some ⟨fb, 0, none⟩) ps.length ps.length) := fun c => (hC c).cell 0 rfl 2 rfl
                  have q5 : ∀ c, (cw c).cell? ⟨fb, k, none⟩ = some (.int .i64 (x k)) := fun c => (hC c).cell 1 rfl k (iarr_get _ _ _ hlt)
                  repeat (first | (refine pl_nil _ _ rfl rfl rfl rfl (fun Kv hK => ?_); go_simp; refine hK _ ?_; clear hK Kv) | (refine pl_look rfl rfl rfl (fun Kv hK => ?_); go_big_quiet_op; refine hK _ ?_; clear hK Kv) | (refine pl_skip rfl rfl (fun Kv hK => ?_); go_simp; refine hK _ ?_; clear hK Kv))
                  clear q0 q2 q3 q4 q5 hC
                  refine pl_end ?_
                  intro w1 hS4
                  refine pm_end ?_
                  clear hS3
                  go_wp2_with fail
                  go_meet
                  exact ⟨congrArg Value.bool (decide_eq_false (fun h => by have := P1.out; omega)).symm, hS4⟩
              case rest =>
              clear hS3
              obtain ⟨rfl, hS4⟩ := hcut
              go_upto_if 94 with fail
              go_cut [] (fun wx => ∃ (far' : Nat → Int) (by' : Nat → Int × Bool) (M' : ItemV → Nat) (rank' : Nat → Nat) (f' : Nat → ItemV) (n' : Nat) (v' : Value), SL W B (RunRs rb fb hb gf gb N ps.length cap (some ⟨b, o, none⟩) cst x h far' by' (PileRs pb v' n' f' (.blk ar #[.int .i64 (u : Int), .int .i64 (t : Int), .int .i64 rm, .int .i64 ct] 40 :: .blk bx #[.int .i64 yk, .int .i64 (j : Int)] 86 :: .blk db (barr (setB done j) N) 4 :: rs))) wx ∧ Hid (Dij N ps x h s far' by' (setB done j) M' rank' (fun u => u = j) (Till k true)) ∧ Hid (PileIs f' n' M') ∧ Hid (far' j = yk) ∧ Hid (unseen (setB done j) N * (2 * ps.length + 1) + n' + 2 * (ps.length - k) < gO))
              case first =>
                by_cases p : u = j ∧ x k < rm
                · have hdc := decide_eq_true p
                  go_upto_region 13 with fail
                  have hp2 := Lib.hid p.2
                  obtain rfl : j = u := p.1.symm
                  obtain ⟨cb1, cb2, cb3⟩ := dij_cur HI.out.1 HD.out
                  rw [HYK.out] at cb2 cb3
                  have hh1 := HI.out.1.low j cb1
                  have hh2 := HI.out.2 j cb1
                  have hh3 := HI.out.1.low t htN
                  have hh4 := HI.out.2 t htN
                  have hcc := HU.out.2.2.2.2
                  unfold DearI at hcc
                  have hwr : IntKind.i64.wrap (yk + (ct + h j - h t)) = yk + (ct + h j - h t) := by rw [IntKind.wrap_i64]; omega
                  have hnb : n' ≤ 800000 := by have := HMS.out; have := HNL.out; omega
                  have HST := Lib.hid (fun (w : World) c4 ci cj => steep_any w rb N hb (j : Int) (t : Int) rm ct (h j) (h t) j t rfl rfl cb1 htN hN c4 ci cj ⟨by omega, by omega⟩ ⟨by omega, by omega⟩ ⟨by omega, by omega⟩)
                  clear hh1 hh2 hh3 hh4 hcc cb2 cb3
                  by_cases hnear : yk + (ct + h j - h t) < far' t
                  · skip
                    have hk := scan_fwd_yes HI.out.1 HD.out hlt HU.out.1 HU.out.2.1 (by rw [HU.out.2.2.1]; exact hp2.out) (by rw [HYK.out, HU.out.2.2.2.1]; exact hnear)
                    have hne := scan_ne HI.out.1 HD.out hlt HU.out.1 HU.out.2.1 (by rw [HU.out.2.2.1]; exact hp2.out) (by rw [HYK.out, HU.out.2.2.2.1]; exact hnear)
                    rw [HYK.out, HU.out.2.2.2.1] at hk
                    have HK := Lib.hid hk
                    have HNE := Lib.hid hne
                    clear hk hne
                    refine wp_region_sl [0,1,2,3,4,5,6,7,10,11] [8,9,12] [] [.blk ar #[.int .i64 (j : Int), .int .i64 (t : Int), .int .i64 rm, .int .i64 ct] 40, .blk bx #[.int .i64 yk, .int .i64 (j : Int)] 86] hS4 (.cons _ (.cons _ (.cons _ (.cons _ (.cons _ (.cons _ (.cons _ (.cons_cons _ (.cons_cons _ (List.nil_sublist _)))))))))) (by kernel_rfl) (by kernel_rfl) .nil (fun C cw _ hC => ?_)
                    have q0 : ∀ c, (cw c).cell? ⟨ar, 0, none⟩ = some (.int .i64 (j : Int)) := fun c => (hC c).cell 0 rfl 0 rfl
                    have q1 : ∀ c, (cw c).cell? ⟨ar, 1, none⟩ = some (.int .i64 (t : Int)) := fun c => (hC c).cell 0 rfl 1 rfl
                    have q2 : ∀ c, (cw c).cell? ⟨ar, 2, none⟩ = some (.int .i64 rm) := fun c => (hC c).cell 0 rfl 2 rfl
                    have q3 : ∀ c, (cw c).cell? ⟨ar, 3, none⟩ = some (.int .i64 ct) := fun c => (hC c).cell 0 rfl 3 rfl
                    have q4 : ∀ c, (cw c).cell? ⟨bx, 0, none⟩ = some (.int .i64 yk) := fun c => (hC c).cell 1 rfl 0 rfl
                    repeat (refine pl_look rfl rfl rfl (fun Kv hK => ?_); go_big_quiet_op; refine hK _ ?_; clear hK Kv)
                    clear q0 q1 q2 q3 q4 hC
                    refine pl_end ?_
                    intro w1 hS5
                    clear hS4
                    refine pm_eff rfl rfl fun Kv hK => ?_
                    go_simp
                    refine eff_call (HST.out w1 (hS5.cell 0 rfl 4 rfl) (hS5.cell 2 rfl j (iarr_get _ _ _ cb1)) (hS5.cell 2 rfl t (iarr_get _ _ _ htN))) (fun e w2 hc => ?_)
                    obtain ⟨rfl, hb2⟩ := hc
                    have hS6 := hS5.call hb2
                    clear hS5 hb2
                    refine .inl ⟨_, rfl, hS6.sub (.cons _ (.cons _ (.cons _ (.cons _ (.cons _ (.cons _ (.cons _ (.cons_cons _ (.cons_cons _ (List.nil_sublist _)))))))))), hK _ _ ?_⟩
                    clear hK Kv
                    refine pm_eff rfl rfl fun Kv hK => ?_
                    go_simp
                    refine ⟨hS6.sub (.cons _ (.cons _ (.cons _ (.cons _ (.cons _ (.cons _ (.cons _ (.cons_cons _ (.cons_cons _ (List.nil_sublist _)))))))))), hK _ _ ?_⟩
                    clear hK Kv
                    refine pm_eff rfl rfl fun Kv hK => ?_
                    go_simp
                    refine eff_call (nearer_yes W w2 B rb fb hb gf gb N ps.length cap pb n' _ cst x h far' by' v' f' _ t _ _ (k : Int) false rfl htN hN hnb hnear hS6) (fun e w3 hc => ?_)
                    obtain ⟨rfl, v2, hS7⟩ := hc
                    refine .inl ⟨_, rfl, hS7.sub (.cons _ (.cons _ (.cons _ (.cons _ (.cons _ (.cons _ (.cons _ (.cons_cons _ (.cons_cons _ (List.nil_sublist _)))))))))), hK _ _ ?_⟩
                    clear hK Kv hS6
                    refine pm_end ?_
                    have HS7 := Lib.hid hS7
                    clear hS7 HST hwr
                    go_wp2_with fail
                    go_meet
                    exact ⟨_, _, _, _, _, n' + 1, v2, HS7.out, HK.out |> Lib.hid, Lib.hid (HP.out.put ⟨yk + (ct + h j - h t), (t : Int)⟩), Lib.hid (by rw [if_neg HNE.out]; exact HYK.out), Lib.hid (by have := HMS.out; omega)⟩
                  · skip
                    have HK := Lib.hid (scan_fwd_far HD.out hlt HU.out.2.1 (by rw [HYK.out, HU.out.2.2.2.1]; exact hnear))
                    refine wp_region_sl [0,1,2,3,4,5,6,7,10,11] [8,9,12] [] [.blk ar #[.int .i64 (j : Int), .int .i64 (t : Int), .int .i64 rm, .int .i64 ct] 40, .blk bx #[.int .i64 yk, .int .i64 (j : Int)] 86] hS4 (.cons _ (.cons _ (.cons _ (.cons _ (.cons _ (.cons _ (.cons _ (.cons_cons _ (.cons_cons _ (List.nil_sublist _)))))))))) (by kernel_rfl) (by kernel_rfl) .nil (fun C cw _ hC => ?_)
                    have q0 : ∀ c, (cw c).cell? ⟨ar, 0, none⟩ = some (.int .i64 (j : Int)) := fun c => (hC c).cell 0 rfl 0 rfl
                    have q1 : ∀ c, (cw c).cell? ⟨ar, 1, none⟩ = some (.int .i64 (t : Int)) := fun c => (hC c).cell 0 rfl 1 rfl
                    have q2 : ∀ c, (cw c).cell? ⟨ar, 2, none⟩ = some (.int .i64 rm) := fun c => (hC c).cell 0 rfl 2 rfl
                    have q3 : ∀ c, (cw c).cell? ⟨ar, 3, none⟩ = some (.int .i64 ct) := fun c => (hC c).cell 0 rfl 3 rfl
                    have q4 : ∀ c, (cw c).cell? ⟨bx, 0, none⟩ = some (.int .i64 yk) := fun c => (hC c).cell 1 rfl 0 rfl
                    repeat (refine pl_look rfl rfl rfl (fun Kv hK => ?_); go_big_quiet_op; refine hK _ ?_; clear hK Kv)
                    clear q0 q1 q2 q3 q4 hC
                    refine pl_end ?_
                    intro w1 hS5
                    clear hS4
                    refine pm_eff rfl rfl fun Kv hK => ?_
                    go_simp
                    refine eff_call (HST.out w1 (hS5.cell 0 rfl 4 rfl) (hS5.cell 2 rfl j (iarr_get _ _ _ cb1)) (hS5.cell 2 rfl t (iarr_get _ _ _ htN))) (fun e w2 hc => ?_)
                    obtain ⟨rfl, hb2⟩ := hc
                    have hS6 := hS5.call hb2
                    clear hS5 hb2
                    refine .inl ⟨_, rfl, hS6.sub (.cons _ (.cons _ (.cons _ (.cons _ (.cons _ (.cons _ (.cons _ (.cons_cons _ (.cons_cons _ (List.nil_sublist _)))))))))), hK _ _ ?_⟩
                    clear hK Kv
                    refine pm_eff rfl rfl fun Kv hK => ?_
                    go_simp
                    refine ⟨hS6.sub (.cons _ (.cons _ (.cons _ (.cons _ (.cons _ (.cons _ (.cons _ (.cons_cons _ (.cons_cons _ (List.nil_sublist _)))))))))), hK _ _ ?_⟩
                    clear hK Kv
                    refine pm_eff rfl rfl fun Kv hK => ?_
                    go_simp
                    refine eff_call (nearer_no W w2 B rb fb hb gf gb N ps.length cap pb _ cst x h far' by' _ t _ _ (k : Int) false rfl htN hN hnear hS6) (fun e w3 hc => ?_)
                    obtain ⟨rfl, hS7⟩ := hc
                    refine .inl ⟨_, rfl, hS7.sub (.cons _ (.cons _ (.cons _ (.cons _ (.cons _ (.cons _ (.cons _ (.cons_cons _ (.cons_cons _ (List.nil_sublist _)))))))))), hK _ _ ?_⟩
                    clear hK Kv hS6
                    refine pm_end ?_
                    have HS7 := Lib.hid hS7
                    clear hS7 HST hwr
                    go_wp2_with fail
                    go_meet
                    exact ⟨_, _, _, _, _, n', v', HS7.out, HK, HP, HYK, Lib.hid (by have := HMS.out; omega)⟩
                · have hdc := decide_eq_false p
                  have HK := Lib.hid (scan_fwd_no HD.out hlt (by rw [HU.out.1, HU.out.2.2.1]; intro h; exact p ⟨by omega, h.2⟩))
                  have HS4 := Lib.hid hS4
                  clear hS4
                  go_wp2_with fail
                  go_meet
                  exact ⟨_, _, _, _, _, n', v', HS4.out, HK, HP, HYK, Lib.hid (by have := HMS.out; omega)⟩
              case rest =>
              clear hS4 HD HP HYK HMS
              obtain ⟨far', by', M', rank', f', n', v', hS, HD, HP, HYK, HMS⟩ := hcut
              go_upto_region 14 with fail
              go_cut [123] (fun s wx => s = .bool (decide (t = j ∧ 0 < x k)) ∧ SL W B (RunRs rb fb hb gf gb N ps.length cap (some ⟨b, o, none⟩) cst x h far' by' (PileRs pb v' n' f' (.blk ar #[.int .i64 (u : Int), .int .i64 (t : Int), .int .i64 rm, .int .i64 ct] 40 :: .blk bx #[.int .i64 yk, .int .i64 (j : Int)] 86 :: .blk db (barr (setB done j) N) 4 :: rs))) wx)
              case first =>
                by_cases p1 : t = j
                · have z1 : ((t : Int) == (j : Int)) = true := by rw [beq_iff_eq]; omega
                  by_cases p2 : 0 < x k
                  · have z2 : decide (0 < x k) = true := by simpa using p2
                    have P1 := Lib.hid p1
                    have P2 := Lib.hid p2
                    clear p1 p2
                    have y0 : wc.cell? ⟨ar, 1, none⟩ = some (.int .i64 (t : Int)) := hS.cell 7 rfl 1 rfl
                    have y3 : wc.cell? ⟨bx, 1, none⟩ = some (.int .i64 (j : Int)) := hS.cell 8 rfl 1 rfl
                    have y4 : wc.cell? ⟨rb, 2, none⟩ = some (.slice (some ⟨fb, 0, none⟩) ps.length ps.length) := hS.cell 0 rfl 2 rfl
                    have y5 : wc.cell? ⟨fb, k, none⟩ = some (.int .i64 (x k)) := hS.cell 1 rfl k (iarr_get _ _ _ hlt)
                    have HS := Lib.hid hS
                    clear hS
                    go_wp2_with fail
                    go_meet
                    exact ⟨congrArg Value.bool (decide_eq_true ⟨P1.out, P2.out⟩).symm, HS.out⟩
                  · have z2 : decide (0 < x k) = false := by simpa using p2
                    have P1 := Lib.hid p1
                    have P2 := Lib.hid p2
                    clear p1 p2
                    have y0 : wc.cell? ⟨ar, 1, none⟩ = some (.int .i64 (t : Int)) := hS.cell 7 rfl 1 rfl
                    have y3 : wc.cell? ⟨bx, 1, none⟩ = some (.int .i64 (j : Int)) := hS.cell 8 rfl 1 rfl
                    have y4 : wc.cell? ⟨rb, 2, none⟩ = some (.slice (some ⟨fb, 0, none⟩) ps.length ps.length) := hS.cell 0 rfl 2 rfl
                    have y5 : wc.cell? ⟨fb, k, none⟩ = some (.int .i64 (x k)) := hS.cell 1 rfl k (iarr_get _ _ _ hlt)
                    have HS := Lib.hid hS
                    clear hS
                    go_wp2_with fail
                    go_meet
                    exact ⟨congrArg Value.bool (decide_eq_false (fun h => by have := P2.out; omega)).symm, HS.out⟩
                · have z1 : ((t : Int) == (j : Int)) = false := by rw [beq_eq_false_iff_ne]; omega
                  have P1 := Lib.hid p1
                  clear p1
                  have y0 : wc.cell? ⟨ar, 1, none⟩ = some (.int .i64 (t : Int)) := hS.cell 7 rfl 1 rfl
                  have y3 : wc.cell? ⟨bx, 1, none⟩ = some (.int .i64 (j : Int)) := hS.cell 8 rfl 1 rfl
                  have y4 : wc.cell? ⟨rb, 2, none⟩ = some (.slice (some ⟨fb, 0, none⟩) ps.length ps.length) := hS.cell 0 rfl 2 rfl
                  have y5 : wc.cell? ⟨fb, k, none⟩ = some (.int .i64 (x k)) := hS.cell 1 rfl k (iarr_get _ _ _ hlt)
                  have HS := Lib.hid hS
                  clear hS
                  go_wp2_with fail
                  go_meet
                  exact ⟨congrArg Value.bool (decide_eq_false (fun h => by have := P1.out; omega)).symm, HS.out⟩
              case rest =>
              clear hS
              obtain ⟨rfl, hS4⟩ := hcut
              by_cases p : t = j ∧ 0 < x k
              · have hdc := decide_eq_true p
                go_upto_region 15 with fail
                have hp2 := Lib.hid p.2
                obtain rfl : j = t := p.1.symm
                obtain ⟨cb1, cb2, cb3⟩ := dij_cur HI.out.1 HD.out
                rw [HYK.out] at cb2 cb3
                have hh1 := HI.out.1.low j cb1
                have hh2 := HI.out.2 j cb1
                have hh3 := HI.out.1.low u huN
                have hh4 := HI.out.2 u huN
                have hcc := HU.out.2.2.2.2
                unfold DearI at hcc
                have hwr : IntKind.i64.wrap (yk - (ct + h u - h j)) = yk - (ct + h u - h j) := by rw [IntKind.wrap_i64]; omega
                have hnb : n' ≤ 800000 := by have := HMS.out; have := HNL.out; omega
                have HST := Lib.hid (fun (w : World) c4 ci cj => steep_any w rb N hb (u : Int) (j : Int) rm ct (h u) (h j) u j rfl rfl huN cb1 hN c4 ci cj ⟨by omega, by omega⟩ ⟨by omega, by omega⟩ ⟨by omega, by omega⟩)
                clear hh1 hh2 hh3 hh4 hcc cb2 cb3
                by_cases hnear : yk - (ct + h u - h j) < far' u
                · skip
                  have hk := scan_back_yes HI.out.1 HD.out hlt HU.out.2.1 HU.out.1 hp2.out (by rw [HYK.out, HU.out.2.2.2.1]; exact hnear)
                  have hne := scan_ne2 (far := far') HI.out.1 hlt HU.out.2.1 HU.out.1 hp2.out (by rw [HYK.out, HU.out.2.2.2.1]; exact hnear)
                  rw [HYK.out, HU.out.2.2.2.1] at hk
                  have HK := Lib.hid hk
                  have HNE := Lib.hid hne
                  clear hk hne
                  refine wp_region_sl [0,1,2,3,4,5,6,7,10,11] [8,9,12] [] [.blk ar #[.int .i64 (u : Int), .int .i64 (j : Int), .int .i64 rm, .int .i64 ct] 40, .blk bx #[.int .i64 yk, .int .i64 (j : Int)] 86] hS4 (.cons _ (.cons _ (.cons _ (.cons _ (.cons _ (.cons _ (.cons _ (.cons_cons _ (.cons_cons _ (List.nil_sublist _)))))))))) (by kernel_rfl) (by kernel_rfl) .nil (fun C cw _ hC => ?_)
                  have q0 : ∀ c, (cw c).cell? ⟨ar, 0, none⟩ = some (.int .i64 (u : Int)) := fun c => (hC c).cell 0 rfl 0 rfl
                  have q1 : ∀ c, (cw c).cell? ⟨ar, 1, none⟩ = some (.int .i64 (j : Int)) := fun c => (hC c).cell 0 rfl 1 rfl
                  have q2 : ∀ c, (cw c).cell? ⟨ar, 2, none⟩ = some (.int .i64 rm) := fun c => (hC c).cell 0 rfl 2 rfl
                  have q3 : ∀ c, (cw c).cell? ⟨ar, 3, none⟩ = some (.int .i64 ct) := fun c => (hC c).cell 0 rfl 3 rfl
                  have q4 : ∀ c, (cw c).cell? ⟨bx, 0, none⟩ = some (.int .i64 yk) := fun c => (hC c).cell 1 rfl 0 rfl
                  repeat (refine pl_look rfl rfl rfl (fun Kv hK => ?_); go_big_quiet_op; refine hK _ ?_; clear hK Kv)
                  clear q0 q1 q2 q3 q4 hC
                  refine pl_end ?_
                  intro w1 hS5
                  clear hS4
                  refine pm_eff rfl rfl fun Kv hK => ?_
                  go_simp
                  refine eff_call (HST.out w1 (hS5.cell 0 rfl 4 rfl) (hS5.cell 2 rfl u (iarr_get _ _ _ huN)) (hS5.cell 2 rfl j (iarr_get _ _ _ cb1))) (fun e w2 hc => ?_)
                  obtain ⟨rfl, hb2⟩ := hc
                  have hS6 := hS5.call hb2
                  clear hS5 hb2
                  refine .inl ⟨_, rfl, hS6.sub (.cons _ (.cons _ (.cons _ (.cons _ (.cons _ (.cons _ (.cons _ (.cons_cons _ (.cons_cons _ (List.nil_sublist _)))))))))), hK _ _ ?_⟩
                  clear hK Kv
                  refine pm_eff rfl rfl fun Kv hK => ?_
                  go_simp
                  refine ⟨hS6.sub (.cons _ (.cons _ (.cons _ (.cons _ (.cons _ (.cons _ (.cons _ (.cons_cons _ (.cons_cons _ (List.nil_sublist _)))))))))), hK _ _ ?_⟩
                  clear hK Kv
                  refine pm_eff rfl rfl fun Kv hK => ?_
                  go_simp
                  refine eff_call (nearer_yes W w2 B rb fb hb gf gb N ps.length cap pb n' _ cst x h far' by' v' f' _ u _ _ (k : Int) true rfl huN hN hnb hnear hS6) (fun e w3 hc => ?_)
                  obtain ⟨rfl, v2, hS7⟩ := hc
                  refine .inl ⟨_, rfl, hS7.sub (.cons _ (.cons _ (.cons _ (.cons _ (.cons _ (.cons _ (.cons _ (.cons_cons _ (.cons_cons _ (List.nil_sublist _)))))))))), hK _ _ ?_⟩
                  clear hK Kv hS6
                  refine pm_end ?_
                  have HS7 := Lib.hid hS7
                  clear hS7 HST hwr
                  go_wp2_with fail
                  go_roundg (ps.length - k)
                  case measure => omega
                  case rel => exact ⟨k + 1, _, _, _, _, _, n' + 1, v2, by omega, by go_num, by omega, box_out HS7.out, Lib.hid HK.out, Lib.hid (HP.out.put ⟨yk - (ct + h u - h j), (u : Int)⟩), Lib.hid (by rw [if_neg HNE.out]; exact HYK.out), Lib.hid (by have := HMS.out; omega)⟩
                · skip
                  have HK := Lib.hid (scan_back_far HD.out hlt HU.out.1 (by rw [HYK.out, HU.out.2.2.2.1]; exact hnear))
                  refine wp_region_sl [0,1,2,3,4,5,6,7,10,11] [8,9,12] [] [.blk ar #[.int .i64 (u : Int), .int .i64 (j : Int), .int .i64 rm, .int .i64 ct] 40, .blk bx #[.int .i64 yk, .int .i64 (j : Int)] 86] hS4 (.cons _ (.cons _ (.cons _ (.cons _ (.cons _ (.cons _ (.cons _ (.cons_cons _ (.cons_cons _ (List.nil_sublist _)))))))))) (by kernel_rfl) (by kernel_rfl) .nil (fun C cw _ hC => ?_)
                  have q0 : ∀ c, (cw c).cell? ⟨ar, 0, none⟩ = some (.int .i64 (u : Int)) := fun c => (hC c).cell 0 rfl 0 rfl
                  have q1 : ∀ c, (cw c).cell? ⟨ar, 1, none⟩ = some (.int .i64 (j : Int)) := fun c => (hC c).cell 0 rfl 1 rfl
                  have q2 : ∀ c, (cw c).cell? ⟨ar, 2, none⟩ = some (.int .i64 rm) := fun c => (hC c).cell 0 rfl 2 rfl
                  have q3 : ∀ c, (cw c).cell? ⟨ar, 3, none⟩ = some (.int .i64 ct) := fun c => (hC c).cell 0 rfl 3 rfl
                  have q4 : ∀ c, (cw c).cell? ⟨bx, 0, none⟩ = some (.int .i64 yk) := fun c => (hC c).cell 1 rfl 0 rfl
                  repeat (refine pl_look rfl rfl rfl (fun Kv hK => ?_); go_big_quiet_op; refine hK _ ?_; clear hK Kv)
                  clear q0 q1 q2 q3 q4 hC
                  refine pl_end ?_
                  intro w1 hS5
                  clear hS4
                  refine pm_eff rfl rfl fun Kv hK => ?_
                  go_simp
                  refine eff_call (HST.out w1 (hS5.cell 0 rfl 4 rfl) (hS5.cell 2 rfl u (iarr_get _ _ _ huN)) (hS5.cell 2 rfl j (iarr_get _ _ _ cb1))) (fun e w2 hc => ?_)
                  obtain ⟨rfl, hb2⟩ := hc
                  have hS6 := hS5.call hb2
                  clear hS5 hb2
                  refine .inl ⟨_, rfl, hS6.sub (.cons _ (.cons _ (.cons _ (.cons _ (.cons _ (.cons _ (.cons _ (.cons_cons _ (.cons_cons _ (List.nil_sublist _)))))))))), hK _ _ ?_⟩
                  clear hK Kv
                  refine pm_eff rfl rfl fun Kv hK => ?_
                  go_simp
                  refine ⟨hS6.sub (.cons _ (.cons _ (.cons _ (.cons _ (.cons _ (.cons _ (.cons _ (.cons_cons _ (.cons_cons _ (List.nil_sublist _)))))))))), hK _ _ ?_⟩
                  clear hK Kv
                  refine pm_eff rfl rfl fun Kv hK => ?_
                  go_simp
                  refine eff_call (nearer_no W w2 B rb fb hb gf gb N ps.length cap pb _ cst x h far' by' _ u _ _ (k : Int) true rfl huN hN hnear hS6) (fun e w3 hc => ?_)
                  obtain ⟨rfl, hS7⟩ := hc
                  refine .inl ⟨_, rfl, hS7.sub (.cons _ (.cons _ (.cons _ (.cons _ (.cons _ (.cons _ (.cons _ (.cons_cons _ (.cons_cons _ (List.nil_sublist _)))))))))), hK _ _ ?_⟩
                  clear hK Kv hS6
                  refine pm_end ?_
                  have HS7 := Lib.hid hS7
                  clear hS7 HST hwr
                  go_wp2_with fail
                  go_roundg (ps.length - k)
                  case measure => omega
                  case rel => exact ⟨k + 1, _, _, _, _, _, n', v', by omega, by go_num, by omega, box_out HS7.out, HK, HP, HYK, Lib.hid (by have := HMS.out; omega)⟩
              · have hdc := decide_eq_false p
                have HK := Lib.hid (scan_back_no HD.out hlt (by rw [HU.out.2.1]; intro h; exact p ⟨by omega, h.2⟩))
                have HS4 := Lib.hid hS4
                clear hS4
                go_wp2_with fail
                go_roundg (ps.length - k)
                case measure => omega
                case rel => exact ⟨k + 1, _, _, _, _, _, n', v', by omega, by go_num, by omega, box_out HS4.out, HK, HP, HYK, Lib.hid (by have := HMS.out; omega)⟩
            · obtain rfl : k = ps.length := by omega
              have HS := Lib.hid hS
              clear hS
              go_wp2_with fail
              go_meet
              exact ⟨far', by', _, M', rank', f', n', v', HS.out, Lib.hid (scan_end HD.out), HP, by have := HMS.out; omega⟩
        · rw [hdn] at y2
          have HS := Lib.hid hS
          clear hS
          have HK := Lib.hid (dij_skip HD.out.1 (y := ⟨yk, (j : Int)⟩) (by simpa using hdn))
          go_wp2_with fail
          go_meet
          exact ⟨far, by_, done, _, rank, f, n, v, HS.out, HK, Lib.hid HD.out.2.2.2, HMS.out⟩
      case rest =>
      clear hS HD HMS
      obtain ⟨far', by', done', M', rank', f', n', v', hS, HD, HP, hms⟩ := hcut
      have y0 : wc.cell? ⟨bx, 0, none⟩ = some (.int .i64 yk) := hS.cell 7 rfl 0 rfl
      have y1 : wc.cell? ⟨bx, 1, none⟩ = some (.int .i64 (j : Int)) := hS.cell 7 rfl 1 rfl
      have hS1 := hS.alloc #[.int .i64 yk, .int .i64 (j : Int)] 86
      have hlb := (hS.lt 7 rfl).2
      clear hS
      go_upto_region 6 with fail
      obtain ⟨b2, hb2⟩ : ∃ b2, b2 = wc.heap.size := ⟨_, rfl⟩
      generalize (wc.alloc (.cells #[.int .i64 yk, .int .i64 (j : Int)] 86)) = w7 at *
      rw [← hb2] at hS1 ⊢
      clear hb2 y0 y1 hlb
      have hS2 : SL W B (PileRs pb v' n' f' (RunRs rb fb hb gf gb N ps.length cap A cst x h far' by' (.blk b2 #[.int .i64 yk, .int .i64 (j : Int)] 86 :: .blk db (barr done' N) 4 :: rs))) w7 := run_pile (SL.sub (box_in hS1) (.cons_cons _ (.cons_cons _ (.cons_cons _ (.cons_cons _ (.cons_cons _ (.cons_cons _ (.cons_cons _ (.cons_cons _ (.cons _ (List.Sublist.refl _)))))))))))
      have hnb : n' ≤ 800000 := by have := HNL.out; omega
      clear hS1
      have HMS := Lib.hid hms
      clear hms
      cases n' with
      | zero =>
        have HTK := Lib.hid (take_none _ _ _ _ pb v' f' hS2)
        have hM0 : ∀ z, M' z = 0 := fun z => (HP.out.cnt z).symm
        have HM0 := Lib.hid hM0
        clear hS2 hM0
        go_wp2_with (go_at_call 44; (with_reducible refine HTK.out.mono ?_); rintro e w8 ⟨rfl, hS8⟩
                     have z0 : w8.cell? ⟨b2, 0, none⟩ = some (.int .i64 yk) := hS8.cell 7 rfl 0 rfl
                     have z1 : w8.cell? ⟨b2, 1, none⟩ = some (.int .i64 (j : Int)) := hS8.cell 7 rfl 1 rfl
                     have z2 := hS8.free 7 rfl 0
                     have z3 := hS8.free 7 rfl 1
                     have HS9 : Hid (SL W B _ _) := Lib.hid ((hS8.setCell 7 rfl 0 (.int .i64 0)).setCell 7 rfl 1 (.int .i64 0))
                     clear hS8)
        go_roundg (unseen done' N * (2 * ps.length + 1) + 0 + 1)
        case measure => exact HMS.out
        case rel => exact ⟨far', by', done', f', 0, v', b2, false, ⟨0, 0⟩, rfl, rfl, pile_run HS9.out, Lib.hid ⟨M', rank', HD.out, .inr ⟨rfl, HM0.out⟩⟩, by simp, by have := HMS.out; omega⟩
      | succ m =>
        obtain ⟨y, hy⟩ : ∃ y, f' 0 = y := ⟨_, rfl⟩
        have hfst := HP.out.first
        have htk := HP.out.take
        rw [hy] at hfst htk
        have HTK := Lib.hid (take_kv _ _ _ _ pb m v' f' y.key y.id hy hS2 (by omega))
        have HSt : Hid (LookSt N ps x h s far' by' done' (takeM f' m) m true y) := Lib.hid ⟨_, _, HD.out, .inl ⟨rfl, hfst.1, hfst.2, htk⟩⟩
        clear hS2 hfst htk hy
        go_wp2_with (go_at_call 44; (with_reducible refine HTK.out.mono ?_); rintro e w8 ⟨rfl, v8, hS8⟩
                     have z0 : w8.cell? ⟨b2, 0, none⟩ = some (.int .i64 yk) := hS8.cell 7 rfl 0 rfl
                     have z1 : w8.cell? ⟨b2, 1, none⟩ = some (.int .i64 (j : Int)) := hS8.cell 7 rfl 1 rfl
                     have z2 := hS8.free 7 rfl 0
                     have z3 := hS8.free 7 rfl 1
                     have HS9 : Hid (SL W B _ _) := Lib.hid ((hS8.setCell 7 rfl 0 (.int .i64 y.key)).setCell 7 rfl 1 (.int .i64 y.id))
                     clear hS8)
        go_roundg (unseen done' N * (2 * ps.length + 1) + (m + 1) + 1)
        case measure => exact HMS.out
        case rel => exact ⟨far', by', done', _, m, v8, b2, true, y, rfl, rfl, pile_run HS9.out, HSt, by simp, by have := HMS.out; omega⟩
end Go.Proofs.Ytgnmbmlpfjlbiaa
