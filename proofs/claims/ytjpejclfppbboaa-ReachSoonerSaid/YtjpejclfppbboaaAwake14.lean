/- law11.Awake, law14.Awake: fixed facts. (printed by gen/awake14.py) -/
import Derived.Test.YtjpejclfppbboaaReachC
import Derived.Test.YtjpejclfppbboaaOne
import Derived.Deep.CutBlock
import Derived.Deep.CutRange
import Derived.Deep.DeepCutAuto
namespace Go.Proofs.Ytjpejclfppbboaa
open Go.ChangeShapes Go.WideShapes Go.ChangeAt Go.RowKit
set_option linter.unusedVariables false
set_option linter.unusedSimpArgs false
def twoSats : InstV := ⟨0, 0, 0, 0, 0, [⟨0, 0⟩, ⟨0, 0⟩], [], [], []⟩
theorem two_code : twoSats.code = 9 := by decide +kernel
theorem two_lens : InstL twoSats := ⟨by decide, by decide, ⟨by decide, by intro r h; simp [twoSats] at h⟩, ⟨by decide, by intro r h; simp [twoSats] at h⟩⟩
theorem one_code : oneInst.code = 0 := by decide +kernel
theorem one_lens : InstL oneInst := ⟨by decide, by decide, ⟨by decide, by decide⟩, ⟨by decide, by decide⟩⟩
theorem info_sat11 : (Try.prog.info? 97).map (fun i => (i.zero, i.size, i.bytes)) = some (some (.agg #[.int .i64 0, .int .i64 0]), 2, 16) := by kernel_rfl
theorem make_two11 (w : World) : (Instr.makeSlice 35 (.int .i64 2) (.int .i64 2)).run Try.prog w = .ok (.slice (some ⟨w.heap.size, 0, none⟩) 2 2) (w.alloc (.cells #[.int .i64 0, .int .i64 0, .int .i64 0, .int .i64 0] 97)) := by
 obtain ⟨i, h1, h2, h3, h4⟩ := info_parts info_sat11
 have := run_make (P := Try.prog) w 35 97 i _ Try.underlying35 h1 h2 .i64 .i64 2 2 (by omega) (by omega) (by rw [h4]; omega) (by omega)
 have e : madeCells (Value.cells (.agg #[.int .i64 0, .int .i64 0])) (Int.toNat 2 * 2) = #[.int .i64 0, .int .i64 0, .int .i64 0, .int .i64 0] := by kernel_rfl
 rw [this, h3, e]
 rfl
theorem mat_none {w : World} {B : Nat} : Mat w B none [] := ⟨[], ⟨rfl, fun h => absurd h (by simp)⟩, fun i hi => absurd hi (by simp)⟩
theorem two_in {w : World} {sb : Nat} {t : TypeId} (h : w.heap[sb]? = some (.cells #[.int .i64 0, .int .i64 0, .int .i64 0, .int .i64 0] t (0, 0))) : InstIn w w.heap.size ⟨some ⟨sb, 0, none⟩, 2, none, 0, none, 0, none, 0⟩ twoSats := by
 refine ⟨⟨rfl, fun _ => ⟨_, rfl, (Array.getElem?_eq_some_iff.1 h).1, fun j u hu => ?_⟩⟩, ⟨rfl, fun h => absurd h (by simp [twoSats])⟩, mat_none, mat_none⟩
 rw [Addr.add_mid, Nat.zero_add, cell_of_row _ _ _ _ _ _ h]
 simpa [twoSats, SatV.cells] using hu
set_option maxRecDepth 100000 in
set_option maxHeartbeats 4000000 in
theorem awake11 (w : World) : Calls Try.prog 56 #[] w fun e w' => e = .returned (.bool true) ∧ Below w.heap.size w w' := by
 have hmk := make_two11 w
 obtain ⟨sb, hsb⟩ : ∃ b, w.heap.size = b := ⟨_, rfl⟩
 have hS := ((SL.start (W := w) (Nat.le_refl w.heap.size)).alloc #[.int .i64 0, .int .i64 0, .int .i64 0, .int .i64 0] 97).alloc #[.int .i64 0, .int .i64 0, .int .i64 0, .int .i64 0, .int .i64 0, .slice (some ⟨sb, 0, none⟩) 2 2, .slice none 0 0, .slice none 0 0, .slice none 0 0] 39
 have HSQ := Lib.hid hsb
 rw [hsb] at hmk
 simp only [alloc_size, hsb] at hS
 obtain ⟨w1, hw1⟩ : ∃ y, (w.alloc (.cells #[.int .i64 0, .int .i64 0, .int .i64 0, .int .i64 0] 97)) = y := ⟨_, rfl⟩
 have hz1 : w1.heap.size = sb + 1 := by rw [← hw1, alloc_size, hsb]
 rw [hw1] at hS hmk
 obtain ⟨xb, hxb⟩ : ∃ b, sb + 1 = b := ⟨_, rfl⟩
 rw [hxb] at hz1 hS
 obtain ⟨w2, hw2⟩ : ∃ y, (w1.alloc (.cells #[.int .i64 0, .int .i64 0, .int .i64 0, .int .i64 0, .int .i64 0, .slice (some ⟨sb, 0, none⟩) 2 2, .slice none 0 0, .slice none 0 0, .slice none 0 0] 39)) = y := ⟨_, rfl⟩
 rw [hw2] at hS
 have HW2 := Lib.hid hw2
 have HZ1 := Lib.hid hz1
 have HS := Lib.hid hS
 clear hw1 hxb hS hw2 hz1
 go_enter Try.func56, Try.ntmps56
 go_upto_region 2 with fail
 rw [HW2.out, HZ1.out]
 clear hmk
 have HCU : Hid (Calls Try.prog 52 #[.agg #[.int .i64 0, .int .i64 0, .int .i64 0, .int .i64 0, .int .i64 0, .slice (some ⟨sb, 0, none⟩) 2 2, .slice none 0 0, .slice none 0 0, .slice none 0 0], .int .i64 1] w2 fun e w' => e = .returned (.int .i64 4) ∧ Below w2.heap.size w2 w') := Lib.hid (by
  have h := customer_any twoSats ⟨some ⟨sb, 0, none⟩, 2, none, 0, none, 0, none, 0⟩ 1 w2 (by decide)
  rw [show wrap64 (1 + (twoSats.sats.length : Int) + 1) = 4 by show wrap64 (1 + ((2 : Nat) : Int) + 1) = 4; unfold wrap64; omega] at h
  exact h)
 have HC1 : Hid (∀ wx, Below w2.heap.size w2 wx → Calls Try.prog 24 #[.agg #[.int .i64 0, .int .i64 0, .int .i64 0, .int .i64 0, .int .i64 0, .slice (some ⟨sb, 0, none⟩) 2 2, .slice none 0 0, .slice none 0 0, .slice none 0 0]] wx fun e w' => e = .returned (.int .i64 9) ∧ Below wx.heap.size wx w') := Lib.hid (fun wx hb => by
  have h := check_any twoSats ⟨some ⟨sb, 0, none⟩, 2, none, 0, none, 0, none, 0⟩ wx ((two_in (HS.out.blk 1 rfl)).at_ hb) two_lens
  rw [two_code] at h
  exact h)
 have d0 : w2.cell? ⟨xb, 0, none⟩ = some (.int .i64 0) := HS.out.cell 0 rfl 0 rfl
 have d1 : w2.cell? ⟨xb, 1, none⟩ = some (.int .i64 0) := HS.out.cell 0 rfl 1 rfl
 have d2 : w2.cell? ⟨xb, 2, none⟩ = some (.int .i64 0) := HS.out.cell 0 rfl 2 rfl
 have d3 : w2.cell? ⟨xb, 3, none⟩ = some (.int .i64 0) := HS.out.cell 0 rfl 3 rfl
 have d4 : w2.cell? ⟨xb, 4, none⟩ = some (.int .i64 0) := HS.out.cell 0 rfl 4 rfl
 have d5 : w2.cell? ⟨xb, 5, none⟩ = some (.slice (some ⟨sb, 0, none⟩) 2 2) := HS.out.cell 0 rfl 5 rfl
 have d6 : w2.cell? ⟨xb, 6, none⟩ = some (.slice none 0 0) := HS.out.cell 0 rfl 6 rfl
 have d7 : w2.cell? ⟨xb, 7, none⟩ = some (.slice none 0 0) := HS.out.cell 0 rfl 7 rfl
 have d8 : w2.cell? ⟨xb, 8, none⟩ = some (.slice none 0 0) := HS.out.cell 0 rfl 8 rfl
 go_wp2_with (first
  | (go_at_call 52; (with_reducible refine HCU.out.mono ?_); rintro e w3 ⟨rfl, hb⟩
     have HB3 := Lib.hid hb
     have HS3 := Lib.hid (HS.out.call hb)
     have e0 : w3.cell? ⟨xb, 0, none⟩ = some (.int .i64 0) := HS3.out.cell 0 rfl 0 rfl
     have e1 : w3.cell? ⟨xb, 1, none⟩ = some (.int .i64 0) := HS3.out.cell 0 rfl 1 rfl
     have e2 : w3.cell? ⟨xb, 2, none⟩ = some (.int .i64 0) := HS3.out.cell 0 rfl 2 rfl
     have e3 : w3.cell? ⟨xb, 3, none⟩ = some (.int .i64 0) := HS3.out.cell 0 rfl 3 rfl
     have e4 : w3.cell? ⟨xb, 4, none⟩ = some (.int .i64 0) := HS3.out.cell 0 rfl 4 rfl
     have e5 : w3.cell? ⟨xb, 5, none⟩ = some (.slice (some ⟨sb, 0, none⟩) 2 2) := HS3.out.cell 0 rfl 5 rfl
     have e6 : w3.cell? ⟨xb, 6, none⟩ = some (.slice none 0 0) := HS3.out.cell 0 rfl 6 rfl
     have e7 : w3.cell? ⟨xb, 7, none⟩ = some (.slice none 0 0) := HS3.out.cell 0 rfl 7 rfl
     have e8 : w3.cell? ⟨xb, 8, none⟩ = some (.slice none 0 0) := HS3.out.cell 0 rfl 8 rfl
     clear hb HCU d0 d1 d2 d3 d4 d5 d6 d7 d8)
  | (go_at_call 24; (with_reducible refine (HC1.out _ HB3.out).mono ?_); rintro e w4 ⟨rfl, hb⟩
     have HS4 := Lib.hid (HS3.out.call hb)
     clear hb HC1 e0 e1 e2 e3 e4 e5 e6 e7 e8)
  | (go_at_call 44; (with_reducible refine (one_any _).mono ?_); rintro e w5 ⟨q, hk, ht, rfl, h1, h2, hS5⟩
     have HS5 := Lib.hid (HS4.out.join hS5)
     have h9 := check_any oneInst q w5 (instIn_own hS5 (fun r h => h) h1 h2) one_lens
     rw [one_code] at h9
     have HC9 := Lib.hid h9
     clear hS5 h1 h2 h9)
  | (go_at_call 24; (with_reducible refine HC9.out.mono ?_); rintro e w6 ⟨rfl, hb⟩
     have HS6 := Lib.hid (HS5.out.call hb)
     clear hb HC9))
 go_ret
 exact ⟨rfl, by rw [HSQ.out]; exact HS6.out.below⟩
def inst14 : InstV := { oneInst with sats := [⟨60, 3⟩], time := [[0, 4, 0], [0, 0, 0], [0, 0, 0]] }
theorem inst14_ready : readyM inst14 = [7] := by decide +kernel
theorem inst14_fit : inst14.Fit := by
 refine ⟨by decide +kernel, ⟨by decide, by decide, ⟨by decide, by decide⟩, ⟨by decide, by decide⟩⟩, by decide, by decide, by decide, by decide, ?_, ?_, by decide, by decide⟩
 · intro s hs; simp [inst14] at hs; subst hs; simp
 · intro s hs; simp [inst14, oneInst] at hs; subst hs; simp
theorem list3_14 {α : Type} {l : List α} (h : l.length = 3) : ∃ a b c, l = [a, b, c] := by
 match l, h with
 | [a, b, c], _ => exact ⟨a, b, c, rfl⟩
set_option maxRecDepth 100000 in
set_option maxHeartbeats 4000000 in
theorem awake14 (w : World) : Calls Try.prog 26 #[] w fun e w' => e = .returned (.bool true) ∧ Below w.heap.size w w' := by
 have HON := Lib.hid (one_any w)
 go_enter Try.func26, Try.ntmps26
 go_wp2_with fail
 (with_reducible refine HON.out.mono ?_)
 rintro e w1 ⟨p, hk, ht, he, h1, h2, hS⟩
 obtain ⟨h0, h1', h2', rfl⟩ := list3_14 (show hk.length = 3 from h1)
 obtain ⟨k0, k1, k2, rfl⟩ := list3_14 (show ht.length = 3 from h2)
 obtain ⟨gt, ot, tc, hTA⟩ : ∃ g o c, Value.slice p.TA 3 p.tc = .slice (some ⟨g, o, none⟩) 3 c := by
  rcases (hS.row 3 rfl).in_ with h | ⟨g, o, c, h, _⟩
  · exact absurd h (by decide)
  · exact ⟨g, o, c, h⟩
 obtain ⟨gs, os, sc, hSA⟩ : ∃ g o c, Value.slice p.SA 1 p.sc = .slice (some ⟨g, o, none⟩) 1 c := by
  rcases (hS.row 0 rfl).in_ with h | ⟨g, o, c, h, _⟩
  · exact absurd h (by decide)
  · exact ⟨g, o, c, h⟩
 obtain ⟨g0, o0, c0', h0e⟩ : ∃ g o c, k0 = .slice (some ⟨g, o, none⟩) 3 c := by
  rcases (hS.row 7 rfl).in_ with h | ⟨g, o, c, h, _⟩
  · exact absurd h (by decide)
  · exact ⟨g, o, c, h⟩
 obtain ⟨SA, sc2, CA, cc, KA, kc, TA, tc2⟩ := p
 obtain ⟨rfl, rfl⟩ : TA = some ⟨gt, ot, none⟩ ∧ tc = tc2 := by simpa [eq_comm] using hTA
 obtain ⟨rfl, rfl⟩ : SA = some ⟨gs, os, none⟩ ∧ sc = sc2 := by simpa [eq_comm] using hSA
 have hic2 : oneInst.cells ⟨some ⟨gs, os, none⟩, sc, CA, cc, KA, kc, some ⟨gt, ot, none⟩, tc⟩ = #[.int .i64 40, .int .i64 1, .int .i64 5, .int .i64 1, .int .i64 3, .slice (some ⟨gs, os, none⟩) 1 sc, .slice CA 1 cc, .slice KA 3 kc, .slice (some ⟨gt, ot, none⟩) 3 tc] := rfl
 rw [hic2] at he
 subst he
 have hS2 := hS.alloc #[.int .i64 40, .int .i64 1, .int .i64 5, .int .i64 1, .int .i64 3, .slice (some ⟨gs, os, none⟩) 1 sc, .slice CA 1 cc, .slice KA 3 kc, .slice (some ⟨gt, ot, none⟩) 3 tc] 39
 subst h0e
 have HS2 := Lib.hid hS2
 clear hS hS2 hic2 h1 h2 HON hTA hSA
 go_upto_region 2 with fail
 obtain ⟨xb, hxb⟩ : ∃ xb, xb = w1.heap.size := ⟨_, rfl⟩
 try dsimp only at HS2
 generalize (w1.alloc (.cells #[.int .i64 40, .int .i64 1, .int .i64 5, .int .i64 1, .int .i64 3, .slice (some ⟨gs, os, none⟩) 1 sc, .slice CA 1 cc, .slice KA 3 kc, .slice (some ⟨gt, ot, none⟩) 3 tc] 39)) = w2 at *
 rw [← hxb] at HS2 ⊢
 clear hxb
 refine wp_region_sl [0,1,2,3,4,5] [6,7] [8,9,10] [.blk xb #[.int .i64 40, .int .i64 1, .int .i64 5, .int .i64 1, .int .i64 3, .slice (some ⟨gs, os, none⟩) 1 sc, .slice CA 1 cc, .slice KA 3 kc, .slice (some ⟨gt, ot, none⟩) 3 tc] 39, .row 51 1 (.slice (some ⟨gt, ot, none⟩) 3 tc) 3 [.slice (some ⟨g0, o0, none⟩) 3 c0', k1, k2]] HS2.out (.cons_cons _ (.cons _ (.cons _ (.cons _ (.cons_cons _ (List.nil_sublist _)))))) (by kernel_rfl) (by kernel_rfl) (.cons rfl (.cons rfl (.cons rfl .nil))) (fun C cw _ hC => ?_)
 have q0 : ∀ c, (cw c).cell? ⟨xb, 8, none⟩ = some (.slice (some ⟨gt, ot, none⟩) 3 tc) := fun c => (hC c).cell 0 rfl 8 rfl
 have q1 : ∀ c, (cw c).cell? ⟨gt, ot, none⟩ = some (.slice (some ⟨g0, o0, none⟩) 3 c0') := fun c => (hC c).rowCell 1 rfl 0 rfl
 have q2 : ∀ c, (cw c).cell? ⟨xb, 5, none⟩ = some (.slice (some ⟨gs, os, none⟩) 1 sc) := fun c => (hC c).cell 0 rfl 5 rfl
 repeat (refine pl_look rfl rfl rfl (fun Kv hK => ?_); go_big_quiet_op; refine hK _ ?_; clear hK Kv)
 clear q0 q1 q2 hC HS2
 refine pl_end ?_
 intro w5 hS5
 refine pm_eff rfl rfl fun Kv hK => ?_
 go_simp
 refine ⟨hS5.sub (.cons_cons _ (.cons _ (.cons _ (.cons _ (.cons_cons _ (List.nil_sublist _)))))), hK _ _ ?_⟩
 clear hK Kv
 have y0 : w5.cell? ⟨g0, o0 + 1, none⟩ = some (.int .i64 0) := hS5.rowCell 8 rfl 1 rfl
 have y0f := hS5.rowFree 8 rfl (o0 + 1) (by decide)
 refine pm_eff rfl rfl fun Kv hK => ?_
 go_simp
 have hS6 := hS5.setRowCell 8 rfl 1 (by decide) (.int .i64 4)
 refine ⟨hS6.sub (.cons_cons _ (.cons _ (.cons _ (.cons _ (.cons_cons _ (List.nil_sublist _)))))), hK _ _ ?_⟩
 clear hK Kv y0 y0f
 refine pm_end ?_
 obtain ⟨w6, hw6⟩ : ∃ y, w5.setCell ⟨g0, o0 + 1, none⟩ (.int .i64 4) = y := ⟨_, rfl⟩
 rw [hw6] at hS6 ⊢
 clear hw6
 have y1 : w6.cell? ⟨gs, os + 1, none⟩ = some (.int .i64 2) := hS6.rowCell 1 rfl 1 rfl
 have y1f := hS6.rowFree 1 rfl (os + 1) (by decide)
 have HS7 := Lib.hid (hS6.setRowCell 1 rfl 1 (by decide) (.int .i64 3))
 clear hS5 hS6
 go_upto_region 3 with fail
 clear y1 y1f
 have hS8 : SL w w.heap.size (.blk xb #[.int .i64 40, .int .i64 1, .int .i64 5, .int .i64 1, .int .i64 3, .slice (some ⟨gs, os, none⟩) 1 sc, .slice CA 1 cc, .slice KA 3 kc, .slice (some ⟨gt, ot, none⟩) 3 tc] 39 :: instRs ⟨some ⟨gs, os, none⟩, sc, CA, cc, KA, kc, some ⟨gt, ot, none⟩, tc⟩ inst14 [h0, h1', h2'] [.slice (some ⟨g0, o0, none⟩) 3 c0', k1, k2]) _ := HS7.out
 generalize (w6.setCell ⟨gs, os + 1, none⟩ (.int .i64 3)) = w7 at *
 clear HS7
 have HRD : Hid (Calls Try.prog 28 #[.agg #[.int .i64 40, .int .i64 1, .int .i64 5, .int .i64 1, .int .i64 3, .slice (some ⟨gs, os, none⟩) 1 sc, .slice CA 1 cc, .slice KA 3 kc, .slice (some ⟨gt, ot, none⟩) 3 tc]] w7 (ReadyR w7 [7])) := Lib.hid (by
  have h := ready_any inst14 ⟨some ⟨gs, os, none⟩, sc, CA, cc, KA, kc, some ⟨gt, ot, none⟩, tc⟩ w7 (instIn_own hS8 (fun r hr => List.mem_cons_of_mem _ hr) rfl rfl) inst14_fit
  rw [inst14_ready] at h
  exact h)
 have HB7 := Lib.hid hS8.below
 have d0 : w7.cell? ⟨xb, 0, none⟩ = some (.int .i64 40) := hS8.cell 0 rfl 0 rfl
 have d1 : w7.cell? ⟨xb, 1, none⟩ = some (.int .i64 1) := hS8.cell 0 rfl 1 rfl
 have d2 : w7.cell? ⟨xb, 2, none⟩ = some (.int .i64 5) := hS8.cell 0 rfl 2 rfl
 have d3 : w7.cell? ⟨xb, 3, none⟩ = some (.int .i64 1) := hS8.cell 0 rfl 3 rfl
 have d4 : w7.cell? ⟨xb, 4, none⟩ = some (.int .i64 3) := hS8.cell 0 rfl 4 rfl
 have d5 : w7.cell? ⟨xb, 5, none⟩ = some (.slice (some ⟨gs, os, none⟩) 1 sc) := hS8.cell 0 rfl 5 rfl
 have d6 : w7.cell? ⟨xb, 6, none⟩ = some (.slice CA 1 cc) := hS8.cell 0 rfl 6 rfl
 have d7 : w7.cell? ⟨xb, 7, none⟩ = some (.slice KA 3 kc) := hS8.cell 0 rfl 7 rfl
 have d8 : w7.cell? ⟨xb, 8, none⟩ = some (.slice (some ⟨gt, ot, none⟩) 3 tc) := hS8.cell 0 rfl 8 rfl
 have HS8Z := Lib.hid hS8.size
 clear hS8
 go_upto_region 4 with (go_at_call 28; (with_reducible refine HRD.out.mono ?_); rintro e w8 ⟨A, c, rfl, hl, hb⟩)
 clear HRD d0 d1 d2 d3 d4 d5 d6 d7 d8
 obtain ⟨bl, ol, rfl, hbl, e0⟩ := reads_plain hl (by decide) Nat.one_pos
 have y0 : w8.cell? ⟨bl, ol, none⟩ = some (.int .i64 7) := e0 0 _ rfl
 have HB8 : Hid (Below w.heap.size w w8) := Lib.hid (HB7.out.trans (hb.mono HS8Z.out))
 clear hl hb e0
 have HAW := Lib.hid (awake11 w8)
 go_wp2_with (go_at_call 56; (with_reducible refine HAW.out.mono ?_); rintro e w9 ⟨rfl, hb⟩; have HB9 : Hid (Below w.heap.size w w9) := Lib.hid (HB8.out.trans (hb.mono HB8.out.size)); clear hb)
 go_ret
 exact ⟨rfl, HB9.out⟩
end Go.Proofs.Ytjpejclfppbboaa
