/- law17.Awake: a fixed fact. (printed by gen/awake17.py) -/
import Derived.Test.YtjpejclfppbboaaOne
import Derived.Test.YtjpejclfppbboaaCost17
namespace Go.Proofs.Ytjpejclfppbboaa
open Go.ChangeShapes Go.WideShapes Go.ChangeAt Go.RowKit
set_option linter.unusedVariables false
def oneCost : InstV := { oneInst with cost := [[0, 5, 0], [0, 0, 7], [0, 0, 0]] }
def planE : PlanV := ⟨[[⟨0, 2⟩]], [⟨0, [0]⟩]⟩
theorem oneCost_small : oneCost.Small := by
  unfold oneCost oneInst
  refine ⟨by decide, by decide, by decide, by decide, by decide, by decide, by decide, ?_, ?_, by decide, by decide, by decide, by decide⟩
  · intro s hs; simp at hs; subst hs; simp
  · intro s hs; simp at hs; subst hs; simp
theorem planE_code : planCode oneCost planE = 0 := by decide +kernel
theorem planE_cost : planCost oneCost planE = 12 := by decide +kernel
theorem planN_code : planCode oneCost ⟨[], []⟩ = 8 := by decide +kernel
theorem planE_l : PlanL planE := ⟨by decide, by decide, by decide, by decide⟩
theorem planN_l : PlanL ⟨[], []⟩ := ⟨by decide, by decide, by decide, by decide⟩
theorem reads_blk {w : World} {g n size : Nat} {cs : Array Value} {t : TypeId} (h : w.heap[g]? = some (.cells cs t (0, 0))) (hc : cs.size = n * size) : Reads w w.heap.size size (some ⟨g, 0, none⟩) n cs.toList := by
  refine ⟨by simpa using hc, fun _ => ⟨_, rfl, (Array.getElem?_eq_some_iff.1 h).1, fun j u hu => ?_⟩⟩
  rw [Addr.add_mid, Nat.zero_add, cell_of_row _ _ _ _ _ _ h]
  simpa using hu
theorem planE_in {w : World} {n : Nat} {t1 t2 t3 t4 : TypeId} (h0 : w.heap[n]? = some (.cells #[.int .i64 0, .int .i64 2] t1 (0, 0))) (h1 : w.heap[n + 1]? = some (.cells #[.slice (some ⟨n, 0, none⟩) 1 1] t2 (0, 0)))
    (h2 : w.heap[n + 2]? = some (.cells #[.int .i64 0] t3 (0, 0))) (h3 : w.heap[n + 3]? = some (.cells #[.int .i64 0, .slice (some ⟨n + 2, 0, none⟩) 1 1] t4 (0, 0))) : PlanIn w w.heap.size (some ⟨n + 1, 0, none⟩) (some ⟨n + 3, 0, none⟩) planE := by
  refine ⟨⟨fun _ => ⟨some ⟨n, 0, none⟩, 1⟩, reads_blk (n := 1) (size := 1) h1 rfl, fun i hi => ?_⟩, ⟨fun _ => ⟨some ⟨n + 2, 0, none⟩, 1⟩, reads_blk (n := 1) (size := 2) h3 rfl, fun i hi => ?_⟩⟩
  · have : i = 0 := by simp [planE] at hi; exact hi
    subst this
    exact reads_blk (n := 1) (size := 2) h0 rfl
  · have : i = 0 := by simp [planE] at hi; exact hi
    subst this
    exact reads_blk (n := 1) (size := 1) h2 rfl
theorem list3 {α : Type} {l : List α} (h : l.length = 3) : ∃ a b c, l = [a, b, c] := by
  match l, h with
  | [a, b, c], _ => exact ⟨a, b, c, rfl⟩
theorem planN_in (w : World) : PlanIn w w.heap.size none none ⟨[], []⟩ := ⟨⟨fun _ => ⟨none, 0⟩, ⟨rfl, fun h => absurd h (by simp)⟩, fun i hi => absurd hi (by simp)⟩, ⟨fun _ => ⟨none, 0⟩, ⟨rfl, fun h => absurd h (by simp)⟩, fun i hi => absurd hi (by simp)⟩⟩
set_option maxRecDepth 100000 in
set_option maxHeartbeats 4000000 in
theorem awake17 (w : World) : Calls Try.prog 14 #[] w fun e w' => e = .returned (.bool true) ∧ Below w.heap.size w w' := by
  have HON := Lib.hid (one_any w)
  go_enter Try.func14, Try.ntmps14
  go_wp2_with fail
  (with_reducible refine HON.out.mono ?_)
  rintro e w1 ⟨p, hk, ht, he, h1, h2, hS⟩
  obtain ⟨h0, h1', h2', rfl⟩ := list3 (show hk.length = 3 from h1)
  obtain ⟨k0, k1, k2, rfl⟩ := list3 (show ht.length = 3 from h2)
  obtain ⟨gk, ok, kc, hKA⟩ : ∃ g o c, Value.slice p.KA 3 p.kc = .slice (some ⟨g, o, none⟩) 3 c := by
    rcases (hS.row 2 rfl).in_ with h | ⟨g, o, c, h, _⟩
    · exact absurd h (by decide)
    · exact ⟨g, o, c, h⟩
  obtain ⟨g0, o0, c0', h0e⟩ : ∃ g o c, h0 = .slice (some ⟨g, o, none⟩) 3 c := by
    rcases (hS.row 4 rfl).in_ with h | ⟨g, o, c, h, _⟩
    · exact absurd h (by decide)
    · exact ⟨g, o, c, h⟩
  obtain ⟨g1, o1, c1', h1e⟩ : ∃ g o c, h1' = .slice (some ⟨g, o, none⟩) 3 c := by
    rcases (hS.row 5 rfl).in_ with h | ⟨g, o, c, h, _⟩
    · exact absurd h (by decide)
    · exact ⟨g, o, c, h⟩
  have hic2 : oneInst.cells p = #[.int .i64 40, .int .i64 1, .int .i64 5, .int .i64 1, .int .i64 3, .slice p.SA 1 p.sc, .slice p.CA 1 p.cc, .slice (some ⟨gk, ok, none⟩) 3 kc, .slice p.TA 3 p.tc] := by
    show #[Value.int .i64 40, .int .i64 1, .int .i64 5, .int .i64 1, .int .i64 3, .slice p.SA 1 p.sc, .slice p.CA 1 p.cc, .slice p.KA 3 p.kc, .slice p.TA 3 p.tc] = _
    rw [hKA]
  rw [hic2] at he
  subst he
  have hS2 := hS.alloc #[.int .i64 40, .int .i64 1, .int .i64 5, .int .i64 1, .int .i64 3, .slice p.SA 1 p.sc, .slice p.CA 1 p.cc, .slice (some ⟨gk, ok, none⟩) 3 kc, .slice p.TA 3 p.tc] 39
  have HKA := Lib.hid hKA
  subst h0e h1e
  obtain ⟨SA, sc, CA, cc, KA, kc2, TA, tc⟩ := p
  obtain ⟨rfl, rfl⟩ : KA = some ⟨gk, ok, none⟩ ∧ kc = kc2 := by simpa [eq_comm] using hKA
  have HS2 := Lib.hid hS2
  clear hS hS2 hic2 h1 h2 HON hKA HKA
  go_upto_region 2 with fail
  obtain ⟨xb, hxb⟩ : ∃ xb, xb = w1.heap.size := ⟨_, rfl⟩
  try dsimp only at HS2
  generalize (w1.alloc (.cells #[.int .i64 40, .int .i64 1, .int .i64 5, .int .i64 1, .int .i64 3, .slice SA 1 sc, .slice CA 1 cc, .slice (some ⟨gk, ok, none⟩) 3 kc, .slice TA 3 tc] 39)) = w2 at *
  rw [← hxb] at HS2 ⊢
  clear hxb
  refine wp_region_sl [0,1,2,3,4,5,6,7] [] [8,9,10,11] _ HS2.out (List.Sublist.refl _) (by kernel_rfl) (by kernel_rfl) (.cons rfl (.cons rfl (.cons rfl (.cons rfl .nil)))) (fun C cw _ hC => ?_)
  have q0 : ∀ c, (cw c).cell? ⟨xb, 7, none⟩ = some (.slice (some ⟨gk, ok, none⟩) 3 kc) := fun c => (hC c).cell 0 rfl 7 rfl
  have q1 : ∀ c, (cw c).cell? ⟨gk, ok, none⟩ = some (.slice (some ⟨g0, o0, none⟩) 3 c0') := fun c => (hC c).rowCell 3 rfl 0 rfl
  have q2 : ∀ c, (cw c).cell? ⟨gk, ok + 1, none⟩ = some (.slice (some ⟨g1, o1, none⟩) 3 c1') := fun c => (hC c).rowCell 3 rfl 1 rfl
  repeat (refine pl_look rfl rfl rfl (fun Kv hK => ?_); go_big_quiet_op; refine hK _ ?_; clear hK Kv)
  clear q0 q1 q2 hC HS2
  refine pl_end ?_
  intro w5 hS5
  refine pm_end ?_
  have y0 : w5.cell? ⟨g0, o0 + 1, none⟩ = some (.int .i64 0) := hS5.rowCell 5 rfl 1 rfl
  have y0f := hS5.rowFree 5 rfl (o0 + 1) (by decide)
  have hS6 := hS5.setRowCell 5 rfl 1 (by decide) (.int .i64 5)
  have y1 : (w5.setCell ⟨g0, o0 + 1, none⟩ (.int .i64 5)).cell? ⟨g1, o1 + 2, none⟩ = some (.int .i64 0) := hS6.rowCell 6 rfl 2 rfl
  have y1f := hS6.rowFree 6 rfl (o1 + 2) (by decide)
  have HS7 := Lib.hid (hS6.setRowCell 6 rfl 2 (by decide) (.int .i64 7))
  clear hS5 hS6
  go_upto_region 3 with fail
  clear y0 y0f y1 y1f
  have hS7 : SL w w.heap.size (.blk xb #[.int .i64 40, .int .i64 1, .int .i64 5, .int .i64 1, .int .i64 3, .slice SA 1 sc, .slice CA 1 cc, .slice (some ⟨gk, ok, none⟩) 3 kc, .slice TA 3 tc] 39 :: instRs ⟨SA, sc, CA, cc, some ⟨gk, ok, none⟩, kc, TA, tc⟩ oneCost [.slice (some ⟨g0, o0, none⟩) 3 c0', .slice (some ⟨g1, o1, none⟩) 3 c1', h2'] [k0, k1, k2]) _ := HS7.out
  generalize ((w5.setCell ⟨g0, o0 + 1, none⟩ (.int .i64 5)).setCell ⟨g1, o1 + 2, none⟩ (.int .i64 7)) = w6 at *
  clear HS7
  obtain ⟨n, hn⟩ : ∃ n, n = w6.heap.size := ⟨_, rfl⟩
  have hzx := (hS7.lt 0 rfl).2
  have hS8 := ((((hS7.alloc #[.int .i64 0, .int .i64 2] 54).alloc #[.slice (some ⟨n, 0, none⟩) 1 1] 49).alloc #[.int .i64 0] 3).alloc #[.int .i64 0, .slice (some ⟨n + 2, 0, none⟩) 1 1] 46).alloc #[.slice (some ⟨n + 1, 0, none⟩) 1 1, .slice (some ⟨n + 3, 0, none⟩) 1 1] 30

  rw [show ((((w6.alloc (.cells #[.int .i64 0, .int .i64 2] 54)).alloc (.cells #[.slice (some ⟨n, 0, none⟩) 1 1] 49)).alloc (.cells #[.int .i64 0] 3)).alloc (.cells #[.int .i64 0, .slice (some ⟨n + 2, 0, none⟩) 1 1] 46)).heap.size = n + 4 by simp; omega, show (((w6.alloc (.cells #[.int .i64 0, .int .i64 2] 54)).alloc (.cells #[.slice (some ⟨n, 0, none⟩) 1 1] 49)).alloc (.cells #[.int .i64 0] 3)).heap.size = n + 3 by simp; omega, show ((w6.alloc (.cells #[.int .i64 0, .int .i64 2] 54)).alloc (.cells #[.slice (some ⟨n, 0, none⟩) 1 1] 49)).heap.size = n + 2 by simp; omega, show (w6.alloc (.cells #[.int .i64 0, .int .i64 2] 54)).heap.size = n + 1 by simp; omega, ← hn] at hS8
  have HS8 := Lib.hid hS8
  clear hS8 hS7
  have HHN := Lib.hid hn
  clear hn
  go_upto_region 4 with fail
  have hn := HHN.out
  rw [show w6.heap.size + 1 + 1 + 1 + 1 = n + 4 by omega, show w6.heap.size + 1 + 1 + 1 = n + 3 by omega, show w6.heap.size + 1 + 1 = n + 2 by omega, ← hn]
  generalize (((((w6.alloc (.cells #[.int .i64 0, .int .i64 2] 54)).alloc (.cells #[.slice (some ⟨n, 0, none⟩) 1 1] 49)).alloc (.cells #[.int .i64 0] 3)).alloc (.cells #[.int .i64 0, .slice (some ⟨n + 2, 0, none⟩) 1 1] 46)).alloc (.cells #[.slice (some ⟨n + 1, 0, none⟩) 1 1, .slice (some ⟨n + 3, 0, none⟩) 1 1] 30)) = w9 at *
  clear hn HHN hzx
  obtain ⟨ic, hic⟩ : ∃ ic : Array Value, ic = #[.int .i64 40, .int .i64 1, .int .i64 5, .int .i64 1, .int .i64 3, .slice SA 1 sc, .slice CA 1 cc, .slice (some ⟨gk, ok, none⟩) 3 kc, .slice TA 3 tc] := ⟨_, rfl⟩
  obtain ⟨pc, hpc⟩ : ∃ pc : Array Value, pc = #[.slice (some ⟨n + 1, 0, none⟩) 1 1, .slice (some ⟨n + 3, 0, none⟩) 1 1] := ⟨_, rfl⟩
  have HIC := Lib.hid hic
  have HPC := Lib.hid hpc
  have hS9 := HS8.out
  rw [← hic, ← hpc] at hS9
  have HS9 := Lib.hid hS9
  have HIN : Hid (InstIn w9 w9.heap.size ⟨SA, sc, CA, cc, some ⟨gk, ok, none⟩, kc, TA, tc⟩ oneCost) := Lib.hid (instIn_own hS9 (fun r hr => by simp only [List.mem_cons]; exact .inr (.inr (.inr (.inr (.inr (.inr hr)))))) rfl rfl)
  have HPL : Hid (PlanIn w9 w9.heap.size (some ⟨n + 1, 0, none⟩) (some ⟨n + 3, 0, none⟩) planE) := Lib.hid (planE_in (hS9.blk 4 rfl) (hS9.blk 3 rfl) (hS9.blk 2 rfl) (hS9.blk 1 rfl))
  have HCO : Hid (∀ wx, Below w9.heap.size w9 wx → Calls Try.prog 25 #[.agg #[.int .i64 40, .int .i64 1, .int .i64 5, .int .i64 1, .int .i64 3, .slice SA 1 sc, .slice CA 1 cc, .slice (some ⟨gk, ok, none⟩) 3 kc, .slice TA 3 tc], .agg #[.slice (some ⟨n + 1, 0, none⟩) 1 1, .slice (some ⟨n + 3, 0, none⟩) 1 1]] wx fun e w' => e = .returned (.tuple #[.int .i64 12, .int .i64 0]) ∧ Below wx.heap.size wx w') := Lib.hid (fun wx hb => by
    have h := planCost_any oneCost ⟨SA, sc, CA, cc, some ⟨gk, ok, none⟩, kc, TA, tc⟩ (some ⟨n + 1, 0, none⟩) (some ⟨n + 3, 0, none⟩) 1 1 planE wx (HIN.out.at_ hb) ⟨HPL.out.trucks.at_ hb, HPL.out.bikes.at_ hb⟩ oneCost_small planE_l
    unfold CostPost at h
    rw [planE_code, planE_cost] at h
    exact h)
  have HC1 : Hid (∀ wx, Below w9.heap.size w9 wx → Calls Try.prog 17 #[.agg #[.int .i64 40, .int .i64 1, .int .i64 5, .int .i64 1, .int .i64 3, .slice SA 1 sc, .slice CA 1 cc, .slice (some ⟨gk, ok, none⟩) 3 kc, .slice TA 3 tc], .agg #[.slice (some ⟨n + 1, 0, none⟩) 1 1, .slice (some ⟨n + 3, 0, none⟩) 1 1]] wx fun e w' => e = .returned (.int .i64 0) ∧ Below wx.heap.size wx w') := Lib.hid (fun wx hb => by
    have h := planCheck_any oneCost ⟨SA, sc, CA, cc, some ⟨gk, ok, none⟩, kc, TA, tc⟩ (some ⟨n + 1, 0, none⟩) (some ⟨n + 3, 0, none⟩) 1 1 planE wx (HIN.out.at_ hb) ⟨HPL.out.trucks.at_ hb, HPL.out.bikes.at_ hb⟩ oneCost_small planE_l
    rw [planE_code] at h
    exact h)
  have HC2 : Hid (∀ wx, Below w9.heap.size w9 wx → Calls Try.prog 17 #[.agg #[.int .i64 40, .int .i64 1, .int .i64 5, .int .i64 1, .int .i64 3, .slice SA 1 sc, .slice CA 1 cc, .slice (some ⟨gk, ok, none⟩) 3 kc, .slice TA 3 tc], .agg #[.slice none 0 0, .slice none 0 0]] wx fun e w' => e = .returned (.int .i64 8) ∧ Below wx.heap.size wx w') := Lib.hid (fun wx hb => by
    have h := planCheck_any oneCost ⟨SA, sc, CA, cc, some ⟨gk, ok, none⟩, kc, TA, tc⟩ none none 0 0 ⟨[], []⟩ wx (HIN.out.at_ hb) (planN_in wx) oneCost_small planN_l
    rw [planN_code] at h
    exact h)
  have HB9 := Lib.hid (Below.refl w9.heap.size w9)
  clear hic hpc HS8 HIN HPL
  have a0 : w9.cell? ⟨xb, 0, none⟩ = some (.int .i64 40) := hS9.cell 5 rfl 0 (by rw [HIC.out]; rfl)
  have a1 : w9.cell? ⟨xb, 1, none⟩ = some (.int .i64 1) := hS9.cell 5 rfl 1 (by rw [HIC.out]; rfl)
  have a2 : w9.cell? ⟨xb, 2, none⟩ = some (.int .i64 5) := hS9.cell 5 rfl 2 (by rw [HIC.out]; rfl)
  have a3 : w9.cell? ⟨xb, 3, none⟩ = some (.int .i64 1) := hS9.cell 5 rfl 3 (by rw [HIC.out]; rfl)
  have a4 : w9.cell? ⟨xb, 4, none⟩ = some (.int .i64 3) := hS9.cell 5 rfl 4 (by rw [HIC.out]; rfl)
  have a5 : w9.cell? ⟨xb, 5, none⟩ = some (.slice SA 1 sc) := hS9.cell 5 rfl 5 (by rw [HIC.out]; rfl)
  have a6 : w9.cell? ⟨xb, 6, none⟩ = some (.slice CA 1 cc) := hS9.cell 5 rfl 6 (by rw [HIC.out]; rfl)
  have a7 : w9.cell? ⟨xb, 7, none⟩ = some (.slice (some ⟨gk, ok, none⟩) 3 kc) := hS9.cell 5 rfl 7 (by rw [HIC.out]; rfl)
  have a8 : w9.cell? ⟨xb, 8, none⟩ = some (.slice TA 3 tc) := hS9.cell 5 rfl 8 (by rw [HIC.out]; rfl)
  have ap0 : w9.cell? ⟨n + 4, 0, none⟩ = some (.slice (some ⟨n + 1, 0, none⟩) 1 1) := hS9.cell 0 rfl 0 (by rw [HPC.out]; rfl)
  have ap1 : w9.cell? ⟨n + 4, 1, none⟩ = some (.slice (some ⟨n + 3, 0, none⟩) 1 1) := hS9.cell 0 rfl 1 (by rw [HPC.out]; rfl)
  clear hS9
  go_upto_region 5 with (go_at_call 25; (with_reducible refine (HCO.out _ HB9.out).mono ?_); rintro e w10 ⟨rfl, hb⟩
                         have HS10 := Lib.hid (HS9.out.call hb)
                         have HB10 := Lib.hid hb
                         have hS10 := HS10.out
                         have b0 : w10.cell? ⟨xb, 0, none⟩ = some (.int .i64 40) := hS10.cell 5 rfl 0 (by rw [HIC.out]; rfl)
                         have b1 : w10.cell? ⟨xb, 1, none⟩ = some (.int .i64 1) := hS10.cell 5 rfl 1 (by rw [HIC.out]; rfl)
                         have b2 : w10.cell? ⟨xb, 2, none⟩ = some (.int .i64 5) := hS10.cell 5 rfl 2 (by rw [HIC.out]; rfl)
                         have b3 : w10.cell? ⟨xb, 3, none⟩ = some (.int .i64 1) := hS10.cell 5 rfl 3 (by rw [HIC.out]; rfl)
                         have b4 : w10.cell? ⟨xb, 4, none⟩ = some (.int .i64 3) := hS10.cell 5 rfl 4 (by rw [HIC.out]; rfl)
                         have b5 : w10.cell? ⟨xb, 5, none⟩ = some (.slice SA 1 sc) := hS10.cell 5 rfl 5 (by rw [HIC.out]; rfl)
                         have b6 : w10.cell? ⟨xb, 6, none⟩ = some (.slice CA 1 cc) := hS10.cell 5 rfl 6 (by rw [HIC.out]; rfl)
                         have b7 : w10.cell? ⟨xb, 7, none⟩ = some (.slice (some ⟨gk, ok, none⟩) 3 kc) := hS10.cell 5 rfl 7 (by rw [HIC.out]; rfl)
                         have b8 : w10.cell? ⟨xb, 8, none⟩ = some (.slice TA 3 tc) := hS10.cell 5 rfl 8 (by rw [HIC.out]; rfl)
                         have bp0 : w10.cell? ⟨n + 4, 0, none⟩ = some (.slice (some ⟨n + 1, 0, none⟩) 1 1) := hS10.cell 0 rfl 0 (by rw [HPC.out]; rfl)
                         have bp1 : w10.cell? ⟨n + 4, 1, none⟩ = some (.slice (some ⟨n + 3, 0, none⟩) 1 1) := hS10.cell 0 rfl 1 (by rw [HPC.out]; rfl)
                         clear hb hS10 a0 a1 a2 a3 a4 a5 a6 a7 a8 ap0 ap1)
  clear HCO HS9
  go_wp2_with (first
    | (go_at_call 17; (with_reducible refine (HC1.out _ HB10.out).mono ?_); rintro e w11 ⟨rfl, hb⟩
       have HS11 := Lib.hid (HS10.out.call hb)
       have HB11 := Lib.hid (HB10.out.trans (hb.mono HB10.out.size))
       have hS11 := HS11.out
       have c0 : w11.cell? ⟨xb, 0, none⟩ = some (.int .i64 40) := hS11.cell 5 rfl 0 (by rw [HIC.out]; rfl)
       have c1 : w11.cell? ⟨xb, 1, none⟩ = some (.int .i64 1) := hS11.cell 5 rfl 1 (by rw [HIC.out]; rfl)
       have c2 : w11.cell? ⟨xb, 2, none⟩ = some (.int .i64 5) := hS11.cell 5 rfl 2 (by rw [HIC.out]; rfl)
       have c3 : w11.cell? ⟨xb, 3, none⟩ = some (.int .i64 1) := hS11.cell 5 rfl 3 (by rw [HIC.out]; rfl)
       have c4 : w11.cell? ⟨xb, 4, none⟩ = some (.int .i64 3) := hS11.cell 5 rfl 4 (by rw [HIC.out]; rfl)
       have c5 : w11.cell? ⟨xb, 5, none⟩ = some (.slice SA 1 sc) := hS11.cell 5 rfl 5 (by rw [HIC.out]; rfl)
       have c6 : w11.cell? ⟨xb, 6, none⟩ = some (.slice CA 1 cc) := hS11.cell 5 rfl 6 (by rw [HIC.out]; rfl)
       have c7 : w11.cell? ⟨xb, 7, none⟩ = some (.slice (some ⟨gk, ok, none⟩) 3 kc) := hS11.cell 5 rfl 7 (by rw [HIC.out]; rfl)
       have c8 : w11.cell? ⟨xb, 8, none⟩ = some (.slice TA 3 tc) := hS11.cell 5 rfl 8 (by rw [HIC.out]; rfl)
       have cp0 : w11.cell? ⟨n + 4, 0, none⟩ = some (.slice (some ⟨n + 1, 0, none⟩) 1 1) := hS11.cell 0 rfl 0 (by rw [HPC.out]; rfl)
       have cp1 : w11.cell? ⟨n + 4, 1, none⟩ = some (.slice (some ⟨n + 3, 0, none⟩) 1 1) := hS11.cell 0 rfl 1 (by rw [HPC.out]; rfl)
       clear hb hS11 HC1 b0 b1 b2 b3 b4 b5 b6 b7 b8 bp0 bp1)
    | (go_at_call 17; (with_reducible refine (HC2.out _ HB11.out).mono ?_); rintro e w12 ⟨rfl, hb⟩
       have HS12 := Lib.hid (HS11.out.call hb)
       clear hb HC2 c0 c1 c2 c3 c4 c5 c6 c7 c8 cp0 cp1))
  go_ret
  exact ⟨rfl, HS12.out.below⟩
end Go.Proofs.Ytjpejclfppbboaa

