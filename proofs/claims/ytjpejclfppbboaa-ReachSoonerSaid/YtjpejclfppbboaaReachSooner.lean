/- The walk of law ReachSooner. (printed by gen/reachsooner.py) -/
import Derived.Test.YtjpejclfppbboaaReachReadies
import Derived.Test.YtjpejclfppbboaaReachG
import Derived.Test.YtjpejclfppbboaaRowRun
import Derived.Deep.CutBlock
import Derived.Deep.CutRange
import Derived.Deep.DeepCutAuto
namespace Go.Proofs.Ytjpejclfppbboaa
open Go.ChangeShapes Go.WideShapes Go.ChangeAt Go.RowKit
set_option linter.unusedVariables false
set_option linter.unusedSimpArgs false
def laterC (m : Int) (c : CustV) : CustV := ⟨c.load, c.opn, c.cls + m, c.stay⟩
/-- All is over later; bikes have more room; customer k closes later. -/
def laterM (x : InstV) (k : Nat) (m : Int) : InstV := { x with fin := x.fin + m, br := x.br + m, custs := x.custs.set k (laterC m (x.custs.getD k noCust)) }
section
variable {x : InstV} {k : Nat} {m : Int}
theorem later_custs : (laterM x k m).custs = x.custs.set k (laterC m (x.custs.getD k noCust)) := rfl
theorem later_len : (laterM x k m).custs.length = x.custs.length := by rw [later_custs, List.length_set]
theorem later_n : (laterM x k m).n = x.n := by unfold InstV.n; rw [later_len]; rfl
theorem later_get (c : Nat) : ((laterM x k m).custs.getD c noCust).load = (x.custs.getD c noCust).load ∧ ((laterM x k m).custs.getD c noCust).opn = (x.custs.getD c noCust).opn ∧ ((laterM x k m).custs.getD c noCust).stay = (x.custs.getD c noCust).stay ∧ (0 ≤ m → (x.custs.getD c noCust).cls ≤ ((laterM x k m).custs.getD c noCust).cls) := by
 rw [later_custs]
 by_cases e : k = c
 · subst e
   by_cases h : k < x.custs.length
   · simp [h, laterC]
     intro hm; omega
   · rw [List.set_eq_of_length_le (by omega)]
     simp
 · simp [List.getD_eq_getElem?_getD, List.getElem?_set_ne e]
theorem later_stay : stayF (laterM x k m) = stayF x := by
 funext i
 unfold stayF
 rw [show (laterM x k m).sats = x.sats from rfl]
 split
 · rfl
 · exact (later_get _).2.2.1
theorem later_time : timeF (laterM x k m) = timeF x := rfl
theorem later_inw (s : Nat) : inWays (laterM x k m) s = inWays x s := by funext i; unfold inWays; rw [later_n]; rfl
theorem later_ready : readyM (laterM x k m) = readyM x := by unfold readyM; rw [later_n]; rfl
theorem later_out (s : Nat) : outM (laterM x k m) s = outM x s := by unfold outM; rw [later_len, later_n, later_time, later_stay, later_inw]; rfl
theorem later_back (s : Nat) : backM (laterM x k m) s = backM x s := by
 unfold backM
 rw [later_len, later_n, later_time, later_stay, later_inw]
 refine List.map_congr_left fun c _ => ?_
 rw [(later_get c).2.2.1]; rfl
theorem later_mays (hm : 0 ≤ m) (s c : Nat) (h : mayM x s c = true) : mayM (laterM x k m) s c = true := by
 obtain ⟨g1, g2, _, g4⟩ := later_get (x := x) (k := k) (m := m) c
 have g4 := g4 hm
 have ha : atM (laterM x k m) s c = atM x s c := by unfold atM; rw [later_ready, later_out, g2]
 unfold mayM at h ⊢
 rw [ha, g1, later_back, show (laterM x k m).sats = x.sats from rfl, show (laterM x k m).br = x.br + m from rfl, show (laterM x k m).fin = x.fin + m from rfl]
 simp only [Bool.and_eq_true, decide_eq_true_eq] at h ⊢
 omega
theorem setWith_bits (m c k : Nat) (hc : c < 64) : bitv (setWith m (c : Int)) k = (bitv m k || decide (c = k)) := by
 unfold setWith bitv
 rw [if_pos (by omega), Nat.testBit_or, Int.toNat_natCast, Nat.testBit_two_pow]
theorem mays_bits (x : InstV) (s k : Nat) : ∀ m, m ≤ 64 → bitv (maysN x s m) k = (decide (k < m) && mayM x s k)
 | 0, _ => by unfold maysN bitv; simp
 | m + 1, h => by
   unfold maysN
   have ih := mays_bits x s k m (by omega)
   by_cases e : mayM x s m = true
   · rw [if_pos e, setWith_bits _ _ _ (by omega), ih]
     by_cases e2 : m = k
     · subst e2; simp [e]
     · by_cases e3 : k < m
       · simp [e2, e3, show k < m + 1 by omega]
       · simp [e2, e3, show ¬ k < m + 1 by omega]
   · rw [if_neg e, ih]
     by_cases e2 : m = k
     · subst e2; simp [Bool.eq_false_iff.2 e]
     · by_cases e3 : k < m
       · simp [e3, show k < m + 1 by omega]
       · simp [e3, show ¬ k < m + 1 by omega]
theorem later_less (hm : 0 ≤ m) (s n : Nat) (hn : n ≤ 64) : setLess (maysN x s n) (maysN (laterM x k m) s n) = 0 := by
 refine Nat.eq_of_testBit_eq fun i => ?_
 rw [Nat.zero_testBit]
 by_cases hi : i < 64
 · have h := setLess_bit (maysN x s n) (maysN (laterM x k m) s n) i (maysN_lt _ _ _) hi
   rw [mays_bits _ _ _ _ hn, mays_bits _ _ _ _ hn] at h
   show bitv _ i = false
   rw [h]
   by_cases e : mayM x s i = true
   · rw [later_mays hm s i e, e]; cases decide (i < n) <;> rfl
   · rw [Bool.eq_false_iff.2 e]; simp
 · exact Nat.testBit_lt_two_pow (Nat.lt_of_lt_of_le (setLess_lt _ _ (maysN_lt _ _ _)) (Nat.pow_le_pow_right (by decide) (by omega)))
theorem later_flat (hk : k < x.custs.length) {v : Int} (hv : (x.custs[k]'hk).cls + m = v) : (x.custs.flatMap CustV.cells).set (k * 4 + 2) (.int .i64 v) = (laterM x k m).custs.flatMap CustV.cells := by
 rw [later_custs]
 symm
 refine flat_set CustV.cells 4 CustV.cells_len x.custs k 2 hk _ _ (by decide) ?_
 rw [show x.custs.getD k noCust = x.custs[k]'hk by simp [hk]]
 unfold laterC CustV.cells
 rw [← hv]
 rfl
theorem later_fit (hx : x.Small) (hm : 0 ≤ m) (hm2 : m ≤ 255) (hk : k < x.custs.length) : (laterM x k m).Fit := by
 have hF := small_fit hx
 have h1 := hx.fin
 have h2 := hx.br
 have hcd := hx.custsIn _ (List.getElem_mem hk)
 have hgd : x.custs.getD k noCust = x.custs[k]'hk := by simp [hk]
 have hmem : ∀ c ∈ (laterM x k m).custs, c = laterC m (x.custs[k]'hk) ∨ c ∈ x.custs := fun c hc => by
  rw [later_custs, hgd] at hc
  rcases List.mem_or_eq_of_mem_set hc with h | h
  · exact .inr h
  · exact .inl h
 obtain ⟨k1, k2, k3⟩ := InstV.ok hx.code
 have hcode : (laterM x k m).code = 0 := by
  have c1 : (laterM x k m).countB = true := by unfold InstV.countB at k1 ⊢; rw [later_len]; exact k1
  have c2 : (laterM x k m).sizeB = true := by unfold InstV.sizeB at k2 ⊢; rw [later_n]; exact k2
  have c3 : (laterM x k m).numsB = true := by
   unfold InstV.numsB at k3 ⊢
   simp only [Bool.and_eq_true] at k3 ⊢
   obtain ⟨⟨⟨⟨⟨⟨a1, a2⟩, a3⟩, a4⟩, a5⟩, a6⟩, a7⟩ := k3
   refine ⟨⟨⟨⟨⟨⟨?_, a2⟩, ?_⟩, a4⟩, ?_⟩, a6⟩, a7⟩
   · show mayB (x.fin + m) 0 = true
     unfold mayB; rw [decide_eq_true_eq]; omega
   · show mayB (x.br + m) 0 = true
     unfold mayB; rw [decide_eq_true_eq]; omega
   · rw [List.all_eq_true] at a5 ⊢
     intro c hc
     rcases hmem c hc with rfl | h
     · unfold custB laterC mayB
       simp only [Bool.and_eq_true, decide_eq_true_eq]
       omega
     · exact a5 c h
  unfold InstV.code
  rw [c1, c2, c3]; rfl
 refine ⟨hcode, ⟨hF.lens.sats, by rw [later_len]; exact hF.lens.custs, hF.lens.cost, hF.lens.time⟩, hF.sats, by rw [later_len]; exact hF.custs, ?_, ?_, hF.satsIn, fun c hc => ?_, by rw [later_n]; exact hF.timeLen, hF.timeIn⟩
 · show 0 ≤ x.fin + m ∧ x.fin + m ≤ 10000
   omega
 · show 0 ≤ x.br + m ∧ x.br + m ≤ 10000
   omega
 · rcases hmem c hc with rfl | h
   · unfold laterC; simp only; omega
   · exact hF.custsIn c h
end
set_option maxRecDepth 100000 in
set_option maxHeartbeats 8000000 in
theorem reachSooner0 (s : SmallV) (sp : IAt) (a m : Int) (w : World) (hI : SmallIn w w.heap.size sp s) (hl : SmallL s) (hok : s.ok) (ha : isU8 a) (hm : isU8 m) :
 Calls Try.prog 9 #[.agg (s.vals sp), .int .u8 a, .int .u8 m] w fun e w' => e = .returned (.bool true) ∧ Below w.heap.size w w' := by
 have HX := Lib.hid (SmallV.small hok)
 have HMK : Hid (∀ wx, Below w.heap.size w wx → Calls Try.prog 16 #[.agg #[.int .u8 s.fin, .int .u8 s.trucks, .int .u8 s.troom, .int .u8 s.bikes, .int .u8 s.broom, .slice sp.SA s.sats.length sp.sc, .slice sp.CA s.custs.length sp.cc, .slice sp.KA s.cost.length sp.kc, .slice sp.TA s.time.length sp.tc, .bool s.tight, .bool s.loose]] wx (MakePost wx s.mk_)) := Lib.hid (fun wx hb => make_any s sp wx ((hI.below hb).more hb.size) hl hok)
 have hS := (SL.start (W := w) (Nat.le_refl w.heap.size)).alloc (s.vals sp) 26
 obtain ⟨u0, u1⟩ := ha
 obtain ⟨m0, m1⟩ := hm
 clear hI hl hok
 unfold SmallV.vals at hS ⊢
 obtain ⟨x, hxs⟩ : ∃ x, s.mk_ = x := ⟨_, rfl⟩
 rw [hxs] at HX HMK
 clear hxs
 obtain ⟨sb, hsb⟩ : ∃ b, w.heap.size = b := ⟨_, rfl⟩
 obtain ⟨w1, hw1⟩ : ∃ y, w.alloc (.cells #[.int .u8 s.fin, .int .u8 s.trucks, .int .u8 s.troom, .int .u8 s.bikes, .int .u8 s.broom, .slice sp.SA s.sats.length sp.sc, .slice sp.CA s.custs.length sp.cc, .slice sp.KA s.cost.length sp.kc, .slice sp.TA s.time.length sp.tc, .bool s.tight, .bool s.loose] 26) = y := ⟨_, rfl⟩
 have HS1 : Hid (SL w w.heap.size [.blk sb #[.int .u8 s.fin, .int .u8 s.trucks, .int .u8 s.troom, .int .u8 s.bikes, .int .u8 s.broom, .slice sp.SA s.sats.length sp.sc, .slice sp.CA s.custs.length sp.cc, .slice sp.KA s.cost.length sp.kc, .slice sp.TA s.time.length sp.tc, .bool s.tight, .bool s.loose] 26] w1) := Lib.hid (by rw [← hsb, ← hw1]; exact hS)
 have HW := Lib.hid (And.intro hsb hw1)
 clear hS hsb hw1
 go_enter Try.func9, Try.ntmps9
 go_upto_region 1 with fail
 rw [HW.out.2, HW.out.1]
 go_upto_region 3 with (go_at_call 26; (with_reducible refine (awake14 _).mono ?_); rintro e w2 ⟨rfl, hb⟩
                        have HS2 := Lib.hid (HS1.out.call hb)
                        clear hb)
 clear HS1 HW
 go_cut [7, 8] (fun s7 s8 wx => ∃ (xb yb : Nat) (p1 p2 : IAt) (hk1 ht1 hk2 ht2 : List Value), s7 = .pointer (some ⟨xb, 0, none⟩) ∧ s8 = .pointer (some ⟨yb, 0, none⟩) ∧ hk1.length = x.cost.length ∧ ht1.length = x.time.length ∧ hk2.length = x.cost.length ∧ ht2.length = x.time.length ∧
  SL w w.heap.size (.blk xb #[.int .i64 x.fin, .int .i64 x.tm, .int .i64 x.tr, .int .i64 x.bm, .int .i64 x.br, .slice p1.SA x.sats.length p1.sc, .slice p1.CA x.custs.length p1.cc, .slice p1.KA x.cost.length p1.kc, .slice p1.TA x.time.length p1.tc] 39 :: .blk yb #[.int .i64 x.fin, .int .i64 x.tm, .int .i64 x.tr, .int .i64 x.bm, .int .i64 x.br, .slice p2.SA x.sats.length p2.sc, .slice p2.CA x.custs.length p2.cc, .slice p2.KA x.cost.length p2.kc, .slice p2.TA x.time.length p2.tc] 39 :: (instRs p2 x hk2 ht2 ++ (instRs p1 x hk1 ht1 ++ [.blk sb #[.int .u8 s.fin, .int .u8 s.trucks, .int .u8 s.troom, .int .u8 s.bikes, .int .u8 s.broom, .slice sp.SA s.sats.length sp.sc, .slice sp.CA s.custs.length sp.cc, .slice sp.KA s.cost.length sp.kc, .slice sp.TA s.time.length sp.tc, .bool s.tight, .bool s.loose] 26]))) wx)
 case first =>
  have hS2 := HS2.out
  refine wp_region_slb [0,2] [1,3,4,5] [6,7] [.blk sb #[.int .u8 s.fin, .int .u8 s.trucks, .int .u8 s.troom, .int .u8 s.bikes, .int .u8 s.broom, .slice sp.SA s.sats.length sp.sc, .slice sp.CA s.custs.length sp.cc, .slice sp.KA s.cost.length sp.kc, .slice sp.TA s.time.length sp.tc, .bool s.tight, .bool s.loose] 26] hS2 (List.Sublist.refl _) (by kernel_rfl) (by kernel_rfl) (.cons rfl (.cons rfl .nil)) (fun C cw _ hC => ?_)
  have q0 : ∀ d, (cw d).cell? ⟨sb, 0, none⟩ = some (.int .u8 s.fin) := fun d => (hC d).cell 0 rfl 0 rfl
  have q1 : ∀ d, (cw d).cell? ⟨sb, 1, none⟩ = some (.int .u8 s.trucks) := fun d => (hC d).cell 0 rfl 1 rfl
  have q2 : ∀ d, (cw d).cell? ⟨sb, 2, none⟩ = some (.int .u8 s.troom) := fun d => (hC d).cell 0 rfl 2 rfl
  have q3 : ∀ d, (cw d).cell? ⟨sb, 3, none⟩ = some (.int .u8 s.bikes) := fun d => (hC d).cell 0 rfl 3 rfl
  have q4 : ∀ d, (cw d).cell? ⟨sb, 4, none⟩ = some (.int .u8 s.broom) := fun d => (hC d).cell 0 rfl 4 rfl
  have q5 : ∀ d, (cw d).cell? ⟨sb, 5, none⟩ = some (.slice sp.SA s.sats.length sp.sc) := fun d => (hC d).cell 0 rfl 5 rfl
  have q6 : ∀ d, (cw d).cell? ⟨sb, 6, none⟩ = some (.slice sp.CA s.custs.length sp.cc) := fun d => (hC d).cell 0 rfl 6 rfl
  have q7 : ∀ d, (cw d).cell? ⟨sb, 7, none⟩ = some (.slice sp.KA s.cost.length sp.kc) := fun d => (hC d).cell 0 rfl 7 rfl
  have q8 : ∀ d, (cw d).cell? ⟨sb, 8, none⟩ = some (.slice sp.TA s.time.length sp.tc) := fun d => (hC d).cell 0 rfl 8 rfl
  have q9 : ∀ d, (cw d).cell? ⟨sb, 9, none⟩ = some (.bool s.tight) := fun d => (hC d).cell 0 rfl 9 rfl
  have q10 : ∀ d, (cw d).cell? ⟨sb, 10, none⟩ = some (.bool s.loose) := fun d => (hC d).cell 0 rfl 10 rfl
  repeat (refine pl_look rfl rfl rfl (fun Kv hK => ?_); go_big_quiet_op; refine hK _ ?_; clear hK Kv)
  clear q0 q1 q2 q3 q4 q5 q6 q7 q8 q9 q10 hC
  refine pl_end ?_
  intro w3 hS3
  clear hS2 HS2
  refine pb_three 1 4 5 (by kernel_rfl) (by kernel_rfl) (by kernel_rfl) (by kernel_rfl) ?_ ?_ ?_
  · skip
    refine kOp_eff rfl rfl fun Kv hK => ?_
    go_simp
    refine eff_call (HMK.out _ hS3.below) (fun e w4 h => ?_)
    obtain ⟨p1, hk1, ht1, rfl, hl1, hl2, hq⟩ := h
    have hS4 : SL w w.heap.size (instRs p1 x hk1 ht1 ++ ([.blk sb #[.int .u8 s.fin, .int .u8 s.trucks, .int .u8 s.troom, .int .u8 s.bikes, .int .u8 s.broom, .slice sp.SA s.sats.length sp.sc, .slice sp.CA s.custs.length sp.cc, .slice sp.KA s.cost.length sp.kc, .slice sp.TA s.time.length sp.tc, .bool s.tight, .bool s.loose] 26])) w4 := hS3.join hq
    refine .inl ⟨_, rfl, hS4.sub ((List.Sublist.refl _).trans (List.sublist_append_right _ _)), hK _ _ ?_⟩
    clear hK Kv hq hS3
    refine pb_three 3 4 5 (by kernel_rfl) (by kernel_rfl) (by kernel_rfl) (by kernel_rfl) ?_ ?_ ?_
    · skip
      refine kOp_eff rfl rfl fun Kv hK => ?_
      go_simp
      refine eff_call (HMK.out _ hS4.below) (fun e w5 h => ?_)
      obtain ⟨p2, hk2, ht2, rfl, hl3, hl4, hq⟩ := h
      have hS5 : SL w w.heap.size (instRs p2 x hk2 ht2 ++ (instRs p1 x hk1 ht1 ++ ([.blk sb #[.int .u8 s.fin, .int .u8 s.trucks, .int .u8 s.troom, .int .u8 s.bikes, .int .u8 s.broom, .slice sp.SA s.sats.length sp.sc, .slice sp.CA s.custs.length sp.cc, .slice sp.KA s.cost.length sp.kc, .slice sp.TA s.time.length sp.tc, .bool s.tight, .bool s.loose] 26]))) w5 := hS4.join hq
      refine .inl ⟨_, rfl, hS5.sub (((List.Sublist.refl _).trans (List.sublist_append_right _ _)).trans (List.sublist_append_right _ _)), hK _ _ ?_⟩
      clear hK Kv hq hS4
      refine pb_two 4 5 (by kernel_rfl) (by kernel_rfl) (by kernel_rfl) ?_ ?_
      · skip
        refine kOp_eff rfl rfl fun Kv hK => ?_
        go_simp
        obtain ⟨xb, hxb⟩ : ∃ b, w5.heap.size = b := ⟨_, rfl⟩
        have hS6 : SL w w.heap.size ([.blk xb #[.int .i64 0, .int .i64 0, .int .i64 0, .int .i64 0, .int .i64 0, .slice none 0 0, .slice none 0 0, .slice none 0 0, .slice none 0 0] 39] ++ (instRs p2 x hk2 ht2 ++ (instRs p1 x hk1 ht1 ++ ([.blk sb #[.int .u8 s.fin, .int .u8 s.trucks, .int .u8 s.troom, .int .u8 s.bikes, .int .u8 s.broom, .slice sp.SA s.sats.length sp.sc, .slice sp.CA s.custs.length sp.cc, .slice sp.KA s.cost.length sp.kc, .slice sp.TA s.time.length sp.tc, .bool s.tight, .bool s.loose] 26])))) (w5.alloc (.cells #[.int .i64 0, .int .i64 0, .int .i64 0, .int .i64 0, .int .i64 0, .slice none 0 0, .slice none 0 0, .slice none 0 0, .slice none 0 0] 39)) := by rw [← hxb]; exact hS5.alloc #[.int .i64 0, .int .i64 0, .int .i64 0, .int .i64 0, .int .i64 0, .slice none 0 0, .slice none 0 0, .slice none 0 0, .slice none 0 0] 39
        obtain ⟨w6, hw6⟩ : ∃ y, w5.alloc (.cells #[.int .i64 0, .int .i64 0, .int .i64 0, .int .i64 0, .int .i64 0, .slice none 0 0, .slice none 0 0, .slice none 0 0, .slice none 0 0] 39) = y := ⟨_, rfl⟩
        rw [hw6] at hS6
        rw [hxb, hw6]
        clear hxb hw6 hS5
        refine ⟨hS6.sub ((((List.Sublist.refl _).trans (List.sublist_append_right _ _)).trans (List.sublist_append_right _ _)).trans (List.sublist_append_right _ _)), hK _ _ ?_⟩
        clear hK Kv
        refine pb_one 5 (by kernel_rfl) (by kernel_rfl) ?_
        refine kOp_eff rfl rfl fun Kv hK => ?_
        go_simp
        obtain ⟨yb, hyb⟩ : ∃ b, w6.heap.size = b := ⟨_, rfl⟩
        have hS7 : SL w w.heap.size ([.blk yb #[.int .i64 0, .int .i64 0, .int .i64 0, .int .i64 0, .int .i64 0, .slice none 0 0, .slice none 0 0, .slice none 0 0, .slice none 0 0] 39] ++ ([.blk xb #[.int .i64 0, .int .i64 0, .int .i64 0, .int .i64 0, .int .i64 0, .slice none 0 0, .slice none 0 0, .slice none 0 0, .slice none 0 0] 39] ++ (instRs p2 x hk2 ht2 ++ (instRs p1 x hk1 ht1 ++ ([.blk sb #[.int .u8 s.fin, .int .u8 s.trucks, .int .u8 s.troom, .int .u8 s.bikes, .int .u8 s.broom, .slice sp.SA s.sats.length sp.sc, .slice sp.CA s.custs.length sp.cc, .slice sp.KA s.cost.length sp.kc, .slice sp.TA s.time.length sp.tc, .bool s.tight, .bool s.loose] 26]))))) (w6.alloc (.cells #[.int .i64 0, .int .i64 0, .int .i64 0, .int .i64 0, .int .i64 0, .slice none 0 0, .slice none 0 0, .slice none 0 0, .slice none 0 0] 39)) := by rw [← hyb]; exact hS6.alloc #[.int .i64 0, .int .i64 0, .int .i64 0, .int .i64 0, .int .i64 0, .slice none 0 0, .slice none 0 0, .slice none 0 0, .slice none 0 0] 39
        obtain ⟨w7, hw7⟩ : ∃ y, w6.alloc (.cells #[.int .i64 0, .int .i64 0, .int .i64 0, .int .i64 0, .int .i64 0, .slice none 0 0, .slice none 0 0, .slice none 0 0, .slice none 0 0] 39) = y := ⟨_, rfl⟩
        rw [hw7] at hS7
        rw [hyb, hw7]
        clear hyb hw7 hS6
        refine ⟨hS7.sub (((((List.Sublist.refl _).trans (List.sublist_append_right _ _)).trans (List.sublist_append_right _ _)).trans (List.sublist_append_right _ _)).trans (List.sublist_append_right _ _)), hK _ _ ?_⟩
        clear hK Kv
        refine pb_end (by kernel_rfl) ?_
        have hT : SL w w.heap.size (.blk xb #[.int .i64 0, .int .i64 0, .int .i64 0, .int .i64 0, .int .i64 0, .slice none 0 0, .slice none 0 0, .slice none 0 0, .slice none 0 0] 39 :: .blk yb #[.int .i64 0, .int .i64 0, .int .i64 0, .int .i64 0, .int .i64 0, .slice none 0 0, .slice none 0 0, .slice none 0 0, .slice none 0 0] 39 :: (instRs p2 x hk2 ht2 ++ (instRs p1 x hk1 ht1 ++ [.blk sb #[.int .u8 s.fin, .int .u8 s.trucks, .int .u8 s.troom, .int .u8 s.bikes, .int .u8 s.broom, .slice sp.SA s.sats.length sp.sc, .slice sp.CA s.custs.length sp.cc, .slice sp.KA s.cost.length sp.kc, .slice sp.TA s.time.length sp.tc, .bool s.tight, .bool s.loose] 26]))) w7 := hS7.perm (by
         classical
         rw [List.perm_iff_count]
         intro r
         simp only [List.count_append, List.count_cons, List.count_nil]
         omega)
        clear hS7
        unfold InstV.cells
        refine wpList_store_abs rfl 39 (.tmp 7) (.tmp 16) rfl rfl xb #[.int .i64 x.fin, .int .i64 x.tm, .int .i64 x.tr, .int .i64 x.bm, .int .i64 x.br, .slice p1.SA x.sats.length p1.sc, .slice p1.CA x.custs.length p1.cc, .slice p1.KA x.cost.length p1.kc, .slice p1.TA x.time.length p1.tc] rfl rfl _ _ (hT.blk 0 rfl) (by kernel_rfl) rfl (by simp [Value.oneCell']) (fun w8 ho0 hh0 => ?_)
        replace hT := hT.only 0 rfl ho0 hh0
        clear ho0 hh0
        refine wpList_store_abs rfl 39 (.tmp 8) (.tmp 18) rfl rfl yb #[.int .i64 x.fin, .int .i64 x.tm, .int .i64 x.tr, .int .i64 x.bm, .int .i64 x.br, .slice p2.SA x.sats.length p2.sc, .slice p2.CA x.custs.length p2.cc, .slice p2.KA x.cost.length p2.kc, .slice p2.TA x.time.length p2.tc] rfl rfl _ _ (hT.blk 1 rfl) (by kernel_rfl) rfl (by simp [Value.oneCell']) (fun w9 ho1 hh1 => ?_)
        replace hT := hT.only 1 rfl ho1 hh1
        clear ho1 hh1
        have HT := Lib.hid hT
        have HLE := Lib.hid (And.intro hl1 (And.intro hl2 (And.intro hl3 hl4)))
        clear hT hl1 hl2 hl3 hl4 HMK HX
        go_wp2_with fail
        go_meet
        exact ⟨xb, yb, p1, p2, hk1, ht1, hk2, ht2, rfl, rfl, HLE.out.1, HLE.out.2.1, HLE.out.2.2.1, HLE.out.2.2.2, HT.out⟩
      · skip
        refine kOp_eff rfl rfl fun Kv hK => ?_
        go_simp
        obtain ⟨yb, hyb⟩ : ∃ b, w5.heap.size = b := ⟨_, rfl⟩
        have hS6 : SL w w.heap.size ([.blk yb #[.int .i64 0, .int .i64 0, .int .i64 0, .int .i64 0, .int .i64 0, .slice none 0 0, .slice none 0 0, .slice none 0 0, .slice none 0 0] 39] ++ (instRs p2 x hk2 ht2 ++ (instRs p1 x hk1 ht1 ++ ([.blk sb #[.int .u8 s.fin, .int .u8 s.trucks, .int .u8 s.troom, .int .u8 s.bikes, .int .u8 s.broom, .slice sp.SA s.sats.length sp.sc, .slice sp.CA s.custs.length sp.cc, .slice sp.KA s.cost.length sp.kc, .slice sp.TA s.time.length sp.tc, .bool s.tight, .bool s.loose] 26])))) (w5.alloc (.cells #[.int .i64 0, .int .i64 0, .int .i64 0, .int .i64 0, .int .i64 0, .slice none 0 0, .slice none 0 0, .slice none 0 0, .slice none 0 0] 39)) := by rw [← hyb]; exact hS5.alloc #[.int .i64 0, .int .i64 0, .int .i64 0, .int .i64 0, .int .i64 0, .slice none 0 0, .slice none 0 0, .slice none 0 0, .slice none 0 0] 39
        obtain ⟨w6, hw6⟩ : ∃ y, w5.alloc (.cells #[.int .i64 0, .int .i64 0, .int .i64 0, .int .i64 0, .int .i64 0, .slice none 0 0, .slice none 0 0, .slice none 0 0, .slice none 0 0] 39) = y := ⟨_, rfl⟩
        rw [hw6] at hS6
        rw [hyb, hw6]
        clear hyb hw6 hS5
        refine ⟨hS6.sub ((((List.Sublist.refl _).trans (List.sublist_append_right _ _)).trans (List.sublist_append_right _ _)).trans (List.sublist_append_right _ _)), hK _ _ ?_⟩
        clear hK Kv
        refine pb_one 4 (by kernel_rfl) (by kernel_rfl) ?_
        refine kOp_eff rfl rfl fun Kv hK => ?_
        go_simp
        obtain ⟨xb, hxb⟩ : ∃ b, w6.heap.size = b := ⟨_, rfl⟩
        have hS7 : SL w w.heap.size ([.blk xb #[.int .i64 0, .int .i64 0, .int .i64 0, .int .i64 0, .int .i64 0, .slice none 0 0, .slice none 0 0, .slice none 0 0, .slice none 0 0] 39] ++ ([.blk yb #[.int .i64 0, .int .i64 0, .int .i64 0, .int .i64 0, .int .i64 0, .slice none 0 0, .slice none 0 0, .slice none 0 0, .slice none 0 0] 39] ++ (instRs p2 x hk2 ht2 ++ (instRs p1 x hk1 ht1 ++ ([.blk sb #[.int .u8 s.fin, .int .u8 s.trucks, .int .u8 s.troom, .int .u8 s.bikes, .int .u8 s.broom, .slice sp.SA s.sats.length sp.sc, .slice sp.CA s.custs.length sp.cc, .slice sp.KA s.cost.length sp.kc, .slice sp.TA s.time.length sp.tc, .bool s.tight, .bool s.loose] 26]))))) (w6.alloc (.cells #[.int .i64 0, .int .i64 0, .int .i64 0, .int .i64 0, .int .i64 0, .slice none 0 0, .slice none 0 0, .slice none 0 0, .slice none 0 0] 39)) := by rw [← hxb]; exact hS6.alloc #[.int .i64 0, .int .i64 0, .int .i64 0, .int .i64 0, .int .i64 0, .slice none 0 0, .slice none 0 0, .slice none 0 0, .slice none 0 0] 39
        obtain ⟨w7, hw7⟩ : ∃ y, w6.alloc (.cells #[.int .i64 0, .int .i64 0, .int .i64 0, .int .i64 0, .int .i64 0, .slice none 0 0, .slice none 0 0, .slice none 0 0, .slice none 0 0] 39) = y := ⟨_, rfl⟩
        rw [hw7] at hS7
        rw [hxb, hw7]
        clear hxb hw7 hS6
        refine ⟨hS7.sub (((((List.Sublist.refl _).trans (List.sublist_append_right _ _)).trans (List.sublist_append_right _ _)).trans (List.sublist_append_right _ _)).trans (List.sublist_append_right _ _)), hK _ _ ?_⟩
        clear hK Kv
        refine pb_end (by kernel_rfl) ?_
        have hT : SL w w.heap.size (.blk xb #[.int .i64 0, .int .i64 0, .int .i64 0, .int .i64 0, .int .i64 0, .slice none 0 0, .slice none 0 0, .slice none 0 0, .slice none 0 0] 39 :: .blk yb #[.int .i64 0, .int .i64 0, .int .i64 0, .int .i64 0, .int .i64 0, .slice none 0 0, .slice none 0 0, .slice none 0 0, .slice none 0 0] 39 :: (instRs p2 x hk2 ht2 ++ (instRs p1 x hk1 ht1 ++ [.blk sb #[.int .u8 s.fin, .int .u8 s.trucks, .int .u8 s.troom, .int .u8 s.bikes, .int .u8 s.broom, .slice sp.SA s.sats.length sp.sc, .slice sp.CA s.custs.length sp.cc, .slice sp.KA s.cost.length sp.kc, .slice sp.TA s.time.length sp.tc, .bool s.tight, .bool s.loose] 26]))) w7 := hS7.perm (by
         classical
         rw [List.perm_iff_count]
         intro r
         simp only [List.count_append, List.count_cons, List.count_nil]
         omega)
        clear hS7
        unfold InstV.cells
        refine wpList_store_abs rfl 39 (.tmp 7) (.tmp 16) rfl rfl xb #[.int .i64 x.fin, .int .i64 x.tm, .int .i64 x.tr, .int .i64 x.bm, .int .i64 x.br, .slice p1.SA x.sats.length p1.sc, .slice p1.CA x.custs.length p1.cc, .slice p1.KA x.cost.length p1.kc, .slice p1.TA x.time.length p1.tc] rfl rfl _ _ (hT.blk 0 rfl) (by kernel_rfl) rfl (by simp [Value.oneCell']) (fun w8 ho0 hh0 => ?_)
        replace hT := hT.only 0 rfl ho0 hh0
        clear ho0 hh0
        refine wpList_store_abs rfl 39 (.tmp 8) (.tmp 18) rfl rfl yb #[.int .i64 x.fin, .int .i64 x.tm, .int .i64 x.tr, .int .i64 x.bm, .int .i64 x.br, .slice p2.SA x.sats.length p2.sc, .slice p2.CA x.custs.length p2.cc, .slice p2.KA x.cost.length p2.kc, .slice p2.TA x.time.length p2.tc] rfl rfl _ _ (hT.blk 1 rfl) (by kernel_rfl) rfl (by simp [Value.oneCell']) (fun w9 ho1 hh1 => ?_)
        replace hT := hT.only 1 rfl ho1 hh1
        clear ho1 hh1
        have HT := Lib.hid hT
        have HLE := Lib.hid (And.intro hl1 (And.intro hl2 (And.intro hl3 hl4)))
        clear hT hl1 hl2 hl3 hl4 HMK HX
        go_wp2_with fail
        go_meet
        exact ⟨xb, yb, p1, p2, hk1, ht1, hk2, ht2, rfl, rfl, HLE.out.1, HLE.out.2.1, HLE.out.2.2.1, HLE.out.2.2.2, HT.out⟩
    · skip
      refine kOp_eff rfl rfl fun Kv hK => ?_
      go_simp
      obtain ⟨xb, hxb⟩ : ∃ b, w4.heap.size = b := ⟨_, rfl⟩
      have hS5 : SL w w.heap.size ([.blk xb #[.int .i64 0, .int .i64 0, .int .i64 0, .int .i64 0, .int .i64 0, .slice none 0 0, .slice none 0 0, .slice none 0 0, .slice none 0 0] 39] ++ (instRs p1 x hk1 ht1 ++ ([.blk sb #[.int .u8 s.fin, .int .u8 s.trucks, .int .u8 s.troom, .int .u8 s.bikes, .int .u8 s.broom, .slice sp.SA s.sats.length sp.sc, .slice sp.CA s.custs.length sp.cc, .slice sp.KA s.cost.length sp.kc, .slice sp.TA s.time.length sp.tc, .bool s.tight, .bool s.loose] 26]))) (w4.alloc (.cells #[.int .i64 0, .int .i64 0, .int .i64 0, .int .i64 0, .int .i64 0, .slice none 0 0, .slice none 0 0, .slice none 0 0, .slice none 0 0] 39)) := by rw [← hxb]; exact hS4.alloc #[.int .i64 0, .int .i64 0, .int .i64 0, .int .i64 0, .int .i64 0, .slice none 0 0, .slice none 0 0, .slice none 0 0, .slice none 0 0] 39
      obtain ⟨w5, hw5⟩ : ∃ y, w4.alloc (.cells #[.int .i64 0, .int .i64 0, .int .i64 0, .int .i64 0, .int .i64 0, .slice none 0 0, .slice none 0 0, .slice none 0 0, .slice none 0 0] 39) = y := ⟨_, rfl⟩
      rw [hw5] at hS5
      rw [hxb, hw5]
      clear hxb hw5 hS4
      refine ⟨hS5.sub (((List.Sublist.refl _).trans (List.sublist_append_right _ _)).trans (List.sublist_append_right _ _)), hK _ _ ?_⟩
      clear hK Kv
      refine pb_two 3 5 (by kernel_rfl) (by kernel_rfl) (by kernel_rfl) ?_ ?_
      · skip
        refine kOp_eff rfl rfl fun Kv hK => ?_
        go_simp
        refine eff_call (HMK.out _ hS5.below) (fun e w6 h => ?_)
        obtain ⟨p2, hk2, ht2, rfl, hl3, hl4, hq⟩ := h
        have hS6 : SL w w.heap.size (instRs p2 x hk2 ht2 ++ ([.blk xb #[.int .i64 0, .int .i64 0, .int .i64 0, .int .i64 0, .int .i64 0, .slice none 0 0, .slice none 0 0, .slice none 0 0, .slice none 0 0] 39] ++ (instRs p1 x hk1 ht1 ++ ([.blk sb #[.int .u8 s.fin, .int .u8 s.trucks, .int .u8 s.troom, .int .u8 s.bikes, .int .u8 s.broom, .slice sp.SA s.sats.length sp.sc, .slice sp.CA s.custs.length sp.cc, .slice sp.KA s.cost.length sp.kc, .slice sp.TA s.time.length sp.tc, .bool s.tight, .bool s.loose] 26])))) w6 := hS5.join hq
        refine .inl ⟨_, rfl, hS6.sub ((((List.Sublist.refl _).trans (List.sublist_append_right _ _)).trans (List.sublist_append_right _ _)).trans (List.sublist_append_right _ _)), hK _ _ ?_⟩
        clear hK Kv hq hS5
        refine pb_one 5 (by kernel_rfl) (by kernel_rfl) ?_
        refine kOp_eff rfl rfl fun Kv hK => ?_
        go_simp
        obtain ⟨yb, hyb⟩ : ∃ b, w6.heap.size = b := ⟨_, rfl⟩
        have hS7 : SL w w.heap.size ([.blk yb #[.int .i64 0, .int .i64 0, .int .i64 0, .int .i64 0, .int .i64 0, .slice none 0 0, .slice none 0 0, .slice none 0 0, .slice none 0 0] 39] ++ (instRs p2 x hk2 ht2 ++ ([.blk xb #[.int .i64 0, .int .i64 0, .int .i64 0, .int .i64 0, .int .i64 0, .slice none 0 0, .slice none 0 0, .slice none 0 0, .slice none 0 0] 39] ++ (instRs p1 x hk1 ht1 ++ ([.blk sb #[.int .u8 s.fin, .int .u8 s.trucks, .int .u8 s.troom, .int .u8 s.bikes, .int .u8 s.broom, .slice sp.SA s.sats.length sp.sc, .slice sp.CA s.custs.length sp.cc, .slice sp.KA s.cost.length sp.kc, .slice sp.TA s.time.length sp.tc, .bool s.tight, .bool s.loose] 26]))))) (w6.alloc (.cells #[.int .i64 0, .int .i64 0, .int .i64 0, .int .i64 0, .int .i64 0, .slice none 0 0, .slice none 0 0, .slice none 0 0, .slice none 0 0] 39)) := by rw [← hyb]; exact hS6.alloc #[.int .i64 0, .int .i64 0, .int .i64 0, .int .i64 0, .int .i64 0, .slice none 0 0, .slice none 0 0, .slice none 0 0, .slice none 0 0] 39
        obtain ⟨w7, hw7⟩ : ∃ y, w6.alloc (.cells #[.int .i64 0, .int .i64 0, .int .i64 0, .int .i64 0, .int .i64 0, .slice none 0 0, .slice none 0 0, .slice none 0 0, .slice none 0 0] 39) = y := ⟨_, rfl⟩
        rw [hw7] at hS7
        rw [hyb, hw7]
        clear hyb hw7 hS6
        refine ⟨hS7.sub (((((List.Sublist.refl _).trans (List.sublist_append_right _ _)).trans (List.sublist_append_right _ _)).trans (List.sublist_append_right _ _)).trans (List.sublist_append_right _ _)), hK _ _ ?_⟩
        clear hK Kv
        refine pb_end (by kernel_rfl) ?_
        have hT : SL w w.heap.size (.blk xb #[.int .i64 0, .int .i64 0, .int .i64 0, .int .i64 0, .int .i64 0, .slice none 0 0, .slice none 0 0, .slice none 0 0, .slice none 0 0] 39 :: .blk yb #[.int .i64 0, .int .i64 0, .int .i64 0, .int .i64 0, .int .i64 0, .slice none 0 0, .slice none 0 0, .slice none 0 0, .slice none 0 0] 39 :: (instRs p2 x hk2 ht2 ++ (instRs p1 x hk1 ht1 ++ [.blk sb #[.int .u8 s.fin, .int .u8 s.trucks, .int .u8 s.troom, .int .u8 s.bikes, .int .u8 s.broom, .slice sp.SA s.sats.length sp.sc, .slice sp.CA s.custs.length sp.cc, .slice sp.KA s.cost.length sp.kc, .slice sp.TA s.time.length sp.tc, .bool s.tight, .bool s.loose] 26]))) w7 := hS7.perm (by
         classical
         rw [List.perm_iff_count]
         intro r
         simp only [List.count_append, List.count_cons, List.count_nil]
         omega)
        clear hS7
        unfold InstV.cells
        refine wpList_store_abs rfl 39 (.tmp 7) (.tmp 16) rfl rfl xb #[.int .i64 x.fin, .int .i64 x.tm, .int .i64 x.tr, .int .i64 x.bm, .int .i64 x.br, .slice p1.SA x.sats.length p1.sc, .slice p1.CA x.custs.length p1.cc, .slice p1.KA x.cost.length p1.kc, .slice p1.TA x.time.length p1.tc] rfl rfl _ _ (hT.blk 0 rfl) (by kernel_rfl) rfl (by simp [Value.oneCell']) (fun w8 ho0 hh0 => ?_)
        replace hT := hT.only 0 rfl ho0 hh0
        clear ho0 hh0
        refine wpList_store_abs rfl 39 (.tmp 8) (.tmp 18) rfl rfl yb #[.int .i64 x.fin, .int .i64 x.tm, .int .i64 x.tr, .int .i64 x.bm, .int .i64 x.br, .slice p2.SA x.sats.length p2.sc, .slice p2.CA x.custs.length p2.cc, .slice p2.KA x.cost.length p2.kc, .slice p2.TA x.time.length p2.tc] rfl rfl _ _ (hT.blk 1 rfl) (by kernel_rfl) rfl (by simp [Value.oneCell']) (fun w9 ho1 hh1 => ?_)
        replace hT := hT.only 1 rfl ho1 hh1
        clear ho1 hh1
        have HT := Lib.hid hT
        have HLE := Lib.hid (And.intro hl1 (And.intro hl2 (And.intro hl3 hl4)))
        clear hT hl1 hl2 hl3 hl4 HMK HX
        go_wp2_with fail
        go_meet
        exact ⟨xb, yb, p1, p2, hk1, ht1, hk2, ht2, rfl, rfl, HLE.out.1, HLE.out.2.1, HLE.out.2.2.1, HLE.out.2.2.2, HT.out⟩
      · skip
        refine kOp_eff rfl rfl fun Kv hK => ?_
        go_simp
        obtain ⟨yb, hyb⟩ : ∃ b, w5.heap.size = b := ⟨_, rfl⟩
        have hS6 : SL w w.heap.size ([.blk yb #[.int .i64 0, .int .i64 0, .int .i64 0, .int .i64 0, .int .i64 0, .slice none 0 0, .slice none 0 0, .slice none 0 0, .slice none 0 0] 39] ++ ([.blk xb #[.int .i64 0, .int .i64 0, .int .i64 0, .int .i64 0, .int .i64 0, .slice none 0 0, .slice none 0 0, .slice none 0 0, .slice none 0 0] 39] ++ (instRs p1 x hk1 ht1 ++ ([.blk sb #[.int .u8 s.fin, .int .u8 s.trucks, .int .u8 s.troom, .int .u8 s.bikes, .int .u8 s.broom, .slice sp.SA s.sats.length sp.sc, .slice sp.CA s.custs.length sp.cc, .slice sp.KA s.cost.length sp.kc, .slice sp.TA s.time.length sp.tc, .bool s.tight, .bool s.loose] 26])))) (w5.alloc (.cells #[.int .i64 0, .int .i64 0, .int .i64 0, .int .i64 0, .int .i64 0, .slice none 0 0, .slice none 0 0, .slice none 0 0, .slice none 0 0] 39)) := by rw [← hyb]; exact hS5.alloc #[.int .i64 0, .int .i64 0, .int .i64 0, .int .i64 0, .int .i64 0, .slice none 0 0, .slice none 0 0, .slice none 0 0, .slice none 0 0] 39
        obtain ⟨w6, hw6⟩ : ∃ y, w5.alloc (.cells #[.int .i64 0, .int .i64 0, .int .i64 0, .int .i64 0, .int .i64 0, .slice none 0 0, .slice none 0 0, .slice none 0 0, .slice none 0 0] 39) = y := ⟨_, rfl⟩
        rw [hw6] at hS6
        rw [hyb, hw6]
        clear hyb hw6 hS5
        refine ⟨hS6.sub ((((List.Sublist.refl _).trans (List.sublist_append_right _ _)).trans (List.sublist_append_right _ _)).trans (List.sublist_append_right _ _)), hK _ _ ?_⟩
        clear hK Kv
        refine pb_one 3 (by kernel_rfl) (by kernel_rfl) ?_
        refine kOp_eff rfl rfl fun Kv hK => ?_
        go_simp
        refine eff_call (HMK.out _ hS6.below) (fun e w7 h => ?_)
        obtain ⟨p2, hk2, ht2, rfl, hl3, hl4, hq⟩ := h
        have hS7 : SL w w.heap.size (instRs p2 x hk2 ht2 ++ ([.blk yb #[.int .i64 0, .int .i64 0, .int .i64 0, .int .i64 0, .int .i64 0, .slice none 0 0, .slice none 0 0, .slice none 0 0, .slice none 0 0] 39] ++ ([.blk xb #[.int .i64 0, .int .i64 0, .int .i64 0, .int .i64 0, .int .i64 0, .slice none 0 0, .slice none 0 0, .slice none 0 0, .slice none 0 0] 39] ++ (instRs p1 x hk1 ht1 ++ ([.blk sb #[.int .u8 s.fin, .int .u8 s.trucks, .int .u8 s.troom, .int .u8 s.bikes, .int .u8 s.broom, .slice sp.SA s.sats.length sp.sc, .slice sp.CA s.custs.length sp.cc, .slice sp.KA s.cost.length sp.kc, .slice sp.TA s.time.length sp.tc, .bool s.tight, .bool s.loose] 26]))))) w7 := hS6.join hq
        refine .inl ⟨_, rfl, hS7.sub (((((List.Sublist.refl _).trans (List.sublist_append_right _ _)).trans (List.sublist_append_right _ _)).trans (List.sublist_append_right _ _)).trans (List.sublist_append_right _ _)), hK _ _ ?_⟩
        clear hK Kv hq hS6
        refine pb_end (by kernel_rfl) ?_
        have hT : SL w w.heap.size (.blk xb #[.int .i64 0, .int .i64 0, .int .i64 0, .int .i64 0, .int .i64 0, .slice none 0 0, .slice none 0 0, .slice none 0 0, .slice none 0 0] 39 :: .blk yb #[.int .i64 0, .int .i64 0, .int .i64 0, .int .i64 0, .int .i64 0, .slice none 0 0, .slice none 0 0, .slice none 0 0, .slice none 0 0] 39 :: (instRs p2 x hk2 ht2 ++ (instRs p1 x hk1 ht1 ++ [.blk sb #[.int .u8 s.fin, .int .u8 s.trucks, .int .u8 s.troom, .int .u8 s.bikes, .int .u8 s.broom, .slice sp.SA s.sats.length sp.sc, .slice sp.CA s.custs.length sp.cc, .slice sp.KA s.cost.length sp.kc, .slice sp.TA s.time.length sp.tc, .bool s.tight, .bool s.loose] 26]))) w7 := hS7.perm (by
         classical
         rw [List.perm_iff_count]
         intro r
         simp only [List.count_append, List.count_cons, List.count_nil]
         omega)
        clear hS7
        unfold InstV.cells
        refine wpList_store_abs rfl 39 (.tmp 7) (.tmp 16) rfl rfl xb #[.int .i64 x.fin, .int .i64 x.tm, .int .i64 x.tr, .int .i64 x.bm, .int .i64 x.br, .slice p1.SA x.sats.length p1.sc, .slice p1.CA x.custs.length p1.cc, .slice p1.KA x.cost.length p1.kc, .slice p1.TA x.time.length p1.tc] rfl rfl _ _ (hT.blk 0 rfl) (by kernel_rfl) rfl (by simp [Value.oneCell']) (fun w8 ho0 hh0 => ?_)
        replace hT := hT.only 0 rfl ho0 hh0
        clear ho0 hh0
        refine wpList_store_abs rfl 39 (.tmp 8) (.tmp 18) rfl rfl yb #[.int .i64 x.fin, .int .i64 x.tm, .int .i64 x.tr, .int .i64 x.bm, .int .i64 x.br, .slice p2.SA x.sats.length p2.sc, .slice p2.CA x.custs.length p2.cc, .slice p2.KA x.cost.length p2.kc, .slice p2.TA x.time.length p2.tc] rfl rfl _ _ (hT.blk 1 rfl) (by kernel_rfl) rfl (by simp [Value.oneCell']) (fun w9 ho1 hh1 => ?_)
        replace hT := hT.only 1 rfl ho1 hh1
        clear ho1 hh1
        have HT := Lib.hid hT
        have HLE := Lib.hid (And.intro hl1 (And.intro hl2 (And.intro hl3 hl4)))
        clear hT hl1 hl2 hl3 hl4 HMK HX
        go_wp2_with fail
        go_meet
        exact ⟨xb, yb, p1, p2, hk1, ht1, hk2, ht2, rfl, rfl, HLE.out.1, HLE.out.2.1, HLE.out.2.2.1, HLE.out.2.2.2, HT.out⟩
    · skip
      refine kOp_eff rfl rfl fun Kv hK => ?_
      go_simp
      obtain ⟨yb, hyb⟩ : ∃ b, w4.heap.size = b := ⟨_, rfl⟩
      have hS5 : SL w w.heap.size ([.blk yb #[.int .i64 0, .int .i64 0, .int .i64 0, .int .i64 0, .int .i64 0, .slice none 0 0, .slice none 0 0, .slice none 0 0, .slice none 0 0] 39] ++ (instRs p1 x hk1 ht1 ++ ([.blk sb #[.int .u8 s.fin, .int .u8 s.trucks, .int .u8 s.troom, .int .u8 s.bikes, .int .u8 s.broom, .slice sp.SA s.sats.length sp.sc, .slice sp.CA s.custs.length sp.cc, .slice sp.KA s.cost.length sp.kc, .slice sp.TA s.time.length sp.tc, .bool s.tight, .bool s.loose] 26]))) (w4.alloc (.cells #[.int .i64 0, .int .i64 0, .int .i64 0, .int .i64 0, .int .i64 0, .slice none 0 0, .slice none 0 0, .slice none 0 0, .slice none 0 0] 39)) := by rw [← hyb]; exact hS4.alloc #[.int .i64 0, .int .i64 0, .int .i64 0, .int .i64 0, .int .i64 0, .slice none 0 0, .slice none 0 0, .slice none 0 0, .slice none 0 0] 39
      obtain ⟨w5, hw5⟩ : ∃ y, w4.alloc (.cells #[.int .i64 0, .int .i64 0, .int .i64 0, .int .i64 0, .int .i64 0, .slice none 0 0, .slice none 0 0, .slice none 0 0, .slice none 0 0] 39) = y := ⟨_, rfl⟩
      rw [hw5] at hS5
      rw [hyb, hw5]
      clear hyb hw5 hS4
      refine ⟨hS5.sub (((List.Sublist.refl _).trans (List.sublist_append_right _ _)).trans (List.sublist_append_right _ _)), hK _ _ ?_⟩
      clear hK Kv
      refine pb_two 3 4 (by kernel_rfl) (by kernel_rfl) (by kernel_rfl) ?_ ?_
      · skip
        refine kOp_eff rfl rfl fun Kv hK => ?_
        go_simp
        refine eff_call (HMK.out _ hS5.below) (fun e w6 h => ?_)
        obtain ⟨p2, hk2, ht2, rfl, hl3, hl4, hq⟩ := h
        have hS6 : SL w w.heap.size (instRs p2 x hk2 ht2 ++ ([.blk yb #[.int .i64 0, .int .i64 0, .int .i64 0, .int .i64 0, .int .i64 0, .slice none 0 0, .slice none 0 0, .slice none 0 0, .slice none 0 0] 39] ++ (instRs p1 x hk1 ht1 ++ ([.blk sb #[.int .u8 s.fin, .int .u8 s.trucks, .int .u8 s.troom, .int .u8 s.bikes, .int .u8 s.broom, .slice sp.SA s.sats.length sp.sc, .slice sp.CA s.custs.length sp.cc, .slice sp.KA s.cost.length sp.kc, .slice sp.TA s.time.length sp.tc, .bool s.tight, .bool s.loose] 26])))) w6 := hS5.join hq
        refine .inl ⟨_, rfl, hS6.sub ((((List.Sublist.refl _).trans (List.sublist_append_right _ _)).trans (List.sublist_append_right _ _)).trans (List.sublist_append_right _ _)), hK _ _ ?_⟩
        clear hK Kv hq hS5
        refine pb_one 4 (by kernel_rfl) (by kernel_rfl) ?_
        refine kOp_eff rfl rfl fun Kv hK => ?_
        go_simp
        obtain ⟨xb, hxb⟩ : ∃ b, w6.heap.size = b := ⟨_, rfl⟩
        have hS7 : SL w w.heap.size ([.blk xb #[.int .i64 0, .int .i64 0, .int .i64 0, .int .i64 0, .int .i64 0, .slice none 0 0, .slice none 0 0, .slice none 0 0, .slice none 0 0] 39] ++ (instRs p2 x hk2 ht2 ++ ([.blk yb #[.int .i64 0, .int .i64 0, .int .i64 0, .int .i64 0, .int .i64 0, .slice none 0 0, .slice none 0 0, .slice none 0 0, .slice none 0 0] 39] ++ (instRs p1 x hk1 ht1 ++ ([.blk sb #[.int .u8 s.fin, .int .u8 s.trucks, .int .u8 s.troom, .int .u8 s.bikes, .int .u8 s.broom, .slice sp.SA s.sats.length sp.sc, .slice sp.CA s.custs.length sp.cc, .slice sp.KA s.cost.length sp.kc, .slice sp.TA s.time.length sp.tc, .bool s.tight, .bool s.loose] 26]))))) (w6.alloc (.cells #[.int .i64 0, .int .i64 0, .int .i64 0, .int .i64 0, .int .i64 0, .slice none 0 0, .slice none 0 0, .slice none 0 0, .slice none 0 0] 39)) := by rw [← hxb]; exact hS6.alloc #[.int .i64 0, .int .i64 0, .int .i64 0, .int .i64 0, .int .i64 0, .slice none 0 0, .slice none 0 0, .slice none 0 0, .slice none 0 0] 39
        obtain ⟨w7, hw7⟩ : ∃ y, w6.alloc (.cells #[.int .i64 0, .int .i64 0, .int .i64 0, .int .i64 0, .int .i64 0, .slice none 0 0, .slice none 0 0, .slice none 0 0, .slice none 0 0] 39) = y := ⟨_, rfl⟩
        rw [hw7] at hS7
        rw [hxb, hw7]
        clear hxb hw7 hS6
        refine ⟨hS7.sub (((((List.Sublist.refl _).trans (List.sublist_append_right _ _)).trans (List.sublist_append_right _ _)).trans (List.sublist_append_right _ _)).trans (List.sublist_append_right _ _)), hK _ _ ?_⟩
        clear hK Kv
        refine pb_end (by kernel_rfl) ?_
        have hT : SL w w.heap.size (.blk xb #[.int .i64 0, .int .i64 0, .int .i64 0, .int .i64 0, .int .i64 0, .slice none 0 0, .slice none 0 0, .slice none 0 0, .slice none 0 0] 39 :: .blk yb #[.int .i64 0, .int .i64 0, .int .i64 0, .int .i64 0, .int .i64 0, .slice none 0 0, .slice none 0 0, .slice none 0 0, .slice none 0 0] 39 :: (instRs p2 x hk2 ht2 ++ (instRs p1 x hk1 ht1 ++ [.blk sb #[.int .u8 s.fin, .int .u8 s.trucks, .int .u8 s.troom, .int .u8 s.bikes, .int .u8 s.broom, .slice sp.SA s.sats.length sp.sc, .slice sp.CA s.custs.length sp.cc, .slice sp.KA s.cost.length sp.kc, .slice sp.TA s.time.length sp.tc, .bool s.tight, .bool s.loose] 26]))) w7 := hS7.perm (by
         classical
         rw [List.perm_iff_count]
         intro r
         simp only [List.count_append, List.count_cons, List.count_nil]
         omega)
        clear hS7
        unfold InstV.cells
        refine wpList_store_abs rfl 39 (.tmp 7) (.tmp 16) rfl rfl xb #[.int .i64 x.fin, .int .i64 x.tm, .int .i64 x.tr, .int .i64 x.bm, .int .i64 x.br, .slice p1.SA x.sats.length p1.sc, .slice p1.CA x.custs.length p1.cc, .slice p1.KA x.cost.length p1.kc, .slice p1.TA x.time.length p1.tc] rfl rfl _ _ (hT.blk 0 rfl) (by kernel_rfl) rfl (by simp [Value.oneCell']) (fun w8 ho0 hh0 => ?_)
        replace hT := hT.only 0 rfl ho0 hh0
        clear ho0 hh0
        refine wpList_store_abs rfl 39 (.tmp 8) (.tmp 18) rfl rfl yb #[.int .i64 x.fin, .int .i64 x.tm, .int .i64 x.tr, .int .i64 x.bm, .int .i64 x.br, .slice p2.SA x.sats.length p2.sc, .slice p2.CA x.custs.length p2.cc, .slice p2.KA x.cost.length p2.kc, .slice p2.TA x.time.length p2.tc] rfl rfl _ _ (hT.blk 1 rfl) (by kernel_rfl) rfl (by simp [Value.oneCell']) (fun w9 ho1 hh1 => ?_)
        replace hT := hT.only 1 rfl ho1 hh1
        clear ho1 hh1
        have HT := Lib.hid hT
        have HLE := Lib.hid (And.intro hl1 (And.intro hl2 (And.intro hl3 hl4)))
        clear hT hl1 hl2 hl3 hl4 HMK HX
        go_wp2_with fail
        go_meet
        exact ⟨xb, yb, p1, p2, hk1, ht1, hk2, ht2, rfl, rfl, HLE.out.1, HLE.out.2.1, HLE.out.2.2.1, HLE.out.2.2.2, HT.out⟩
      · skip
        refine kOp_eff rfl rfl fun Kv hK => ?_
        go_simp
        obtain ⟨xb, hxb⟩ : ∃ b, w5.heap.size = b := ⟨_, rfl⟩
        have hS6 : SL w w.heap.size ([.blk xb #[.int .i64 0, .int .i64 0, .int .i64 0, .int .i64 0, .int .i64 0, .slice none 0 0, .slice none 0 0, .slice none 0 0, .slice none 0 0] 39] ++ ([.blk yb #[.int .i64 0, .int .i64 0, .int .i64 0, .int .i64 0, .int .i64 0, .slice none 0 0, .slice none 0 0, .slice none 0 0, .slice none 0 0] 39] ++ (instRs p1 x hk1 ht1 ++ ([.blk sb #[.int .u8 s.fin, .int .u8 s.trucks, .int .u8 s.troom, .int .u8 s.bikes, .int .u8 s.broom, .slice sp.SA s.sats.length sp.sc, .slice sp.CA s.custs.length sp.cc, .slice sp.KA s.cost.length sp.kc, .slice sp.TA s.time.length sp.tc, .bool s.tight, .bool s.loose] 26])))) (w5.alloc (.cells #[.int .i64 0, .int .i64 0, .int .i64 0, .int .i64 0, .int .i64 0, .slice none 0 0, .slice none 0 0, .slice none 0 0, .slice none 0 0] 39)) := by rw [← hxb]; exact hS5.alloc #[.int .i64 0, .int .i64 0, .int .i64 0, .int .i64 0, .int .i64 0, .slice none 0 0, .slice none 0 0, .slice none 0 0, .slice none 0 0] 39
        obtain ⟨w6, hw6⟩ : ∃ y, w5.alloc (.cells #[.int .i64 0, .int .i64 0, .int .i64 0, .int .i64 0, .int .i64 0, .slice none 0 0, .slice none 0 0, .slice none 0 0, .slice none 0 0] 39) = y := ⟨_, rfl⟩
        rw [hw6] at hS6
        rw [hxb, hw6]
        clear hxb hw6 hS5
        refine ⟨hS6.sub ((((List.Sublist.refl _).trans (List.sublist_append_right _ _)).trans (List.sublist_append_right _ _)).trans (List.sublist_append_right _ _)), hK _ _ ?_⟩
        clear hK Kv
        refine pb_one 3 (by kernel_rfl) (by kernel_rfl) ?_
        refine kOp_eff rfl rfl fun Kv hK => ?_
        go_simp
        refine eff_call (HMK.out _ hS6.below) (fun e w7 h => ?_)
        obtain ⟨p2, hk2, ht2, rfl, hl3, hl4, hq⟩ := h
        have hS7 : SL w w.heap.size (instRs p2 x hk2 ht2 ++ ([.blk xb #[.int .i64 0, .int .i64 0, .int .i64 0, .int .i64 0, .int .i64 0, .slice none 0 0, .slice none 0 0, .slice none 0 0, .slice none 0 0] 39] ++ ([.blk yb #[.int .i64 0, .int .i64 0, .int .i64 0, .int .i64 0, .int .i64 0, .slice none 0 0, .slice none 0 0, .slice none 0 0, .slice none 0 0] 39] ++ (instRs p1 x hk1 ht1 ++ ([.blk sb #[.int .u8 s.fin, .int .u8 s.trucks, .int .u8 s.troom, .int .u8 s.bikes, .int .u8 s.broom, .slice sp.SA s.sats.length sp.sc, .slice sp.CA s.custs.length sp.cc, .slice sp.KA s.cost.length sp.kc, .slice sp.TA s.time.length sp.tc, .bool s.tight, .bool s.loose] 26]))))) w7 := hS6.join hq
        refine .inl ⟨_, rfl, hS7.sub (((((List.Sublist.refl _).trans (List.sublist_append_right _ _)).trans (List.sublist_append_right _ _)).trans (List.sublist_append_right _ _)).trans (List.sublist_append_right _ _)), hK _ _ ?_⟩
        clear hK Kv hq hS6
        refine pb_end (by kernel_rfl) ?_
        have hT : SL w w.heap.size (.blk xb #[.int .i64 0, .int .i64 0, .int .i64 0, .int .i64 0, .int .i64 0, .slice none 0 0, .slice none 0 0, .slice none 0 0, .slice none 0 0] 39 :: .blk yb #[.int .i64 0, .int .i64 0, .int .i64 0, .int .i64 0, .int .i64 0, .slice none 0 0, .slice none 0 0, .slice none 0 0, .slice none 0 0] 39 :: (instRs p2 x hk2 ht2 ++ (instRs p1 x hk1 ht1 ++ [.blk sb #[.int .u8 s.fin, .int .u8 s.trucks, .int .u8 s.troom, .int .u8 s.bikes, .int .u8 s.broom, .slice sp.SA s.sats.length sp.sc, .slice sp.CA s.custs.length sp.cc, .slice sp.KA s.cost.length sp.kc, .slice sp.TA s.time.length sp.tc, .bool s.tight, .bool s.loose] 26]))) w7 := hS7.perm (by
         classical
         rw [List.perm_iff_count]
         intro r
         simp only [List.count_append, List.count_cons, List.count_nil]
         omega)
        clear hS7
        unfold InstV.cells
        refine wpList_store_abs rfl 39 (.tmp 7) (.tmp 16) rfl rfl xb #[.int .i64 x.fin, .int .i64 x.tm, .int .i64 x.tr, .int .i64 x.bm, .int .i64 x.br, .slice p1.SA x.sats.length p1.sc, .slice p1.CA x.custs.length p1.cc, .slice p1.KA x.cost.length p1.kc, .slice p1.TA x.time.length p1.tc] rfl rfl _ _ (hT.blk 0 rfl) (by kernel_rfl) rfl (by simp [Value.oneCell']) (fun w8 ho0 hh0 => ?_)
        replace hT := hT.only 0 rfl ho0 hh0
        clear ho0 hh0
        refine wpList_store_abs rfl 39 (.tmp 8) (.tmp 18) rfl rfl yb #[.int .i64 x.fin, .int .i64 x.tm, .int .i64 x.tr, .int .i64 x.bm, .int .i64 x.br, .slice p2.SA x.sats.length p2.sc, .slice p2.CA x.custs.length p2.cc, .slice p2.KA x.cost.length p2.kc, .slice p2.TA x.time.length p2.tc] rfl rfl _ _ (hT.blk 1 rfl) (by kernel_rfl) rfl (by simp [Value.oneCell']) (fun w9 ho1 hh1 => ?_)
        replace hT := hT.only 1 rfl ho1 hh1
        clear ho1 hh1
        have HT := Lib.hid hT
        have HLE := Lib.hid (And.intro hl1 (And.intro hl2 (And.intro hl3 hl4)))
        clear hT hl1 hl2 hl3 hl4 HMK HX
        go_wp2_with fail
        go_meet
        exact ⟨xb, yb, p1, p2, hk1, ht1, hk2, ht2, rfl, rfl, HLE.out.1, HLE.out.2.1, HLE.out.2.2.1, HLE.out.2.2.2, HT.out⟩
  · skip
    refine kOp_eff rfl rfl fun Kv hK => ?_
    go_simp
    obtain ⟨xb, hxb⟩ : ∃ b, w3.heap.size = b := ⟨_, rfl⟩
    have hS4 : SL w w.heap.size ([.blk xb #[.int .i64 0, .int .i64 0, .int .i64 0, .int .i64 0, .int .i64 0, .slice none 0 0, .slice none 0 0, .slice none 0 0, .slice none 0 0] 39] ++ ([.blk sb #[.int .u8 s.fin, .int .u8 s.trucks, .int .u8 s.troom, .int .u8 s.bikes, .int .u8 s.broom, .slice sp.SA s.sats.length sp.sc, .slice sp.CA s.custs.length sp.cc, .slice sp.KA s.cost.length sp.kc, .slice sp.TA s.time.length sp.tc, .bool s.tight, .bool s.loose] 26])) (w3.alloc (.cells #[.int .i64 0, .int .i64 0, .int .i64 0, .int .i64 0, .int .i64 0, .slice none 0 0, .slice none 0 0, .slice none 0 0, .slice none 0 0] 39)) := by rw [← hxb]; exact hS3.alloc #[.int .i64 0, .int .i64 0, .int .i64 0, .int .i64 0, .int .i64 0, .slice none 0 0, .slice none 0 0, .slice none 0 0, .slice none 0 0] 39
    obtain ⟨w4, hw4⟩ : ∃ y, w3.alloc (.cells #[.int .i64 0, .int .i64 0, .int .i64 0, .int .i64 0, .int .i64 0, .slice none 0 0, .slice none 0 0, .slice none 0 0, .slice none 0 0] 39) = y := ⟨_, rfl⟩
    rw [hw4] at hS4
    rw [hxb, hw4]
    clear hxb hw4 hS3
    refine ⟨hS4.sub ((List.Sublist.refl _).trans (List.sublist_append_right _ _)), hK _ _ ?_⟩
    clear hK Kv
    refine pb_two 1 5 (by kernel_rfl) (by kernel_rfl) (by kernel_rfl) ?_ ?_
    · skip
      refine kOp_eff rfl rfl fun Kv hK => ?_
      go_simp
      refine eff_call (HMK.out _ hS4.below) (fun e w5 h => ?_)
      obtain ⟨p1, hk1, ht1, rfl, hl1, hl2, hq⟩ := h
      have hS5 : SL w w.heap.size (instRs p1 x hk1 ht1 ++ ([.blk xb #[.int .i64 0, .int .i64 0, .int .i64 0, .int .i64 0, .int .i64 0, .slice none 0 0, .slice none 0 0, .slice none 0 0, .slice none 0 0] 39] ++ ([.blk sb #[.int .u8 s.fin, .int .u8 s.trucks, .int .u8 s.troom, .int .u8 s.bikes, .int .u8 s.broom, .slice sp.SA s.sats.length sp.sc, .slice sp.CA s.custs.length sp.cc, .slice sp.KA s.cost.length sp.kc, .slice sp.TA s.time.length sp.tc, .bool s.tight, .bool s.loose] 26]))) w5 := hS4.join hq
      refine .inl ⟨_, rfl, hS5.sub (((List.Sublist.refl _).trans (List.sublist_append_right _ _)).trans (List.sublist_append_right _ _)), hK _ _ ?_⟩
      clear hK Kv hq hS4
      refine pb_two 3 5 (by kernel_rfl) (by kernel_rfl) (by kernel_rfl) ?_ ?_
      · skip
        refine kOp_eff rfl rfl fun Kv hK => ?_
        go_simp
        refine eff_call (HMK.out _ hS5.below) (fun e w6 h => ?_)
        obtain ⟨p2, hk2, ht2, rfl, hl3, hl4, hq⟩ := h
        have hS6 : SL w w.heap.size (instRs p2 x hk2 ht2 ++ (instRs p1 x hk1 ht1 ++ ([.blk xb #[.int .i64 0, .int .i64 0, .int .i64 0, .int .i64 0, .int .i64 0, .slice none 0 0, .slice none 0 0, .slice none 0 0, .slice none 0 0] 39] ++ ([.blk sb #[.int .u8 s.fin, .int .u8 s.trucks, .int .u8 s.troom, .int .u8 s.bikes, .int .u8 s.broom, .slice sp.SA s.sats.length sp.sc, .slice sp.CA s.custs.length sp.cc, .slice sp.KA s.cost.length sp.kc, .slice sp.TA s.time.length sp.tc, .bool s.tight, .bool s.loose] 26])))) w6 := hS5.join hq
        refine .inl ⟨_, rfl, hS6.sub ((((List.Sublist.refl _).trans (List.sublist_append_right _ _)).trans (List.sublist_append_right _ _)).trans (List.sublist_append_right _ _)), hK _ _ ?_⟩
        clear hK Kv hq hS5
        refine pb_one 5 (by kernel_rfl) (by kernel_rfl) ?_
        refine kOp_eff rfl rfl fun Kv hK => ?_
        go_simp
        obtain ⟨yb, hyb⟩ : ∃ b, w6.heap.size = b := ⟨_, rfl⟩
        have hS7 : SL w w.heap.size ([.blk yb #[.int .i64 0, .int .i64 0, .int .i64 0, .int .i64 0, .int .i64 0, .slice none 0 0, .slice none 0 0, .slice none 0 0, .slice none 0 0] 39] ++ (instRs p2 x hk2 ht2 ++ (instRs p1 x hk1 ht1 ++ ([.blk xb #[.int .i64 0, .int .i64 0, .int .i64 0, .int .i64 0, .int .i64 0, .slice none 0 0, .slice none 0 0, .slice none 0 0, .slice none 0 0] 39] ++ ([.blk sb #[.int .u8 s.fin, .int .u8 s.trucks, .int .u8 s.troom, .int .u8 s.bikes, .int .u8 s.broom, .slice sp.SA s.sats.length sp.sc, .slice sp.CA s.custs.length sp.cc, .slice sp.KA s.cost.length sp.kc, .slice sp.TA s.time.length sp.tc, .bool s.tight, .bool s.loose] 26]))))) (w6.alloc (.cells #[.int .i64 0, .int .i64 0, .int .i64 0, .int .i64 0, .int .i64 0, .slice none 0 0, .slice none 0 0, .slice none 0 0, .slice none 0 0] 39)) := by rw [← hyb]; exact hS6.alloc #[.int .i64 0, .int .i64 0, .int .i64 0, .int .i64 0, .int .i64 0, .slice none 0 0, .slice none 0 0, .slice none 0 0, .slice none 0 0] 39
        obtain ⟨w7, hw7⟩ : ∃ y, w6.alloc (.cells #[.int .i64 0, .int .i64 0, .int .i64 0, .int .i64 0, .int .i64 0, .slice none 0 0, .slice none 0 0, .slice none 0 0, .slice none 0 0] 39) = y := ⟨_, rfl⟩
        rw [hw7] at hS7
        rw [hyb, hw7]
        clear hyb hw7 hS6
        refine ⟨hS7.sub (((((List.Sublist.refl _).trans (List.sublist_append_right _ _)).trans (List.sublist_append_right _ _)).trans (List.sublist_append_right _ _)).trans (List.sublist_append_right _ _)), hK _ _ ?_⟩
        clear hK Kv
        refine pb_end (by kernel_rfl) ?_
        have hT : SL w w.heap.size (.blk xb #[.int .i64 0, .int .i64 0, .int .i64 0, .int .i64 0, .int .i64 0, .slice none 0 0, .slice none 0 0, .slice none 0 0, .slice none 0 0] 39 :: .blk yb #[.int .i64 0, .int .i64 0, .int .i64 0, .int .i64 0, .int .i64 0, .slice none 0 0, .slice none 0 0, .slice none 0 0, .slice none 0 0] 39 :: (instRs p2 x hk2 ht2 ++ (instRs p1 x hk1 ht1 ++ [.blk sb #[.int .u8 s.fin, .int .u8 s.trucks, .int .u8 s.troom, .int .u8 s.bikes, .int .u8 s.broom, .slice sp.SA s.sats.length sp.sc, .slice sp.CA s.custs.length sp.cc, .slice sp.KA s.cost.length sp.kc, .slice sp.TA s.time.length sp.tc, .bool s.tight, .bool s.loose] 26]))) w7 := hS7.perm (by
         classical
         rw [List.perm_iff_count]
         intro r
         simp only [List.count_append, List.count_cons, List.count_nil]
         omega)
        clear hS7
        unfold InstV.cells
        refine wpList_store_abs rfl 39 (.tmp 7) (.tmp 16) rfl rfl xb #[.int .i64 x.fin, .int .i64 x.tm, .int .i64 x.tr, .int .i64 x.bm, .int .i64 x.br, .slice p1.SA x.sats.length p1.sc, .slice p1.CA x.custs.length p1.cc, .slice p1.KA x.cost.length p1.kc, .slice p1.TA x.time.length p1.tc] rfl rfl _ _ (hT.blk 0 rfl) (by kernel_rfl) rfl (by simp [Value.oneCell']) (fun w8 ho0 hh0 => ?_)
        replace hT := hT.only 0 rfl ho0 hh0
        clear ho0 hh0
        refine wpList_store_abs rfl 39 (.tmp 8) (.tmp 18) rfl rfl yb #[.int .i64 x.fin, .int .i64 x.tm, .int .i64 x.tr, .int .i64 x.bm, .int .i64 x.br, .slice p2.SA x.sats.length p2.sc, .slice p2.CA x.custs.length p2.cc, .slice p2.KA x.cost.length p2.kc, .slice p2.TA x.time.length p2.tc] rfl rfl _ _ (hT.blk 1 rfl) (by kernel_rfl) rfl (by simp [Value.oneCell']) (fun w9 ho1 hh1 => ?_)
        replace hT := hT.only 1 rfl ho1 hh1
        clear ho1 hh1
        have HT := Lib.hid hT
        have HLE := Lib.hid (And.intro hl1 (And.intro hl2 (And.intro hl3 hl4)))
        clear hT hl1 hl2 hl3 hl4 HMK HX
        go_wp2_with fail
        go_meet
        exact ⟨xb, yb, p1, p2, hk1, ht1, hk2, ht2, rfl, rfl, HLE.out.1, HLE.out.2.1, HLE.out.2.2.1, HLE.out.2.2.2, HT.out⟩
      · skip
        refine kOp_eff rfl rfl fun Kv hK => ?_
        go_simp
        obtain ⟨yb, hyb⟩ : ∃ b, w5.heap.size = b := ⟨_, rfl⟩
        have hS6 : SL w w.heap.size ([.blk yb #[.int .i64 0, .int .i64 0, .int .i64 0, .int .i64 0, .int .i64 0, .slice none 0 0, .slice none 0 0, .slice none 0 0, .slice none 0 0] 39] ++ (instRs p1 x hk1 ht1 ++ ([.blk xb #[.int .i64 0, .int .i64 0, .int .i64 0, .int .i64 0, .int .i64 0, .slice none 0 0, .slice none 0 0, .slice none 0 0, .slice none 0 0] 39] ++ ([.blk sb #[.int .u8 s.fin, .int .u8 s.trucks, .int .u8 s.troom, .int .u8 s.bikes, .int .u8 s.broom, .slice sp.SA s.sats.length sp.sc, .slice sp.CA s.custs.length sp.cc, .slice sp.KA s.cost.length sp.kc, .slice sp.TA s.time.length sp.tc, .bool s.tight, .bool s.loose] 26])))) (w5.alloc (.cells #[.int .i64 0, .int .i64 0, .int .i64 0, .int .i64 0, .int .i64 0, .slice none 0 0, .slice none 0 0, .slice none 0 0, .slice none 0 0] 39)) := by rw [← hyb]; exact hS5.alloc #[.int .i64 0, .int .i64 0, .int .i64 0, .int .i64 0, .int .i64 0, .slice none 0 0, .slice none 0 0, .slice none 0 0, .slice none 0 0] 39
        obtain ⟨w6, hw6⟩ : ∃ y, w5.alloc (.cells #[.int .i64 0, .int .i64 0, .int .i64 0, .int .i64 0, .int .i64 0, .slice none 0 0, .slice none 0 0, .slice none 0 0, .slice none 0 0] 39) = y := ⟨_, rfl⟩
        rw [hw6] at hS6
        rw [hyb, hw6]
        clear hyb hw6 hS5
        refine ⟨hS6.sub ((((List.Sublist.refl _).trans (List.sublist_append_right _ _)).trans (List.sublist_append_right _ _)).trans (List.sublist_append_right _ _)), hK _ _ ?_⟩
        clear hK Kv
        refine pb_one 3 (by kernel_rfl) (by kernel_rfl) ?_
        refine kOp_eff rfl rfl fun Kv hK => ?_
        go_simp
        refine eff_call (HMK.out _ hS6.below) (fun e w7 h => ?_)
        obtain ⟨p2, hk2, ht2, rfl, hl3, hl4, hq⟩ := h
        have hS7 : SL w w.heap.size (instRs p2 x hk2 ht2 ++ ([.blk yb #[.int .i64 0, .int .i64 0, .int .i64 0, .int .i64 0, .int .i64 0, .slice none 0 0, .slice none 0 0, .slice none 0 0, .slice none 0 0] 39] ++ (instRs p1 x hk1 ht1 ++ ([.blk xb #[.int .i64 0, .int .i64 0, .int .i64 0, .int .i64 0, .int .i64 0, .slice none 0 0, .slice none 0 0, .slice none 0 0, .slice none 0 0] 39] ++ ([.blk sb #[.int .u8 s.fin, .int .u8 s.trucks, .int .u8 s.troom, .int .u8 s.bikes, .int .u8 s.broom, .slice sp.SA s.sats.length sp.sc, .slice sp.CA s.custs.length sp.cc, .slice sp.KA s.cost.length sp.kc, .slice sp.TA s.time.length sp.tc, .bool s.tight, .bool s.loose] 26]))))) w7 := hS6.join hq
        refine .inl ⟨_, rfl, hS7.sub (((((List.Sublist.refl _).trans (List.sublist_append_right _ _)).trans (List.sublist_append_right _ _)).trans (List.sublist_append_right _ _)).trans (List.sublist_append_right _ _)), hK _ _ ?_⟩
        clear hK Kv hq hS6
        refine pb_end (by kernel_rfl) ?_
        have hT : SL w w.heap.size (.blk xb #[.int .i64 0, .int .i64 0, .int .i64 0, .int .i64 0, .int .i64 0, .slice none 0 0, .slice none 0 0, .slice none 0 0, .slice none 0 0] 39 :: .blk yb #[.int .i64 0, .int .i64 0, .int .i64 0, .int .i64 0, .int .i64 0, .slice none 0 0, .slice none 0 0, .slice none 0 0, .slice none 0 0] 39 :: (instRs p2 x hk2 ht2 ++ (instRs p1 x hk1 ht1 ++ [.blk sb #[.int .u8 s.fin, .int .u8 s.trucks, .int .u8 s.troom, .int .u8 s.bikes, .int .u8 s.broom, .slice sp.SA s.sats.length sp.sc, .slice sp.CA s.custs.length sp.cc, .slice sp.KA s.cost.length sp.kc, .slice sp.TA s.time.length sp.tc, .bool s.tight, .bool s.loose] 26]))) w7 := hS7.perm (by
         classical
         rw [List.perm_iff_count]
         intro r
         simp only [List.count_append, List.count_cons, List.count_nil]
         omega)
        clear hS7
        unfold InstV.cells
        refine wpList_store_abs rfl 39 (.tmp 7) (.tmp 16) rfl rfl xb #[.int .i64 x.fin, .int .i64 x.tm, .int .i64 x.tr, .int .i64 x.bm, .int .i64 x.br, .slice p1.SA x.sats.length p1.sc, .slice p1.CA x.custs.length p1.cc, .slice p1.KA x.cost.length p1.kc, .slice p1.TA x.time.length p1.tc] rfl rfl _ _ (hT.blk 0 rfl) (by kernel_rfl) rfl (by simp [Value.oneCell']) (fun w8 ho0 hh0 => ?_)
        replace hT := hT.only 0 rfl ho0 hh0
        clear ho0 hh0
        refine wpList_store_abs rfl 39 (.tmp 8) (.tmp 18) rfl rfl yb #[.int .i64 x.fin, .int .i64 x.tm, .int .i64 x.tr, .int .i64 x.bm, .int .i64 x.br, .slice p2.SA x.sats.length p2.sc, .slice p2.CA x.custs.length p2.cc, .slice p2.KA x.cost.length p2.kc, .slice p2.TA x.time.length p2.tc] rfl rfl _ _ (hT.blk 1 rfl) (by kernel_rfl) rfl (by simp [Value.oneCell']) (fun w9 ho1 hh1 => ?_)
        replace hT := hT.only 1 rfl ho1 hh1
        clear ho1 hh1
        have HT := Lib.hid hT
        have HLE := Lib.hid (And.intro hl1 (And.intro hl2 (And.intro hl3 hl4)))
        clear hT hl1 hl2 hl3 hl4 HMK HX
        go_wp2_with fail
        go_meet
        exact ⟨xb, yb, p1, p2, hk1, ht1, hk2, ht2, rfl, rfl, HLE.out.1, HLE.out.2.1, HLE.out.2.2.1, HLE.out.2.2.2, HT.out⟩
    · skip
      refine kOp_eff rfl rfl fun Kv hK => ?_
      go_simp
      obtain ⟨yb, hyb⟩ : ∃ b, w4.heap.size = b := ⟨_, rfl⟩
      have hS5 : SL w w.heap.size ([.blk yb #[.int .i64 0, .int .i64 0, .int .i64 0, .int .i64 0, .int .i64 0, .slice none 0 0, .slice none 0 0, .slice none 0 0, .slice none 0 0] 39] ++ ([.blk xb #[.int .i64 0, .int .i64 0, .int .i64 0, .int .i64 0, .int .i64 0, .slice none 0 0, .slice none 0 0, .slice none 0 0, .slice none 0 0] 39] ++ ([.blk sb #[.int .u8 s.fin, .int .u8 s.trucks, .int .u8 s.troom, .int .u8 s.bikes, .int .u8 s.broom, .slice sp.SA s.sats.length sp.sc, .slice sp.CA s.custs.length sp.cc, .slice sp.KA s.cost.length sp.kc, .slice sp.TA s.time.length sp.tc, .bool s.tight, .bool s.loose] 26]))) (w4.alloc (.cells #[.int .i64 0, .int .i64 0, .int .i64 0, .int .i64 0, .int .i64 0, .slice none 0 0, .slice none 0 0, .slice none 0 0, .slice none 0 0] 39)) := by rw [← hyb]; exact hS4.alloc #[.int .i64 0, .int .i64 0, .int .i64 0, .int .i64 0, .int .i64 0, .slice none 0 0, .slice none 0 0, .slice none 0 0, .slice none 0 0] 39
      obtain ⟨w5, hw5⟩ : ∃ y, w4.alloc (.cells #[.int .i64 0, .int .i64 0, .int .i64 0, .int .i64 0, .int .i64 0, .slice none 0 0, .slice none 0 0, .slice none 0 0, .slice none 0 0] 39) = y := ⟨_, rfl⟩
      rw [hw5] at hS5
      rw [hyb, hw5]
      clear hyb hw5 hS4
      refine ⟨hS5.sub (((List.Sublist.refl _).trans (List.sublist_append_right _ _)).trans (List.sublist_append_right _ _)), hK _ _ ?_⟩
      clear hK Kv
      refine pb_one 1 (by kernel_rfl) (by kernel_rfl) ?_
      refine kOp_eff rfl rfl fun Kv hK => ?_
      go_simp
      refine eff_call (HMK.out _ hS5.below) (fun e w6 h => ?_)
      obtain ⟨p1, hk1, ht1, rfl, hl1, hl2, hq⟩ := h
      have hS6 : SL w w.heap.size (instRs p1 x hk1 ht1 ++ ([.blk yb #[.int .i64 0, .int .i64 0, .int .i64 0, .int .i64 0, .int .i64 0, .slice none 0 0, .slice none 0 0, .slice none 0 0, .slice none 0 0] 39] ++ ([.blk xb #[.int .i64 0, .int .i64 0, .int .i64 0, .int .i64 0, .int .i64 0, .slice none 0 0, .slice none 0 0, .slice none 0 0, .slice none 0 0] 39] ++ ([.blk sb #[.int .u8 s.fin, .int .u8 s.trucks, .int .u8 s.troom, .int .u8 s.bikes, .int .u8 s.broom, .slice sp.SA s.sats.length sp.sc, .slice sp.CA s.custs.length sp.cc, .slice sp.KA s.cost.length sp.kc, .slice sp.TA s.time.length sp.tc, .bool s.tight, .bool s.loose] 26])))) w6 := hS5.join hq
      refine .inl ⟨_, rfl, hS6.sub ((((List.Sublist.refl _).trans (List.sublist_append_right _ _)).trans (List.sublist_append_right _ _)).trans (List.sublist_append_right _ _)), hK _ _ ?_⟩
      clear hK Kv hq hS5
      refine pb_one 3 (by kernel_rfl) (by kernel_rfl) ?_
      refine kOp_eff rfl rfl fun Kv hK => ?_
      go_simp
      refine eff_call (HMK.out _ hS6.below) (fun e w7 h => ?_)
      obtain ⟨p2, hk2, ht2, rfl, hl3, hl4, hq⟩ := h
      have hS7 : SL w w.heap.size (instRs p2 x hk2 ht2 ++ (instRs p1 x hk1 ht1 ++ ([.blk yb #[.int .i64 0, .int .i64 0, .int .i64 0, .int .i64 0, .int .i64 0, .slice none 0 0, .slice none 0 0, .slice none 0 0, .slice none 0 0] 39] ++ ([.blk xb #[.int .i64 0, .int .i64 0, .int .i64 0, .int .i64 0, .int .i64 0, .slice none 0 0, .slice none 0 0, .slice none 0 0, .slice none 0 0] 39] ++ ([.blk sb #[.int .u8 s.fin, .int .u8 s.trucks, .int .u8 s.troom, .int .u8 s.bikes, .int .u8 s.broom, .slice sp.SA s.sats.length sp.sc, .slice sp.CA s.custs.length sp.cc, .slice sp.KA s.cost.length sp.kc, .slice sp.TA s.time.length sp.tc, .bool s.tight, .bool s.loose] 26]))))) w7 := hS6.join hq
      refine .inl ⟨_, rfl, hS7.sub (((((List.Sublist.refl _).trans (List.sublist_append_right _ _)).trans (List.sublist_append_right _ _)).trans (List.sublist_append_right _ _)).trans (List.sublist_append_right _ _)), hK _ _ ?_⟩
      clear hK Kv hq hS6
      refine pb_end (by kernel_rfl) ?_
      have hT : SL w w.heap.size (.blk xb #[.int .i64 0, .int .i64 0, .int .i64 0, .int .i64 0, .int .i64 0, .slice none 0 0, .slice none 0 0, .slice none 0 0, .slice none 0 0] 39 :: .blk yb #[.int .i64 0, .int .i64 0, .int .i64 0, .int .i64 0, .int .i64 0, .slice none 0 0, .slice none 0 0, .slice none 0 0, .slice none 0 0] 39 :: (instRs p2 x hk2 ht2 ++ (instRs p1 x hk1 ht1 ++ [.blk sb #[.int .u8 s.fin, .int .u8 s.trucks, .int .u8 s.troom, .int .u8 s.bikes, .int .u8 s.broom, .slice sp.SA s.sats.length sp.sc, .slice sp.CA s.custs.length sp.cc, .slice sp.KA s.cost.length sp.kc, .slice sp.TA s.time.length sp.tc, .bool s.tight, .bool s.loose] 26]))) w7 := hS7.perm (by
       classical
       rw [List.perm_iff_count]
       intro r
       simp only [List.count_append, List.count_cons, List.count_nil]
       omega)
      clear hS7
      unfold InstV.cells
      refine wpList_store_abs rfl 39 (.tmp 7) (.tmp 16) rfl rfl xb #[.int .i64 x.fin, .int .i64 x.tm, .int .i64 x.tr, .int .i64 x.bm, .int .i64 x.br, .slice p1.SA x.sats.length p1.sc, .slice p1.CA x.custs.length p1.cc, .slice p1.KA x.cost.length p1.kc, .slice p1.TA x.time.length p1.tc] rfl rfl _ _ (hT.blk 0 rfl) (by kernel_rfl) rfl (by simp [Value.oneCell']) (fun w8 ho0 hh0 => ?_)
      replace hT := hT.only 0 rfl ho0 hh0
      clear ho0 hh0
      refine wpList_store_abs rfl 39 (.tmp 8) (.tmp 18) rfl rfl yb #[.int .i64 x.fin, .int .i64 x.tm, .int .i64 x.tr, .int .i64 x.bm, .int .i64 x.br, .slice p2.SA x.sats.length p2.sc, .slice p2.CA x.custs.length p2.cc, .slice p2.KA x.cost.length p2.kc, .slice p2.TA x.time.length p2.tc] rfl rfl _ _ (hT.blk 1 rfl) (by kernel_rfl) rfl (by simp [Value.oneCell']) (fun w9 ho1 hh1 => ?_)
      replace hT := hT.only 1 rfl ho1 hh1
      clear ho1 hh1
      have HT := Lib.hid hT
      have HLE := Lib.hid (And.intro hl1 (And.intro hl2 (And.intro hl3 hl4)))
      clear hT hl1 hl2 hl3 hl4 HMK HX
      go_wp2_with fail
      go_meet
      exact ⟨xb, yb, p1, p2, hk1, ht1, hk2, ht2, rfl, rfl, HLE.out.1, HLE.out.2.1, HLE.out.2.2.1, HLE.out.2.2.2, HT.out⟩
  · skip
    refine kOp_eff rfl rfl fun Kv hK => ?_
    go_simp
    obtain ⟨yb, hyb⟩ : ∃ b, w3.heap.size = b := ⟨_, rfl⟩
    have hS4 : SL w w.heap.size ([.blk yb #[.int .i64 0, .int .i64 0, .int .i64 0, .int .i64 0, .int .i64 0, .slice none 0 0, .slice none 0 0, .slice none 0 0, .slice none 0 0] 39] ++ ([.blk sb #[.int .u8 s.fin, .int .u8 s.trucks, .int .u8 s.troom, .int .u8 s.bikes, .int .u8 s.broom, .slice sp.SA s.sats.length sp.sc, .slice sp.CA s.custs.length sp.cc, .slice sp.KA s.cost.length sp.kc, .slice sp.TA s.time.length sp.tc, .bool s.tight, .bool s.loose] 26])) (w3.alloc (.cells #[.int .i64 0, .int .i64 0, .int .i64 0, .int .i64 0, .int .i64 0, .slice none 0 0, .slice none 0 0, .slice none 0 0, .slice none 0 0] 39)) := by rw [← hyb]; exact hS3.alloc #[.int .i64 0, .int .i64 0, .int .i64 0, .int .i64 0, .int .i64 0, .slice none 0 0, .slice none 0 0, .slice none 0 0, .slice none 0 0] 39
    obtain ⟨w4, hw4⟩ : ∃ y, w3.alloc (.cells #[.int .i64 0, .int .i64 0, .int .i64 0, .int .i64 0, .int .i64 0, .slice none 0 0, .slice none 0 0, .slice none 0 0, .slice none 0 0] 39) = y := ⟨_, rfl⟩
    rw [hw4] at hS4
    rw [hyb, hw4]
    clear hyb hw4 hS3
    refine ⟨hS4.sub ((List.Sublist.refl _).trans (List.sublist_append_right _ _)), hK _ _ ?_⟩
    clear hK Kv
    refine pb_two 1 4 (by kernel_rfl) (by kernel_rfl) (by kernel_rfl) ?_ ?_
    · skip
      refine kOp_eff rfl rfl fun Kv hK => ?_
      go_simp
      refine eff_call (HMK.out _ hS4.below) (fun e w5 h => ?_)
      obtain ⟨p1, hk1, ht1, rfl, hl1, hl2, hq⟩ := h
      have hS5 : SL w w.heap.size (instRs p1 x hk1 ht1 ++ ([.blk yb #[.int .i64 0, .int .i64 0, .int .i64 0, .int .i64 0, .int .i64 0, .slice none 0 0, .slice none 0 0, .slice none 0 0, .slice none 0 0] 39] ++ ([.blk sb #[.int .u8 s.fin, .int .u8 s.trucks, .int .u8 s.troom, .int .u8 s.bikes, .int .u8 s.broom, .slice sp.SA s.sats.length sp.sc, .slice sp.CA s.custs.length sp.cc, .slice sp.KA s.cost.length sp.kc, .slice sp.TA s.time.length sp.tc, .bool s.tight, .bool s.loose] 26]))) w5 := hS4.join hq
      refine .inl ⟨_, rfl, hS5.sub (((List.Sublist.refl _).trans (List.sublist_append_right _ _)).trans (List.sublist_append_right _ _)), hK _ _ ?_⟩
      clear hK Kv hq hS4
      refine pb_two 3 4 (by kernel_rfl) (by kernel_rfl) (by kernel_rfl) ?_ ?_
      · skip
        refine kOp_eff rfl rfl fun Kv hK => ?_
        go_simp
        refine eff_call (HMK.out _ hS5.below) (fun e w6 h => ?_)
        obtain ⟨p2, hk2, ht2, rfl, hl3, hl4, hq⟩ := h
        have hS6 : SL w w.heap.size (instRs p2 x hk2 ht2 ++ (instRs p1 x hk1 ht1 ++ ([.blk yb #[.int .i64 0, .int .i64 0, .int .i64 0, .int .i64 0, .int .i64 0, .slice none 0 0, .slice none 0 0, .slice none 0 0, .slice none 0 0] 39] ++ ([.blk sb #[.int .u8 s.fin, .int .u8 s.trucks, .int .u8 s.troom, .int .u8 s.bikes, .int .u8 s.broom, .slice sp.SA s.sats.length sp.sc, .slice sp.CA s.custs.length sp.cc, .slice sp.KA s.cost.length sp.kc, .slice sp.TA s.time.length sp.tc, .bool s.tight, .bool s.loose] 26])))) w6 := hS5.join hq
        refine .inl ⟨_, rfl, hS6.sub ((((List.Sublist.refl _).trans (List.sublist_append_right _ _)).trans (List.sublist_append_right _ _)).trans (List.sublist_append_right _ _)), hK _ _ ?_⟩
        clear hK Kv hq hS5
        refine pb_one 4 (by kernel_rfl) (by kernel_rfl) ?_
        refine kOp_eff rfl rfl fun Kv hK => ?_
        go_simp
        obtain ⟨xb, hxb⟩ : ∃ b, w6.heap.size = b := ⟨_, rfl⟩
        have hS7 : SL w w.heap.size ([.blk xb #[.int .i64 0, .int .i64 0, .int .i64 0, .int .i64 0, .int .i64 0, .slice none 0 0, .slice none 0 0, .slice none 0 0, .slice none 0 0] 39] ++ (instRs p2 x hk2 ht2 ++ (instRs p1 x hk1 ht1 ++ ([.blk yb #[.int .i64 0, .int .i64 0, .int .i64 0, .int .i64 0, .int .i64 0, .slice none 0 0, .slice none 0 0, .slice none 0 0, .slice none 0 0] 39] ++ ([.blk sb #[.int .u8 s.fin, .int .u8 s.trucks, .int .u8 s.troom, .int .u8 s.bikes, .int .u8 s.broom, .slice sp.SA s.sats.length sp.sc, .slice sp.CA s.custs.length sp.cc, .slice sp.KA s.cost.length sp.kc, .slice sp.TA s.time.length sp.tc, .bool s.tight, .bool s.loose] 26]))))) (w6.alloc (.cells #[.int .i64 0, .int .i64 0, .int .i64 0, .int .i64 0, .int .i64 0, .slice none 0 0, .slice none 0 0, .slice none 0 0, .slice none 0 0] 39)) := by rw [← hxb]; exact hS6.alloc #[.int .i64 0, .int .i64 0, .int .i64 0, .int .i64 0, .int .i64 0, .slice none 0 0, .slice none 0 0, .slice none 0 0, .slice none 0 0] 39
        obtain ⟨w7, hw7⟩ : ∃ y, w6.alloc (.cells #[.int .i64 0, .int .i64 0, .int .i64 0, .int .i64 0, .int .i64 0, .slice none 0 0, .slice none 0 0, .slice none 0 0, .slice none 0 0] 39) = y := ⟨_, rfl⟩
        rw [hw7] at hS7
        rw [hxb, hw7]
        clear hxb hw7 hS6
        refine ⟨hS7.sub (((((List.Sublist.refl _).trans (List.sublist_append_right _ _)).trans (List.sublist_append_right _ _)).trans (List.sublist_append_right _ _)).trans (List.sublist_append_right _ _)), hK _ _ ?_⟩
        clear hK Kv
        refine pb_end (by kernel_rfl) ?_
        have hT : SL w w.heap.size (.blk xb #[.int .i64 0, .int .i64 0, .int .i64 0, .int .i64 0, .int .i64 0, .slice none 0 0, .slice none 0 0, .slice none 0 0, .slice none 0 0] 39 :: .blk yb #[.int .i64 0, .int .i64 0, .int .i64 0, .int .i64 0, .int .i64 0, .slice none 0 0, .slice none 0 0, .slice none 0 0, .slice none 0 0] 39 :: (instRs p2 x hk2 ht2 ++ (instRs p1 x hk1 ht1 ++ [.blk sb #[.int .u8 s.fin, .int .u8 s.trucks, .int .u8 s.troom, .int .u8 s.bikes, .int .u8 s.broom, .slice sp.SA s.sats.length sp.sc, .slice sp.CA s.custs.length sp.cc, .slice sp.KA s.cost.length sp.kc, .slice sp.TA s.time.length sp.tc, .bool s.tight, .bool s.loose] 26]))) w7 := hS7.perm (by
         classical
         rw [List.perm_iff_count]
         intro r
         simp only [List.count_append, List.count_cons, List.count_nil]
         omega)
        clear hS7
        unfold InstV.cells
        refine wpList_store_abs rfl 39 (.tmp 7) (.tmp 16) rfl rfl xb #[.int .i64 x.fin, .int .i64 x.tm, .int .i64 x.tr, .int .i64 x.bm, .int .i64 x.br, .slice p1.SA x.sats.length p1.sc, .slice p1.CA x.custs.length p1.cc, .slice p1.KA x.cost.length p1.kc, .slice p1.TA x.time.length p1.tc] rfl rfl _ _ (hT.blk 0 rfl) (by kernel_rfl) rfl (by simp [Value.oneCell']) (fun w8 ho0 hh0 => ?_)
        replace hT := hT.only 0 rfl ho0 hh0
        clear ho0 hh0
        refine wpList_store_abs rfl 39 (.tmp 8) (.tmp 18) rfl rfl yb #[.int .i64 x.fin, .int .i64 x.tm, .int .i64 x.tr, .int .i64 x.bm, .int .i64 x.br, .slice p2.SA x.sats.length p2.sc, .slice p2.CA x.custs.length p2.cc, .slice p2.KA x.cost.length p2.kc, .slice p2.TA x.time.length p2.tc] rfl rfl _ _ (hT.blk 1 rfl) (by kernel_rfl) rfl (by simp [Value.oneCell']) (fun w9 ho1 hh1 => ?_)
        replace hT := hT.only 1 rfl ho1 hh1
        clear ho1 hh1
        have HT := Lib.hid hT
        have HLE := Lib.hid (And.intro hl1 (And.intro hl2 (And.intro hl3 hl4)))
        clear hT hl1 hl2 hl3 hl4 HMK HX
        go_wp2_with fail
        go_meet
        exact ⟨xb, yb, p1, p2, hk1, ht1, hk2, ht2, rfl, rfl, HLE.out.1, HLE.out.2.1, HLE.out.2.2.1, HLE.out.2.2.2, HT.out⟩
      · skip
        refine kOp_eff rfl rfl fun Kv hK => ?_
        go_simp
        obtain ⟨xb, hxb⟩ : ∃ b, w5.heap.size = b := ⟨_, rfl⟩
        have hS6 : SL w w.heap.size ([.blk xb #[.int .i64 0, .int .i64 0, .int .i64 0, .int .i64 0, .int .i64 0, .slice none 0 0, .slice none 0 0, .slice none 0 0, .slice none 0 0] 39] ++ (instRs p1 x hk1 ht1 ++ ([.blk yb #[.int .i64 0, .int .i64 0, .int .i64 0, .int .i64 0, .int .i64 0, .slice none 0 0, .slice none 0 0, .slice none 0 0, .slice none 0 0] 39] ++ ([.blk sb #[.int .u8 s.fin, .int .u8 s.trucks, .int .u8 s.troom, .int .u8 s.bikes, .int .u8 s.broom, .slice sp.SA s.sats.length sp.sc, .slice sp.CA s.custs.length sp.cc, .slice sp.KA s.cost.length sp.kc, .slice sp.TA s.time.length sp.tc, .bool s.tight, .bool s.loose] 26])))) (w5.alloc (.cells #[.int .i64 0, .int .i64 0, .int .i64 0, .int .i64 0, .int .i64 0, .slice none 0 0, .slice none 0 0, .slice none 0 0, .slice none 0 0] 39)) := by rw [← hxb]; exact hS5.alloc #[.int .i64 0, .int .i64 0, .int .i64 0, .int .i64 0, .int .i64 0, .slice none 0 0, .slice none 0 0, .slice none 0 0, .slice none 0 0] 39
        obtain ⟨w6, hw6⟩ : ∃ y, w5.alloc (.cells #[.int .i64 0, .int .i64 0, .int .i64 0, .int .i64 0, .int .i64 0, .slice none 0 0, .slice none 0 0, .slice none 0 0, .slice none 0 0] 39) = y := ⟨_, rfl⟩
        rw [hw6] at hS6
        rw [hxb, hw6]
        clear hxb hw6 hS5
        refine ⟨hS6.sub ((((List.Sublist.refl _).trans (List.sublist_append_right _ _)).trans (List.sublist_append_right _ _)).trans (List.sublist_append_right _ _)), hK _ _ ?_⟩
        clear hK Kv
        refine pb_one 3 (by kernel_rfl) (by kernel_rfl) ?_
        refine kOp_eff rfl rfl fun Kv hK => ?_
        go_simp
        refine eff_call (HMK.out _ hS6.below) (fun e w7 h => ?_)
        obtain ⟨p2, hk2, ht2, rfl, hl3, hl4, hq⟩ := h
        have hS7 : SL w w.heap.size (instRs p2 x hk2 ht2 ++ ([.blk xb #[.int .i64 0, .int .i64 0, .int .i64 0, .int .i64 0, .int .i64 0, .slice none 0 0, .slice none 0 0, .slice none 0 0, .slice none 0 0] 39] ++ (instRs p1 x hk1 ht1 ++ ([.blk yb #[.int .i64 0, .int .i64 0, .int .i64 0, .int .i64 0, .int .i64 0, .slice none 0 0, .slice none 0 0, .slice none 0 0, .slice none 0 0] 39] ++ ([.blk sb #[.int .u8 s.fin, .int .u8 s.trucks, .int .u8 s.troom, .int .u8 s.bikes, .int .u8 s.broom, .slice sp.SA s.sats.length sp.sc, .slice sp.CA s.custs.length sp.cc, .slice sp.KA s.cost.length sp.kc, .slice sp.TA s.time.length sp.tc, .bool s.tight, .bool s.loose] 26]))))) w7 := hS6.join hq
        refine .inl ⟨_, rfl, hS7.sub (((((List.Sublist.refl _).trans (List.sublist_append_right _ _)).trans (List.sublist_append_right _ _)).trans (List.sublist_append_right _ _)).trans (List.sublist_append_right _ _)), hK _ _ ?_⟩
        clear hK Kv hq hS6
        refine pb_end (by kernel_rfl) ?_
        have hT : SL w w.heap.size (.blk xb #[.int .i64 0, .int .i64 0, .int .i64 0, .int .i64 0, .int .i64 0, .slice none 0 0, .slice none 0 0, .slice none 0 0, .slice none 0 0] 39 :: .blk yb #[.int .i64 0, .int .i64 0, .int .i64 0, .int .i64 0, .int .i64 0, .slice none 0 0, .slice none 0 0, .slice none 0 0, .slice none 0 0] 39 :: (instRs p2 x hk2 ht2 ++ (instRs p1 x hk1 ht1 ++ [.blk sb #[.int .u8 s.fin, .int .u8 s.trucks, .int .u8 s.troom, .int .u8 s.bikes, .int .u8 s.broom, .slice sp.SA s.sats.length sp.sc, .slice sp.CA s.custs.length sp.cc, .slice sp.KA s.cost.length sp.kc, .slice sp.TA s.time.length sp.tc, .bool s.tight, .bool s.loose] 26]))) w7 := hS7.perm (by
         classical
         rw [List.perm_iff_count]
         intro r
         simp only [List.count_append, List.count_cons, List.count_nil]
         omega)
        clear hS7
        unfold InstV.cells
        refine wpList_store_abs rfl 39 (.tmp 7) (.tmp 16) rfl rfl xb #[.int .i64 x.fin, .int .i64 x.tm, .int .i64 x.tr, .int .i64 x.bm, .int .i64 x.br, .slice p1.SA x.sats.length p1.sc, .slice p1.CA x.custs.length p1.cc, .slice p1.KA x.cost.length p1.kc, .slice p1.TA x.time.length p1.tc] rfl rfl _ _ (hT.blk 0 rfl) (by kernel_rfl) rfl (by simp [Value.oneCell']) (fun w8 ho0 hh0 => ?_)
        replace hT := hT.only 0 rfl ho0 hh0
        clear ho0 hh0
        refine wpList_store_abs rfl 39 (.tmp 8) (.tmp 18) rfl rfl yb #[.int .i64 x.fin, .int .i64 x.tm, .int .i64 x.tr, .int .i64 x.bm, .int .i64 x.br, .slice p2.SA x.sats.length p2.sc, .slice p2.CA x.custs.length p2.cc, .slice p2.KA x.cost.length p2.kc, .slice p2.TA x.time.length p2.tc] rfl rfl _ _ (hT.blk 1 rfl) (by kernel_rfl) rfl (by simp [Value.oneCell']) (fun w9 ho1 hh1 => ?_)
        replace hT := hT.only 1 rfl ho1 hh1
        clear ho1 hh1
        have HT := Lib.hid hT
        have HLE := Lib.hid (And.intro hl1 (And.intro hl2 (And.intro hl3 hl4)))
        clear hT hl1 hl2 hl3 hl4 HMK HX
        go_wp2_with fail
        go_meet
        exact ⟨xb, yb, p1, p2, hk1, ht1, hk2, ht2, rfl, rfl, HLE.out.1, HLE.out.2.1, HLE.out.2.2.1, HLE.out.2.2.2, HT.out⟩
    · skip
      refine kOp_eff rfl rfl fun Kv hK => ?_
      go_simp
      obtain ⟨xb, hxb⟩ : ∃ b, w4.heap.size = b := ⟨_, rfl⟩
      have hS5 : SL w w.heap.size ([.blk xb #[.int .i64 0, .int .i64 0, .int .i64 0, .int .i64 0, .int .i64 0, .slice none 0 0, .slice none 0 0, .slice none 0 0, .slice none 0 0] 39] ++ ([.blk yb #[.int .i64 0, .int .i64 0, .int .i64 0, .int .i64 0, .int .i64 0, .slice none 0 0, .slice none 0 0, .slice none 0 0, .slice none 0 0] 39] ++ ([.blk sb #[.int .u8 s.fin, .int .u8 s.trucks, .int .u8 s.troom, .int .u8 s.bikes, .int .u8 s.broom, .slice sp.SA s.sats.length sp.sc, .slice sp.CA s.custs.length sp.cc, .slice sp.KA s.cost.length sp.kc, .slice sp.TA s.time.length sp.tc, .bool s.tight, .bool s.loose] 26]))) (w4.alloc (.cells #[.int .i64 0, .int .i64 0, .int .i64 0, .int .i64 0, .int .i64 0, .slice none 0 0, .slice none 0 0, .slice none 0 0, .slice none 0 0] 39)) := by rw [← hxb]; exact hS4.alloc #[.int .i64 0, .int .i64 0, .int .i64 0, .int .i64 0, .int .i64 0, .slice none 0 0, .slice none 0 0, .slice none 0 0, .slice none 0 0] 39
      obtain ⟨w5, hw5⟩ : ∃ y, w4.alloc (.cells #[.int .i64 0, .int .i64 0, .int .i64 0, .int .i64 0, .int .i64 0, .slice none 0 0, .slice none 0 0, .slice none 0 0, .slice none 0 0] 39) = y := ⟨_, rfl⟩
      rw [hw5] at hS5
      rw [hxb, hw5]
      clear hxb hw5 hS4
      refine ⟨hS5.sub (((List.Sublist.refl _).trans (List.sublist_append_right _ _)).trans (List.sublist_append_right _ _)), hK _ _ ?_⟩
      clear hK Kv
      refine pb_one 1 (by kernel_rfl) (by kernel_rfl) ?_
      refine kOp_eff rfl rfl fun Kv hK => ?_
      go_simp
      refine eff_call (HMK.out _ hS5.below) (fun e w6 h => ?_)
      obtain ⟨p1, hk1, ht1, rfl, hl1, hl2, hq⟩ := h
      have hS6 : SL w w.heap.size (instRs p1 x hk1 ht1 ++ ([.blk xb #[.int .i64 0, .int .i64 0, .int .i64 0, .int .i64 0, .int .i64 0, .slice none 0 0, .slice none 0 0, .slice none 0 0, .slice none 0 0] 39] ++ ([.blk yb #[.int .i64 0, .int .i64 0, .int .i64 0, .int .i64 0, .int .i64 0, .slice none 0 0, .slice none 0 0, .slice none 0 0, .slice none 0 0] 39] ++ ([.blk sb #[.int .u8 s.fin, .int .u8 s.trucks, .int .u8 s.troom, .int .u8 s.bikes, .int .u8 s.broom, .slice sp.SA s.sats.length sp.sc, .slice sp.CA s.custs.length sp.cc, .slice sp.KA s.cost.length sp.kc, .slice sp.TA s.time.length sp.tc, .bool s.tight, .bool s.loose] 26])))) w6 := hS5.join hq
      refine .inl ⟨_, rfl, hS6.sub ((((List.Sublist.refl _).trans (List.sublist_append_right _ _)).trans (List.sublist_append_right _ _)).trans (List.sublist_append_right _ _)), hK _ _ ?_⟩
      clear hK Kv hq hS5
      refine pb_one 3 (by kernel_rfl) (by kernel_rfl) ?_
      refine kOp_eff rfl rfl fun Kv hK => ?_
      go_simp
      refine eff_call (HMK.out _ hS6.below) (fun e w7 h => ?_)
      obtain ⟨p2, hk2, ht2, rfl, hl3, hl4, hq⟩ := h
      have hS7 : SL w w.heap.size (instRs p2 x hk2 ht2 ++ (instRs p1 x hk1 ht1 ++ ([.blk xb #[.int .i64 0, .int .i64 0, .int .i64 0, .int .i64 0, .int .i64 0, .slice none 0 0, .slice none 0 0, .slice none 0 0, .slice none 0 0] 39] ++ ([.blk yb #[.int .i64 0, .int .i64 0, .int .i64 0, .int .i64 0, .int .i64 0, .slice none 0 0, .slice none 0 0, .slice none 0 0, .slice none 0 0] 39] ++ ([.blk sb #[.int .u8 s.fin, .int .u8 s.trucks, .int .u8 s.troom, .int .u8 s.bikes, .int .u8 s.broom, .slice sp.SA s.sats.length sp.sc, .slice sp.CA s.custs.length sp.cc, .slice sp.KA s.cost.length sp.kc, .slice sp.TA s.time.length sp.tc, .bool s.tight, .bool s.loose] 26]))))) w7 := hS6.join hq
      refine .inl ⟨_, rfl, hS7.sub (((((List.Sublist.refl _).trans (List.sublist_append_right _ _)).trans (List.sublist_append_right _ _)).trans (List.sublist_append_right _ _)).trans (List.sublist_append_right _ _)), hK _ _ ?_⟩
      clear hK Kv hq hS6
      refine pb_end (by kernel_rfl) ?_
      have hT : SL w w.heap.size (.blk xb #[.int .i64 0, .int .i64 0, .int .i64 0, .int .i64 0, .int .i64 0, .slice none 0 0, .slice none 0 0, .slice none 0 0, .slice none 0 0] 39 :: .blk yb #[.int .i64 0, .int .i64 0, .int .i64 0, .int .i64 0, .int .i64 0, .slice none 0 0, .slice none 0 0, .slice none 0 0, .slice none 0 0] 39 :: (instRs p2 x hk2 ht2 ++ (instRs p1 x hk1 ht1 ++ [.blk sb #[.int .u8 s.fin, .int .u8 s.trucks, .int .u8 s.troom, .int .u8 s.bikes, .int .u8 s.broom, .slice sp.SA s.sats.length sp.sc, .slice sp.CA s.custs.length sp.cc, .slice sp.KA s.cost.length sp.kc, .slice sp.TA s.time.length sp.tc, .bool s.tight, .bool s.loose] 26]))) w7 := hS7.perm (by
       classical
       rw [List.perm_iff_count]
       intro r
       simp only [List.count_append, List.count_cons, List.count_nil]
       omega)
      clear hS7
      unfold InstV.cells
      refine wpList_store_abs rfl 39 (.tmp 7) (.tmp 16) rfl rfl xb #[.int .i64 x.fin, .int .i64 x.tm, .int .i64 x.tr, .int .i64 x.bm, .int .i64 x.br, .slice p1.SA x.sats.length p1.sc, .slice p1.CA x.custs.length p1.cc, .slice p1.KA x.cost.length p1.kc, .slice p1.TA x.time.length p1.tc] rfl rfl _ _ (hT.blk 0 rfl) (by kernel_rfl) rfl (by simp [Value.oneCell']) (fun w8 ho0 hh0 => ?_)
      replace hT := hT.only 0 rfl ho0 hh0
      clear ho0 hh0
      refine wpList_store_abs rfl 39 (.tmp 8) (.tmp 18) rfl rfl yb #[.int .i64 x.fin, .int .i64 x.tm, .int .i64 x.tr, .int .i64 x.bm, .int .i64 x.br, .slice p2.SA x.sats.length p2.sc, .slice p2.CA x.custs.length p2.cc, .slice p2.KA x.cost.length p2.kc, .slice p2.TA x.time.length p2.tc] rfl rfl _ _ (hT.blk 1 rfl) (by kernel_rfl) rfl (by simp [Value.oneCell']) (fun w9 ho1 hh1 => ?_)
      replace hT := hT.only 1 rfl ho1 hh1
      clear ho1 hh1
      have HT := Lib.hid hT
      have HLE := Lib.hid (And.intro hl1 (And.intro hl2 (And.intro hl3 hl4)))
      clear hT hl1 hl2 hl3 hl4 HMK HX
      go_wp2_with fail
      go_meet
      exact ⟨xb, yb, p1, p2, hk1, ht1, hk2, ht2, rfl, rfl, HLE.out.1, HLE.out.2.1, HLE.out.2.2.1, HLE.out.2.2.2, HT.out⟩
 case rest =>
 clear HS2 HMK
 obtain ⟨xb, yb, p1, p2, hk1, ht1, hk2, ht2, rfl, rfl, hl1, hl2, hl3, hl4, hS⟩ := hcut
 have HLE := Lib.hid (And.intro hl1 (And.intro hl2 (And.intro hl3 hl4)))
 clear hl1 hl2 hl3 hl4
 have hfin := HX.out.fin
 have hbr := HX.out.br
 obtain ⟨f2, hf2⟩ : ∃ v, x.fin + m = v := ⟨_, rfl⟩
 obtain ⟨r2, hr2⟩ : ∃ v, x.br + m = v := ⟨_, rfl⟩
 have HF2 := Lib.hid hf2
 have HR2 := Lib.hid hr2
 have hw1 : IntKind.i64.wrap (x.fin + m) = f2 := by rw [IntKind.wrap_i64]; omega
 have hw2 : IntKind.i64.wrap (x.br + m) = r2 := by rw [IntKind.wrap_i64]; omega
 have hw0 : IntKind.i64.wrap m = m := by rw [IntKind.wrap_i64]; omega
 have a0 : wc.cell? ⟨yb, 0, none⟩ = some (.int .i64 x.fin) := hS.cell 1 rfl 0 rfl
 have a1 := hS.free 1 rfl 0
 have HS : Hid (SL w w.heap.size (.blk xb #[.int .i64 x.fin, .int .i64 x.tm, .int .i64 x.tr, .int .i64 x.bm, .int .i64 x.br, .slice p1.SA x.sats.length p1.sc, .slice p1.CA x.custs.length p1.cc, .slice p1.KA x.cost.length p1.kc, .slice p1.TA x.time.length p1.tc] 39 :: .blk yb #[.int .i64 f2, .int .i64 x.tm, .int .i64 x.tr, .int .i64 x.bm, .int .i64 x.br, .slice p2.SA x.sats.length p2.sc, .slice p2.CA x.custs.length p2.cc, .slice p2.KA x.cost.length p2.kc, .slice p2.TA x.time.length p2.tc] 39 :: (instRs p2 x hk2 ht2 ++ (instRs p1 x hk1 ht1 ++ [.blk sb #[.int .u8 s.fin, .int .u8 s.trucks, .int .u8 s.troom, .int .u8 s.bikes, .int .u8 s.broom, .slice sp.SA s.sats.length sp.sc, .slice sp.CA s.custs.length sp.cc, .slice sp.KA s.cost.length sp.kc, .slice sp.TA s.time.length sp.tc, .bool s.tight, .bool s.loose] 26]))) (wc.setCell ⟨yb, 0, none⟩ (.int .i64 f2))) := Lib.hid (hS.setCell 1 rfl 0 (.int .i64 f2))
 clear hS hf2 hr2
 go_upto_region 5 with fail
 obtain ⟨w5, hw5⟩ : ∃ y, wc.setCell ⟨yb, 0, none⟩ (.int .i64 f2) = y := ⟨_, rfl⟩
 rw [hw5] at HS ⊢
 have hS := HS.out
 clear hw5 a0 a1 HS hw1
 have a0 : w5.cell? ⟨yb, 4, none⟩ = some (.int .i64 x.br) := hS.cell 1 rfl 4 rfl
 have a1 := hS.free 1 rfl 4
 have HS : Hid (SL w w.heap.size (.blk xb #[.int .i64 x.fin, .int .i64 x.tm, .int .i64 x.tr, .int .i64 x.bm, .int .i64 x.br, .slice p1.SA x.sats.length p1.sc, .slice p1.CA x.custs.length p1.cc, .slice p1.KA x.cost.length p1.kc, .slice p1.TA x.time.length p1.tc] 39 :: .blk yb #[.int .i64 f2, .int .i64 x.tm, .int .i64 x.tr, .int .i64 x.bm, .int .i64 r2, .slice p2.SA x.sats.length p2.sc, .slice p2.CA x.custs.length p2.cc, .slice p2.KA x.cost.length p2.kc, .slice p2.TA x.time.length p2.tc] 39 :: (instRs p2 x hk2 ht2 ++ (instRs p1 x hk1 ht1 ++ [.blk sb #[.int .u8 s.fin, .int .u8 s.trucks, .int .u8 s.troom, .int .u8 s.bikes, .int .u8 s.broom, .slice sp.SA s.sats.length sp.sc, .slice sp.CA s.custs.length sp.cc, .slice sp.KA s.cost.length sp.kc, .slice sp.TA s.time.length sp.tc, .bool s.tight, .bool s.loose] 26]))) (w5.setCell ⟨yb, 4, none⟩ (.int .i64 r2))) := Lib.hid (hS.setCell 1 rfl 4 (.int .i64 r2))
 clear hS
 go_upto_region 6 with fail
 obtain ⟨w6, hw6⟩ : ∃ y, w5.setCell ⟨yb, 4, none⟩ (.int .i64 r2) = y := ⟨_, rfl⟩
 rw [hw6] at HS ⊢
 have hS := HS.out
 clear hw6 a0 a1 HS hw2
 have hnc := HX.out.custs
 obtain ⟨k, hk⟩ : ∃ k : Nat, a % (x.custs.length : Int) = (k : Int) := ⟨(a % (x.custs.length : Int)).toNat, by have := Int.emod_nonneg a (show (x.custs.length : Int) ≠ 0 by omega); omega⟩
 have hks : k < x.custs.length := by have := Int.emod_lt_of_pos a (show (0 : Int) < (x.custs.length : Int) by omega); omega
 have hm1 : a.tmod (x.custs.length : Int) = (k : Int) := by rw [Int.tmod_eq_emod_of_nonneg u0, hk]
 have hne : ¬ (x.custs.length : Int) = 0 := by omega
 have hwa : IntKind.i64.wrap a = a := by rw [IntKind.wrap_i64]; omega
 have hS6 := hS.sub (l' := instRs p2 x hk2 ht2) (.cons _ (.cons _ (List.sublist_append_left _ _)))
 have hin := instIn_own hS6 (fun r hr => hr) HLE.out.2.2.1 HLE.out.2.2.2
 obtain ⟨cqb, cqo, hCA, hcb, _, _, e2, _⟩ := custs_at hin.custs hks
 have hcd := HX.out.custsIn _ (List.getElem_mem hks)
 obtain ⟨cl, hcl⟩ : ∃ v, (x.custs[k]'hks).cls = v := ⟨_, rfl⟩
 obtain ⟨c2, hc2⟩ : ∃ v, cl + m = v := ⟨_, rfl⟩
 rw [hcl] at e2 hcd
 have hw3 : IntKind.i64.wrap (cl + m) = c2 := by rw [IntKind.wrap_i64]; omega
 have HFL := Lib.hid (later_flat (x := x) (m := m) hks (v := c2) (by rw [hcl, hc2]))
 have HFT := Lib.hid (later_fit (m := m) HX.out m0 m1 hks)
 have HLS := Lib.hid (fun s n hn => later_less (x := x) (k := k) (m := m) m0 s n hn)
 have HYL := Lib.hid (later_len (x := x) (k := k) (m := m))
 have hns := HX.out.sats
 obtain ⟨SA2, sc2, CA2, cc2, KA2, kc2, TA2, tc2⟩ := p2
 simp only at hCA
 subst hCA
 have b0 : w6.cell? ⟨yb, 6, none⟩ = some (.slice (some ⟨cqb, cqo, none⟩) x.custs.length cc2) := hS.cell 1 rfl 6 rfl
 have b2 : w6.frozen? ⟨cqb, cqo + k * 4 + 2, none⟩ = false := hS.rowFree 3 rfl (cqo + k * 4 + 2) (by omega)
 have HS7 : Hid (SL w w.heap.size (.blk xb #[.int .i64 x.fin, .int .i64 x.tm, .int .i64 x.tr, .int .i64 x.bm, .int .i64 x.br, .slice p1.SA x.sats.length p1.sc, .slice p1.CA x.custs.length p1.cc, .slice p1.KA x.cost.length p1.kc, .slice p1.TA x.time.length p1.tc] 39 :: .blk yb #[.int .i64 f2, .int .i64 x.tm, .int .i64 x.tr, .int .i64 x.bm, .int .i64 r2, .slice SA2 x.sats.length sc2, .slice (some ⟨cqb, cqo, none⟩) x.custs.length cc2, .slice KA2 x.cost.length kc2, .slice TA2 x.time.length tc2] 39 :: (instRs ⟨SA2, sc2, some ⟨cqb, cqo, none⟩, cc2, KA2, kc2, TA2, tc2⟩ (laterM x k m) hk2 ht2 ++ (instRs p1 x hk1 ht1 ++ [.blk sb #[.int .u8 s.fin, .int .u8 s.trucks, .int .u8 s.troom, .int .u8 s.bikes, .int .u8 s.broom, .slice sp.SA s.sats.length sp.sc, .slice sp.CA s.custs.length sp.cc, .slice sp.KA s.cost.length sp.kc, .slice sp.TA s.time.length sp.tc, .bool s.tight, .bool s.loose] 26]))) (w6.setCell ⟨cqb, cqo + k * 4 + 2, none⟩ (.int .i64 c2))) := Lib.hid (by
  have h := hS.setRowCell 3 rfl (k * 4 + 2) (by omega) (.int .i64 c2)
  rw [HFL.out] at h
  rw [Nat.add_assoc]
  unfold instRs at h ⊢
  rw [HYL.out]
  exact h)
 clear hS hS6 hin hk hcl hc2 hcd hns hfin hbr
 go_upto_region 8 with fail
 obtain ⟨w7, hw7⟩ : ∃ y, w6.setCell ⟨cqb, cqo + k * 4 + 2, none⟩ (.int .i64 c2) = y := ⟨_, rfl⟩
 rw [hw7] at HS7 ⊢
 clear hw7 b0 b2 e2 hcb hw3 hm1 hne hwa hw0
 have HMY1 : Hid (∀ wx, Below w7.heap.size w7 wx → Calls Try.prog 33 #[.agg #[.int .i64 x.fin, .int .i64 x.tm, .int .i64 x.tr, .int .i64 x.bm, .int .i64 x.br, .slice p1.SA x.sats.length p1.sc, .slice p1.CA x.custs.length p1.cc, .slice p1.KA x.cost.length p1.kc, .slice p1.TA x.time.length p1.tc]] wx (MaysR wx x)) := Lib.hid (fun wx hb => by
  have hin := instIn_own (HS7.out.sub (l' := instRs p1 x hk1 ht1) (.cons _ (.cons _ ((List.sublist_append_left _ _).trans (List.sublist_append_right _ _))))) (fun r hr => hr) HLE.out.1 HLE.out.2.1
  exact mays_any x p1 wx (hin.at_ hb) (small_fit HX.out))
 have HMY2 : Hid (∀ wx, Below w7.heap.size w7 wx → Calls Try.prog 33 #[.agg #[.int .i64 f2, .int .i64 x.tm, .int .i64 x.tr, .int .i64 x.bm, .int .i64 r2, .slice SA2 x.sats.length sc2, .slice (some ⟨cqb, cqo, none⟩) x.custs.length cc2, .slice KA2 x.cost.length kc2, .slice TA2 x.time.length tc2]] wx (MaysR wx (laterM x k m))) := Lib.hid (fun wx hb => by
  have hin := instIn_own (HS7.out.sub (l' := instRs ⟨SA2, sc2, some ⟨cqb, cqo, none⟩, cc2, KA2, kc2, TA2, tc2⟩ (laterM x k m) hk2 ht2) (.cons _ (.cons _ (List.sublist_append_left _ _)))) (fun r hr => hr) HLE.out.2.2.1 HLE.out.2.2.2
  have h := mays_any (laterM x k m) _ wx (hin.at_ hb) HFT.out
  unfold InstV.cells at h
  rw [HYL.out, show (laterM x k m).fin = f2 from HF2.out, show (laterM x k m).br = r2 from HR2.out] at h
  exact h)
 have hblk := HS7.out.sub (l' := [.blk xb #[.int .i64 x.fin, .int .i64 x.tm, .int .i64 x.tr, .int .i64 x.bm, .int .i64 x.br, .slice p1.SA x.sats.length p1.sc, .slice p1.CA x.custs.length p1.cc, .slice p1.KA x.cost.length p1.kc, .slice p1.TA x.time.length p1.tc] 39, .blk yb #[.int .i64 f2, .int .i64 x.tm, .int .i64 x.tr, .int .i64 x.bm, .int .i64 r2, .slice SA2 x.sats.length sc2, .slice (some ⟨cqb, cqo, none⟩) x.custs.length cc2, .slice KA2 x.cost.length kc2, .slice TA2 x.time.length tc2] 39]) (.cons_cons _ (.cons_cons _ (List.nil_sublist _)))
 have HW7 := Lib.hid HS7.out.below
 have HZ7 := Lib.hid HS7.out.size
 have HXY := Lib.hid hblk
 clear HS7 hblk
 have hS7 := SL.start (W := w7) (Nat.le_refl w7.heap.size)
 refine wp_region_sl [0,2] [1,3] [4,5] _ hS7 (List.Sublist.refl _) (by kernel_rfl) (by kernel_rfl) (.cons rfl (.cons rfl .nil)) (fun C cw _ hC => ?_)
 have q0 : ∀ d, (cw d).cell? ⟨xb, 0, none⟩ = some (.int .i64 x.fin) := fun d => by rw [cell_of_row _ _ _ _ _ _ (((hC d).below.block xb (HXY.out.lt 0 rfl).2).trans (HXY.out.blk 0 rfl))]; rfl
 have q1 : ∀ d, (cw d).cell? ⟨xb, 1, none⟩ = some (.int .i64 x.tm) := fun d => by rw [cell_of_row _ _ _ _ _ _ (((hC d).below.block xb (HXY.out.lt 0 rfl).2).trans (HXY.out.blk 0 rfl))]; rfl
 have q2 : ∀ d, (cw d).cell? ⟨xb, 2, none⟩ = some (.int .i64 x.tr) := fun d => by rw [cell_of_row _ _ _ _ _ _ (((hC d).below.block xb (HXY.out.lt 0 rfl).2).trans (HXY.out.blk 0 rfl))]; rfl
 have q3 : ∀ d, (cw d).cell? ⟨xb, 3, none⟩ = some (.int .i64 x.bm) := fun d => by rw [cell_of_row _ _ _ _ _ _ (((hC d).below.block xb (HXY.out.lt 0 rfl).2).trans (HXY.out.blk 0 rfl))]; rfl
 have q4 : ∀ d, (cw d).cell? ⟨xb, 4, none⟩ = some (.int .i64 x.br) := fun d => by rw [cell_of_row _ _ _ _ _ _ (((hC d).below.block xb (HXY.out.lt 0 rfl).2).trans (HXY.out.blk 0 rfl))]; rfl
 have q5 : ∀ d, (cw d).cell? ⟨xb, 5, none⟩ = some (.slice p1.SA x.sats.length p1.sc) := fun d => by rw [cell_of_row _ _ _ _ _ _ (((hC d).below.block xb (HXY.out.lt 0 rfl).2).trans (HXY.out.blk 0 rfl))]; rfl
 have q6 : ∀ d, (cw d).cell? ⟨xb, 6, none⟩ = some (.slice p1.CA x.custs.length p1.cc) := fun d => by rw [cell_of_row _ _ _ _ _ _ (((hC d).below.block xb (HXY.out.lt 0 rfl).2).trans (HXY.out.blk 0 rfl))]; rfl
 have q7 : ∀ d, (cw d).cell? ⟨xb, 7, none⟩ = some (.slice p1.KA x.cost.length p1.kc) := fun d => by rw [cell_of_row _ _ _ _ _ _ (((hC d).below.block xb (HXY.out.lt 0 rfl).2).trans (HXY.out.blk 0 rfl))]; rfl
 have q8 : ∀ d, (cw d).cell? ⟨xb, 8, none⟩ = some (.slice p1.TA x.time.length p1.tc) := fun d => by rw [cell_of_row _ _ _ _ _ _ (((hC d).below.block xb (HXY.out.lt 0 rfl).2).trans (HXY.out.blk 0 rfl))]; rfl
 have y0 : ∀ d, (cw d).cell? ⟨yb, 0, none⟩ = some (.int .i64 f2) := fun d => by rw [cell_of_row _ _ _ _ _ _ (((hC d).below.block yb (HXY.out.lt 1 rfl).2).trans (HXY.out.blk 1 rfl))]; rfl
 have y1 : ∀ d, (cw d).cell? ⟨yb, 1, none⟩ = some (.int .i64 x.tm) := fun d => by rw [cell_of_row _ _ _ _ _ _ (((hC d).below.block yb (HXY.out.lt 1 rfl).2).trans (HXY.out.blk 1 rfl))]; rfl
 have y2 : ∀ d, (cw d).cell? ⟨yb, 2, none⟩ = some (.int .i64 x.tr) := fun d => by rw [cell_of_row _ _ _ _ _ _ (((hC d).below.block yb (HXY.out.lt 1 rfl).2).trans (HXY.out.blk 1 rfl))]; rfl
 have y3 : ∀ d, (cw d).cell? ⟨yb, 3, none⟩ = some (.int .i64 x.bm) := fun d => by rw [cell_of_row _ _ _ _ _ _ (((hC d).below.block yb (HXY.out.lt 1 rfl).2).trans (HXY.out.blk 1 rfl))]; rfl
 have y4 : ∀ d, (cw d).cell? ⟨yb, 4, none⟩ = some (.int .i64 r2) := fun d => by rw [cell_of_row _ _ _ _ _ _ (((hC d).below.block yb (HXY.out.lt 1 rfl).2).trans (HXY.out.blk 1 rfl))]; rfl
 have y5 : ∀ d, (cw d).cell? ⟨yb, 5, none⟩ = some (.slice SA2 x.sats.length sc2) := fun d => by rw [cell_of_row _ _ _ _ _ _ (((hC d).below.block yb (HXY.out.lt 1 rfl).2).trans (HXY.out.blk 1 rfl))]; rfl
 have y6 : ∀ d, (cw d).cell? ⟨yb, 6, none⟩ = some (.slice (some ⟨cqb, cqo, none⟩) x.custs.length cc2) := fun d => by rw [cell_of_row _ _ _ _ _ _ (((hC d).below.block yb (HXY.out.lt 1 rfl).2).trans (HXY.out.blk 1 rfl))]; rfl
 have y7 : ∀ d, (cw d).cell? ⟨yb, 7, none⟩ = some (.slice KA2 x.cost.length kc2) := fun d => by rw [cell_of_row _ _ _ _ _ _ (((hC d).below.block yb (HXY.out.lt 1 rfl).2).trans (HXY.out.blk 1 rfl))]; rfl
 have y8 : ∀ d, (cw d).cell? ⟨yb, 8, none⟩ = some (.slice TA2 x.time.length tc2) := fun d => by rw [cell_of_row _ _ _ _ _ _ (((hC d).below.block yb (HXY.out.lt 1 rfl).2).trans (HXY.out.blk 1 rfl))]; rfl
 repeat (refine pl_look rfl rfl rfl (fun Kv hK => ?_); go_big_quiet_op; refine hK _ ?_; clear hK Kv)
 clear q0 q1 q2 q3 q4 q5 q6 q7 q8 y0 y1 y2 y3 y4 y5 y6 y7 y8 hC
 refine pl_end ?_
 intro w8 hS8
 have hb8 : Below w7.heap.size w7 w8 := hS8.below
 refine pm_eff rfl rfl fun Kv hK => ?_
 go_simp
 refine eff_call (HMY1.out w8 hb8) (fun e w9 h => ?_)
 obtain ⟨A1, c1, rfl, h1, hb⟩ := h
 have hS9 := hS8.call hb
 have hb9 := hb8.trans (hb.mono hb8.size)
 refine .inl ⟨_, rfl, hS9, hK _ _ ?_⟩
 clear hK Kv hb hS8 hb8
 refine pm_eff rfl rfl fun Kv hK => ?_
 go_simp
 refine eff_call (HMY2.out w9 hb9) (fun e w10 h => ?_)
 obtain ⟨A2, c2', rfl, h2, hb⟩ := h
 have hS10 := hS9.call hb
 refine .inl ⟨_, rfl, hS10, hK _ _ ?_⟩
 clear hK Kv
 refine pm_end ?_
 have H1 := Lib.hid (reads_more (Reads.below h1 hb) hb.size)
 have H2 : Hid (Reads w10 w10.heap.size 1 A2 x.sats.length (maysV (laterM x k m) x.sats.length)) := Lib.hid h2
 have HBW := Lib.hid (HW7.out.trans (hS10.below.mono HZ7.out))
 have d5 : w10.cell? ⟨xb, 5, none⟩ = some (.slice p1.SA x.sats.length p1.sc) := by rw [cell_of_row _ _ _ _ _ _ ((hS10.below.block xb (HXY.out.lt 0 rfl).2).trans (HXY.out.blk 0 rfl))]; rfl
 have e12 : (laterM x k m).sats.length = x.sats.length := rfl
 clear h1 h2 hb hb9 hS9 hS10 HMY1 HMY2
 rw [e12]
 clear e12
 have hn3 := HX.out.sats
 have hn6 := HX.out.custs
 obtain ⟨ns, hns⟩ : ∃ n, x.sats.length = n := ⟨_, rfl⟩
 obtain ⟨nc, hnc⟩ : ∃ n, x.custs.length = n := ⟨_, rfl⟩
 rw [hns] at H1 H2 d5 hn3 ⊢
 rw [hnc] at HYL hn6
 obtain ⟨l1, o1, hA1, hb1, hc1⟩ := reads_plain H1.out (by omega) Nat.one_pos
 obtain ⟨l2, o2, hA2, hb2, hc2⟩ := reads_plain H2.out (by omega) Nat.one_pos
 subst hA1 hA2
 have HL1 : Hid (∀ i, i < ns → ∀ wx, Below w10.heap.size w10 wx → wx.cell? ⟨l1, o1 + i, none⟩ = some (.int .u64 (maysN x i nc : Nat))) := Lib.hid (fun i hi wx hb => (hb.cell (p := ⟨l1, o1 + i, none⟩) hb1).trans (hc1 i _ (by
  unfold maysV
  rw [List.getElem?_map, List.getElem?_range hi, hnc]
  rfl)))
 have HL2 : Hid (∀ i, i < ns → ∀ wx, Below w10.heap.size w10 wx → wx.cell? ⟨l2, o2 + i, none⟩ = some (.int .u64 (maysN (laterM x k m) i nc : Nat))) := Lib.hid (fun i hi wx hb => (hb.cell (p := ⟨l2, o2 + i, none⟩) hb2).trans (hc2 i _ (by
  unfold maysV
  rw [List.getElem?_map, List.getElem?_range hi, HYL.out]
  rfl)))
 have HLC : Hid (∀ i wx, Calls Try.prog 34 #[.int .u64 (maysN x i nc : Nat), .int .u64 (maysN (laterM x k m) i nc : Nat)] wx fun e w' => e = .returned (.int .u64 0) ∧ wx = w') := Lib.hid (fun i wx => by
  have h := less_any (maysN x i nc) (maysN (laterM x k m) i nc) wx (maysN_lt _ _ _) (maysN_lt _ _ _)
  rw [HLS.out i nc (by omega)] at h
  exact h)
 have HB10 := Lib.hid (Below.refl w10.heap.size w10)
 clear hc1 hc2 hb1 hb2 H1 H2 HLS HYL HFL HFT hns hnc
 go_upto_region 12 with fail
 clear d5
 go_loopw [69] (fun iv wr => ∃ i : Nat, i ≤ ns ∧ iv = .int .i64 i ∧ Below w10.heap.size w10 wr) (fun iv _ => ns - (intOf iv).toNat)
 case atStart => exact ⟨0, by omega, rfl, HB10.out⟩
 case round =>
  clear HB10
  obtain ⟨i, hi, rfl, hB⟩ := hrel
  by_cases hlt : i < ns
  · have HC := Lib.hid (HLC.out i)
    have HQ1 := Lib.hid (HL1.out i hlt)
    have HQ2 := Lib.hid (HL2.out i hlt)
    obtain ⟨v1, hv1⟩ : ∃ v, maysN x i nc = v := ⟨_, rfl⟩
    obtain ⟨v2, hv2⟩ : ∃ v, maysN (laterM x k m) i nc = v := ⟨_, rfl⟩
    rw [hv1] at HC HQ1
    rw [hv2] at HC HQ2
    have HB := Lib.hid hB
    clear hB hv1 hv2
    go_upto_region 14 with fail
    have hS := (SL.start (W := w10) (Nat.le_refl _)).call HB.out
    refine wp_region_sq [] hS (by kernel_rfl) (by kernel_rfl) fun C cw _ hC hin => ?_
    have q1 : ∀ d, (cw d).cell? ⟨l1, o1 + i, none⟩ = some (.int .u64 (v1 : Nat)) := fun d => HQ1.out _ (hC d).below
    have q2 : ∀ d, (cw d).cell? ⟨l2, o2 + i, none⟩ = some (.int .u64 (v2 : Nat)) := fun d => HQ2.out _ (hC d).below
    have HCc : Hid (∀ c, Calls Try.prog 34 #[.int .u64 (v1 : Nat), .int .u64 (v2 : Nat)] (cw c) fun e w' => e = .returned (.int .u64 0) ∧ ∃ c', w' = cw c') := Lib.hid (fun c => sq_call (hC c) hin ((HC.out (cw c)).mono fun e w' h => ⟨h.1, by rw [← h.2]; exact Below.refl _ _⟩))
    clear hC hin hS
    repeat (any_goals (go_big_quiet_step (first | (go_at_call 34; with_reducible exact HCc.out _))))
    refine wpQuiet_nil ?_
    intro w11 hS11
    have HB11 := Lib.hid hS11.below
    clear hS11 q1 q2 HCc HB HC HQ1 HQ2
    go_wp2_with fail
    go_roundw
    case rel => exact ⟨i + 1, by omega, by go_num, HB11.out⟩
    case measure => simp [intOf]; omega
  · obtain rfl : ns = i := by omega
    have HB := Lib.hid (HBW.out.trans (hB.mono HBW.out.size))
    clear hB hlt
    go_wp2_with fail
    go_ret
    exact ⟨rfl, HB.out⟩
open Go.Deep Go.Joins in
set_option maxRecDepth 100000 in
theorem reachSooner_walk {H : Type} {enc : TypeId × Value → H} {base : Nat} (W : World) (v0 : Value) (d0 : DataW H) (p0 : List MemPlace) (o0 : Value.okWide Try.prog W .any base 26 v0) (k0 : DataW.Trod enc Try.prog W 0 (fun _ => true) true 26 v0 d0 p0) (a : Int) (ha : (Lit.int .u8 a).wf = true) (b : Int) (hb : (Lit.int .u8 b).wf = true) :
 Calls Try.prog 9 #[v0, .int .u8 a, .int .u8 b] W fun e w' => e = .returned (.bool true) ∧ Below W.heap.size W w' := by
 obtain ⟨sp, s, rfl, hI, hl, hok⟩ := small_open o0 k0
 exact reachSooner0 s sp a b W hI hl hok (isU8_of ha) (isU8_of hb)
end Go.Proofs.Ytjpejclfppbboaa
