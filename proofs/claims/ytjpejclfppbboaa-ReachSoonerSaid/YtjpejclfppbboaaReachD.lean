/- reach.Out, reach.Back, of an instance that may be. (printed by gen/reachd.py) -/
import Derived.Test.YtjpejclfppbboaaReachC
import Derived.Deep.CutBlock
import Derived.Deep.CutRange
import Derived.Deep.DeepCutAuto
namespace Go.Proofs.Ytjpejclfppbboaa
open Go.ChangeShapes Go.WideShapes Go.ChangeAt Go.RowKit
set_option linter.unusedVariables false
set_option linter.unusedSimpArgs false
theorem ints_from {w : World} {g n o : Nat} {t : TypeId} {far : Nat → Int} {R : List Int} (h : w.heap[g]? = some (.cells (iarr far n) t (0, 0))) (hl : o + R.length ≤ n) (hR : ∀ c (hc : c < R.length), R[c] = far (o + c)) : IntsAt w w.heap.size (some ⟨g, o, none⟩) R := by
 refine ⟨by simp, fun _ => ⟨_, rfl, (Array.getElem?_eq_some_iff.1 h).1, fun j u hu => ?_⟩⟩
 have hj : j < R.length := by have := (List.getElem?_eq_some_iff.1 hu).1; simpa using this
 rw [List.getElem?_map, List.getElem?_eq_getElem hj, Option.map_some] at hu
 rw [Addr.add_mid, cell_of_row _ _ _ _ _ _ h, iarr_get _ _ _ (by omega), ← hR j hj]
 exact hu
theorem out_len (x : InstV) (s : Nat) : (outM x s).length = x.custs.length := by unfold outM; simp
theorem back_len (x : InstV) (s : Nat) : (backM x s).length = x.custs.length := by unfold backM; simp
theorem inWays_s (x : InstV) (s : Nat) : inWays x s (1 + s) = true := by unfold inWays; simp
theorem inWays_c (x : InstV) (s : Nat) {c : Nat} (hc : c < x.custs.length) : inWays x s (1 + x.sats.length + c) = true := by
 unfold inWays InstV.n
 rw [Bool.or_eq_true, decide_eq_true_eq, decide_eq_true_eq]
 exact .inr ⟨by omega, by omega⟩
theorem inWays_lt {x : InstV} {s : Nat} (hs : s < x.sats.length) (i : Nat) (h : inWays x s i = true) : i < x.n := by
 unfold inWays at h
 rw [Bool.or_eq_true, decide_eq_true_eq, decide_eq_true_eq] at h
 unfold InstV.n
 rcases h with h | ⟨_, h⟩
 · omega
 · unfold InstV.n at h; omega
theorem stay_cust (x : InstV) {c : Nat} (hc : c < x.custs.length) : stayF x (1 + x.sats.length + c) = (x.custs.getD c noCust).stay := by
 unfold stayF
 rw [if_neg (by omega), show 1 + x.sats.length + c - 1 - x.sats.length = c by omega]
theorem stay_sat (x : InstV) {s : Nat} (hs : s < x.sats.length) : stayF x (1 + s) = 0 := by
 unfold stayF
 rw [if_pos (by omega)]
theorem out_far {x : InstV} (h : x.Fit) {s : Nat} (hs : s < x.sats.length) {far by_ : Nat → Int} (hL : Looked x.n (arcsUp (inWays x s) (fun i k => timeF x i k + stayF x i) x.n x.n) (1 + s) far by_) (c : Nat) (hc : c < (outM x s).length) : (outM x s)[c] = far (1 + x.sats.length + c) := by
 have hc' : c < x.custs.length := by rw [← out_len x s]; exact hc
 have hn := h.n9
 have e := near_out (n := x.n) (Nat.le_refl _) (by omega) (inWays_lt hs) (fun i k => by have := time_in h i k; omega) (fun i => by have := stay_in h i; omega) hL (inWays_s x s) (inWays_c x s hc') (by omega)
 rw [e, stay_sat x hs, Int.add_zero]
 simp only [outM, List.getElem_map, List.getElem_range]
theorem back_far {x : InstV} (h : x.Fit) {s : Nat} (hs : s < x.sats.length) {far by_ : Nat → Int} (hL : Looked x.n ((arcsUp (inWays x s) (fun i k => timeF x i k + stayF x i) x.n x.n).map ArcV.turn) (1 + s) far by_) (c : Nat) (hc : c < (backM x s).length) : (backM x s)[c] = far (1 + x.sats.length + c) := by
 have hc' : c < x.custs.length := by rw [← back_len x s]; exact hc
 have hn := h.n9
 have e := near_back (n := x.n) (Nat.le_refl _) (by omega) (inWays_lt hs) (fun i k => by have := time_in h i k; omega) (fun i => by have := stay_in h i; omega) hL (inWays_s x s) (inWays_c x s hc') (by omega)
 rw [e, stay_cust x hc']
 simp only [backM, List.getElem_map, List.getElem_range]
 omega
set_option maxRecDepth 100000 in
set_option maxHeartbeats 8000000 in
theorem out_r (x : InstV) (p : IAt) (s : Nat) (w : World) (hI : InstIn w w.heap.size p x) (hF : x.Fit) (hs : s < x.sats.length) :
 Calls Try.prog 31 #[.agg (x.cells p), .int .i64 (s : Int)] w (ReadyR w (outM x s)) := by
 have hs2 : s ≤ 1000 := by have := hF.sats; omega
 have hn10 := hF.n9
 have hT := fun i k => time_in hF i k
 have hSt := fun i => stay_in hF i
 have hck : checkG (x.n : Int) (arcsUp (inWays x s) (fun i k => timeF x i k + stayF x i) x.n x.n) = 0 := arcs_check (by omega) (fun i k => by have := hT i k; have := hSt i; omega)
 have hln := arcsUp_len (inWays x s) (fun i k => timeF x i k + stayF x i) x.n x.n
 have h00 : ∀ a ∈ (arcsUp (inWays x s) (fun i k => timeF x i k + stayF x i) x.n x.n), 0 ≤ a.wt := fun a ha => by
  obtain ⟨i, k, _, _, _, _, _, rfl⟩ := arcs_mem.1 ha
  have := hT i k
  have := hSt i
  simp only; omega
 have h3 : x.n * x.n ≤ 10 * 10 := Nat.mul_le_mul hn10 hn10
 have h4 : x.n * ((arcsUp (inWays x s) (fun i k => timeF x i k + stayF x i) x.n x.n).length + 1) ≤ 10 * 101 := Nat.mul_le_mul hn10 (by omega)
 have HNR : Hid (∀ wx A c, Arcs wx wx.heap.size A (arcsUp (inWays x s) (fun i k => timeF x i k + stayF x i) x.n x.n) → Calls Try.prog 57 #[.agg #[.int .i64 (x.n : Int), .slice A (arcsUp (inWays x s) (fun i k => timeF x i k + stayF x i) x.n x.n).length c], .int .i64 ((1 + s : Nat) : Int)] wx (NearPost wx x.n (arcsUp (inWays x s) (fun i k => timeF x i k + stayF x i) x.n x.n) (1 + s))) := Lib.hid (fun wx A c h => near_any x.n (1 + s) A c (arcsUp (inWays x s) (fun i k => timeF x i k + stayF x i) x.n x.n) wx h hck (by unfold InstV.n; omega) h00 (by omega))
 have HFA : Hid (∀ far by_, Looked x.n (arcsUp (inWays x s) (fun i k => timeF x i k + stayF x i) x.n x.n) (1 + s) far by_ → ∀ c (hc : c < (outM x s).length), (outM x s)[c] = far (1 + x.sats.length + c)) := Lib.hid (fun far by_ h c hc => out_far hF hs h c hc)
 have HWY : Hid (∀ wx, Below w.heap.size w wx → Calls Try.prog 61 #[.agg #[.int .i64 x.fin, .int .i64 x.tm, .int .i64 x.tr, .int .i64 x.bm, .int .i64 x.br, .slice p.SA x.sats.length p.sc, .slice p.CA x.custs.length p.cc, .slice p.KA x.cost.length p.kc, .slice p.TA x.time.length p.tc], .int .i64 (s : Int)] wx (GraphR wx (x.n : Nat) (arcsUp (inWays x s) (fun i k => timeF x i k + stayF x i) x.n x.n))) := Lib.hid (fun wx hb => ways_any x p s wx (hI.at_ hb) hF hs)
 have HTH : Hid (∀ wx, Below w.heap.size w wx → Calls Try.prog 60 #[.agg #[.int .i64 x.fin, .int .i64 x.tm, .int .i64 x.tr, .int .i64 x.bm, .int .i64 x.br, .slice p.SA x.sats.length p.sc, .slice p.CA x.custs.length p.cc, .slice p.KA x.cost.length p.kc, .slice p.TA x.time.length p.tc], .int .i64 (s : Int)] wx fun e w' => e = .returned (.bool true) ∧ Below wx.heap.size wx w') := Lib.hid (fun wx hb => by
  have h := there_any x p (s : Int) wx (hI.at_ hb) hF.lens
  rw [decide_eq_true ⟨hF.code, by omega, by omega⟩] at h
  exact h)
 have HSA : Hid (∀ wx, Calls Try.prog 51 #[.agg #[.int .i64 x.fin, .int .i64 x.tm, .int .i64 x.tr, .int .i64 x.bm, .int .i64 x.br, .slice p.SA x.sats.length p.sc, .slice p.CA x.custs.length p.cc, .slice p.KA x.cost.length p.kc, .slice p.TA x.time.length p.tc], .int .i64 (s : Int)] wx fun e w' => e = .returned (.int .i64 ((1 + s : Nat) : Int)) ∧ Below wx.heap.size wx w') := Lib.hid (fun wx => satF_any x p s wx hs2)
 have HCU : Hid (∀ wx, Calls Try.prog 52 #[.agg #[.int .i64 x.fin, .int .i64 x.tm, .int .i64 x.tr, .int .i64 x.bm, .int .i64 x.br, .slice p.SA x.sats.length p.sc, .slice p.CA x.custs.length p.cc, .slice p.KA x.cost.length p.kc, .slice p.TA x.time.length p.tc], .int .i64 0] wx fun e w' => e = .returned (.int .i64 ((1 + x.sats.length : Nat) : Int)) ∧ Below wx.heap.size wx w') := Lib.hid (fun wx => custF_any x p wx hF.sats.2)
 have HML := Lib.hid (out_len x s)
 have HNX : Hid (x.n = 1 + x.sats.length + x.custs.length) := Lib.hid rfl
 have HC1 := Lib.hid hF.custs.1
 obtain ⟨R, hR⟩ : ∃ R, outM x s = R := ⟨_, rfl⟩
 rw [hR] at HFA HML ⊢
 obtain ⟨L, hL⟩ : ∃ L, (arcsUp (inWays x s) (fun i k => timeF x i k + stayF x i) x.n x.n) = L := ⟨_, rfl⟩
 rw [hL] at HNR HFA HWY
 obtain ⟨n, hn⟩ : ∃ n, x.n = n := ⟨_, rfl⟩
 rw [hn] at HNR HFA HWY HNX hn10
 obtain ⟨s1, hs1⟩ : ∃ k, 1 + s = k := ⟨_, rfl⟩
 rw [hs1] at HNR HFA HSA
 obtain ⟨o1, ho1⟩ : ∃ k, 1 + x.sats.length = k := ⟨_, rfl⟩
 rw [ho1] at HCU HNX HFA
 have hS := (SL.start (W := w) (Nat.le_refl w.heap.size)).alloc #[.int .i64 x.fin, .int .i64 x.tm, .int .i64 x.tr, .int .i64 x.bm, .int .i64 x.br, .slice p.SA x.sats.length p.sc, .slice p.CA x.custs.length p.cc, .slice p.KA x.cost.length p.kc, .slice p.TA x.time.length p.tc] 39
 unfold InstV.cells
 obtain ⟨xb, hxb⟩ : ∃ b, w.heap.size = b := ⟨_, rfl⟩
 obtain ⟨w0, hw0⟩ : ∃ y, w.alloc (.cells #[.int .i64 x.fin, .int .i64 x.tm, .int .i64 x.tr, .int .i64 x.bm, .int .i64 x.br, .slice p.SA x.sats.length p.sc, .slice p.CA x.custs.length p.cc, .slice p.KA x.cost.length p.kc, .slice p.TA x.time.length p.tc] 39) = y := ⟨_, rfl⟩
 have HS0 : Hid (SL w w.heap.size [.blk xb #[.int .i64 x.fin, .int .i64 x.tm, .int .i64 x.tr, .int .i64 x.bm, .int .i64 x.br, .slice p.SA x.sats.length p.sc, .slice p.CA x.custs.length p.cc, .slice p.KA x.cost.length p.kc, .slice p.TA x.time.length p.tc] 39] w0) := Lib.hid (by rw [← hxb, ← hw0]; exact hS)
 have HW := Lib.hid (And.intro hxb hw0)
 clear hS hxb hw0 hI hF hs hs2 hR hL hn hs1 ho1 hT hSt hck hln h00 h3 h4
 go_enter Try.func31, Try.ntmps31
 go_upto_region 1 with fail
 rw [HW.out.2, HW.out.1]
 have d0 : w0.cell? ⟨xb, 0, none⟩ = some (.int .i64 x.fin) := HS0.out.cell 0 rfl 0 rfl
 have d1 : w0.cell? ⟨xb, 1, none⟩ = some (.int .i64 x.tm) := HS0.out.cell 0 rfl 1 rfl
 have d2 : w0.cell? ⟨xb, 2, none⟩ = some (.int .i64 x.tr) := HS0.out.cell 0 rfl 2 rfl
 have d3 : w0.cell? ⟨xb, 3, none⟩ = some (.int .i64 x.bm) := HS0.out.cell 0 rfl 3 rfl
 have d4 : w0.cell? ⟨xb, 4, none⟩ = some (.int .i64 x.br) := HS0.out.cell 0 rfl 4 rfl
 have d5 : w0.cell? ⟨xb, 5, none⟩ = some (.slice p.SA x.sats.length p.sc) := HS0.out.cell 0 rfl 5 rfl
 have d6 : w0.cell? ⟨xb, 6, none⟩ = some (.slice p.CA x.custs.length p.cc) := HS0.out.cell 0 rfl 6 rfl
 have d7 : w0.cell? ⟨xb, 7, none⟩ = some (.slice p.KA x.cost.length p.kc) := HS0.out.cell 0 rfl 7 rfl
 have d8 : w0.cell? ⟨xb, 8, none⟩ = some (.slice p.TA x.time.length p.tc) := HS0.out.cell 0 rfl 8 rfl
 go_upto_region 3 with (go_at_call 60; (with_reducible refine (HTH.out _ HS0.out.below).mono ?_); rintro e w1 ⟨rfl, hb⟩
                        have HS1 : Hid (SL w w.heap.size [.blk xb #[.int .i64 x.fin, .int .i64 x.tm, .int .i64 x.tr, .int .i64 x.bm, .int .i64 x.br, .slice p.SA x.sats.length p.sc, .slice p.CA x.custs.length p.cc, .slice p.KA x.cost.length p.kc, .slice p.TA x.time.length p.tc] 39] w1) := Lib.hid (HS0.out.call hb)
                        clear hb)
 clear d0 d1 d2 d3 d4 d5 d6 d7 d8 HTH HS0 HW
 go_cut [5] (fun v5 wx => ∃ (tb fb bb : Nat) (far : Nat → Int), v5 = .pointer (some ⟨tb, 0, none⟩) ∧ SL w w.heap.size [.blk tb #[.slice (some ⟨fb, 0, none⟩) n n, .slice (some ⟨bb, 0, none⟩) n n] 115, .blk fb (iarr far n) 2, .blk xb #[.int .i64 x.fin, .int .i64 x.tm, .int .i64 x.tr, .int .i64 x.bm, .int .i64 x.br, .slice p.SA x.sats.length p.sc, .slice p.CA x.custs.length p.cc, .slice p.KA x.cost.length p.kc, .slice p.TA x.time.length p.tc] 39] wx ∧ Hid (∀ c (hc : c < R.length), R[c] = far (o1 + c)))
 case first =>
  have hS1 := HS1.out
  refine wp_region_ph [0, 1, 2, 3, 4, 5, 6, 7, 8, 9, 10, 11] [12] [.blk xb #[.int .i64 x.fin, .int .i64 x.tm, .int .i64 x.tr, .int .i64 x.bm, .int .i64 x.br, .slice p.SA x.sats.length p.sc, .slice p.CA x.custs.length p.cc, .slice p.KA x.cost.length p.kc, .slice p.TA x.time.length p.tc] 39] hS1 (List.Sublist.refl _) (by kernel_rfl) (by kernel_rfl) (.cons rfl .nil) (fun C cw _ hC w2 hS => ?_)
  have q0 : ∀ d, (cw d).cell? ⟨xb, 0, none⟩ = some (.int .i64 x.fin) := fun d => (hC d).cell 0 rfl 0 rfl
  have q1 : ∀ d, (cw d).cell? ⟨xb, 1, none⟩ = some (.int .i64 x.tm) := fun d => (hC d).cell 0 rfl 1 rfl
  have q2 : ∀ d, (cw d).cell? ⟨xb, 2, none⟩ = some (.int .i64 x.tr) := fun d => (hC d).cell 0 rfl 2 rfl
  have q3 : ∀ d, (cw d).cell? ⟨xb, 3, none⟩ = some (.int .i64 x.bm) := fun d => (hC d).cell 0 rfl 3 rfl
  have q4 : ∀ d, (cw d).cell? ⟨xb, 4, none⟩ = some (.int .i64 x.br) := fun d => (hC d).cell 0 rfl 4 rfl
  have q5 : ∀ d, (cw d).cell? ⟨xb, 5, none⟩ = some (.slice p.SA x.sats.length p.sc) := fun d => (hC d).cell 0 rfl 5 rfl
  have q6 : ∀ d, (cw d).cell? ⟨xb, 6, none⟩ = some (.slice p.CA x.custs.length p.cc) := fun d => (hC d).cell 0 rfl 6 rfl
  have q7 : ∀ d, (cw d).cell? ⟨xb, 7, none⟩ = some (.slice p.KA x.cost.length p.kc) := fun d => (hC d).cell 0 rfl 7 rfl
  have q8 : ∀ d, (cw d).cell? ⟨xb, 8, none⟩ = some (.slice p.TA x.time.length p.tc) := fun d => (hC d).cell 0 rfl 8 rfl
  refine ph_look 0 rfl (by kernel_rfl) rfl (by kernel_rfl) rfl rfl (fun Kv hK => ?_); go_big_quiet_op; refine hK _ ?_; clear hK Kv
  refine ph_look 1 rfl (by kernel_rfl) rfl (by kernel_rfl) rfl rfl (fun Kv hK => ?_); go_big_quiet_op; refine hK _ ?_; clear hK Kv
  refine ph_look 3 rfl (by kernel_rfl) rfl (by kernel_rfl) rfl rfl (fun Kv hK => ?_); go_big_quiet_op; refine hK _ ?_; clear hK Kv
  refine ph_look 4 rfl (by kernel_rfl) rfl (by kernel_rfl) rfl rfl (fun Kv hK => ?_); go_big_quiet_op; refine hK _ ?_; clear hK Kv
  clear q0 q1 q2 q3 q4 q5 q6 q7 q8 hC
  refine ph_two 2 10 (by kernel_rfl) rfl rfl ?br1A ?br1B
  case br1A =>
   refine ph_op rfl rfl (fun Kv hK => ?_)
   go_simp
   refine eff_call (HWY.out _ hS.below) (fun e w3 h => ?_)
   obtain ⟨gA, gc, rfl, hAr, hb⟩ := h
   have hS := hS.call hb
   clear hb
   have hS : SL w w.heap.size ([.blk xb #[.int .i64 x.fin, .int .i64 x.tm, .int .i64 x.tr, .int .i64 x.bm, .int .i64 x.br, .slice p.SA x.sats.length p.sc, .slice p.CA x.custs.length p.cc, .slice p.KA x.cost.length p.kc, .slice p.TA x.time.length p.tc] 39]) w3 := hS
   refine .inl ⟨_, rfl, hS.sub (List.Sublist.refl _), hK _ _ ?_⟩
   clear hK Kv
   refine ph_two 5 10 (by kernel_rfl) rfl rfl ?br2A ?br2B
   case br2A =>
    refine ph_op rfl rfl (fun Kv hK => ?_)
    go_simp
    refine eff_call (HSA.out _) (fun e w4 h => ?_)
    obtain ⟨rfl, hb⟩ := h
    have hS := hS.call hb
    have hAr : Arcs w4 w4.heap.size gA L := reads_more (Reads.below hAr (hb)) (hb).size
    clear hb
    have hS : SL w w.heap.size ([.blk xb #[.int .i64 x.fin, .int .i64 x.tm, .int .i64 x.tr, .int .i64 x.bm, .int .i64 x.br, .slice p.SA x.sats.length p.sc, .slice p.CA x.custs.length p.cc, .slice p.KA x.cost.length p.kc, .slice p.TA x.time.length p.tc] 39]) w4 := hS
    refine .inl ⟨_, rfl, hS.sub (List.Sublist.refl _), hK _ _ ?_⟩
    clear hK Kv
    refine ph_two 6 10 (by kernel_rfl) rfl rfl ?br3A ?br3B
    case br3A =>
     refine ph_op rfl rfl (fun Kv hK => ?_)
     go_simp
     refine eff_call (HNR.out _ gA gc hAr) (fun e w5 h => ?_)
     obtain ⟨fb, bb, far, by_, rfl, hq, hlk⟩ := h
     have HFF := Lib.hid (HFA.out far by_ hlk)
     have hS := hS.join hq
     clear hq hlk hAr
     have hS : SL w w.heap.size ([.blk fb (iarr far n) 2, .blk bb (iarr by_ n) 3, .blk xb #[.int .i64 x.fin, .int .i64 x.tm, .int .i64 x.tr, .int .i64 x.bm, .int .i64 x.br, .slice p.SA x.sats.length p.sc, .slice p.CA x.custs.length p.cc, .slice p.KA x.cost.length p.kc, .slice p.TA x.time.length p.tc] 39]) w5 := hS
     refine .inl ⟨_, rfl, hS.sub (.cons _ (.cons _ (List.Sublist.refl _))), hK _ _ ?_⟩
     clear hK Kv
     refine ph_look 7 rfl (by kernel_rfl) rfl (by kernel_rfl) rfl rfl (fun Kv hK => ?_); go_big_quiet_op; refine hK _ ?_; clear hK Kv
     refine ph_look 8 rfl (by kernel_rfl) rfl (by kernel_rfl) rfl rfl (fun Kv hK => ?_); go_big_quiet_op; refine hK _ ?_; clear hK Kv
     refine ph_look 9 rfl (by kernel_rfl) rfl (by kernel_rfl) rfl rfl (fun Kv hK => ?_); go_big_quiet_op; refine hK _ ?_; clear hK Kv
     refine ph_eff 10 rfl (by kernel_rfl) rfl rfl (fun Kv hK => ?_)
     go_simp
     have hS := hS.alloc #[.slice none 0 0, .slice none 0 0] 115
     have hbl : Below w5.heap.size w5 (w5.alloc (.cells #[.slice none 0 0, .slice none 0 0] 115)) := (Below.refl _ _).alloc (Nat.le_refl _) _
     obtain ⟨tb, htb⟩ : ∃ b, w5.heap.size = b := ⟨_, rfl⟩
     obtain ⟨w6, hw6⟩ : ∃ y, w5.alloc (.cells #[.slice none 0 0, .slice none 0 0] 115) = y := ⟨_, rfl⟩
     rw [hw6] at hbl
     rw [htb, hw6] at hS
     rw [htb, hw6]
     clear htb hw6 hbl
     have hS : SL w w.heap.size ([.blk tb #[.slice none 0 0, .slice none 0 0] 115, .blk fb (iarr far n) 2, .blk bb (iarr by_ n) 3, .blk xb #[.int .i64 x.fin, .int .i64 x.tm, .int .i64 x.tr, .int .i64 x.bm, .int .i64 x.br, .slice p.SA x.sats.length p.sc, .slice p.CA x.custs.length p.cc, .slice p.KA x.cost.length p.kc, .slice p.TA x.time.length p.tc] 39]) w6 := hS
     refine ⟨hS.sub (.cons _ (.cons _ (.cons _ (List.Sublist.refl _)))), hK _ _ ?_⟩
     clear hK Kv
     refine ph_eff 11 rfl (by kernel_rfl) rfl rfl (fun Kv hK => ?_)
     have htr := hS.thereBlk 0 rfl (n := 2) (by decide)
     have hS := (hS.setCell 0 rfl 0 (.slice (some ⟨fb, 0, none⟩) n n)).setCell 0 rfl 1 (.slice (some ⟨bb, 0, none⟩) n n)
     refine eff_store2 115 _ _ rfl tb (.slice (some ⟨fb, 0, none⟩) n n) (.slice (some ⟨bb, 0, none⟩) n n) rfl rfl htr (by kernel_rfl) rfl rfl ?_
     obtain ⟨w7, hw7⟩ : ∃ y, (w6.setCell ⟨tb, 0, none⟩ (.slice (some ⟨fb, 0, none⟩) n n)).setCell ⟨tb, 1, none⟩ (.slice (some ⟨bb, 0, none⟩) n n) = y := ⟨_, rfl⟩
     rw [hw7] at hS ⊢
     clear hw7 htr
     have hS : SL w w.heap.size ([.blk tb #[.slice (some ⟨fb, 0, none⟩) n n, .slice (some ⟨bb, 0, none⟩) n n] 115, .blk fb (iarr far n) 2, .blk bb (iarr by_ n) 3, .blk xb #[.int .i64 x.fin, .int .i64 x.tm, .int .i64 x.tr, .int .i64 x.bm, .int .i64 x.br, .slice p.SA x.sats.length p.sc, .slice p.CA x.custs.length p.cc, .slice p.KA x.cost.length p.kc, .slice p.TA x.time.length p.tc] 39]) w7 := hS
     refine ⟨hS.sub (.cons _ (.cons _ (.cons _ (List.Sublist.refl _)))), hK _ _ ?_⟩
     clear hK Kv
     refine ph_end (by kernel_rfl) ?_
     have hS : SL w w.heap.size [.blk tb #[.slice (some ⟨fb, 0, none⟩) n n, .slice (some ⟨bb, 0, none⟩) n n] 115, .blk fb (iarr far n) 2, .blk xb #[.int .i64 x.fin, .int .i64 x.tm, .int .i64 x.tr, .int .i64 x.bm, .int .i64 x.br, .slice p.SA x.sats.length p.sc, .slice p.CA x.custs.length p.cc, .slice p.KA x.cost.length p.kc, .slice p.TA x.time.length p.tc] 39] w7 := hS.pick [0, 1, 3] (by decide) rfl
     have HS9 := Lib.hid hS
     clear hS
     go_wp2_with fail
     go_meet
     exact ⟨_, _, _, _, rfl, HS9.out, HFF⟩
    case br3B =>
     refine ph_op rfl rfl (fun Kv hK => ?_)
     go_simp
     have hS := hS.alloc #[.slice none 0 0, .slice none 0 0] 115
     have hbl : Below w4.heap.size w4 (w4.alloc (.cells #[.slice none 0 0, .slice none 0 0] 115)) := (Below.refl _ _).alloc (Nat.le_refl _) _
     obtain ⟨tb, htb⟩ : ∃ b, w4.heap.size = b := ⟨_, rfl⟩
     obtain ⟨w5, hw5⟩ : ∃ y, w4.alloc (.cells #[.slice none 0 0, .slice none 0 0] 115) = y := ⟨_, rfl⟩
     rw [hw5] at hbl
     have hAr : Arcs w5 w5.heap.size gA L := reads_more (Reads.below hAr (hbl)) (hbl).size
     rw [htb, hw5] at hS
     rw [htb, hw5]
     clear htb hw5 hbl
     have hS : SL w w.heap.size ([.blk tb #[.slice none 0 0, .slice none 0 0] 115, .blk xb #[.int .i64 x.fin, .int .i64 x.tm, .int .i64 x.tr, .int .i64 x.bm, .int .i64 x.br, .slice p.SA x.sats.length p.sc, .slice p.CA x.custs.length p.cc, .slice p.KA x.cost.length p.kc, .slice p.TA x.time.length p.tc] 39]) w5 := hS
     refine ⟨hS.sub (.cons _ (List.Sublist.refl _)), hK _ _ ?_⟩
     clear hK Kv
     refine ph_eff 6 rfl (by kernel_rfl) rfl rfl (fun Kv hK => ?_)
     go_simp
     refine eff_call (HNR.out _ gA gc hAr) (fun e w6 h => ?_)
     obtain ⟨fb, bb, far, by_, rfl, hq, hlk⟩ := h
     have HFF := Lib.hid (HFA.out far by_ hlk)
     have hS := hS.join hq
     clear hq hlk hAr
     have hS : SL w w.heap.size ([.blk fb (iarr far n) 2, .blk bb (iarr by_ n) 3, .blk tb #[.slice none 0 0, .slice none 0 0] 115, .blk xb #[.int .i64 x.fin, .int .i64 x.tm, .int .i64 x.tr, .int .i64 x.bm, .int .i64 x.br, .slice p.SA x.sats.length p.sc, .slice p.CA x.custs.length p.cc, .slice p.KA x.cost.length p.kc, .slice p.TA x.time.length p.tc] 39]) w6 := hS
     refine .inl ⟨_, rfl, hS.sub (.cons _ (.cons _ (.cons _ (List.Sublist.refl _)))), hK _ _ ?_⟩
     clear hK Kv
     refine ph_look 7 rfl (by kernel_rfl) rfl (by kernel_rfl) rfl rfl (fun Kv hK => ?_); go_big_quiet_op; refine hK _ ?_; clear hK Kv
     refine ph_look 8 rfl (by kernel_rfl) rfl (by kernel_rfl) rfl rfl (fun Kv hK => ?_); go_big_quiet_op; refine hK _ ?_; clear hK Kv
     refine ph_look 9 rfl (by kernel_rfl) rfl (by kernel_rfl) rfl rfl (fun Kv hK => ?_); go_big_quiet_op; refine hK _ ?_; clear hK Kv
     refine ph_eff 11 rfl (by kernel_rfl) rfl rfl (fun Kv hK => ?_)
     have htr := hS.thereBlk 2 rfl (n := 2) (by decide)
     have hS := (hS.setCell 2 rfl 0 (.slice (some ⟨fb, 0, none⟩) n n)).setCell 2 rfl 1 (.slice (some ⟨bb, 0, none⟩) n n)
     refine eff_store2 115 _ _ rfl tb (.slice (some ⟨fb, 0, none⟩) n n) (.slice (some ⟨bb, 0, none⟩) n n) rfl rfl htr (by kernel_rfl) rfl rfl ?_
     obtain ⟨w7, hw7⟩ : ∃ y, (w6.setCell ⟨tb, 0, none⟩ (.slice (some ⟨fb, 0, none⟩) n n)).setCell ⟨tb, 1, none⟩ (.slice (some ⟨bb, 0, none⟩) n n) = y := ⟨_, rfl⟩
     rw [hw7] at hS ⊢
     clear hw7 htr
     have hS : SL w w.heap.size ([.blk fb (iarr far n) 2, .blk bb (iarr by_ n) 3, .blk tb #[.slice (some ⟨fb, 0, none⟩) n n, .slice (some ⟨bb, 0, none⟩) n n] 115, .blk xb #[.int .i64 x.fin, .int .i64 x.tm, .int .i64 x.tr, .int .i64 x.bm, .int .i64 x.br, .slice p.SA x.sats.length p.sc, .slice p.CA x.custs.length p.cc, .slice p.KA x.cost.length p.kc, .slice p.TA x.time.length p.tc] 39]) w7 := hS
     refine ⟨hS.sub (.cons _ (.cons _ (.cons _ (List.Sublist.refl _)))), hK _ _ ?_⟩
     clear hK Kv
     refine ph_end (by kernel_rfl) ?_
     have hS : SL w w.heap.size [.blk tb #[.slice (some ⟨fb, 0, none⟩) n n, .slice (some ⟨bb, 0, none⟩) n n] 115, .blk fb (iarr far n) 2, .blk xb #[.int .i64 x.fin, .int .i64 x.tm, .int .i64 x.tr, .int .i64 x.bm, .int .i64 x.br, .slice p.SA x.sats.length p.sc, .slice p.CA x.custs.length p.cc, .slice p.KA x.cost.length p.kc, .slice p.TA x.time.length p.tc] 39] w7 := hS.pick [2, 0, 3] (by decide) rfl
     have HS9 := Lib.hid hS
     clear hS
     go_wp2_with fail
     go_meet
     exact ⟨_, _, _, _, rfl, HS9.out, HFF⟩
   case br2B =>
    refine ph_op rfl rfl (fun Kv hK => ?_)
    go_simp
    have hS := hS.alloc #[.slice none 0 0, .slice none 0 0] 115
    have hbl : Below w3.heap.size w3 (w3.alloc (.cells #[.slice none 0 0, .slice none 0 0] 115)) := (Below.refl _ _).alloc (Nat.le_refl _) _
    obtain ⟨tb, htb⟩ : ∃ b, w3.heap.size = b := ⟨_, rfl⟩
    obtain ⟨w4, hw4⟩ : ∃ y, w3.alloc (.cells #[.slice none 0 0, .slice none 0 0] 115) = y := ⟨_, rfl⟩
    rw [hw4] at hbl
    have hAr : Arcs w4 w4.heap.size gA L := reads_more (Reads.below hAr (hbl)) (hbl).size
    rw [htb, hw4] at hS
    rw [htb, hw4]
    clear htb hw4 hbl
    have hS : SL w w.heap.size ([.blk tb #[.slice none 0 0, .slice none 0 0] 115, .blk xb #[.int .i64 x.fin, .int .i64 x.tm, .int .i64 x.tr, .int .i64 x.bm, .int .i64 x.br, .slice p.SA x.sats.length p.sc, .slice p.CA x.custs.length p.cc, .slice p.KA x.cost.length p.kc, .slice p.TA x.time.length p.tc] 39]) w4 := hS
    refine ⟨hS.sub (.cons _ (List.Sublist.refl _)), hK _ _ ?_⟩
    clear hK Kv
    refine ph_eff 5 rfl (by kernel_rfl) rfl rfl (fun Kv hK => ?_)
    go_simp
    refine eff_call (HSA.out _) (fun e w5 h => ?_)
    obtain ⟨rfl, hb⟩ := h
    have hS := hS.call hb
    have hAr : Arcs w5 w5.heap.size gA L := reads_more (Reads.below hAr (hb)) (hb).size
    clear hb
    have hS : SL w w.heap.size ([.blk tb #[.slice none 0 0, .slice none 0 0] 115, .blk xb #[.int .i64 x.fin, .int .i64 x.tm, .int .i64 x.tr, .int .i64 x.bm, .int .i64 x.br, .slice p.SA x.sats.length p.sc, .slice p.CA x.custs.length p.cc, .slice p.KA x.cost.length p.kc, .slice p.TA x.time.length p.tc] 39]) w5 := hS
    refine .inl ⟨_, rfl, hS.sub (.cons _ (List.Sublist.refl _)), hK _ _ ?_⟩
    clear hK Kv
    refine ph_eff 6 rfl (by kernel_rfl) rfl rfl (fun Kv hK => ?_)
    go_simp
    refine eff_call (HNR.out _ gA gc hAr) (fun e w6 h => ?_)
    obtain ⟨fb, bb, far, by_, rfl, hq, hlk⟩ := h
    have HFF := Lib.hid (HFA.out far by_ hlk)
    have hS := hS.join hq
    clear hq hlk hAr
    have hS : SL w w.heap.size ([.blk fb (iarr far n) 2, .blk bb (iarr by_ n) 3, .blk tb #[.slice none 0 0, .slice none 0 0] 115, .blk xb #[.int .i64 x.fin, .int .i64 x.tm, .int .i64 x.tr, .int .i64 x.bm, .int .i64 x.br, .slice p.SA x.sats.length p.sc, .slice p.CA x.custs.length p.cc, .slice p.KA x.cost.length p.kc, .slice p.TA x.time.length p.tc] 39]) w6 := hS
    refine .inl ⟨_, rfl, hS.sub (.cons _ (.cons _ (.cons _ (List.Sublist.refl _)))), hK _ _ ?_⟩
    clear hK Kv
    refine ph_look 7 rfl (by kernel_rfl) rfl (by kernel_rfl) rfl rfl (fun Kv hK => ?_); go_big_quiet_op; refine hK _ ?_; clear hK Kv
    refine ph_look 8 rfl (by kernel_rfl) rfl (by kernel_rfl) rfl rfl (fun Kv hK => ?_); go_big_quiet_op; refine hK _ ?_; clear hK Kv
    refine ph_look 9 rfl (by kernel_rfl) rfl (by kernel_rfl) rfl rfl (fun Kv hK => ?_); go_big_quiet_op; refine hK _ ?_; clear hK Kv
    refine ph_eff 11 rfl (by kernel_rfl) rfl rfl (fun Kv hK => ?_)
    have htr := hS.thereBlk 2 rfl (n := 2) (by decide)
    have hS := (hS.setCell 2 rfl 0 (.slice (some ⟨fb, 0, none⟩) n n)).setCell 2 rfl 1 (.slice (some ⟨bb, 0, none⟩) n n)
    refine eff_store2 115 _ _ rfl tb (.slice (some ⟨fb, 0, none⟩) n n) (.slice (some ⟨bb, 0, none⟩) n n) rfl rfl htr (by kernel_rfl) rfl rfl ?_
    obtain ⟨w7, hw7⟩ : ∃ y, (w6.setCell ⟨tb, 0, none⟩ (.slice (some ⟨fb, 0, none⟩) n n)).setCell ⟨tb, 1, none⟩ (.slice (some ⟨bb, 0, none⟩) n n) = y := ⟨_, rfl⟩
    rw [hw7] at hS ⊢
    clear hw7 htr
    have hS : SL w w.heap.size ([.blk fb (iarr far n) 2, .blk bb (iarr by_ n) 3, .blk tb #[.slice (some ⟨fb, 0, none⟩) n n, .slice (some ⟨bb, 0, none⟩) n n] 115, .blk xb #[.int .i64 x.fin, .int .i64 x.tm, .int .i64 x.tr, .int .i64 x.bm, .int .i64 x.br, .slice p.SA x.sats.length p.sc, .slice p.CA x.custs.length p.cc, .slice p.KA x.cost.length p.kc, .slice p.TA x.time.length p.tc] 39]) w7 := hS
    refine ⟨hS.sub (.cons _ (.cons _ (.cons _ (List.Sublist.refl _)))), hK _ _ ?_⟩
    clear hK Kv
    refine ph_end (by kernel_rfl) ?_
    have hS : SL w w.heap.size [.blk tb #[.slice (some ⟨fb, 0, none⟩) n n, .slice (some ⟨bb, 0, none⟩) n n] 115, .blk fb (iarr far n) 2, .blk xb #[.int .i64 x.fin, .int .i64 x.tm, .int .i64 x.tr, .int .i64 x.bm, .int .i64 x.br, .slice p.SA x.sats.length p.sc, .slice p.CA x.custs.length p.cc, .slice p.KA x.cost.length p.kc, .slice p.TA x.time.length p.tc] 39] w7 := hS.pick [2, 0, 3] (by decide) rfl
    have HS9 := Lib.hid hS
    clear hS
    go_wp2_with fail
    go_meet
    exact ⟨_, _, _, _, rfl, HS9.out, HFF⟩
  case br1B =>
   refine ph_op rfl rfl (fun Kv hK => ?_)
   go_simp
   have hS := hS.alloc #[.slice none 0 0, .slice none 0 0] 115
   have hbl : Below w2.heap.size w2 (w2.alloc (.cells #[.slice none 0 0, .slice none 0 0] 115)) := (Below.refl _ _).alloc (Nat.le_refl _) _
   obtain ⟨tb, htb⟩ : ∃ b, w2.heap.size = b := ⟨_, rfl⟩
   obtain ⟨w3, hw3⟩ : ∃ y, w2.alloc (.cells #[.slice none 0 0, .slice none 0 0] 115) = y := ⟨_, rfl⟩
   rw [hw3] at hbl
   rw [htb, hw3] at hS
   rw [htb, hw3]
   clear htb hw3 hbl
   have hS : SL w w.heap.size ([.blk tb #[.slice none 0 0, .slice none 0 0] 115, .blk xb #[.int .i64 x.fin, .int .i64 x.tm, .int .i64 x.tr, .int .i64 x.bm, .int .i64 x.br, .slice p.SA x.sats.length p.sc, .slice p.CA x.custs.length p.cc, .slice p.KA x.cost.length p.kc, .slice p.TA x.time.length p.tc] 39]) w3 := hS
   refine ⟨hS.sub (.cons _ (List.Sublist.refl _)), hK _ _ ?_⟩
   clear hK Kv
   refine ph_eff 2 rfl (by kernel_rfl) rfl rfl (fun Kv hK => ?_)
   go_simp
   refine eff_call (HWY.out _ hS.below) (fun e w4 h => ?_)
   obtain ⟨gA, gc, rfl, hAr, hb⟩ := h
   have hS := hS.call hb
   clear hb
   have hS : SL w w.heap.size ([.blk tb #[.slice none 0 0, .slice none 0 0] 115, .blk xb #[.int .i64 x.fin, .int .i64 x.tm, .int .i64 x.tr, .int .i64 x.bm, .int .i64 x.br, .slice p.SA x.sats.length p.sc, .slice p.CA x.custs.length p.cc, .slice p.KA x.cost.length p.kc, .slice p.TA x.time.length p.tc] 39]) w4 := hS
   refine .inl ⟨_, rfl, hS.sub (.cons _ (List.Sublist.refl _)), hK _ _ ?_⟩
   clear hK Kv
   refine ph_eff 5 rfl (by kernel_rfl) rfl rfl (fun Kv hK => ?_)
   go_simp
   refine eff_call (HSA.out _) (fun e w5 h => ?_)
   obtain ⟨rfl, hb⟩ := h
   have hS := hS.call hb
   have hAr : Arcs w5 w5.heap.size gA L := reads_more (Reads.below hAr (hb)) (hb).size
   clear hb
   have hS : SL w w.heap.size ([.blk tb #[.slice none 0 0, .slice none 0 0] 115, .blk xb #[.int .i64 x.fin, .int .i64 x.tm, .int .i64 x.tr, .int .i64 x.bm, .int .i64 x.br, .slice p.SA x.sats.length p.sc, .slice p.CA x.custs.length p.cc, .slice p.KA x.cost.length p.kc, .slice p.TA x.time.length p.tc] 39]) w5 := hS
   refine .inl ⟨_, rfl, hS.sub (.cons _ (List.Sublist.refl _)), hK _ _ ?_⟩
   clear hK Kv
   refine ph_eff 6 rfl (by kernel_rfl) rfl rfl (fun Kv hK => ?_)
   go_simp
   refine eff_call (HNR.out _ gA gc hAr) (fun e w6 h => ?_)
   obtain ⟨fb, bb, far, by_, rfl, hq, hlk⟩ := h
   have HFF := Lib.hid (HFA.out far by_ hlk)
   have hS := hS.join hq
   clear hq hlk hAr
   have hS : SL w w.heap.size ([.blk fb (iarr far n) 2, .blk bb (iarr by_ n) 3, .blk tb #[.slice none 0 0, .slice none 0 0] 115, .blk xb #[.int .i64 x.fin, .int .i64 x.tm, .int .i64 x.tr, .int .i64 x.bm, .int .i64 x.br, .slice p.SA x.sats.length p.sc, .slice p.CA x.custs.length p.cc, .slice p.KA x.cost.length p.kc, .slice p.TA x.time.length p.tc] 39]) w6 := hS
   refine .inl ⟨_, rfl, hS.sub (.cons _ (.cons _ (.cons _ (List.Sublist.refl _)))), hK _ _ ?_⟩
   clear hK Kv
   refine ph_look 7 rfl (by kernel_rfl) rfl (by kernel_rfl) rfl rfl (fun Kv hK => ?_); go_big_quiet_op; refine hK _ ?_; clear hK Kv
   refine ph_look 8 rfl (by kernel_rfl) rfl (by kernel_rfl) rfl rfl (fun Kv hK => ?_); go_big_quiet_op; refine hK _ ?_; clear hK Kv
   refine ph_look 9 rfl (by kernel_rfl) rfl (by kernel_rfl) rfl rfl (fun Kv hK => ?_); go_big_quiet_op; refine hK _ ?_; clear hK Kv
   refine ph_eff 11 rfl (by kernel_rfl) rfl rfl (fun Kv hK => ?_)
   have htr := hS.thereBlk 2 rfl (n := 2) (by decide)
   have hS := (hS.setCell 2 rfl 0 (.slice (some ⟨fb, 0, none⟩) n n)).setCell 2 rfl 1 (.slice (some ⟨bb, 0, none⟩) n n)
   refine eff_store2 115 _ _ rfl tb (.slice (some ⟨fb, 0, none⟩) n n) (.slice (some ⟨bb, 0, none⟩) n n) rfl rfl htr (by kernel_rfl) rfl rfl ?_
   obtain ⟨w7, hw7⟩ : ∃ y, (w6.setCell ⟨tb, 0, none⟩ (.slice (some ⟨fb, 0, none⟩) n n)).setCell ⟨tb, 1, none⟩ (.slice (some ⟨bb, 0, none⟩) n n) = y := ⟨_, rfl⟩
   rw [hw7] at hS ⊢
   clear hw7 htr
   have hS : SL w w.heap.size ([.blk fb (iarr far n) 2, .blk bb (iarr by_ n) 3, .blk tb #[.slice (some ⟨fb, 0, none⟩) n n, .slice (some ⟨bb, 0, none⟩) n n] 115, .blk xb #[.int .i64 x.fin, .int .i64 x.tm, .int .i64 x.tr, .int .i64 x.bm, .int .i64 x.br, .slice p.SA x.sats.length p.sc, .slice p.CA x.custs.length p.cc, .slice p.KA x.cost.length p.kc, .slice p.TA x.time.length p.tc] 39]) w7 := hS
   refine ⟨hS.sub (.cons _ (.cons _ (.cons _ (List.Sublist.refl _)))), hK _ _ ?_⟩
   clear hK Kv
   refine ph_end (by kernel_rfl) ?_
   have hS : SL w w.heap.size [.blk tb #[.slice (some ⟨fb, 0, none⟩) n n, .slice (some ⟨bb, 0, none⟩) n n] 115, .blk fb (iarr far n) 2, .blk xb #[.int .i64 x.fin, .int .i64 x.tm, .int .i64 x.tr, .int .i64 x.bm, .int .i64 x.br, .slice p.SA x.sats.length p.sc, .slice p.CA x.custs.length p.cc, .slice p.KA x.cost.length p.kc, .slice p.TA x.time.length p.tc] 39] w7 := hS.pick [2, 0, 3] (by decide) rfl
   have HS9 := Lib.hid hS
   clear hS
   go_wp2_with fail
   go_meet
   exact ⟨_, _, _, _, rfl, HS9.out, HFF⟩
 case rest =>
  obtain ⟨tb, fb, bb, far, rfl, hS, HFF⟩ := hcut
  clear HNR HFA HWY HSA HS1
  go_upto_region 4 with fail
  refine wp_region_sl [0,1,2] [3,4] [5] [.blk tb #[.slice (some ⟨fb, 0, none⟩) n n, .slice (some ⟨bb, 0, none⟩) n n] 115, .blk xb #[.int .i64 x.fin, .int .i64 x.tm, .int .i64 x.tr, .int .i64 x.bm, .int .i64 x.br, .slice p.SA x.sats.length p.sc, .slice p.CA x.custs.length p.cc, .slice p.KA x.cost.length p.kc, .slice p.TA x.time.length p.tc] 39] hS (.cons_cons _ (.cons _ (.cons_cons _ (List.nil_sublist _)))) (by kernel_rfl) (by kernel_rfl) (.cons rfl .nil) (fun C cw _ hC => ?_)
  have q9 : ∀ d, (cw d).cell? ⟨tb, 0, none⟩ = some (.slice (some ⟨fb, 0, none⟩) n n) := fun d => (hC d).cell 0 rfl 0 rfl
  have q0 : ∀ d, (cw d).cell? ⟨xb, 0, none⟩ = some (.int .i64 x.fin) := fun d => (hC d).cell 1 rfl 0 rfl
  have q1 : ∀ d, (cw d).cell? ⟨xb, 1, none⟩ = some (.int .i64 x.tm) := fun d => (hC d).cell 1 rfl 1 rfl
  have q2 : ∀ d, (cw d).cell? ⟨xb, 2, none⟩ = some (.int .i64 x.tr) := fun d => (hC d).cell 1 rfl 2 rfl
  have q3 : ∀ d, (cw d).cell? ⟨xb, 3, none⟩ = some (.int .i64 x.bm) := fun d => (hC d).cell 1 rfl 3 rfl
  have q4 : ∀ d, (cw d).cell? ⟨xb, 4, none⟩ = some (.int .i64 x.br) := fun d => (hC d).cell 1 rfl 4 rfl
  have q5 : ∀ d, (cw d).cell? ⟨xb, 5, none⟩ = some (.slice p.SA x.sats.length p.sc) := fun d => (hC d).cell 1 rfl 5 rfl
  have q6 : ∀ d, (cw d).cell? ⟨xb, 6, none⟩ = some (.slice p.CA x.custs.length p.cc) := fun d => (hC d).cell 1 rfl 6 rfl
  have q7 : ∀ d, (cw d).cell? ⟨xb, 7, none⟩ = some (.slice p.KA x.cost.length p.kc) := fun d => (hC d).cell 1 rfl 7 rfl
  have q8 : ∀ d, (cw d).cell? ⟨xb, 8, none⟩ = some (.slice p.TA x.time.length p.tc) := fun d => (hC d).cell 1 rfl 8 rfl
  repeat (refine pl_look rfl rfl rfl (fun Kv hK => ?_); go_big_quiet_op; refine hK _ ?_; clear hK Kv)
  clear q0 q1 q2 q3 q4 q5 q6 q7 q8 q9 hC
  refine pl_end ?_
  intro w4 hS4
  clear hS
  refine pm_eff rfl rfl fun Kv hK => ?_
  go_simp
  refine eff_call (HCU.out _) (fun e w5 h => ?_)
  obtain ⟨rfl, hb⟩ := h
  have hS5 := hS4.call hb
  refine .inl ⟨_, rfl, hS5.sub (.cons_cons _ (.cons _ (.cons_cons _ (List.nil_sublist _)))), hK _ _ ?_⟩
  clear hK Kv hb hS4
  have hon : o1 < n := by have := HNX.out; have := HC1.out; omega
  have hne : ¬ n = o1 := by omega
  refine pm_eff rfl rfl fun Kv hK => ?_
  go_simp
  simp only [if_pos (Nat.le_of_lt hon), if_neg hne]
  refine ⟨hS5.sub (.cons_cons _ (.cons _ (.cons_cons _ (List.nil_sublist _)))), hK _ _ ?_⟩
  clear hK Kv
  refine pm_end ?_
  have HS5 := Lib.hid hS5
  clear hS5
  go_wp2_with fail
  go_ret
  have hl : R.length = n - o1 := by have := HNX.out; have := HML.out; omega
  have h1 := ints_from (R := R) (o := o1) (HS5.out.blk 1 rfl) (by omega) HFF.out
  refine ⟨some ⟨fb, o1, none⟩, n - o1, ?_, h1, HS5.out.below⟩
  rw [hl]
  first | rfl | simp
set_option maxRecDepth 100000 in
set_option maxHeartbeats 8000000 in
theorem back_r (x : InstV) (p : IAt) (s : Nat) (w : World) (hI : InstIn w w.heap.size p x) (hF : x.Fit) (hs : s < x.sats.length) :
 Calls Try.prog 32 #[.agg (x.cells p), .int .i64 (s : Int)] w (ReadyR w (backM x s)) := by
 have hs2 : s ≤ 1000 := by have := hF.sats; omega
 have hn10 := hF.n9
 have hT := fun i k => time_in hF i k
 have hSt := fun i => stay_in hF i
 have hck : checkG (x.n : Int) (arcsUp (inWays x s) (fun i k => timeF x i k + stayF x i) x.n x.n) = 0 := arcs_check (by omega) (fun i k => by have := hT i k; have := hSt i; omega)
 have hln := arcsUp_len (inWays x s) (fun i k => timeF x i k + stayF x i) x.n x.n
 have h00 : ∀ a ∈ (arcsUp (inWays x s) (fun i k => timeF x i k + stayF x i) x.n x.n), 0 ≤ a.wt := fun a ha => by
  obtain ⟨i, k, _, _, _, _, _, rfl⟩ := arcs_mem.1 ha
  have := hT i k
  have := hSt i
  simp only; omega
 have h3 : x.n * x.n ≤ 10 * 10 := Nat.mul_le_mul hn10 hn10
 have h4 : x.n * ((arcsUp (inWays x s) (fun i k => timeF x i k + stayF x i) x.n x.n).length + 1) ≤ 10 * 101 := Nat.mul_le_mul hn10 (by omega)
 have hck2 := turn_check hck
 have h002 : ∀ a ∈ ((arcsUp (inWays x s) (fun i k => timeF x i k + stayF x i) x.n x.n).map ArcV.turn), 0 ≤ a.wt := fun a ha => by
  obtain ⟨b, hb, rfl⟩ := List.mem_map.1 ha
  exact h00 b hb
 have h42 : x.n * (((arcsUp (inWays x s) (fun i k => timeF x i k + stayF x i) x.n x.n).map ArcV.turn).length + 1) + 2 ≤ 800000 := by rw [List.length_map]; omega
 have HTU : Hid (∀ wx A c, Arcs wx wx.heap.size A (arcsUp (inWays x s) (fun i k => timeF x i k + stayF x i) x.n x.n) → Calls Try.prog 62 #[.agg #[.int .i64 (x.n : Int), .slice A (arcsUp (inWays x s) (fun i k => timeF x i k + stayF x i) x.n x.n).length c]] wx (TurnedPost wx (x.n : Int) (arcsUp (inWays x s) (fun i k => timeF x i k + stayF x i) x.n x.n))) := Lib.hid (fun wx A c h => turned_any (x.n : Int) A c (arcsUp (inWays x s) (fun i k => timeF x i k + stayF x i) x.n x.n) wx h (by omega))
 have HNR : Hid (∀ wx A c, Arcs wx wx.heap.size A ((arcsUp (inWays x s) (fun i k => timeF x i k + stayF x i) x.n x.n).map ArcV.turn) → Calls Try.prog 57 #[.agg #[.int .i64 (x.n : Int), .slice A (arcsUp (inWays x s) (fun i k => timeF x i k + stayF x i) x.n x.n).length c], .int .i64 ((1 + s : Nat) : Int)] wx (NearPost wx x.n ((arcsUp (inWays x s) (fun i k => timeF x i k + stayF x i) x.n x.n).map ArcV.turn) (1 + s))) := Lib.hid (fun wx A c h => by
  have h5 := near_any x.n (1 + s) A c ((arcsUp (inWays x s) (fun i k => timeF x i k + stayF x i) x.n x.n).map ArcV.turn) wx h hck2 (by unfold InstV.n; omega) h002 h42
  rw [List.length_map] at h5
  exact h5)
 have HFA : Hid (∀ far by_, Looked x.n ((arcsUp (inWays x s) (fun i k => timeF x i k + stayF x i) x.n x.n).map ArcV.turn) (1 + s) far by_ → ∀ c (hc : c < (backM x s).length), (backM x s)[c] = far (1 + x.sats.length + c)) := Lib.hid (fun far by_ h c hc => back_far hF hs h c hc)
 have HWY : Hid (∀ wx, Below w.heap.size w wx → Calls Try.prog 61 #[.agg #[.int .i64 x.fin, .int .i64 x.tm, .int .i64 x.tr, .int .i64 x.bm, .int .i64 x.br, .slice p.SA x.sats.length p.sc, .slice p.CA x.custs.length p.cc, .slice p.KA x.cost.length p.kc, .slice p.TA x.time.length p.tc], .int .i64 (s : Int)] wx (GraphR wx (x.n : Nat) (arcsUp (inWays x s) (fun i k => timeF x i k + stayF x i) x.n x.n))) := Lib.hid (fun wx hb => ways_any x p s wx (hI.at_ hb) hF hs)
 have HTH : Hid (∀ wx, Below w.heap.size w wx → Calls Try.prog 60 #[.agg #[.int .i64 x.fin, .int .i64 x.tm, .int .i64 x.tr, .int .i64 x.bm, .int .i64 x.br, .slice p.SA x.sats.length p.sc, .slice p.CA x.custs.length p.cc, .slice p.KA x.cost.length p.kc, .slice p.TA x.time.length p.tc], .int .i64 (s : Int)] wx fun e w' => e = .returned (.bool true) ∧ Below wx.heap.size wx w') := Lib.hid (fun wx hb => by
  have h := there_any x p (s : Int) wx (hI.at_ hb) hF.lens
  rw [decide_eq_true ⟨hF.code, by omega, by omega⟩] at h
  exact h)
 have HSA : Hid (∀ wx, Calls Try.prog 51 #[.agg #[.int .i64 x.fin, .int .i64 x.tm, .int .i64 x.tr, .int .i64 x.bm, .int .i64 x.br, .slice p.SA x.sats.length p.sc, .slice p.CA x.custs.length p.cc, .slice p.KA x.cost.length p.kc, .slice p.TA x.time.length p.tc], .int .i64 (s : Int)] wx fun e w' => e = .returned (.int .i64 ((1 + s : Nat) : Int)) ∧ Below wx.heap.size wx w') := Lib.hid (fun wx => satF_any x p s wx hs2)
 have HCU : Hid (∀ wx, Calls Try.prog 52 #[.agg #[.int .i64 x.fin, .int .i64 x.tm, .int .i64 x.tr, .int .i64 x.bm, .int .i64 x.br, .slice p.SA x.sats.length p.sc, .slice p.CA x.custs.length p.cc, .slice p.KA x.cost.length p.kc, .slice p.TA x.time.length p.tc], .int .i64 0] wx fun e w' => e = .returned (.int .i64 ((1 + x.sats.length : Nat) : Int)) ∧ Below wx.heap.size wx w') := Lib.hid (fun wx => custF_any x p wx hF.sats.2)
 have HML := Lib.hid (back_len x s)
 have HNX : Hid (x.n = 1 + x.sats.length + x.custs.length) := Lib.hid rfl
 have HC1 := Lib.hid hF.custs.1
 obtain ⟨R, hR⟩ : ∃ R, backM x s = R := ⟨_, rfl⟩
 rw [hR] at HFA HML ⊢
 obtain ⟨L, hL⟩ : ∃ L, (arcsUp (inWays x s) (fun i k => timeF x i k + stayF x i) x.n x.n) = L := ⟨_, rfl⟩
 rw [hL] at HNR HFA HWY HTU
 obtain ⟨n, hn⟩ : ∃ n, x.n = n := ⟨_, rfl⟩
 rw [hn] at HNR HFA HWY HNX HTU hn10
 obtain ⟨s1, hs1⟩ : ∃ k, 1 + s = k := ⟨_, rfl⟩
 rw [hs1] at HNR HFA HSA
 obtain ⟨o1, ho1⟩ : ∃ k, 1 + x.sats.length = k := ⟨_, rfl⟩
 rw [ho1] at HCU HNX HFA
 have hS := (SL.start (W := w) (Nat.le_refl w.heap.size)).alloc #[.int .i64 x.fin, .int .i64 x.tm, .int .i64 x.tr, .int .i64 x.bm, .int .i64 x.br, .slice p.SA x.sats.length p.sc, .slice p.CA x.custs.length p.cc, .slice p.KA x.cost.length p.kc, .slice p.TA x.time.length p.tc] 39
 unfold InstV.cells
 obtain ⟨xb, hxb⟩ : ∃ b, w.heap.size = b := ⟨_, rfl⟩
 obtain ⟨w0, hw0⟩ : ∃ y, w.alloc (.cells #[.int .i64 x.fin, .int .i64 x.tm, .int .i64 x.tr, .int .i64 x.bm, .int .i64 x.br, .slice p.SA x.sats.length p.sc, .slice p.CA x.custs.length p.cc, .slice p.KA x.cost.length p.kc, .slice p.TA x.time.length p.tc] 39) = y := ⟨_, rfl⟩
 have HS0 : Hid (SL w w.heap.size [.blk xb #[.int .i64 x.fin, .int .i64 x.tm, .int .i64 x.tr, .int .i64 x.bm, .int .i64 x.br, .slice p.SA x.sats.length p.sc, .slice p.CA x.custs.length p.cc, .slice p.KA x.cost.length p.kc, .slice p.TA x.time.length p.tc] 39] w0) := Lib.hid (by rw [← hxb, ← hw0]; exact hS)
 have HW := Lib.hid (And.intro hxb hw0)
 clear hS hxb hw0 hI hF hs hs2 hR hL hn hs1 ho1 hT hSt hck hln h00 h3 h4 hck2 h002 h42
 go_enter Try.func32, Try.ntmps32
 go_upto_region 1 with fail
 rw [HW.out.2, HW.out.1]
 have d0 : w0.cell? ⟨xb, 0, none⟩ = some (.int .i64 x.fin) := HS0.out.cell 0 rfl 0 rfl
 have d1 : w0.cell? ⟨xb, 1, none⟩ = some (.int .i64 x.tm) := HS0.out.cell 0 rfl 1 rfl
 have d2 : w0.cell? ⟨xb, 2, none⟩ = some (.int .i64 x.tr) := HS0.out.cell 0 rfl 2 rfl
 have d3 : w0.cell? ⟨xb, 3, none⟩ = some (.int .i64 x.bm) := HS0.out.cell 0 rfl 3 rfl
 have d4 : w0.cell? ⟨xb, 4, none⟩ = some (.int .i64 x.br) := HS0.out.cell 0 rfl 4 rfl
 have d5 : w0.cell? ⟨xb, 5, none⟩ = some (.slice p.SA x.sats.length p.sc) := HS0.out.cell 0 rfl 5 rfl
 have d6 : w0.cell? ⟨xb, 6, none⟩ = some (.slice p.CA x.custs.length p.cc) := HS0.out.cell 0 rfl 6 rfl
 have d7 : w0.cell? ⟨xb, 7, none⟩ = some (.slice p.KA x.cost.length p.kc) := HS0.out.cell 0 rfl 7 rfl
 have d8 : w0.cell? ⟨xb, 8, none⟩ = some (.slice p.TA x.time.length p.tc) := HS0.out.cell 0 rfl 8 rfl
 go_upto_region 3 with (go_at_call 60; (with_reducible refine (HTH.out _ HS0.out.below).mono ?_); rintro e w1 ⟨rfl, hb⟩
                        have HS1 : Hid (SL w w.heap.size [.blk xb #[.int .i64 x.fin, .int .i64 x.tm, .int .i64 x.tr, .int .i64 x.bm, .int .i64 x.br, .slice p.SA x.sats.length p.sc, .slice p.CA x.custs.length p.cc, .slice p.KA x.cost.length p.kc, .slice p.TA x.time.length p.tc] 39] w1) := Lib.hid (HS0.out.call hb)
                        clear hb)
 clear d0 d1 d2 d3 d4 d5 d6 d7 d8 HTH HS0 HW
 go_cut [5] (fun v5 wx => ∃ (tb fb bb : Nat) (far : Nat → Int), v5 = .pointer (some ⟨tb, 0, none⟩) ∧ SL w w.heap.size [.blk tb #[.slice (some ⟨fb, 0, none⟩) n n, .slice (some ⟨bb, 0, none⟩) n n] 115, .blk fb (iarr far n) 2, .blk xb #[.int .i64 x.fin, .int .i64 x.tm, .int .i64 x.tr, .int .i64 x.bm, .int .i64 x.br, .slice p.SA x.sats.length p.sc, .slice p.CA x.custs.length p.cc, .slice p.KA x.cost.length p.kc, .slice p.TA x.time.length p.tc] 39] wx ∧ Hid (∀ c (hc : c < R.length), R[c] = far (o1 + c)))
 case first =>
  have hS1 := HS1.out
  refine wp_region_ph [0, 1, 2, 3, 4, 5, 6, 7, 8, 9, 10, 11, 12] [13] [.blk xb #[.int .i64 x.fin, .int .i64 x.tm, .int .i64 x.tr, .int .i64 x.bm, .int .i64 x.br, .slice p.SA x.sats.length p.sc, .slice p.CA x.custs.length p.cc, .slice p.KA x.cost.length p.kc, .slice p.TA x.time.length p.tc] 39] hS1 (List.Sublist.refl _) (by kernel_rfl) (by kernel_rfl) (.cons rfl .nil) (fun C cw _ hC w2 hS => ?_)
  have q0 : ∀ d, (cw d).cell? ⟨xb, 0, none⟩ = some (.int .i64 x.fin) := fun d => (hC d).cell 0 rfl 0 rfl
  have q1 : ∀ d, (cw d).cell? ⟨xb, 1, none⟩ = some (.int .i64 x.tm) := fun d => (hC d).cell 0 rfl 1 rfl
  have q2 : ∀ d, (cw d).cell? ⟨xb, 2, none⟩ = some (.int .i64 x.tr) := fun d => (hC d).cell 0 rfl 2 rfl
  have q3 : ∀ d, (cw d).cell? ⟨xb, 3, none⟩ = some (.int .i64 x.bm) := fun d => (hC d).cell 0 rfl 3 rfl
  have q4 : ∀ d, (cw d).cell? ⟨xb, 4, none⟩ = some (.int .i64 x.br) := fun d => (hC d).cell 0 rfl 4 rfl
  have q5 : ∀ d, (cw d).cell? ⟨xb, 5, none⟩ = some (.slice p.SA x.sats.length p.sc) := fun d => (hC d).cell 0 rfl 5 rfl
  have q6 : ∀ d, (cw d).cell? ⟨xb, 6, none⟩ = some (.slice p.CA x.custs.length p.cc) := fun d => (hC d).cell 0 rfl 6 rfl
  have q7 : ∀ d, (cw d).cell? ⟨xb, 7, none⟩ = some (.slice p.KA x.cost.length p.kc) := fun d => (hC d).cell 0 rfl 7 rfl
  have q8 : ∀ d, (cw d).cell? ⟨xb, 8, none⟩ = some (.slice p.TA x.time.length p.tc) := fun d => (hC d).cell 0 rfl 8 rfl
  refine ph_look 0 rfl (by kernel_rfl) rfl (by kernel_rfl) rfl rfl (fun Kv hK => ?_); go_big_quiet_op; refine hK _ ?_; clear hK Kv
  refine ph_look 1 rfl (by kernel_rfl) rfl (by kernel_rfl) rfl rfl (fun Kv hK => ?_); go_big_quiet_op; refine hK _ ?_; clear hK Kv
  refine ph_look 4 rfl (by kernel_rfl) rfl (by kernel_rfl) rfl rfl (fun Kv hK => ?_); go_big_quiet_op; refine hK _ ?_; clear hK Kv
  refine ph_look 5 rfl (by kernel_rfl) rfl (by kernel_rfl) rfl rfl (fun Kv hK => ?_); go_big_quiet_op; refine hK _ ?_; clear hK Kv
  clear q0 q1 q2 q3 q4 q5 q6 q7 q8 hC
  refine ph_two 2 11 (by kernel_rfl) rfl rfl ?br1A ?br1B
  case br1A =>
   refine ph_op rfl rfl (fun Kv hK => ?_)
   go_simp
   refine eff_call (HWY.out _ hS.below) (fun e w3 h => ?_)
   obtain ⟨gA, gc, rfl, hAr, hb⟩ := h
   have hS := hS.call hb
   clear hb
   have hS : SL w w.heap.size ([.blk xb #[.int .i64 x.fin, .int .i64 x.tm, .int .i64 x.tr, .int .i64 x.bm, .int .i64 x.br, .slice p.SA x.sats.length p.sc, .slice p.CA x.custs.length p.cc, .slice p.KA x.cost.length p.kc, .slice p.TA x.time.length p.tc] 39]) w3 := hS
   refine .inl ⟨_, rfl, hS.sub (List.Sublist.refl _), hK _ _ ?_⟩
   clear hK Kv
   refine ph_two 3 11 (by kernel_rfl) rfl rfl ?br2A ?br2B
   case br2A =>
    refine ph_op rfl rfl (fun Kv hK => ?_)
    go_simp
    refine eff_call (HTU.out _ gA gc hAr) (fun e w4 h => ?_)
    obtain ⟨hA, hc, rfl, hAr, hb⟩ := h
    have hS := hS.call hb
    clear hb
    have hS : SL w w.heap.size ([.blk xb #[.int .i64 x.fin, .int .i64 x.tm, .int .i64 x.tr, .int .i64 x.bm, .int .i64 x.br, .slice p.SA x.sats.length p.sc, .slice p.CA x.custs.length p.cc, .slice p.KA x.cost.length p.kc, .slice p.TA x.time.length p.tc] 39]) w4 := hS
    refine .inl ⟨_, rfl, hS.sub (List.Sublist.refl _), hK _ _ ?_⟩
    clear hK Kv
    refine ph_two 6 11 (by kernel_rfl) rfl rfl ?br3A ?br3B
    case br3A =>
     refine ph_op rfl rfl (fun Kv hK => ?_)
     go_simp
     refine eff_call (HSA.out _) (fun e w5 h => ?_)
     obtain ⟨rfl, hb⟩ := h
     have hS := hS.call hb
     have hAr : Arcs w5 w5.heap.size hA (L.map ArcV.turn) := reads_more (Reads.below hAr (hb)) (hb).size
     clear hb
     have hS : SL w w.heap.size ([.blk xb #[.int .i64 x.fin, .int .i64 x.tm, .int .i64 x.tr, .int .i64 x.bm, .int .i64 x.br, .slice p.SA x.sats.length p.sc, .slice p.CA x.custs.length p.cc, .slice p.KA x.cost.length p.kc, .slice p.TA x.time.length p.tc] 39]) w5 := hS
     refine .inl ⟨_, rfl, hS.sub (List.Sublist.refl _), hK _ _ ?_⟩
     clear hK Kv
     refine ph_two 7 11 (by kernel_rfl) rfl rfl ?br4A ?br4B
     case br4A =>
      refine ph_op rfl rfl (fun Kv hK => ?_)
      go_simp
      refine eff_call (HNR.out _ hA hc hAr) (fun e w6 h => ?_)
      obtain ⟨fb, bb, far, by_, rfl, hq, hlk⟩ := h
      have HFF := Lib.hid (HFA.out far by_ hlk)
      have hS := hS.join hq
      clear hq hlk hAr
      have hS : SL w w.heap.size ([.blk fb (iarr far n) 2, .blk bb (iarr by_ n) 3, .blk xb #[.int .i64 x.fin, .int .i64 x.tm, .int .i64 x.tr, .int .i64 x.bm, .int .i64 x.br, .slice p.SA x.sats.length p.sc, .slice p.CA x.custs.length p.cc, .slice p.KA x.cost.length p.kc, .slice p.TA x.time.length p.tc] 39]) w6 := hS
      refine .inl ⟨_, rfl, hS.sub (.cons _ (.cons _ (List.Sublist.refl _))), hK _ _ ?_⟩
      clear hK Kv
      refine ph_look 8 rfl (by kernel_rfl) rfl (by kernel_rfl) rfl rfl (fun Kv hK => ?_); go_big_quiet_op; refine hK _ ?_; clear hK Kv
      refine ph_look 9 rfl (by kernel_rfl) rfl (by kernel_rfl) rfl rfl (fun Kv hK => ?_); go_big_quiet_op; refine hK _ ?_; clear hK Kv
      refine ph_look 10 rfl (by kernel_rfl) rfl (by kernel_rfl) rfl rfl (fun Kv hK => ?_); go_big_quiet_op; refine hK _ ?_; clear hK Kv
      refine ph_eff 11 rfl (by kernel_rfl) rfl rfl (fun Kv hK => ?_)
      go_simp
      have hS := hS.alloc #[.slice none 0 0, .slice none 0 0] 115
      have hbl : Below w6.heap.size w6 (w6.alloc (.cells #[.slice none 0 0, .slice none 0 0] 115)) := (Below.refl _ _).alloc (Nat.le_refl _) _
      obtain ⟨tb, htb⟩ : ∃ b, w6.heap.size = b := ⟨_, rfl⟩
      obtain ⟨w7, hw7⟩ : ∃ y, w6.alloc (.cells #[.slice none 0 0, .slice none 0 0] 115) = y := ⟨_, rfl⟩
      rw [hw7] at hbl
      rw [htb, hw7] at hS
      rw [htb, hw7]
      clear htb hw7 hbl
      have hS : SL w w.heap.size ([.blk tb #[.slice none 0 0, .slice none 0 0] 115, .blk fb (iarr far n) 2, .blk bb (iarr by_ n) 3, .blk xb #[.int .i64 x.fin, .int .i64 x.tm, .int .i64 x.tr, .int .i64 x.bm, .int .i64 x.br, .slice p.SA x.sats.length p.sc, .slice p.CA x.custs.length p.cc, .slice p.KA x.cost.length p.kc, .slice p.TA x.time.length p.tc] 39]) w7 := hS
      refine ⟨hS.sub (.cons _ (.cons _ (.cons _ (List.Sublist.refl _)))), hK _ _ ?_⟩
      clear hK Kv
      refine ph_eff 12 rfl (by kernel_rfl) rfl rfl (fun Kv hK => ?_)
      have htr := hS.thereBlk 0 rfl (n := 2) (by decide)
      have hS := (hS.setCell 0 rfl 0 (.slice (some ⟨fb, 0, none⟩) n n)).setCell 0 rfl 1 (.slice (some ⟨bb, 0, none⟩) n n)
      refine eff_store2 115 _ _ rfl tb (.slice (some ⟨fb, 0, none⟩) n n) (.slice (some ⟨bb, 0, none⟩) n n) rfl rfl htr (by kernel_rfl) rfl rfl ?_
      obtain ⟨w8, hw8⟩ : ∃ y, (w7.setCell ⟨tb, 0, none⟩ (.slice (some ⟨fb, 0, none⟩) n n)).setCell ⟨tb, 1, none⟩ (.slice (some ⟨bb, 0, none⟩) n n) = y := ⟨_, rfl⟩
      rw [hw8] at hS ⊢
      clear hw8 htr
      have hS : SL w w.heap.size ([.blk tb #[.slice (some ⟨fb, 0, none⟩) n n, .slice (some ⟨bb, 0, none⟩) n n] 115, .blk fb (iarr far n) 2, .blk bb (iarr by_ n) 3, .blk xb #[.int .i64 x.fin, .int .i64 x.tm, .int .i64 x.tr, .int .i64 x.bm, .int .i64 x.br, .slice p.SA x.sats.length p.sc, .slice p.CA x.custs.length p.cc, .slice p.KA x.cost.length p.kc, .slice p.TA x.time.length p.tc] 39]) w8 := hS
      refine ⟨hS.sub (.cons _ (.cons _ (.cons _ (List.Sublist.refl _)))), hK _ _ ?_⟩
      clear hK Kv
      refine ph_end (by kernel_rfl) ?_
      have hS : SL w w.heap.size [.blk tb #[.slice (some ⟨fb, 0, none⟩) n n, .slice (some ⟨bb, 0, none⟩) n n] 115, .blk fb (iarr far n) 2, .blk xb #[.int .i64 x.fin, .int .i64 x.tm, .int .i64 x.tr, .int .i64 x.bm, .int .i64 x.br, .slice p.SA x.sats.length p.sc, .slice p.CA x.custs.length p.cc, .slice p.KA x.cost.length p.kc, .slice p.TA x.time.length p.tc] 39] w8 := hS.pick [0, 1, 3] (by decide) rfl
      have HS9 := Lib.hid hS
      clear hS
      go_wp2_with fail
      go_meet
      exact ⟨_, _, _, _, rfl, HS9.out, HFF⟩
     case br4B =>
      refine ph_op rfl rfl (fun Kv hK => ?_)
      go_simp
      have hS := hS.alloc #[.slice none 0 0, .slice none 0 0] 115
      have hbl : Below w5.heap.size w5 (w5.alloc (.cells #[.slice none 0 0, .slice none 0 0] 115)) := (Below.refl _ _).alloc (Nat.le_refl _) _
      obtain ⟨tb, htb⟩ : ∃ b, w5.heap.size = b := ⟨_, rfl⟩
      obtain ⟨w6, hw6⟩ : ∃ y, w5.alloc (.cells #[.slice none 0 0, .slice none 0 0] 115) = y := ⟨_, rfl⟩
      rw [hw6] at hbl
      have hAr : Arcs w6 w6.heap.size hA (L.map ArcV.turn) := reads_more (Reads.below hAr (hbl)) (hbl).size
      rw [htb, hw6] at hS
      rw [htb, hw6]
      clear htb hw6 hbl
      have hS : SL w w.heap.size ([.blk tb #[.slice none 0 0, .slice none 0 0] 115, .blk xb #[.int .i64 x.fin, .int .i64 x.tm, .int .i64 x.tr, .int .i64 x.bm, .int .i64 x.br, .slice p.SA x.sats.length p.sc, .slice p.CA x.custs.length p.cc, .slice p.KA x.cost.length p.kc, .slice p.TA x.time.length p.tc] 39]) w6 := hS
      refine ⟨hS.sub (.cons _ (List.Sublist.refl _)), hK _ _ ?_⟩
      clear hK Kv
      refine ph_eff 7 rfl (by kernel_rfl) rfl rfl (fun Kv hK => ?_)
      go_simp
      refine eff_call (HNR.out _ hA hc hAr) (fun e w7 h => ?_)
      obtain ⟨fb, bb, far, by_, rfl, hq, hlk⟩ := h
      have HFF := Lib.hid (HFA.out far by_ hlk)
      have hS := hS.join hq
      clear hq hlk hAr
      have hS : SL w w.heap.size ([.blk fb (iarr far n) 2, .blk bb (iarr by_ n) 3, .blk tb #[.slice none 0 0, .slice none 0 0] 115, .blk xb #[.int .i64 x.fin, .int .i64 x.tm, .int .i64 x.tr, .int .i64 x.bm, .int .i64 x.br, .slice p.SA x.sats.length p.sc, .slice p.CA x.custs.length p.cc, .slice p.KA x.cost.length p.kc, .slice p.TA x.time.length p.tc] 39]) w7 := hS
      refine .inl ⟨_, rfl, hS.sub (.cons _ (.cons _ (.cons _ (List.Sublist.refl _)))), hK _ _ ?_⟩
      clear hK Kv
      refine ph_look 8 rfl (by kernel_rfl) rfl (by kernel_rfl) rfl rfl (fun Kv hK => ?_); go_big_quiet_op; refine hK _ ?_; clear hK Kv
      refine ph_look 9 rfl (by kernel_rfl) rfl (by kernel_rfl) rfl rfl (fun Kv hK => ?_); go_big_quiet_op; refine hK _ ?_; clear hK Kv
      refine ph_look 10 rfl (by kernel_rfl) rfl (by kernel_rfl) rfl rfl (fun Kv hK => ?_); go_big_quiet_op; refine hK _ ?_; clear hK Kv
      refine ph_eff 12 rfl (by kernel_rfl) rfl rfl (fun Kv hK => ?_)
      have htr := hS.thereBlk 2 rfl (n := 2) (by decide)
      have hS := (hS.setCell 2 rfl 0 (.slice (some ⟨fb, 0, none⟩) n n)).setCell 2 rfl 1 (.slice (some ⟨bb, 0, none⟩) n n)
      refine eff_store2 115 _ _ rfl tb (.slice (some ⟨fb, 0, none⟩) n n) (.slice (some ⟨bb, 0, none⟩) n n) rfl rfl htr (by kernel_rfl) rfl rfl ?_
      obtain ⟨w8, hw8⟩ : ∃ y, (w7.setCell ⟨tb, 0, none⟩ (.slice (some ⟨fb, 0, none⟩) n n)).setCell ⟨tb, 1, none⟩ (.slice (some ⟨bb, 0, none⟩) n n) = y := ⟨_, rfl⟩
      rw [hw8] at hS ⊢
      clear hw8 htr
      have hS : SL w w.heap.size ([.blk fb (iarr far n) 2, .blk bb (iarr by_ n) 3, .blk tb #[.slice (some ⟨fb, 0, none⟩) n n, .slice (some ⟨bb, 0, none⟩) n n] 115, .blk xb #[.int .i64 x.fin, .int .i64 x.tm, .int .i64 x.tr, .int .i64 x.bm, .int .i64 x.br, .slice p.SA x.sats.length p.sc, .slice p.CA x.custs.length p.cc, .slice p.KA x.cost.length p.kc, .slice p.TA x.time.length p.tc] 39]) w8 := hS
      refine ⟨hS.sub (.cons _ (.cons _ (.cons _ (List.Sublist.refl _)))), hK _ _ ?_⟩
      clear hK Kv
      refine ph_end (by kernel_rfl) ?_
      have hS : SL w w.heap.size [.blk tb #[.slice (some ⟨fb, 0, none⟩) n n, .slice (some ⟨bb, 0, none⟩) n n] 115, .blk fb (iarr far n) 2, .blk xb #[.int .i64 x.fin, .int .i64 x.tm, .int .i64 x.tr, .int .i64 x.bm, .int .i64 x.br, .slice p.SA x.sats.length p.sc, .slice p.CA x.custs.length p.cc, .slice p.KA x.cost.length p.kc, .slice p.TA x.time.length p.tc] 39] w8 := hS.pick [2, 0, 3] (by decide) rfl
      have HS9 := Lib.hid hS
      clear hS
      go_wp2_with fail
      go_meet
      exact ⟨_, _, _, _, rfl, HS9.out, HFF⟩
    case br3B =>
     refine ph_op rfl rfl (fun Kv hK => ?_)
     go_simp
     have hS := hS.alloc #[.slice none 0 0, .slice none 0 0] 115
     have hbl : Below w4.heap.size w4 (w4.alloc (.cells #[.slice none 0 0, .slice none 0 0] 115)) := (Below.refl _ _).alloc (Nat.le_refl _) _
     obtain ⟨tb, htb⟩ : ∃ b, w4.heap.size = b := ⟨_, rfl⟩
     obtain ⟨w5, hw5⟩ : ∃ y, w4.alloc (.cells #[.slice none 0 0, .slice none 0 0] 115) = y := ⟨_, rfl⟩
     rw [hw5] at hbl
     have hAr : Arcs w5 w5.heap.size hA (L.map ArcV.turn) := reads_more (Reads.below hAr (hbl)) (hbl).size
     rw [htb, hw5] at hS
     rw [htb, hw5]
     clear htb hw5 hbl
     have hS : SL w w.heap.size ([.blk tb #[.slice none 0 0, .slice none 0 0] 115, .blk xb #[.int .i64 x.fin, .int .i64 x.tm, .int .i64 x.tr, .int .i64 x.bm, .int .i64 x.br, .slice p.SA x.sats.length p.sc, .slice p.CA x.custs.length p.cc, .slice p.KA x.cost.length p.kc, .slice p.TA x.time.length p.tc] 39]) w5 := hS
     refine ⟨hS.sub (.cons _ (List.Sublist.refl _)), hK _ _ ?_⟩
     clear hK Kv
     refine ph_eff 6 rfl (by kernel_rfl) rfl rfl (fun Kv hK => ?_)
     go_simp
     refine eff_call (HSA.out _) (fun e w6 h => ?_)
     obtain ⟨rfl, hb⟩ := h
     have hS := hS.call hb
     have hAr : Arcs w6 w6.heap.size hA (L.map ArcV.turn) := reads_more (Reads.below hAr (hb)) (hb).size
     clear hb
     have hS : SL w w.heap.size ([.blk tb #[.slice none 0 0, .slice none 0 0] 115, .blk xb #[.int .i64 x.fin, .int .i64 x.tm, .int .i64 x.tr, .int .i64 x.bm, .int .i64 x.br, .slice p.SA x.sats.length p.sc, .slice p.CA x.custs.length p.cc, .slice p.KA x.cost.length p.kc, .slice p.TA x.time.length p.tc] 39]) w6 := hS
     refine .inl ⟨_, rfl, hS.sub (.cons _ (List.Sublist.refl _)), hK _ _ ?_⟩
     clear hK Kv
     refine ph_eff 7 rfl (by kernel_rfl) rfl rfl (fun Kv hK => ?_)
     go_simp
     refine eff_call (HNR.out _ hA hc hAr) (fun e w7 h => ?_)
     obtain ⟨fb, bb, far, by_, rfl, hq, hlk⟩ := h
     have HFF := Lib.hid (HFA.out far by_ hlk)
     have hS := hS.join hq
     clear hq hlk hAr
     have hS : SL w w.heap.size ([.blk fb (iarr far n) 2, .blk bb (iarr by_ n) 3, .blk tb #[.slice none 0 0, .slice none 0 0] 115, .blk xb #[.int .i64 x.fin, .int .i64 x.tm, .int .i64 x.tr, .int .i64 x.bm, .int .i64 x.br, .slice p.SA x.sats.length p.sc, .slice p.CA x.custs.length p.cc, .slice p.KA x.cost.length p.kc, .slice p.TA x.time.length p.tc] 39]) w7 := hS
     refine .inl ⟨_, rfl, hS.sub (.cons _ (.cons _ (.cons _ (List.Sublist.refl _)))), hK _ _ ?_⟩
     clear hK Kv
     refine ph_look 8 rfl (by kernel_rfl) rfl (by kernel_rfl) rfl rfl (fun Kv hK => ?_); go_big_quiet_op; refine hK _ ?_; clear hK Kv
     refine ph_look 9 rfl (by kernel_rfl) rfl (by kernel_rfl) rfl rfl (fun Kv hK => ?_); go_big_quiet_op; refine hK _ ?_; clear hK Kv
     refine ph_look 10 rfl (by kernel_rfl) rfl (by kernel_rfl) rfl rfl (fun Kv hK => ?_); go_big_quiet_op; refine hK _ ?_; clear hK Kv
     refine ph_eff 12 rfl (by kernel_rfl) rfl rfl (fun Kv hK => ?_)
     have htr := hS.thereBlk 2 rfl (n := 2) (by decide)
     have hS := (hS.setCell 2 rfl 0 (.slice (some ⟨fb, 0, none⟩) n n)).setCell 2 rfl 1 (.slice (some ⟨bb, 0, none⟩) n n)
     refine eff_store2 115 _ _ rfl tb (.slice (some ⟨fb, 0, none⟩) n n) (.slice (some ⟨bb, 0, none⟩) n n) rfl rfl htr (by kernel_rfl) rfl rfl ?_
     obtain ⟨w8, hw8⟩ : ∃ y, (w7.setCell ⟨tb, 0, none⟩ (.slice (some ⟨fb, 0, none⟩) n n)).setCell ⟨tb, 1, none⟩ (.slice (some ⟨bb, 0, none⟩) n n) = y := ⟨_, rfl⟩
     rw [hw8] at hS ⊢
     clear hw8 htr
     have hS : SL w w.heap.size ([.blk fb (iarr far n) 2, .blk bb (iarr by_ n) 3, .blk tb #[.slice (some ⟨fb, 0, none⟩) n n, .slice (some ⟨bb, 0, none⟩) n n] 115, .blk xb #[.int .i64 x.fin, .int .i64 x.tm, .int .i64 x.tr, .int .i64 x.bm, .int .i64 x.br, .slice p.SA x.sats.length p.sc, .slice p.CA x.custs.length p.cc, .slice p.KA x.cost.length p.kc, .slice p.TA x.time.length p.tc] 39]) w8 := hS
     refine ⟨hS.sub (.cons _ (.cons _ (.cons _ (List.Sublist.refl _)))), hK _ _ ?_⟩
     clear hK Kv
     refine ph_end (by kernel_rfl) ?_
     have hS : SL w w.heap.size [.blk tb #[.slice (some ⟨fb, 0, none⟩) n n, .slice (some ⟨bb, 0, none⟩) n n] 115, .blk fb (iarr far n) 2, .blk xb #[.int .i64 x.fin, .int .i64 x.tm, .int .i64 x.tr, .int .i64 x.bm, .int .i64 x.br, .slice p.SA x.sats.length p.sc, .slice p.CA x.custs.length p.cc, .slice p.KA x.cost.length p.kc, .slice p.TA x.time.length p.tc] 39] w8 := hS.pick [2, 0, 3] (by decide) rfl
     have HS9 := Lib.hid hS
     clear hS
     go_wp2_with fail
     go_meet
     exact ⟨_, _, _, _, rfl, HS9.out, HFF⟩
   case br2B =>
    refine ph_op rfl rfl (fun Kv hK => ?_)
    go_simp
    have hS := hS.alloc #[.slice none 0 0, .slice none 0 0] 115
    have hbl : Below w3.heap.size w3 (w3.alloc (.cells #[.slice none 0 0, .slice none 0 0] 115)) := (Below.refl _ _).alloc (Nat.le_refl _) _
    obtain ⟨tb, htb⟩ : ∃ b, w3.heap.size = b := ⟨_, rfl⟩
    obtain ⟨w4, hw4⟩ : ∃ y, w3.alloc (.cells #[.slice none 0 0, .slice none 0 0] 115) = y := ⟨_, rfl⟩
    rw [hw4] at hbl
    have hAr : Arcs w4 w4.heap.size gA L := reads_more (Reads.below hAr (hbl)) (hbl).size
    rw [htb, hw4] at hS
    rw [htb, hw4]
    clear htb hw4 hbl
    have hS : SL w w.heap.size ([.blk tb #[.slice none 0 0, .slice none 0 0] 115, .blk xb #[.int .i64 x.fin, .int .i64 x.tm, .int .i64 x.tr, .int .i64 x.bm, .int .i64 x.br, .slice p.SA x.sats.length p.sc, .slice p.CA x.custs.length p.cc, .slice p.KA x.cost.length p.kc, .slice p.TA x.time.length p.tc] 39]) w4 := hS
    refine ⟨hS.sub (.cons _ (List.Sublist.refl _)), hK _ _ ?_⟩
    clear hK Kv
    refine ph_eff 3 rfl (by kernel_rfl) rfl rfl (fun Kv hK => ?_)
    go_simp
    refine eff_call (HTU.out _ gA gc hAr) (fun e w5 h => ?_)
    obtain ⟨hA, hc, rfl, hAr, hb⟩ := h
    have hS := hS.call hb
    clear hb
    have hS : SL w w.heap.size ([.blk tb #[.slice none 0 0, .slice none 0 0] 115, .blk xb #[.int .i64 x.fin, .int .i64 x.tm, .int .i64 x.tr, .int .i64 x.bm, .int .i64 x.br, .slice p.SA x.sats.length p.sc, .slice p.CA x.custs.length p.cc, .slice p.KA x.cost.length p.kc, .slice p.TA x.time.length p.tc] 39]) w5 := hS
    refine .inl ⟨_, rfl, hS.sub (.cons _ (List.Sublist.refl _)), hK _ _ ?_⟩
    clear hK Kv
    refine ph_eff 6 rfl (by kernel_rfl) rfl rfl (fun Kv hK => ?_)
    go_simp
    refine eff_call (HSA.out _) (fun e w6 h => ?_)
    obtain ⟨rfl, hb⟩ := h
    have hS := hS.call hb
    have hAr : Arcs w6 w6.heap.size hA (L.map ArcV.turn) := reads_more (Reads.below hAr (hb)) (hb).size
    clear hb
    have hS : SL w w.heap.size ([.blk tb #[.slice none 0 0, .slice none 0 0] 115, .blk xb #[.int .i64 x.fin, .int .i64 x.tm, .int .i64 x.tr, .int .i64 x.bm, .int .i64 x.br, .slice p.SA x.sats.length p.sc, .slice p.CA x.custs.length p.cc, .slice p.KA x.cost.length p.kc, .slice p.TA x.time.length p.tc] 39]) w6 := hS
    refine .inl ⟨_, rfl, hS.sub (.cons _ (List.Sublist.refl _)), hK _ _ ?_⟩
    clear hK Kv
    refine ph_eff 7 rfl (by kernel_rfl) rfl rfl (fun Kv hK => ?_)
    go_simp
    refine eff_call (HNR.out _ hA hc hAr) (fun e w7 h => ?_)
    obtain ⟨fb, bb, far, by_, rfl, hq, hlk⟩ := h
    have HFF := Lib.hid (HFA.out far by_ hlk)
    have hS := hS.join hq
    clear hq hlk hAr
    have hS : SL w w.heap.size ([.blk fb (iarr far n) 2, .blk bb (iarr by_ n) 3, .blk tb #[.slice none 0 0, .slice none 0 0] 115, .blk xb #[.int .i64 x.fin, .int .i64 x.tm, .int .i64 x.tr, .int .i64 x.bm, .int .i64 x.br, .slice p.SA x.sats.length p.sc, .slice p.CA x.custs.length p.cc, .slice p.KA x.cost.length p.kc, .slice p.TA x.time.length p.tc] 39]) w7 := hS
    refine .inl ⟨_, rfl, hS.sub (.cons _ (.cons _ (.cons _ (List.Sublist.refl _)))), hK _ _ ?_⟩
    clear hK Kv
    refine ph_look 8 rfl (by kernel_rfl) rfl (by kernel_rfl) rfl rfl (fun Kv hK => ?_); go_big_quiet_op; refine hK _ ?_; clear hK Kv
    refine ph_look 9 rfl (by kernel_rfl) rfl (by kernel_rfl) rfl rfl (fun Kv hK => ?_); go_big_quiet_op; refine hK _ ?_; clear hK Kv
    refine ph_look 10 rfl (by kernel_rfl) rfl (by kernel_rfl) rfl rfl (fun Kv hK => ?_); go_big_quiet_op; refine hK _ ?_; clear hK Kv
    refine ph_eff 12 rfl (by kernel_rfl) rfl rfl (fun Kv hK => ?_)
    have htr := hS.thereBlk 2 rfl (n := 2) (by decide)
    have hS := (hS.setCell 2 rfl 0 (.slice (some ⟨fb, 0, none⟩) n n)).setCell 2 rfl 1 (.slice (some ⟨bb, 0, none⟩) n n)
    refine eff_store2 115 _ _ rfl tb (.slice (some ⟨fb, 0, none⟩) n n) (.slice (some ⟨bb, 0, none⟩) n n) rfl rfl htr (by kernel_rfl) rfl rfl ?_
    obtain ⟨w8, hw8⟩ : ∃ y, (w7.setCell ⟨tb, 0, none⟩ (.slice (some ⟨fb, 0, none⟩) n n)).setCell ⟨tb, 1, none⟩ (.slice (some ⟨bb, 0, none⟩) n n) = y := ⟨_, rfl⟩
    rw [hw8] at hS ⊢
    clear hw8 htr
    have hS : SL w w.heap.size ([.blk fb (iarr far n) 2, .blk bb (iarr by_ n) 3, .blk tb #[.slice (some ⟨fb, 0, none⟩) n n, .slice (some ⟨bb, 0, none⟩) n n] 115, .blk xb #[.int .i64 x.fin, .int .i64 x.tm, .int .i64 x.tr, .int .i64 x.bm, .int .i64 x.br, .slice p.SA x.sats.length p.sc, .slice p.CA x.custs.length p.cc, .slice p.KA x.cost.length p.kc, .slice p.TA x.time.length p.tc] 39]) w8 := hS
    refine ⟨hS.sub (.cons _ (.cons _ (.cons _ (List.Sublist.refl _)))), hK _ _ ?_⟩
    clear hK Kv
    refine ph_end (by kernel_rfl) ?_
    have hS : SL w w.heap.size [.blk tb #[.slice (some ⟨fb, 0, none⟩) n n, .slice (some ⟨bb, 0, none⟩) n n] 115, .blk fb (iarr far n) 2, .blk xb #[.int .i64 x.fin, .int .i64 x.tm, .int .i64 x.tr, .int .i64 x.bm, .int .i64 x.br, .slice p.SA x.sats.length p.sc, .slice p.CA x.custs.length p.cc, .slice p.KA x.cost.length p.kc, .slice p.TA x.time.length p.tc] 39] w8 := hS.pick [2, 0, 3] (by decide) rfl
    have HS9 := Lib.hid hS
    clear hS
    go_wp2_with fail
    go_meet
    exact ⟨_, _, _, _, rfl, HS9.out, HFF⟩
  case br1B =>
   refine ph_op rfl rfl (fun Kv hK => ?_)
   go_simp
   have hS := hS.alloc #[.slice none 0 0, .slice none 0 0] 115
   have hbl : Below w2.heap.size w2 (w2.alloc (.cells #[.slice none 0 0, .slice none 0 0] 115)) := (Below.refl _ _).alloc (Nat.le_refl _) _
   obtain ⟨tb, htb⟩ : ∃ b, w2.heap.size = b := ⟨_, rfl⟩
   obtain ⟨w3, hw3⟩ : ∃ y, w2.alloc (.cells #[.slice none 0 0, .slice none 0 0] 115) = y := ⟨_, rfl⟩
   rw [hw3] at hbl
   rw [htb, hw3] at hS
   rw [htb, hw3]
   clear htb hw3 hbl
   have hS : SL w w.heap.size ([.blk tb #[.slice none 0 0, .slice none 0 0] 115, .blk xb #[.int .i64 x.fin, .int .i64 x.tm, .int .i64 x.tr, .int .i64 x.bm, .int .i64 x.br, .slice p.SA x.sats.length p.sc, .slice p.CA x.custs.length p.cc, .slice p.KA x.cost.length p.kc, .slice p.TA x.time.length p.tc] 39]) w3 := hS
   refine ⟨hS.sub (.cons _ (List.Sublist.refl _)), hK _ _ ?_⟩
   clear hK Kv
   refine ph_eff 2 rfl (by kernel_rfl) rfl rfl (fun Kv hK => ?_)
   go_simp
   refine eff_call (HWY.out _ hS.below) (fun e w4 h => ?_)
   obtain ⟨gA, gc, rfl, hAr, hb⟩ := h
   have hS := hS.call hb
   clear hb
   have hS : SL w w.heap.size ([.blk tb #[.slice none 0 0, .slice none 0 0] 115, .blk xb #[.int .i64 x.fin, .int .i64 x.tm, .int .i64 x.tr, .int .i64 x.bm, .int .i64 x.br, .slice p.SA x.sats.length p.sc, .slice p.CA x.custs.length p.cc, .slice p.KA x.cost.length p.kc, .slice p.TA x.time.length p.tc] 39]) w4 := hS
   refine .inl ⟨_, rfl, hS.sub (.cons _ (List.Sublist.refl _)), hK _ _ ?_⟩
   clear hK Kv
   refine ph_eff 3 rfl (by kernel_rfl) rfl rfl (fun Kv hK => ?_)
   go_simp
   refine eff_call (HTU.out _ gA gc hAr) (fun e w5 h => ?_)
   obtain ⟨hA, hc, rfl, hAr, hb⟩ := h
   have hS := hS.call hb
   clear hb
   have hS : SL w w.heap.size ([.blk tb #[.slice none 0 0, .slice none 0 0] 115, .blk xb #[.int .i64 x.fin, .int .i64 x.tm, .int .i64 x.tr, .int .i64 x.bm, .int .i64 x.br, .slice p.SA x.sats.length p.sc, .slice p.CA x.custs.length p.cc, .slice p.KA x.cost.length p.kc, .slice p.TA x.time.length p.tc] 39]) w5 := hS
   refine .inl ⟨_, rfl, hS.sub (.cons _ (List.Sublist.refl _)), hK _ _ ?_⟩
   clear hK Kv
   refine ph_eff 6 rfl (by kernel_rfl) rfl rfl (fun Kv hK => ?_)
   go_simp
   refine eff_call (HSA.out _) (fun e w6 h => ?_)
   obtain ⟨rfl, hb⟩ := h
   have hS := hS.call hb
   have hAr : Arcs w6 w6.heap.size hA (L.map ArcV.turn) := reads_more (Reads.below hAr (hb)) (hb).size
   clear hb
   have hS : SL w w.heap.size ([.blk tb #[.slice none 0 0, .slice none 0 0] 115, .blk xb #[.int .i64 x.fin, .int .i64 x.tm, .int .i64 x.tr, .int .i64 x.bm, .int .i64 x.br, .slice p.SA x.sats.length p.sc, .slice p.CA x.custs.length p.cc, .slice p.KA x.cost.length p.kc, .slice p.TA x.time.length p.tc] 39]) w6 := hS
   refine .inl ⟨_, rfl, hS.sub (.cons _ (List.Sublist.refl _)), hK _ _ ?_⟩
   clear hK Kv
   refine ph_eff 7 rfl (by kernel_rfl) rfl rfl (fun Kv hK => ?_)
   go_simp
   refine eff_call (HNR.out _ hA hc hAr) (fun e w7 h => ?_)
   obtain ⟨fb, bb, far, by_, rfl, hq, hlk⟩ := h
   have HFF := Lib.hid (HFA.out far by_ hlk)
   have hS := hS.join hq
   clear hq hlk hAr
   have hS : SL w w.heap.size ([.blk fb (iarr far n) 2, .blk bb (iarr by_ n) 3, .blk tb #[.slice none 0 0, .slice none 0 0] 115, .blk xb #[.int .i64 x.fin, .int .i64 x.tm, .int .i64 x.tr, .int .i64 x.bm, .int .i64 x.br, .slice p.SA x.sats.length p.sc, .slice p.CA x.custs.length p.cc, .slice p.KA x.cost.length p.kc, .slice p.TA x.time.length p.tc] 39]) w7 := hS
   refine .inl ⟨_, rfl, hS.sub (.cons _ (.cons _ (.cons _ (List.Sublist.refl _)))), hK _ _ ?_⟩
   clear hK Kv
   refine ph_look 8 rfl (by kernel_rfl) rfl (by kernel_rfl) rfl rfl (fun Kv hK => ?_); go_big_quiet_op; refine hK _ ?_; clear hK Kv
   refine ph_look 9 rfl (by kernel_rfl) rfl (by kernel_rfl) rfl rfl (fun Kv hK => ?_); go_big_quiet_op; refine hK _ ?_; clear hK Kv
   refine ph_look 10 rfl (by kernel_rfl) rfl (by kernel_rfl) rfl rfl (fun Kv hK => ?_); go_big_quiet_op; refine hK _ ?_; clear hK Kv
   refine ph_eff 12 rfl (by kernel_rfl) rfl rfl (fun Kv hK => ?_)
   have htr := hS.thereBlk 2 rfl (n := 2) (by decide)
   have hS := (hS.setCell 2 rfl 0 (.slice (some ⟨fb, 0, none⟩) n n)).setCell 2 rfl 1 (.slice (some ⟨bb, 0, none⟩) n n)
   refine eff_store2 115 _ _ rfl tb (.slice (some ⟨fb, 0, none⟩) n n) (.slice (some ⟨bb, 0, none⟩) n n) rfl rfl htr (by kernel_rfl) rfl rfl ?_
   obtain ⟨w8, hw8⟩ : ∃ y, (w7.setCell ⟨tb, 0, none⟩ (.slice (some ⟨fb, 0, none⟩) n n)).setCell ⟨tb, 1, none⟩ (.slice (some ⟨bb, 0, none⟩) n n) = y := ⟨_, rfl⟩
   rw [hw8] at hS ⊢
   clear hw8 htr
   have hS : SL w w.heap.size ([.blk fb (iarr far n) 2, .blk bb (iarr by_ n) 3, .blk tb #[.slice (some ⟨fb, 0, none⟩) n n, .slice (some ⟨bb, 0, none⟩) n n] 115, .blk xb #[.int .i64 x.fin, .int .i64 x.tm, .int .i64 x.tr, .int .i64 x.bm, .int .i64 x.br, .slice p.SA x.sats.length p.sc, .slice p.CA x.custs.length p.cc, .slice p.KA x.cost.length p.kc, .slice p.TA x.time.length p.tc] 39]) w8 := hS
   refine ⟨hS.sub (.cons _ (.cons _ (.cons _ (List.Sublist.refl _)))), hK _ _ ?_⟩
   clear hK Kv
   refine ph_end (by kernel_rfl) ?_
   have hS : SL w w.heap.size [.blk tb #[.slice (some ⟨fb, 0, none⟩) n n, .slice (some ⟨bb, 0, none⟩) n n] 115, .blk fb (iarr far n) 2, .blk xb #[.int .i64 x.fin, .int .i64 x.tm, .int .i64 x.tr, .int .i64 x.bm, .int .i64 x.br, .slice p.SA x.sats.length p.sc, .slice p.CA x.custs.length p.cc, .slice p.KA x.cost.length p.kc, .slice p.TA x.time.length p.tc] 39] w8 := hS.pick [2, 0, 3] (by decide) rfl
   have HS9 := Lib.hid hS
   clear hS
   go_wp2_with fail
   go_meet
   exact ⟨_, _, _, _, rfl, HS9.out, HFF⟩
 case rest =>
  obtain ⟨tb, fb, bb, far, rfl, hS, HFF⟩ := hcut
  clear HNR HFA HWY HSA HS1 HTU
  go_upto_region 4 with fail
  refine wp_region_sl [0,1,2] [3,4] [5] [.blk tb #[.slice (some ⟨fb, 0, none⟩) n n, .slice (some ⟨bb, 0, none⟩) n n] 115, .blk xb #[.int .i64 x.fin, .int .i64 x.tm, .int .i64 x.tr, .int .i64 x.bm, .int .i64 x.br, .slice p.SA x.sats.length p.sc, .slice p.CA x.custs.length p.cc, .slice p.KA x.cost.length p.kc, .slice p.TA x.time.length p.tc] 39] hS (.cons_cons _ (.cons _ (.cons_cons _ (List.nil_sublist _)))) (by kernel_rfl) (by kernel_rfl) (.cons rfl .nil) (fun C cw _ hC => ?_)
  have q9 : ∀ d, (cw d).cell? ⟨tb, 0, none⟩ = some (.slice (some ⟨fb, 0, none⟩) n n) := fun d => (hC d).cell 0 rfl 0 rfl
  have q0 : ∀ d, (cw d).cell? ⟨xb, 0, none⟩ = some (.int .i64 x.fin) := fun d => (hC d).cell 1 rfl 0 rfl
  have q1 : ∀ d, (cw d).cell? ⟨xb, 1, none⟩ = some (.int .i64 x.tm) := fun d => (hC d).cell 1 rfl 1 rfl
  have q2 : ∀ d, (cw d).cell? ⟨xb, 2, none⟩ = some (.int .i64 x.tr) := fun d => (hC d).cell 1 rfl 2 rfl
  have q3 : ∀ d, (cw d).cell? ⟨xb, 3, none⟩ = some (.int .i64 x.bm) := fun d => (hC d).cell 1 rfl 3 rfl
  have q4 : ∀ d, (cw d).cell? ⟨xb, 4, none⟩ = some (.int .i64 x.br) := fun d => (hC d).cell 1 rfl 4 rfl
  have q5 : ∀ d, (cw d).cell? ⟨xb, 5, none⟩ = some (.slice p.SA x.sats.length p.sc) := fun d => (hC d).cell 1 rfl 5 rfl
  have q6 : ∀ d, (cw d).cell? ⟨xb, 6, none⟩ = some (.slice p.CA x.custs.length p.cc) := fun d => (hC d).cell 1 rfl 6 rfl
  have q7 : ∀ d, (cw d).cell? ⟨xb, 7, none⟩ = some (.slice p.KA x.cost.length p.kc) := fun d => (hC d).cell 1 rfl 7 rfl
  have q8 : ∀ d, (cw d).cell? ⟨xb, 8, none⟩ = some (.slice p.TA x.time.length p.tc) := fun d => (hC d).cell 1 rfl 8 rfl
  repeat (refine pl_look rfl rfl rfl (fun Kv hK => ?_); go_big_quiet_op; refine hK _ ?_; clear hK Kv)
  clear q0 q1 q2 q3 q4 q5 q6 q7 q8 q9 hC
  refine pl_end ?_
  intro w4 hS4
  clear hS
  refine pm_eff rfl rfl fun Kv hK => ?_
  go_simp
  refine eff_call (HCU.out _) (fun e w5 h => ?_)
  obtain ⟨rfl, hb⟩ := h
  have hS5 := hS4.call hb
  refine .inl ⟨_, rfl, hS5.sub (.cons_cons _ (.cons _ (.cons_cons _ (List.nil_sublist _)))), hK _ _ ?_⟩
  clear hK Kv hb hS4
  have hon : o1 < n := by have := HNX.out; have := HC1.out; omega
  have hne : ¬ n = o1 := by omega
  refine pm_eff rfl rfl fun Kv hK => ?_
  go_simp
  simp only [if_pos (Nat.le_of_lt hon), if_neg hne]
  refine ⟨hS5.sub (.cons_cons _ (.cons _ (.cons_cons _ (List.nil_sublist _)))), hK _ _ ?_⟩
  clear hK Kv
  refine pm_end ?_
  have HS5 := Lib.hid hS5
  clear hS5
  go_wp2_with fail
  go_ret
  have hl : R.length = n - o1 := by have := HNX.out; have := HML.out; omega
  have h1 := ints_from (R := R) (o := o1) (HS5.out.blk 1 rfl) (by omega) HFF.out
  refine ⟨some ⟨fb, o1, none⟩, n - o1, ?_, h1, HS5.out.below⟩
  rw [hl]
  first | rfl | simp
end Go.Proofs.Ytjpejclfppbboaa
