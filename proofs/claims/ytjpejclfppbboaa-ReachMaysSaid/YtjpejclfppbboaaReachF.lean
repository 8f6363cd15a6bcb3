/- wharfagelaw14.Ways, of an instance that may be. (printed by gen/reachf.py) -/
import Derived.Test.YtjpejclfppbboaaReachE
import Derived.Test.YtjpejclfppbboaaReachD
import Derived.Deep.CutBlock
import Derived.Deep.CutRange
import Derived.Deep.DeepCutAuto
namespace Go.Proofs.Ytjpejclfppbboaa
open Go.ChangeShapes Go.WideShapes Go.ChangeAt Go.RowKit
set_option linter.unusedVariables false
set_option linter.unusedSimpArgs false
def stC (x : InstV) (c : Nat) : Nat → Int := fun j => if 1 + x.sats.length ≤ j ∧ j < 1 + x.sats.length + c then stayF x j else 0
def inC (x : InstV) (s c : Nat) : Nat → Bool := fun j => decide (j = 1 + s) || decide (1 + x.sats.length ≤ j ∧ j < 1 + x.sats.length + c)
theorem stC_zero (x : InstV) : stC x 0 = fun _ => 0 := by funext j; unfold stC; rw [if_neg (by omega)]
theorem stC_succ (x : InstV) (c j : Nat) (hj : j = 1 + x.sats.length + c) (v : Int) (hv : stayF x j = v) : (fun i => if i = j then v else stC x c i) = stC x (c + 1) := by
 subst hj
 funext i
 unfold stC
 by_cases e : i = 1 + x.sats.length + c
 · rw [if_pos e, if_pos (by omega), e, hv]
 · rw [if_neg e]
   by_cases h : 1 + x.sats.length ≤ i ∧ i < 1 + x.sats.length + c
   · rw [if_pos h, if_pos (by omega)]
   · rw [if_neg h, if_neg (by omega)]
theorem stC_end (x : InstV) (j : Nat) (hj : j < x.n) : stC x x.custs.length j = stayF x j := by
 unfold stC
 unfold InstV.n at hj
 split
 · rfl
 · rename_i h
   unfold stayF
   rw [if_pos (by omega)]
theorem inC_zero (x : InstV) (s : Nat) : (fun j => if j = 1 + s then true else (fun _ => false) j) = inC x s 0 := by
 funext j
 unfold inC
 by_cases e : j = 1 + s
 · simp [e]
 · rw [if_neg e, decide_eq_false e, decide_eq_false (by omega)]; rfl
theorem inC_succ (x : InstV) (s c j : Nat) (hj : j = 1 + x.sats.length + c) : (fun i => if i = j then true else inC x s c i) = inC x s (c + 1) := by
 subst hj
 funext i
 unfold inC
 by_cases e : i = 1 + x.sats.length + c
 · rw [if_pos e, decide_eq_true (p := 1 + x.sats.length ≤ i ∧ i < 1 + x.sats.length + (c + 1)) (by omega), Bool.or_true]
 · rw [if_neg e]
   congr 1
   rw [decide_eq_decide]
   omega
theorem at14_any (x : InstV) (p : IAt) (c : Int) (w : World) (h1 : x.sats.length ≤ 1000) : Calls Try.prog 59 #[.agg (x.cells p), .int .i64 c] w fun e w' => e = .returned (.int .i64 (wrap64 (1 + x.sats.length + c))) ∧ Below w.heap.size w w' := by
 unfold InstV.cells
 go_enter Try.func59, Try.ntmps59
 go_wp2
 go_ret
 exact ⟨rfl, (Below.refl _ _).alloc (Nat.le_refl _) _⟩
theorem inC_end (x : InstV) (s : Nat) : inC x s x.custs.length = inWays x s := rfl
def WaysR (W : World) (l l2 : List Int) (e : Ending) (w' : World) : Prop := ∃ A c A2 c2, e = .returned (.tuple #[.slice A l.length c, .slice A2 l2.length c2]) ∧ IntsAt w' w'.heap.size A l ∧ IntsAt w' w'.heap.size A2 l2 ∧ Below W.heap.size W w'
theorem out_at {x : InstV} (h : x.Fit) {s : Nat} (hs : s < x.sats.length) {c : Nat} (hc : c < x.custs.length) :
 (0 ≤ apartM x.n (timeF x) (stayF x) (inWays x s) (1 + s) (1 + x.sats.length + c) ∧ apartM x.n (timeF x) (stayF x) (inWays x s) (1 + s) (1 + x.sats.length + c) ≤ 10000) ∧ (outM x s)[c]? = some (apartM x.n (timeF x) (stayF x) (inWays x s) (1 + s) (1 + x.sats.length + c)) := by
 refine ⟨apart_bd (time_in h) (fun i => (stay_in h i).1) (inWays_s x s) (inWays_c x s hc) (by omega), ?_⟩
 unfold outM
 rw [List.getElem?_map, List.getElem?_range hc, Option.map_some]
theorem back_at {x : InstV} (h : x.Fit) {s : Nat} (hs : s < x.sats.length) {c : Nat} (hc : c < x.custs.length) :
 (0 ≤ apartM x.n (timeF x) (stayF x) (inWays x s) (1 + x.sats.length + c) (1 + s) ∧ apartM x.n (timeF x) (stayF x) (inWays x s) (1 + x.sats.length + c) (1 + s) ≤ 10000) ∧ (backM x s)[c]? = some ((x.custs[c]'hc).stay + apartM x.n (timeF x) (stayF x) (inWays x s) (1 + x.sats.length + c) (1 + s)) := by
 refine ⟨apart_bd (time_in h) (fun i => (stay_in h i).1) (inWays_c x s hc) (inWays_s x s) (by omega), ?_⟩
 unfold backM
 rw [List.getElem?_map, List.getElem?_range hc, Option.map_some]
 congr 2
 simp [hc]
set_option maxRecDepth 100000 in
set_option maxHeartbeats 8000000 in
theorem lawWays_any (x : InstV) (p : IAt) (s : Nat) (w : World) (hI : InstIn w w.heap.size p x) (hF : x.Fit) (hs : s < x.sats.length) :
 Calls Try.prog 30 #[.agg (x.cells p), .int .i64 (s : Int)] w (WaysR w (outM x s) (backM x s)) := by
 obtain ⟨cqb, cqo, hCA⟩ : ∃ b o, p.CA = some ⟨b, o, none⟩ := by
  obtain ⟨b, o, h, _⟩ := custs_at hI.custs (k := 0) (by have := hF.custs; omega)
  exact ⟨b, o, h⟩
 have HND : Hid (∀ wx, Calls Try.prog 19 #[.agg (x.cells p)] wx fun e w' => e = .returned (.int .i64 (x.n : Nat)) ∧ Below wx.heap.size wx w') := Lib.hid (fun wx => nodes11_any x p wx (by have := hF.sats; omega) (by have := hF.custs; omega))
 have HAT : Hid (∀ (c : Nat) wx, c ≤ 1000 → Calls Try.prog 59 #[.agg (x.cells p), .int .i64 (c : Int)] wx fun e w' => e = .returned (.int .i64 ((1 + x.sats.length + c : Nat) : Int)) ∧ Below wx.heap.size wx w') := Lib.hid (fun c wx hc => by
  have hns := hF.sats
  have h := at14_any x p (c : Int) wx (by omega)
  rw [show wrap64 (1 + x.sats.length + (c : Int)) = ((1 + x.sats.length + c : Nat) : Int) by unfold wrap64; omega] at h
  exact h)
 have HAP : Hid (∀ (wx : World) (stb ib : Nat), Below w.heap.size w wx → (∀ i, i < x.n → wx.cell? ⟨stb, i, none⟩ = some (.int .i64 (stayF x i))) → (∀ i, i < x.n → wx.cell? ⟨ib, i, none⟩ = some (.bool (inWays x s i))) → Calls Try.prog 58 #[.slice p.TA x.time.length p.tc, .slice (some ⟨stb, 0, none⟩) x.n x.n, .slice (some ⟨ib, 0, none⟩) x.n x.n] wx (ApartPost wx x.n (apartM x.n (timeF x) (stayF x) (inWays x s)))) := Lib.hid (fun wx stb ib hb h1 h2 => lawApart_any x hF p.TA p.tc stb ib (stayF x) (inWays x s) wx (hI.at_ hb).time h1 h2 (stay_in hF))
 obtain ⟨SA, sc, CA, cc, KA, kc, TA, tc⟩ := p
 simp only at hCA
 subst hCA
 have HI := Lib.hid hI
 have HF := Lib.hid hF
 have HOA : Hid (∀ c (hc : c < x.custs.length), _) := Lib.hid (fun c hc => out_at hF hs (c := c) hc)
 have HBA : Hid (∀ c (hc : c < x.custs.length), _) := Lib.hid (fun c hc => back_at hF hs (c := c) hc)
 have HOL := Lib.hid (out_len x s)
 have HBL := Lib.hid (back_len x s)
 have HST : Hid (∀ (c : Nat) (hc : c < x.custs.length), stayF x (1 + x.sats.length + c) = (x.custs[c]'hc).stay) := Lib.hid (fun c hc => by rw [stay_cust x hc]; congr 1; simp [hc])
 have HSE := Lib.hid (stC_end x)
 have HSS := Lib.hid (stC_succ x)
 have HIS := Lib.hid (inC_succ x s)
 have HIE := Lib.hid (inC_end x s)
 have HSZ := Lib.hid (stC_zero x)
 have HIZ := Lib.hid (inC_zero x s)
 obtain ⟨i1, hi1, hy0, hy1, hy2⟩ := info_parts int64_info
 have HI1 := Lib.hid (And.intro hi1 (And.intro hy0 (And.intro hy1 hy2)))
 have hlen := hF.timeLen.1
 have hN10 := hF.n9
 have HNX : Hid (x.n = 1 + x.sats.length + x.custs.length) := Lib.hid rfl
 obtain ⟨O, hO⟩ : ∃ O, outM x s = O := ⟨_, rfl⟩
 obtain ⟨K, hK⟩ : ∃ K, backM x s = K := ⟨_, rfl⟩
 rw [hO] at HOA HOL ⊢
 rw [hK] at HBA HBL ⊢
 obtain ⟨stf, hstf⟩ : ∃ f, stC x = f := ⟨_, rfl⟩
 obtain ⟨inf, hinf⟩ : ∃ f, inC x s = f := ⟨_, rfl⟩
 rw [hstf] at HSE HSS HSZ
 rw [hinf] at HIS HIE HIZ
 obtain ⟨ns, hns⟩ : ∃ n, x.sats.length = n := ⟨_, rfl⟩
 obtain ⟨nc, hnc⟩ : ∃ n, x.custs.length = n := ⟨_, rfl⟩
 have HNC := Lib.hid hnc
 have hn3 : 1 ≤ ns ∧ ns ≤ 3 := by have := hF.sats; omega
 have hn6 : 1 ≤ nc ∧ nc ≤ 6 := by have := hF.custs; omega
 unfold InstV.cells at HND HAT ⊢
 simp only at HAP HND HAT ⊢
 rw [hlen] at HAP HND HAT ⊢
 rw [hns] at HND HNX HAT HOA HBA HST HSS HIS hs ⊢
 rw [hnc] at HND HNX HAT HOL HBL HSE HIE ⊢
 obtain ⟨D, hD⟩ : ∃ D, apartM x.n (timeF x) (stayF x) (inWays x s) = D := ⟨_, rfl⟩
 rw [hD] at HAP HOA HBA
 obtain ⟨N, hN⟩ : ∃ N, x.n = N := ⟨_, rfl⟩
 rw [hN] at HAP HND HNX HSE HAT hN10 ⊢
 obtain ⟨I, hII⟩ : ∃ I, inWays x s = I := ⟨_, rfl⟩
 rw [hII] at HAP HIE
 have hnN : N ≤ 1 + ns + nc := by have := HNX.out; omega
 have hnN2 : 1 + ns + nc ≤ N := by have := HNX.out; omega
 have hmk := make_bools N (by omega)
 have hmi := make_i64s14 N (by omega)
 have HMK := Lib.hid hmk
 have HMI := Lib.hid hmi
 have hS := (SL.start (W := w) (Nat.le_refl w.heap.size)).alloc #[.int .i64 x.fin, .int .i64 x.tm, .int .i64 x.tr, .int .i64 x.bm, .int .i64 x.br, .slice SA ns sc, .slice (some ⟨cqb, cqo, none⟩) nc cc, .slice KA x.cost.length kc, .slice TA N tc] 39
 obtain ⟨xb, hxb⟩ : ∃ b, w.heap.size = b := ⟨_, rfl⟩
 obtain ⟨w0, hw0⟩ : ∃ y, w.alloc (.cells #[.int .i64 x.fin, .int .i64 x.tm, .int .i64 x.tr, .int .i64 x.bm, .int .i64 x.br, .slice SA ns sc, .slice (some ⟨cqb, cqo, none⟩) nc cc, .slice KA x.cost.length kc, .slice TA N tc] 39) = y := ⟨_, rfl⟩
 have HS0 : Hid (SL w w.heap.size [.blk xb #[.int .i64 x.fin, .int .i64 x.tm, .int .i64 x.tr, .int .i64 x.bm, .int .i64 x.br, .slice SA ns sc, .slice (some ⟨cqb, cqo, none⟩) nc cc, .slice KA x.cost.length kc, .slice TA N tc] 39] w0) := Lib.hid (by rw [← hxb, ← hw0]; exact hS)
 have HW := Lib.hid (And.intro hxb hw0)
 clear hS hxb hw0 hI hF hi1 hy0 hy1 hy2 hns hnc hlen hD hN hII hstf hinf hO hK hmk hmi
 go_enter Try.func30, Try.ntmps30
 go_upto_region 1 with fail
 rw [HW.out.2, HW.out.1]
 have d0 : w0.cell? ⟨xb, 0, none⟩ = some (.int .i64 x.fin) := HS0.out.cell 0 rfl 0 rfl
 have d1 : w0.cell? ⟨xb, 1, none⟩ = some (.int .i64 x.tm) := HS0.out.cell 0 rfl 1 rfl
 have d2 : w0.cell? ⟨xb, 2, none⟩ = some (.int .i64 x.tr) := HS0.out.cell 0 rfl 2 rfl
 have d3 : w0.cell? ⟨xb, 3, none⟩ = some (.int .i64 x.bm) := HS0.out.cell 0 rfl 3 rfl
 have d4 : w0.cell? ⟨xb, 4, none⟩ = some (.int .i64 x.br) := HS0.out.cell 0 rfl 4 rfl
 have d5 : w0.cell? ⟨xb, 5, none⟩ = some (.slice SA ns sc) := HS0.out.cell 0 rfl 5 rfl
 have d6 : w0.cell? ⟨xb, 6, none⟩ = some (.slice (some ⟨cqb, cqo, none⟩) nc cc) := HS0.out.cell 0 rfl 6 rfl
 have d7 : w0.cell? ⟨xb, 7, none⟩ = some (.slice KA x.cost.length kc) := HS0.out.cell 0 rfl 7 rfl
 have d8 : w0.cell? ⟨xb, 8, none⟩ = some (.slice TA N tc) := HS0.out.cell 0 rfl 8 rfl
 go_upto_region 2 with (go_at_call 19; (with_reducible refine (HND.out w0).mono ?_); rintro e w1 ⟨rfl, hb⟩
                        have HS1 : Hid (SL w w.heap.size [.blk xb #[.int .i64 x.fin, .int .i64 x.tm, .int .i64 x.tr, .int .i64 x.bm, .int .i64 x.br, .slice SA ns sc, .slice (some ⟨cqb, cqo, none⟩) nc cc, .slice KA x.cost.length kc, .slice TA N tc] 39] w1) := Lib.hid (HS0.out.call hb)
                        clear hb)
 clear d0 d1 d2 d3 d4 d5 d6 d7 d8 HND HS0 HW
 have hS2 := HS1.out
 go_cut [7, 8] (fun v7 v8 wx => ∃ stb ib : Nat, v7 = .slice (some ⟨stb, 0, none⟩) N N ∧ v8 = .slice (some ⟨ib, 0, none⟩) N N ∧ SL w w.heap.size [.blk stb (iarr (fun _ => 0) N) 2, .blk ib (barr (fun _ => false) N) 4, .blk xb #[.int .i64 x.fin, .int .i64 x.tm, .int .i64 x.tr, .int .i64 x.bm, .int .i64 x.br, .slice SA ns sc, .slice (some ⟨cqb, cqo, none⟩) nc cc, .slice KA x.cost.length kc, .slice TA N tc] 39] wx)
 case first =>
  have hmk := HMK.out
  have hmi := HMI.out
  refine wp_region_slb [0,2] [1,3,4] [5] [.blk xb #[.int .i64 x.fin, .int .i64 x.tm, .int .i64 x.tr, .int .i64 x.bm, .int .i64 x.br, .slice SA ns sc, .slice (some ⟨cqb, cqo, none⟩) nc cc, .slice KA x.cost.length kc, .slice TA N tc] 39] hS2 (List.Sublist.refl _) (by kernel_rfl) (by kernel_rfl) (.cons rfl .nil) (fun C cw _ hC => ?_)
  repeat (refine pl_look rfl rfl rfl (fun Kv hK => ?_); go_big_quiet_op; refine hK _ ?_; clear hK Kv)
  clear hC
  refine pl_end ?_
  intro w3 hS3
  refine pb_two 1 3 (by kernel_rfl) (by kernel_rfl) (by kernel_rfl) ?_ ?_
  · skip
    refine kOp_eff rfl rfl fun Kv hK => ?_
    go_simp
    have hS4 := hS3.alloc (iarr (fun _ => 0) N) 2
    obtain ⟨stb, hstb⟩ : ∃ b, w3.heap.size = b := ⟨_, rfl⟩
    obtain ⟨w4, hw4⟩ : ∃ y, w3.alloc (.cells (iarr (fun _ => 0) N) 2) = y := ⟨_, rfl⟩
    rw [hstb, hw4] at hS4
    rw [hstb, hw4]
    clear hstb hw4 hS3
    refine ⟨hS4.sub (.cons _ (List.Sublist.refl _)), hK _ _ ?_⟩
    clear hK Kv
    refine pb_two 3 4 (by kernel_rfl) (by kernel_rfl) (by kernel_rfl) ?_ ?_
    · skip
      refine kOp_eff rfl rfl fun Kv hK => ?_
      go_simp
      have hS5 := hS4.alloc (barr (fun _ => false) N) 4
      obtain ⟨ib, hib⟩ : ∃ b, w4.heap.size = b := ⟨_, rfl⟩
      obtain ⟨w5, hw5⟩ : ∃ y, w4.alloc (.cells (barr (fun _ => false) N) 4) = y := ⟨_, rfl⟩
      rw [hib, hw5] at hS5
      rw [hib, hw5]
      clear hib hw5 hS4
      refine ⟨hS5.sub (.cons _ (.cons _ (List.Sublist.refl _))), hK _ _ ?_⟩
      clear hK Kv
      refine pb_one 4 (by kernel_rfl) (by kernel_rfl) ?_
      refine kOp_eff rfl rfl fun Kv hK => ?_
      go_simp
      refine ⟨hS5.sub (.cons _ (.cons _ (List.Sublist.refl _))), hK _ _ ?_⟩
      clear hK Kv
      refine pb_end (by kernel_rfl) ?_
      have HS9 : Hid (SL w w.heap.size [.blk stb (iarr (fun _ => 0) N) 2, .blk ib (barr (fun _ => false) N) 4, .blk xb #[.int .i64 x.fin, .int .i64 x.tm, .int .i64 x.tr, .int .i64 x.bm, .int .i64 x.br, .slice SA ns sc, .slice (some ⟨cqb, cqo, none⟩) nc cc, .slice KA x.cost.length kc, .slice TA N tc] 39] w5) := Lib.hid (hS5.pick [1, 0, 2] (by decide) rfl)
      clear hS5 hmk hmi
      go_wp2_with fail
      go_meet
      exact ⟨_, _, rfl, rfl, HS9.out⟩
    · skip
      refine kOp_eff rfl rfl fun Kv hK => ?_
      go_simp
      refine ⟨hS4.sub (.cons _ (List.Sublist.refl _)), hK _ _ ?_⟩
      clear hK Kv
      refine pb_one 3 (by kernel_rfl) (by kernel_rfl) ?_
      refine kOp_eff rfl rfl fun Kv hK => ?_
      go_simp
      have hS5 := hS4.alloc (barr (fun _ => false) N) 4
      obtain ⟨ib, hib⟩ : ∃ b, w4.heap.size = b := ⟨_, rfl⟩
      obtain ⟨w5, hw5⟩ : ∃ y, w4.alloc (.cells (barr (fun _ => false) N) 4) = y := ⟨_, rfl⟩
      rw [hib, hw5] at hS5
      rw [hib, hw5]
      clear hib hw5 hS4
      refine ⟨hS5.sub (.cons _ (.cons _ (List.Sublist.refl _))), hK _ _ ?_⟩
      clear hK Kv
      refine pb_end (by kernel_rfl) ?_
      have HS9 : Hid (SL w w.heap.size [.blk stb (iarr (fun _ => 0) N) 2, .blk ib (barr (fun _ => false) N) 4, .blk xb #[.int .i64 x.fin, .int .i64 x.tm, .int .i64 x.tr, .int .i64 x.bm, .int .i64 x.br, .slice SA ns sc, .slice (some ⟨cqb, cqo, none⟩) nc cc, .slice KA x.cost.length kc, .slice TA N tc] 39] w5) := Lib.hid (hS5.pick [1, 0, 2] (by decide) rfl)
      clear hS5 hmk hmi
      go_wp2_with fail
      go_meet
      exact ⟨_, _, rfl, rfl, HS9.out⟩
  · skip
    refine kOp_eff rfl rfl fun Kv hK => ?_
    go_simp
    have hS4 := hS3.alloc (barr (fun _ => false) N) 4
    obtain ⟨ib, hib⟩ : ∃ b, w3.heap.size = b := ⟨_, rfl⟩
    obtain ⟨w4, hw4⟩ : ∃ y, w3.alloc (.cells (barr (fun _ => false) N) 4) = y := ⟨_, rfl⟩
    rw [hib, hw4] at hS4
    rw [hib, hw4]
    clear hib hw4 hS3
    refine ⟨hS4.sub (.cons _ (List.Sublist.refl _)), hK _ _ ?_⟩
    clear hK Kv
    refine pb_one 1 (by kernel_rfl) (by kernel_rfl) ?_
    refine kOp_eff rfl rfl fun Kv hK => ?_
    go_simp
    have hS5 := hS4.alloc (iarr (fun _ => 0) N) 2
    obtain ⟨stb, hstb⟩ : ∃ b, w4.heap.size = b := ⟨_, rfl⟩
    obtain ⟨w5, hw5⟩ : ∃ y, w4.alloc (.cells (iarr (fun _ => 0) N) 2) = y := ⟨_, rfl⟩
    rw [hstb, hw5] at hS5
    rw [hstb, hw5]
    clear hstb hw5 hS4
    refine ⟨hS5.sub (.cons _ (.cons _ (List.Sublist.refl _))), hK _ _ ?_⟩
    clear hK Kv
    refine pb_one 4 (by kernel_rfl) (by kernel_rfl) ?_
    refine kOp_eff rfl rfl fun Kv hK => ?_
    go_simp
    refine ⟨hS5.sub (.cons _ (.cons _ (List.Sublist.refl _))), hK _ _ ?_⟩
    clear hK Kv
    refine pb_end (by kernel_rfl) ?_
    have HS9 : Hid (SL w w.heap.size [.blk stb (iarr (fun _ => 0) N) 2, .blk ib (barr (fun _ => false) N) 4, .blk xb #[.int .i64 x.fin, .int .i64 x.tm, .int .i64 x.tr, .int .i64 x.bm, .int .i64 x.br, .slice SA ns sc, .slice (some ⟨cqb, cqo, none⟩) nc cc, .slice KA x.cost.length kc, .slice TA N tc] 39] w5) := Lib.hid (hS5.pick [0, 1, 2] (by decide) rfl)
    clear hS5 hmk hmi
    go_wp2_with fail
    go_meet
    exact ⟨_, _, rfl, rfl, HS9.out⟩
 case rest =>
 clear hS2 HS1 HMK HMI
 obtain ⟨stb, ib, rfl, rfl, hS⟩ := hcut
 obtain ⟨s1, hs1⟩ : ∃ k : Nat, 1 + s = k := ⟨_, rfl⟩
 have hs1i : (1 : Int) + (s : Int) = (s1 : Int) := by omega
 have HS1I := Lib.hid hs1i
 have hs1N : s1 < N := by omega
 rw [hs1] at HOA HBA HIZ
 have y0 : wc.cell? ⟨ib, s1, none⟩ = some (.bool false) := hS.cell 1 rfl s1 (barr_get _ _ _ hs1N)
 have y1 := hS.free 1 rfl s1
 have HSA := Lib.hid (hS.setBool 1 rfl s1 true)
 clear hS hs
 go_upto_region 4 with fail
 clear y0 y1
 obtain ⟨w3, hw3⟩ : ∃ y, wc.setCell ⟨ib, s1, none⟩ (.bool true) = y := ⟨_, rfl⟩
 rw [hw3] at HSA ⊢
 clear hw3 hs1i
 have HSB : Hid (SL w w.heap.size [.blk stb (iarr (stf 0) N) 2, .blk ib (barr (inf 0) N) 4, .blk xb #[.int .i64 x.fin, .int .i64 x.tm, .int .i64 x.tr, .int .i64 x.bm, .int .i64 x.br, .slice SA ns sc, .slice (some ⟨cqb, cqo, none⟩) nc cc, .slice KA x.cost.length kc, .slice TA N tc] 39] w3) := Lib.hid (by
  have h := HSA.out
  rw [HSZ.out, ← HIZ.out]
  exact h)
 have d6 : w3.cell? ⟨xb, 6, none⟩ = some (.slice (some ⟨cqb, cqo, none⟩) nc cc) := HSB.out.cell 2 rfl 6 rfl
 clear HSA
 go_upto_region 5 with fail
 clear d6
 go_loopw [27] (fun iv wr => ∃ c : Nat, c ≤ nc ∧ iv = .int .i64 c ∧ SL w w.heap.size [.blk stb (iarr (stf c) N) 2, .blk ib (barr (inf c) N) 4, .blk xb #[.int .i64 x.fin, .int .i64 x.tm, .int .i64 x.tr, .int .i64 x.bm, .int .i64 x.br, .slice SA ns sc, .slice (some ⟨cqb, cqo, none⟩) nc cc, .slice KA x.cost.length kc, .slice TA N tc] 39] wr) (fun iv _ => nc - (intOf iv).toNat)
 case atStart => exact ⟨0, by omega, rfl, HSB.out⟩
 case round =>
  clear HSB
  obtain ⟨c, hc, rfl, hS⟩ := hrel
  by_cases hlt : c < nc
  · have hcx : c < x.custs.length := by rw [HNC.out]; exact hlt
    obtain ⟨b, o, hA, hbB, e0, e1, e2, e3⟩ := custs_at HI.out.custs hcx
    obtain ⟨rfl, rfl⟩ : cqb = b ∧ cqo = o := by simpa using hA
    have hstv := HST.out c hcx
    obtain ⟨sv, hsv⟩ : ∃ v, (x.custs[c]'hcx).stay = v := ⟨_, rfl⟩
    obtain ⟨ld, hld⟩ : ∃ v, (x.custs[c]'hcx).load = v := ⟨_, rfl⟩
    obtain ⟨op, hop⟩ : ∃ v, (x.custs[c]'hcx).opn = v := ⟨_, rfl⟩
    obtain ⟨cl, hcl⟩ : ∃ v, (x.custs[c]'hcx).cls = v := ⟨_, rfl⟩
    rw [hsv] at e3 hstv
    rw [hld] at e0
    rw [hop] at e1
    rw [hcl] at e2
    have d0 := (hS.below.cell (p := ⟨cqb, cqo + c * 4, none⟩) hbB).trans e0
    have d1 := (hS.below.cell (p := ⟨cqb, cqo + c * 4 + 1, none⟩) hbB).trans e1
    have d2 := (hS.below.cell (p := ⟨cqb, cqo + c * 4 + 2, none⟩) hbB).trans e2
    have d3 := (hS.below.cell (p := ⟨cqb, cqo + c * 4 + 3, none⟩) hbB).trans e3
    have hS2 := hS.alloc #[.int .i64 ld, .int .i64 op, .int .i64 cl, .int .i64 sv] 73
    have hz1 : cqb < wr.heap.size := Nat.lt_of_lt_of_le hbB hS.size
    obtain ⟨j1, hj1⟩ : ∃ j, 1 + ns + c = j := ⟨_, rfl⟩
    have hjN : j1 < N := by omega
    have HSX := Lib.hid (HSS.out c j1 hj1.symm sv (by rw [← hj1]; exact hstv))
    have HIX := Lib.hid (HIS.out c j1 hj1.symm)
    have HA1 := Lib.hid (fun wx => HAT.out c wx (by omega))
    rw [hj1] at HA1
    clear hS hA hsv hld hop hcl e0 e1 e2 e3 hstv hj1
    go_upto_region 7 with fail
    obtain ⟨ar, har⟩ : ∃ ar, wr.heap.size = ar := ⟨_, rfl⟩
    obtain ⟨w9, hw9⟩ : ∃ y, wr.alloc (.cells #[.int .i64 ld, .int .i64 op, .int .i64 cl, .int .i64 sv] 73) = y := ⟨_, rfl⟩
    rw [har, hw9] at hS2 ⊢
    clear har hw9 d0 d1 d2 d3 hz1
    refine wp_region_sl [0,1,2,4,5,6,8,9] [3,7,10,11] [12,13] [.blk ar #[.int .i64 ld, .int .i64 op, .int .i64 cl, .int .i64 sv] 73, .blk xb #[.int .i64 x.fin, .int .i64 x.tm, .int .i64 x.tr, .int .i64 x.bm, .int .i64 x.br, .slice SA ns sc, .slice (some ⟨cqb, cqo, none⟩) nc cc, .slice KA x.cost.length kc, .slice TA N tc] 39] hS2 (.cons_cons _ (.cons _ (.cons _ (.cons_cons _ (List.nil_sublist _))))) (by kernel_rfl) (by kernel_rfl) (.cons rfl (.cons rfl .nil)) (fun C cw _ hC => ?_)
    have qa : ∀ d, (cw d).cell? ⟨ar, 3, none⟩ = some (.int .i64 sv) := fun d => (hC d).cell 0 rfl 3 rfl
    have q0 : ∀ d, (cw d).cell? ⟨xb, 0, none⟩ = some (.int .i64 x.fin) := fun d => (hC d).cell 1 rfl 0 rfl
    have q1 : ∀ d, (cw d).cell? ⟨xb, 1, none⟩ = some (.int .i64 x.tm) := fun d => (hC d).cell 1 rfl 1 rfl
    have q2 : ∀ d, (cw d).cell? ⟨xb, 2, none⟩ = some (.int .i64 x.tr) := fun d => (hC d).cell 1 rfl 2 rfl
    have q3 : ∀ d, (cw d).cell? ⟨xb, 3, none⟩ = some (.int .i64 x.bm) := fun d => (hC d).cell 1 rfl 3 rfl
    have q4 : ∀ d, (cw d).cell? ⟨xb, 4, none⟩ = some (.int .i64 x.br) := fun d => (hC d).cell 1 rfl 4 rfl
    have q5 : ∀ d, (cw d).cell? ⟨xb, 5, none⟩ = some (.slice SA ns sc) := fun d => (hC d).cell 1 rfl 5 rfl
    have q6 : ∀ d, (cw d).cell? ⟨xb, 6, none⟩ = some (.slice (some ⟨cqb, cqo, none⟩) nc cc) := fun d => (hC d).cell 1 rfl 6 rfl
    have q7 : ∀ d, (cw d).cell? ⟨xb, 7, none⟩ = some (.slice KA x.cost.length kc) := fun d => (hC d).cell 1 rfl 7 rfl
    have q8 : ∀ d, (cw d).cell? ⟨xb, 8, none⟩ = some (.slice TA N tc) := fun d => (hC d).cell 1 rfl 8 rfl
    repeat (refine pl_look rfl rfl rfl (fun Kv hK => ?_); go_big_quiet_op; refine hK _ ?_; clear hK Kv)
    clear q0 q1 q2 q3 q4 q5 q6 q7 q8 qa hC
    refine pl_end ?_
    intro w4 hS4
    clear hS2
    refine pm_eff rfl rfl fun Kv hK => ?_
    go_simp
    refine eff_call (HA1.out w4) (fun e w5 h => ?_)
    obtain ⟨rfl, hb⟩ := h
    have hS5 := hS4.call hb
    refine .inl ⟨_, rfl, hS5.sub (.cons_cons _ (.cons _ (.cons _ (.cons_cons _ (List.nil_sublist _))))), hK _ _ ?_⟩
    clear hK Kv hb hS4
    refine pm_eff rfl rfl fun Kv hK => ?_
    go_simp
    refine eff_call (HA1.out w5) (fun e w6 h => ?_)
    obtain ⟨rfl, hb⟩ := h
    have hS6 := hS5.call hb
    refine .inl ⟨_, rfl, hS6.sub (.cons_cons _ (.cons _ (.cons _ (.cons_cons _ (List.nil_sublist _))))), hK _ _ ?_⟩
    clear hK Kv hb hS5
    refine pm_eff rfl rfl fun Kv hK => ?_
    go_simp
    refine ⟨hS6.sub (.cons_cons _ (.cons _ (.cons _ (.cons_cons _ (List.nil_sublist _))))), hK _ _ ?_⟩
    clear hK Kv
    have z1 : w6.cell? ⟨ib, j1, none⟩ = some (.bool (inf c j1)) := hS6.cell 2 rfl j1 (barr_get _ _ _ hjN)
    have z2 := hS6.free 2 rfl j1
    refine pm_eff rfl rfl fun Kv hK => ?_
    go_simp
    have hS7 := hS6.setBool 2 rfl j1 true
    refine ⟨hS7.sub (.cons_cons _ (.cons _ (.cons _ (.cons_cons _ (List.nil_sublist _))))), hK _ _ ?_⟩
    clear hK Kv z1 z2
    refine pm_end ?_
    obtain ⟨w7, hw7⟩ : ∃ y, w6.setCell ⟨ib, j1, none⟩ (.bool true) = y := ⟨_, rfl⟩
    rw [hw7] at hS7 ⊢
    clear hw7
    have z3 := hS7.cell 1 rfl j1 (iarr_get _ _ _ hjN)
    have z4 := hS7.free 1 rfl j1
    have HS8 := Lib.hid (hS7.setInt 1 rfl j1 sv)
    clear hS6 hS7
    go_wp2_with fail
    go_roundw
    case rel => exact ⟨c + 1, by omega, by go_num, by
     rw [← HSX.out, ← HIX.out]
     exact HS8.out.tail⟩
    case measure => simp [intOf]; omega
  · obtain rfl : nc = c := by omega
    have d8 : wr.cell? ⟨xb, 8, none⟩ = some (.slice TA N tc) := hS.cell 2 rfl 8 rfl
    have HC1 := Lib.hid (HAP.out wr stb ib hS.below (fun i hi => by rw [hS.cell 0 rfl i (iarr_get _ _ _ hi), HSE.out i hi]) (fun i hi => by rw [hS.cell 1 rfl i (barr_get _ _ _ hi), HIE.out]))
    have HS := Lib.hid hS
    clear hS hlt HAP
    obtain ⟨wo, rfl⟩ : ∃ wo : World, wo = wr := ⟨_, rfl⟩
    go_upto_region 10 with (go_at_call 58; (with_reducible refine HC1.out.mono ?_); rintro e w6 ⟨g, ps, rfl, hM, hq⟩
                            have hS6 := mo_join (HS.out.join hq)
                            have HS7 : Hid (SL w w.heap.size (MO (.slice (some ⟨g, 0, none⟩) N N) ps [.blk xb #[.int .i64 x.fin, .int .i64 x.tm, .int .i64 x.tr, .int .i64 x.bm, .int .i64 x.br, .slice SA ns sc, .slice (some ⟨cqb, cqo, none⟩) nc cc, .slice KA x.cost.length kc, .slice TA N tc] 39]) w6) := Lib.hid (hS6.sub (List.Sublist.append (List.Sublist.refl _) (.cons _ (.cons _ (List.Sublist.refl _)))))
                            have HM := Lib.hid hM
                            clear hq hS6 hM)
    clear HC1 HS d8
    have hpl := HM.out.1
    have h1p : s1 < ps.length := by omega
    have d6 : w6.cell? ⟨xb, 6, none⟩ = some (.slice (some ⟨cqb, cqo, none⟩) nc cc) := HS7.out.cell (ps.length + 1 + 0) (show (MO (.slice (some ⟨g, 0, none⟩) N N) ps [.blk xb #[.int .i64 x.fin, .int .i64 x.tm, .int .i64 x.tr, .int .i64 x.bm, .int .i64 x.br, .slice SA ns sc, .slice (some ⟨cqb, cqo, none⟩) nc cc, .slice KA x.cost.length kc, .slice TA N tc] 39])[ps.length + 1 + 0]? = some (.blk xb #[.int .i64 x.fin, .int .i64 x.tm, .int .i64 x.tr, .int .i64 x.bm, .int .i64 x.br, .slice SA ns sc, .slice (some ⟨cqb, cqo, none⟩) nc cc, .slice KA x.cost.length kc, .slice TA N tc] 39) from mo_rest 0) 6 rfl
    obtain ⟨g0, o0, c0, hv0⟩ := mo_valN HM.out HS7.out h1p (by omega)
    have HV0 := Lib.hid hv0
    have HS8 := Lib.hid ((HS7.out.nil 2 1).nil 2 1)
    clear hv0 HS7
    go_upto_region 11 with fail
    clear d6
    go_loopw [53, 4, 5] (fun iv v4 v5 wr => ∃ c : Nat, c ≤ nc ∧ iv = .int .i64 c ∧ SL w w.heap.size (.row 2 1 v4 c ((O.take c).map (.int .i64)) :: .row 2 1 v5 c ((K.take c).map (.int .i64)) :: MO (.slice (some ⟨g, 0, none⟩) N N) ps [.blk xb #[.int .i64 x.fin, .int .i64 x.tm, .int .i64 x.tr, .int .i64 x.bm, .int .i64 x.br, .slice SA ns sc, .slice (some ⟨cqb, cqo, none⟩) nc cc, .slice KA x.cost.length kc, .slice TA N tc] 39]) wr) (fun iv _ _ _ => nc - (intOf iv).toNat)
    case atStart => exact ⟨0, by omega, rfl, HS8.out⟩
    case round =>
     clear HS8
     obtain ⟨c, hc, rfl, hS⟩ := hrel
     obtain ⟨A4, c4, rfl, _, _⟩ := (hS.row 0 rfl).slice_
     obtain ⟨A5, c5, rfl, _, _⟩ := (hS.row 1 rfl).slice_
     by_cases hlt : c < nc
     · have hcx : c < x.custs.length := by rw [HNC.out]; exact hlt
       obtain ⟨b, o, hA, hbB, e0, e1, e2, e3⟩ := custs_at HI.out.custs hcx
       obtain ⟨rfl, rfl⟩ : cqb = b ∧ cqo = o := by simpa using hA
       obtain ⟨⟨hf0, hf1⟩, hro⟩ := HOA.out c hcx
       obtain ⟨⟨hg0, hg1⟩, hrb⟩ := HBA.out c hcx
       have hsi := (HF.out.custsIn _ (List.getElem_mem hcx)).2.2.2
       obtain ⟨sv, hsv⟩ : ∃ v, (x.custs[c]'hcx).stay = v := ⟨_, rfl⟩
       obtain ⟨ld, hld⟩ : ∃ v, (x.custs[c]'hcx).load = v := ⟨_, rfl⟩
       obtain ⟨op, hop⟩ : ∃ v, (x.custs[c]'hcx).opn = v := ⟨_, rfl⟩
       obtain ⟨cl, hcl⟩ : ∃ v, (x.custs[c]'hcx).cls = v := ⟨_, rfl⟩
       rw [hsv] at e3 hrb hsi
       rw [hld] at e0
       rw [hop] at e1
       rw [hcl] at e2
       obtain ⟨hh0, hh1⟩ := hsi
       obtain ⟨j1, hj1⟩ : ∃ j, 1 + ns + c = j := ⟨_, rfl⟩
       rw [hj1] at hf0 hf1 hg0 hg1 hro hrb
       have hcO : c < O.length := by rw [HOL.out]; exact hlt
       have hcK : c < K.length := by rw [HBL.out]; exact hlt
       have HTO : Hid (O.take (c + 1) = O.take c ++ [D s1 j1]) := Lib.hid (by
        rw [List.take_succ_eq_append_getElem hcO]
        rw [List.getElem?_eq_getElem hcO] at hro
        rw [Option.some.inj hro])
       have HTK : Hid (K.take (c + 1) = K.take c ++ [sv + D j1 s1]) := Lib.hid (by
        rw [List.take_succ_eq_append_getElem hcK]
        rw [List.getElem?_eq_getElem hcK] at hrb
        rw [Option.some.inj hrb])
       have d0 := (hS.below.cell (p := ⟨cqb, cqo + c * 4, none⟩) hbB).trans e0
       have d1 := (hS.below.cell (p := ⟨cqb, cqo + c * 4 + 1, none⟩) hbB).trans e1
       have d2 := (hS.below.cell (p := ⟨cqb, cqo + c * 4 + 2, none⟩) hbB).trans e2
       have d3 := (hS.below.cell (p := ⟨cqb, cqo + c * 4 + 3, none⟩) hbB).trans e3
       have hS2 := hS.alloc #[.int .i64 ld, .int .i64 op, .int .i64 cl, .int .i64 sv] 73
       have hz1 : cqb < wr.heap.size := Nat.lt_of_lt_of_le hbB hS.size
       have hjN : j1 < N := by omega
       have hjp : j1 < ps.length := by omega
       obtain ⟨gj, oj, cj, hvj⟩ := mo_valN HM.out hS.tail.tail hjp (by omega)
       have HVJ := Lib.hid hvj
       have HA1 := Lib.hid (fun wx => HAT.out c wx (by omega))
       rw [hj1] at HA1
       obtain ⟨fv, hfv⟩ : ∃ f, D s1 j1 = f := ⟨_, rfl⟩
       obtain ⟨bv, hbv⟩ : ∃ f, D j1 s1 = f := ⟨_, rfl⟩
       have HFV := Lib.hid hfv
       have HBV := Lib.hid hbv
       rw [hfv] at hf0 hf1 HTO
       rw [hbv] at hg0 hg1 HTK
       clear hS hA hsv hld hop hcl e0 e1 e2 e3 hj1 hro hrb hcO hcK hfv hbv hvj
       go_upto_region 13 with fail
       obtain ⟨ar, har⟩ : ∃ ar, wr.heap.size = ar := ⟨_, rfl⟩
       obtain ⟨w9, hw9⟩ : ∃ y, wr.alloc (.cells #[.int .i64 ld, .int .i64 op, .int .i64 cl, .int .i64 sv] 73) = y := ⟨_, rfl⟩
       rw [har, hw9] at hS2 ⊢
       clear har hw9 d0 d1 d2 d3 hz1
       have hs1i := HS1I.out
       have hwr : IntKind.i64.wrap (sv + bv) = sv + bv := by rw [IntKind.wrap_i64]; omega
       refine wp_region_sl [0,1,2,3,4,5,6,7,13,14,15,16,17,18,22,23] [8,9,10,11,12,19,20,21,24,25,26,27,28] [29,30] (.blk ar #[.int .i64 ld, .int .i64 op, .int .i64 cl, .int .i64 sv] 73 :: MO (.slice (some ⟨g, 0, none⟩) N N) ps [.blk xb #[.int .i64 x.fin, .int .i64 x.tm, .int .i64 x.tr, .int .i64 x.bm, .int .i64 x.br, .slice SA ns sc, .slice (some ⟨cqb, cqo, none⟩) nc cc, .slice KA x.cost.length kc, .slice TA N tc] 39]) hS2 (.cons_cons _ (.cons _ (.cons _ (List.Sublist.refl _)))) (by kernel_rfl) (by kernel_rfl) (.cons rfl (.cons rfl .nil)) (fun C cw _ hC => ?_)
       have qa : ∀ d, (cw d).cell? ⟨ar, 3, none⟩ = some (.int .i64 sv) := fun d => (hC d).cell 0 rfl 3 rfl
       have qb : ∀ d, (cw d).cell? ⟨g, s1, none⟩ = some (.slice (some ⟨g0, o0, none⟩) N c0) := fun d => mo_headN hpl (hC d).tail h1p HV0.out
       have q0 : ∀ d, (cw d).cell? ⟨xb, 0, none⟩ = some (.int .i64 x.fin) := fun d => (hC d).tail.cell (ps.length + 1 + 0) (show (MO (.slice (some ⟨g, 0, none⟩) N N) ps [.blk xb #[.int .i64 x.fin, .int .i64 x.tm, .int .i64 x.tr, .int .i64 x.bm, .int .i64 x.br, .slice SA ns sc, .slice (some ⟨cqb, cqo, none⟩) nc cc, .slice KA x.cost.length kc, .slice TA N tc] 39])[ps.length + 1 + 0]? = some (.blk xb #[.int .i64 x.fin, .int .i64 x.tm, .int .i64 x.tr, .int .i64 x.bm, .int .i64 x.br, .slice SA ns sc, .slice (some ⟨cqb, cqo, none⟩) nc cc, .slice KA x.cost.length kc, .slice TA N tc] 39) from mo_rest 0) 0 rfl
       have q1 : ∀ d, (cw d).cell? ⟨xb, 1, none⟩ = some (.int .i64 x.tm) := fun d => (hC d).tail.cell (ps.length + 1 + 0) (show (MO (.slice (some ⟨g, 0, none⟩) N N) ps [.blk xb #[.int .i64 x.fin, .int .i64 x.tm, .int .i64 x.tr, .int .i64 x.bm, .int .i64 x.br, .slice SA ns sc, .slice (some ⟨cqb, cqo, none⟩) nc cc, .slice KA x.cost.length kc, .slice TA N tc] 39])[ps.length + 1 + 0]? = some (.blk xb #[.int .i64 x.fin, .int .i64 x.tm, .int .i64 x.tr, .int .i64 x.bm, .int .i64 x.br, .slice SA ns sc, .slice (some ⟨cqb, cqo, none⟩) nc cc, .slice KA x.cost.length kc, .slice TA N tc] 39) from mo_rest 0) 1 rfl
       have q2 : ∀ d, (cw d).cell? ⟨xb, 2, none⟩ = some (.int .i64 x.tr) := fun d => (hC d).tail.cell (ps.length + 1 + 0) (show (MO (.slice (some ⟨g, 0, none⟩) N N) ps [.blk xb #[.int .i64 x.fin, .int .i64 x.tm, .int .i64 x.tr, .int .i64 x.bm, .int .i64 x.br, .slice SA ns sc, .slice (some ⟨cqb, cqo, none⟩) nc cc, .slice KA x.cost.length kc, .slice TA N tc] 39])[ps.length + 1 + 0]? = some (.blk xb #[.int .i64 x.fin, .int .i64 x.tm, .int .i64 x.tr, .int .i64 x.bm, .int .i64 x.br, .slice SA ns sc, .slice (some ⟨cqb, cqo, none⟩) nc cc, .slice KA x.cost.length kc, .slice TA N tc] 39) from mo_rest 0) 2 rfl
       have q3 : ∀ d, (cw d).cell? ⟨xb, 3, none⟩ = some (.int .i64 x.bm) := fun d => (hC d).tail.cell (ps.length + 1 + 0) (show (MO (.slice (some ⟨g, 0, none⟩) N N) ps [.blk xb #[.int .i64 x.fin, .int .i64 x.tm, .int .i64 x.tr, .int .i64 x.bm, .int .i64 x.br, .slice SA ns sc, .slice (some ⟨cqb, cqo, none⟩) nc cc, .slice KA x.cost.length kc, .slice TA N tc] 39])[ps.length + 1 + 0]? = some (.blk xb #[.int .i64 x.fin, .int .i64 x.tm, .int .i64 x.tr, .int .i64 x.bm, .int .i64 x.br, .slice SA ns sc, .slice (some ⟨cqb, cqo, none⟩) nc cc, .slice KA x.cost.length kc, .slice TA N tc] 39) from mo_rest 0) 3 rfl
       have q4 : ∀ d, (cw d).cell? ⟨xb, 4, none⟩ = some (.int .i64 x.br) := fun d => (hC d).tail.cell (ps.length + 1 + 0) (show (MO (.slice (some ⟨g, 0, none⟩) N N) ps [.blk xb #[.int .i64 x.fin, .int .i64 x.tm, .int .i64 x.tr, .int .i64 x.bm, .int .i64 x.br, .slice SA ns sc, .slice (some ⟨cqb, cqo, none⟩) nc cc, .slice KA x.cost.length kc, .slice TA N tc] 39])[ps.length + 1 + 0]? = some (.blk xb #[.int .i64 x.fin, .int .i64 x.tm, .int .i64 x.tr, .int .i64 x.bm, .int .i64 x.br, .slice SA ns sc, .slice (some ⟨cqb, cqo, none⟩) nc cc, .slice KA x.cost.length kc, .slice TA N tc] 39) from mo_rest 0) 4 rfl
       have q5 : ∀ d, (cw d).cell? ⟨xb, 5, none⟩ = some (.slice SA ns sc) := fun d => (hC d).tail.cell (ps.length + 1 + 0) (show (MO (.slice (some ⟨g, 0, none⟩) N N) ps [.blk xb #[.int .i64 x.fin, .int .i64 x.tm, .int .i64 x.tr, .int .i64 x.bm, .int .i64 x.br, .slice SA ns sc, .slice (some ⟨cqb, cqo, none⟩) nc cc, .slice KA x.cost.length kc, .slice TA N tc] 39])[ps.length + 1 + 0]? = some (.blk xb #[.int .i64 x.fin, .int .i64 x.tm, .int .i64 x.tr, .int .i64 x.bm, .int .i64 x.br, .slice SA ns sc, .slice (some ⟨cqb, cqo, none⟩) nc cc, .slice KA x.cost.length kc, .slice TA N tc] 39) from mo_rest 0) 5 rfl
       have q6 : ∀ d, (cw d).cell? ⟨xb, 6, none⟩ = some (.slice (some ⟨cqb, cqo, none⟩) nc cc) := fun d => (hC d).tail.cell (ps.length + 1 + 0) (show (MO (.slice (some ⟨g, 0, none⟩) N N) ps [.blk xb #[.int .i64 x.fin, .int .i64 x.tm, .int .i64 x.tr, .int .i64 x.bm, .int .i64 x.br, .slice SA ns sc, .slice (some ⟨cqb, cqo, none⟩) nc cc, .slice KA x.cost.length kc, .slice TA N tc] 39])[ps.length + 1 + 0]? = some (.blk xb #[.int .i64 x.fin, .int .i64 x.tm, .int .i64 x.tr, .int .i64 x.bm, .int .i64 x.br, .slice SA ns sc, .slice (some ⟨cqb, cqo, none⟩) nc cc, .slice KA x.cost.length kc, .slice TA N tc] 39) from mo_rest 0) 6 rfl
       have q7 : ∀ d, (cw d).cell? ⟨xb, 7, none⟩ = some (.slice KA x.cost.length kc) := fun d => (hC d).tail.cell (ps.length + 1 + 0) (show (MO (.slice (some ⟨g, 0, none⟩) N N) ps [.blk xb #[.int .i64 x.fin, .int .i64 x.tm, .int .i64 x.tr, .int .i64 x.bm, .int .i64 x.br, .slice SA ns sc, .slice (some ⟨cqb, cqo, none⟩) nc cc, .slice KA x.cost.length kc, .slice TA N tc] 39])[ps.length + 1 + 0]? = some (.blk xb #[.int .i64 x.fin, .int .i64 x.tm, .int .i64 x.tr, .int .i64 x.bm, .int .i64 x.br, .slice SA ns sc, .slice (some ⟨cqb, cqo, none⟩) nc cc, .slice KA x.cost.length kc, .slice TA N tc] 39) from mo_rest 0) 7 rfl
       have q8 : ∀ d, (cw d).cell? ⟨xb, 8, none⟩ = some (.slice TA N tc) := fun d => (hC d).tail.cell (ps.length + 1 + 0) (show (MO (.slice (some ⟨g, 0, none⟩) N N) ps [.blk xb #[.int .i64 x.fin, .int .i64 x.tm, .int .i64 x.tr, .int .i64 x.bm, .int .i64 x.br, .slice SA ns sc, .slice (some ⟨cqb, cqo, none⟩) nc cc, .slice KA x.cost.length kc, .slice TA N tc] 39])[ps.length + 1 + 0]? = some (.blk xb #[.int .i64 x.fin, .int .i64 x.tm, .int .i64 x.tr, .int .i64 x.bm, .int .i64 x.br, .slice SA ns sc, .slice (some ⟨cqb, cqo, none⟩) nc cc, .slice KA x.cost.length kc, .slice TA N tc] 39) from mo_rest 0) 8 rfl
       repeat (refine pl_look rfl rfl rfl (fun Kv hK => ?_); go_big_quiet_op; refine hK _ ?_; clear hK Kv)
       clear q0 q1 q2 q3 q4 q5 q6 q7 q8 qa qb hC
       refine pl_end ?_
       intro w4 hS4
       clear hS2
       refine pm_eff rfl rfl fun Kv hK => ?_
       go_simp
       refine eff_call (HA1.out w4) (fun e w5 h => ?_)
       obtain ⟨rfl, hb⟩ := h
       have hS5 := hS4.call hb
       refine .inl ⟨_, rfl, hS5.sub (.cons_cons _ (.cons _ (.cons _ (List.Sublist.refl _)))), hK _ _ ?_⟩
       clear hK Kv hb hS4
       have y1 : w5.cell? ⟨g0, o0 + j1, none⟩ = some (.int .i64 fv) := by rw [mo_numN HM.out hS5.tail.tail.tail h1p HV0.out hjN, HFV.out]
       refine pm_eff rfl rfl fun Kv hK => ?_
       go_simp
       refine ⟨hS5.sub (.cons_cons _ (.cons _ (.cons _ (List.Sublist.refl _)))), hK _ _ ?_⟩
       clear hK Kv
       refine pm_eff rfl rfl fun Kv hK => ?_
       go_simp
       refine ⟨hS5.sub (.cons_cons _ (.cons _ (.cons _ (List.Sublist.refl _)))), hK _ _ ?_⟩
       clear hK Kv
       clear y1
       refine pm_eff rfl rfl fun Kv hK => ?_
       go_simp
       refine ⟨(hS5.alloc _ _).sub (.cons _ (.cons_cons _ (.cons _ (.cons _ (List.Sublist.refl _))))), hK _ _ ?_⟩
       clear hK Kv
       refine pm_append rfl rfl (.tmp 58) (.tmp 69) 51 rfl hS5 1 i1 _ 1 8 Try.underlying51 HI1.out.1 HI1.out.2.1 HI1.out.2.2.1 HI1.out.2.2.2 rfl (by decide) _ _ 1 _ rfl rfl _ rfl rfl (by decide) rfl (by simp [Value.oneCell']) (by omega) (by decide) ?_
       intro v1 w6 hS6 hz7
       refine ⟨hS6.sub (.cons_cons _ (.cons _ (.cons _ (List.Sublist.refl _)))), fun Kv hK => hK _ _ ?_⟩
       clear hz7 hS5
       refine pm_eff rfl rfl fun Kv hK => ?_
       go_simp
       refine eff_call (HA1.out w6) (fun e w7 h => ?_)
       obtain ⟨rfl, hb⟩ := h
       have hS7 := hS6.call hb
       refine .inl ⟨_, rfl, hS7.sub (.cons_cons _ (.cons _ (.cons _ (List.Sublist.refl _)))), hK _ _ ?_⟩
       clear hK Kv hb hS6
       have y1 : w7.cell? ⟨g, j1, none⟩ = some (.slice (some ⟨gj, oj, none⟩) N cj) := mo_headN hpl hS7.tail.tail.tail hjp HVJ.out
       have y2 : w7.cell? ⟨gj, oj + s1, none⟩ = some (.int .i64 bv) := by rw [mo_numN HM.out hS7.tail.tail.tail hjp HVJ.out hs1N, HBV.out]
       refine pm_eff rfl rfl fun Kv hK => ?_
       go_simp
       refine ⟨hS7.sub (.cons_cons _ (.cons _ (.cons _ (List.Sublist.refl _)))), hK _ _ ?_⟩
       clear hK Kv
       refine pm_eff rfl rfl fun Kv hK => ?_
       go_simp
       refine ⟨hS7.sub (.cons_cons _ (.cons _ (.cons _ (List.Sublist.refl _)))), hK _ _ ?_⟩
       clear hK Kv
       refine pm_eff rfl rfl fun Kv hK => ?_
       go_simp
       refine ⟨hS7.sub (.cons_cons _ (.cons _ (.cons _ (List.Sublist.refl _)))), hK _ _ ?_⟩
       clear hK Kv
       refine pm_eff rfl rfl fun Kv hK => ?_
       go_simp
       refine ⟨hS7.sub (.cons_cons _ (.cons _ (.cons _ (List.Sublist.refl _)))), hK _ _ ?_⟩
       clear hK Kv
       refine pm_eff rfl rfl fun Kv hK => ?_
       go_simp
       refine ⟨hS7.sub (.cons_cons _ (.cons _ (.cons _ (List.Sublist.refl _)))), hK _ _ ?_⟩
       clear hK Kv
       clear y1 y2
       refine pm_eff rfl rfl fun Kv hK => ?_
       go_simp
       refine ⟨(hS7.alloc _ _).sub (.cons _ (.cons_cons _ (.cons _ (.cons _ (List.Sublist.refl _))))), hK _ _ ?_⟩
       clear hK Kv
       refine pm_append rfl rfl (.tmp 71) (.tmp 85) 51 rfl hS7 2 i1 _ 1 8 Try.underlying51 HI1.out.1 HI1.out.2.1 HI1.out.2.2.1 HI1.out.2.2.2 rfl (by decide) _ _ 1 _ rfl rfl _ rfl rfl (by decide) rfl (by simp [Value.oneCell']) (by omega) (by decide) ?_
       intro v2 w8 hS8 hz7
       refine ⟨hS8.sub (.cons_cons _ (.cons _ (.cons _ (List.Sublist.refl _)))), fun Kv hK => hK _ _ ?_⟩
       clear hz7 hS7
       refine pm_end ?_
       have HS9 : Hid (SL w w.heap.size (.row 2 1 v1 (c + 1) ((O.take c).map (.int .i64) ++ [.int .i64 fv]) :: .row 2 1 v2 (c + 1) ((K.take c).map (.int .i64) ++ [.int .i64 (sv + bv)]) :: MO (.slice (some ⟨g, 0, none⟩) N N) ps [.blk xb #[.int .i64 x.fin, .int .i64 x.tm, .int .i64 x.tr, .int .i64 x.bm, .int .i64 x.br, .slice SA ns sc, .slice (some ⟨cqb, cqo, none⟩) nc cc, .slice KA x.cost.length kc, .slice TA N tc] 39]) w8) := Lib.hid hS8.tail
       clear hS8 hwr hs1i
       go_wp2_with fail
       go_roundw
       case rel => exact ⟨c + 1, by omega, by go_num, by
        rw [HTO.out, HTK.out, List.map_append, List.map_append]
        exact HS9.out⟩
       case measure => simp [intOf]; omega
     · obtain rfl : nc = c := by omega
       have HTO : Hid (O.take nc = O) := Lib.hid (List.take_of_length_le (by rw [HOL.out]; exact Nat.le_refl _))
       have HTK : Hid (K.take nc = K) := Lib.hid (List.take_of_length_le (by rw [HBL.out]; exact Nat.le_refl _))
       have HS := Lib.hid hS
       clear hS hlt
       go_wp2_with fail
       go_ret2
       have h := HS.out
       rw [HTO.out, HTK.out] at h
       refine ⟨A4, c4, A5, c5, by rw [HOL.out, HBL.out]; rfl, ?_, ?_, h.below⟩
       · have h2 := h.reads 0 rfl
         unfold IntsAt
         rw [HOL.out]
         exact h2
       · have h2 := h.reads 1 rfl
         unfold IntsAt
         rw [HBL.out]
         exact h2
end Go.Proofs.Ytjpejclfppbboaa
