/- reach.Ready, of an instance that may be. (printed by gen/reachc.py) -/
import Derived.Test.YtjpejclfppbboaaReachB
import Derived.Deep.CutBlock
import Derived.Deep.CutRange
import Derived.Deep.DeepCutAuto
namespace Go.Proofs.Ytjpejclfppbboaa
open Go.ChangeShapes Go.WideShapes Go.ChangeAt Go.RowKit
set_option linter.unusedVariables false
set_option linter.unusedSimpArgs false
theorem apart_bd {n : Nat} {T : Nat → Nat → Int} {st : Nat → Int} {I : Nat → Bool} (hT : ∀ i k, 0 ≤ T i k ∧ T i k ≤ 10000) (hst : ∀ i, 0 ≤ st i) {s v : Nat} (h1 : I s = true) (h2 : I v = true) (hne : s ≠ v) : 0 ≤ apartM n T st I s v ∧ apartM n T st I s v ≤ 10000 := by
 have hW := ways_apart (n := n) (I := I) (fun i k => (hT i k).1) hst
 have h3 := loopR_mono (I := I) (st := st) (n := n) n (startD I T) s v
 have e : startD I T s v = T s v := by unfold startD; rw [if_neg hne, if_pos ⟨h1, h2⟩]
 have h4 := hT s v
 refine ⟨hW.pos s v, ?_⟩
 unfold apartM
 omega
theorem ready_len (x : InstV) : (readyM x).length = x.sats.length := by unfold readyM; simp
theorem ready_far {x : InstV} (h : x.Fit) {far by_ : Nat → Int} (hL : Looked (1 + x.sats.length) (arcsUp (inSat x) (fun i k => timeF x i k + (fun _ => 0) i) (1 + x.sats.length) (1 + x.sats.length)) 0 far by_) {i : Nat} (hi : i < x.sats.length) :
 (0 ≤ far (1 + i) ∧ far (1 + i) ≤ 10000) ∧ (readyM x)[i]? = some (far (1 + i) + (x.sats[i]'hi).hold) := by
 have h0 : inSat x 0 = true := by unfold inSat; rw [decide_eq_true_eq]; omega
 have h1 : inSat x (1 + i) = true := by unfold inSat; rw [decide_eq_true_eq]; omega
 have hs := h.sats
 have e := near_out (n := x.n) (by unfold InstV.n; omega) (by omega) (fun i hi => by unfold inSat at hi; simpa using hi) (fun i k => by have := time_in h i k; omega) (fun i => by simp) hL h0 h1 (by omega)
 simp only [Int.add_zero] at e
 have hb := apart_bd (n := x.n) (st := fun _ => 0) (time_in h) (fun i => Int.le_refl 0) h0 h1 (by omega)
 rw [← e] at hb
 refine ⟨hb, ?_⟩
 unfold readyM
 rw [List.getElem?_map, List.getElem?_range hi, Option.map_some, ← e]
 congr 2
 simp [hi]
def ReadyR (W : World) (l : List Int) (e : Ending) (w' : World) : Prop := ∃ A c, e = .returned (.slice A l.length c) ∧ IntsAt w' w'.heap.size A l ∧ Below W.heap.size W w'
set_option maxRecDepth 100000 in
set_option maxHeartbeats 8000000 in
theorem ready_any (x : InstV) (p : IAt) (w : World) (hI : InstIn w w.heap.size p x) (hF : x.Fit) :
 Calls Try.prog 28 #[.agg (x.cells p)] w (ReadyR w (readyM x)) := by
 obtain ⟨tb, to_, c9, b9, o9, hTA, _⟩ := time_at hI hF (i := 0) (k := 0) (by unfold InstV.n; omega) (by unfold InstV.n; omega)
 obtain ⟨sqb, sqo, hSA, hq9⟩ := sats_at hI.sats (k := 0) (by have := hF.sats; omega)
 have HCK : Hid (∀ wx, Below w.heap.size w wx → Calls Try.prog 24 #[.agg (x.cells p)] wx fun e w' => e = .returned (.int .i64 0) ∧ Below wx.heap.size wx w') := Lib.hid (fun wx hb => by rw [← hF.code]; exact check_any x p wx (hI.at_ hb) hF.lens)
 obtain ⟨SA, sc, CA, cc, KA, kc, TA, tc⟩ := p
 simp only at hTA hSA
 subst hTA hSA
 unfold InstV.cells at HCK ⊢
 have HI := Lib.hid hI
 have HF := Lib.hid hF
 obtain ⟨i0, hi0, hz0, hz1, hz2⟩ := info_parts arc_info
 have HI0 := Lib.hid (And.intro hi0 (And.intro hz0 (And.intro hz1 hz2)))
 obtain ⟨i1, hi1, hy0, hy1, hy2⟩ := info_parts int64_info
 have HI1 := Lib.hid (And.intro hi1 (And.intro hy0 (And.intro hy1 hy2)))
 obtain ⟨ns, hns⟩ : ∃ n, x.sats.length = n := ⟨_, rfl⟩
 have HNS := Lib.hid hns
 have hn3 : ns ≤ 3 := by have := hF.sats; omega
 rw [hns] at HCK ⊢
 have hS := (SL.start (W := w) (Nat.le_refl w.heap.size)).alloc #[.int .i64 x.fin, .int .i64 x.tm, .int .i64 x.tr, .int .i64 x.bm, .int .i64 x.br, .slice (some ⟨sqb, sqo, none⟩) ns sc, .slice CA x.custs.length cc, .slice KA x.cost.length kc, .slice (some ⟨tb, to_, none⟩) x.time.length tc] 39
 obtain ⟨xb, hxb⟩ : ∃ b, w.heap.size = b := ⟨_, rfl⟩
 obtain ⟨w0, hw0⟩ : ∃ y, w.alloc (.cells #[.int .i64 x.fin, .int .i64 x.tm, .int .i64 x.tr, .int .i64 x.bm, .int .i64 x.br, .slice (some ⟨sqb, sqo, none⟩) ns sc, .slice CA x.custs.length cc, .slice KA x.cost.length kc, .slice (some ⟨tb, to_, none⟩) x.time.length tc] 39) = y := ⟨_, rfl⟩
 have HS0 : Hid (SL w w.heap.size [.blk xb #[.int .i64 x.fin, .int .i64 x.tm, .int .i64 x.tr, .int .i64 x.bm, .int .i64 x.br, .slice (some ⟨sqb, sqo, none⟩) ns sc, .slice CA x.custs.length cc, .slice KA x.cost.length kc, .slice (some ⟨tb, to_, none⟩) x.time.length tc] 39] w0) := Lib.hid (by rw [← hxb, ← hw0]; exact hS)
 have HW := Lib.hid (And.intro hxb hw0)
 clear hS hxb hw0 hI hF hi0 hz0 hz1 hz2 hi1 hy0 hy1 hy2 hq9 hns
 go_enter Try.func28, Try.ntmps28
 go_upto_region 1 with fail
 rw [HW.out.2, HW.out.1]
 have d0 : w0.cell? ⟨xb, 0, none⟩ = some (.int .i64 x.fin) := HS0.out.cell 0 rfl 0 rfl
 have d1 : w0.cell? ⟨xb, 1, none⟩ = some (.int .i64 x.tm) := HS0.out.cell 0 rfl 1 rfl
 have d2 : w0.cell? ⟨xb, 2, none⟩ = some (.int .i64 x.tr) := HS0.out.cell 0 rfl 2 rfl
 have d3 : w0.cell? ⟨xb, 3, none⟩ = some (.int .i64 x.bm) := HS0.out.cell 0 rfl 3 rfl
 have d4 : w0.cell? ⟨xb, 4, none⟩ = some (.int .i64 x.br) := HS0.out.cell 0 rfl 4 rfl
 have d5 : w0.cell? ⟨xb, 5, none⟩ = some (.slice (some ⟨sqb, sqo, none⟩) ns sc) := HS0.out.cell 0 rfl 5 rfl
 have d6 : w0.cell? ⟨xb, 6, none⟩ = some (.slice CA x.custs.length cc) := HS0.out.cell 0 rfl 6 rfl
 have d7 : w0.cell? ⟨xb, 7, none⟩ = some (.slice KA x.cost.length kc) := HS0.out.cell 0 rfl 7 rfl
 have d8 : w0.cell? ⟨xb, 8, none⟩ = some (.slice (some ⟨tb, to_, none⟩) x.time.length tc) := HS0.out.cell 0 rfl 8 rfl
 go_upto_region 3 with (go_at_call 24; (with_reducible refine (HCK.out _ HS0.out.below).mono ?_); rintro e w1 ⟨rfl, hb⟩
                        have HS1 : Hid (SL w w.heap.size [.blk xb #[.int .i64 x.fin, .int .i64 x.tm, .int .i64 x.tr, .int .i64 x.bm, .int .i64 x.br, .slice (some ⟨sqb, sqo, none⟩) ns sc, .slice CA x.custs.length cc, .slice KA x.cost.length kc, .slice (some ⟨tb, to_, none⟩) x.time.length tc] 39] w1) := Lib.hid (HS0.out.call hb)
                        clear hb)
 clear d0 d1 d2 d3 d4 d5 d6 d7 d8 HCK HS0 HW
 have d5 : w1.cell? ⟨xb, 5, none⟩ = some (.slice (some ⟨sqb, sqo, none⟩) ns sc) := HS1.out.cell 0 rfl 5 rfl
 have hS2 := HS1.out.alloc #[.int .i64 (1 + ns : Int), .slice none 0 0] 111
 go_upto_region 4 with fail
 clear HS1 d5
 obtain ⟨gb, hgb⟩ : ∃ b, w1.heap.size = b := ⟨_, rfl⟩
 obtain ⟨w2, hw2⟩ : ∃ y, w1.alloc (.cells #[.int .i64 (1 + ns : Int), .slice none 0 0] 111) = y := ⟨_, rfl⟩
 rw [hgb, hw2] at hS2 ⊢
 clear hgb hw2
 obtain ⟨N, hN⟩ : ∃ N : Nat, 1 + ns = N := ⟨_, rfl⟩
 have hNi : (1 + ns : Int) = (N : Int) := by omega
 rw [hNi] at hS2
 have HNN := Lib.hid hN
 have hN10 : N ≤ 10 := by omega
 have HN : Hid (x.n = 1 + ns + x.custs.length) := Lib.hid (by rw [← HNS.out]; rfl)
 have y0 : w2.cell? ⟨gb, 0, none⟩ = some (.int .i64 (N : Int)) := hS2.cell 0 rfl 0 rfl
 have HSTART := Lib.hid (hS2.nil 113 3)
 clear hS2 hNi
 go_upto_region 11 with fail
 clear y0
 go_loopw [21] (fun iv wr => ∃ (i : Nat) (v : Value), i ≤ N ∧ iv = .int .i64 i ∧ SL w w.heap.size ([.row 113 3 v (arcsUp (inSat x) (fun i k => timeF x i k + (fun _ => 0) i) N i).length (arcCells (arcsUp (inSat x) (fun i k => timeF x i k + (fun _ => 0) i) N i)), .blk gb #[.int .i64 (N : Int), v] 111, .blk xb #[.int .i64 x.fin, .int .i64 x.tm, .int .i64 x.tr, .int .i64 x.bm, .int .i64 x.br, .slice (some ⟨sqb, sqo, none⟩) ns sc, .slice CA x.custs.length cc, .slice KA x.cost.length kc, .slice (some ⟨tb, to_, none⟩) x.time.length tc] 39]) wr) (fun iv _ => N - (intOf iv).toNat)
 case atStart => exact ⟨0, _, by omega, rfl, HSTART.out⟩
 case round =>
  clear HSTART
  obtain ⟨i, v, hi, rfl, hS⟩ := hrel
  have y0 : wr.cell? ⟨gb, 0, none⟩ = some (.int .i64 (N : Int)) := hS.cell 1 rfl 0 rfl
  by_cases hlt : i < N
  · have HS := Lib.hid hS
    clear hS
    obtain ⟨wo, rfl⟩ : ∃ wo : World, wo = wr := ⟨_, rfl⟩
    go_upto_region 11 with fail
    clear y0
    go_loopw [26] (fun iv wr => ∃ (k : Nat) (v : Value), k ≤ N ∧ iv = .int .i64 k ∧ SL w w.heap.size ([.row 113 3 v (arcsUp (inSat x) (fun i k => timeF x i k + (fun _ => 0) i) N i ++ arcRow (inSat x) (fun i k => timeF x i k + (fun _ => 0) i) i k).length (arcCells (arcsUp (inSat x) (fun i k => timeF x i k + (fun _ => 0) i) N i ++ arcRow (inSat x) (fun i k => timeF x i k + (fun _ => 0) i) i k)), .blk gb #[.int .i64 (N : Int), v] 111, .blk xb #[.int .i64 x.fin, .int .i64 x.tm, .int .i64 x.tr, .int .i64 x.bm, .int .i64 x.br, .slice (some ⟨sqb, sqo, none⟩) ns sc, .slice CA x.custs.length cc, .slice KA x.cost.length kc, .slice (some ⟨tb, to_, none⟩) x.time.length tc] 39]) wr) (fun iv _ => N - (intOf iv).toNat)
    case atStart => exact ⟨0, v, by omega, rfl, by rw [show arcRow (inSat x) (fun i k => timeF x i k + (fun _ => 0) i) i 0 = [] from rfl, List.append_nil]; exact HS.out⟩
    case round =>
     clear HS
     obtain ⟨k, v, hk, rfl, hS⟩ := hrel
     by_cases hkl : k < N
     · have HNX : Hid (∀ b : Bool, (decide (i ≠ k) && ((inSat x) i && (inSat x) k)) = b → arcsUp (inSat x) (fun i k => timeF x i k + (fun _ => 0) i) N i ++ arcRow (inSat x) (fun i k => timeF x i k + (fun _ => 0) i) i (k + 1) = (arcsUp (inSat x) (fun i k => timeF x i k + (fun _ => 0) i) N i ++ arcRow (inSat x) (fun i k => timeF x i k + (fun _ => 0) i) i k) ++ if b = true then [(⟨(i : Int), (k : Int), (fun i k => timeF x i k + (fun _ => 0) i) i k⟩ : ArcV)] else []) := Lib.hid (fun b hb => by rw [arcRow_succ, hb, List.append_assoc])
       have HLN : Hid ((arcsUp (inSat x) (fun i k => timeF x i k + (fun _ => 0) i) N i ++ arcRow (inSat x) (fun i k => timeF x i k + (fun _ => 0) i) i k).length ≤ 1000) := Lib.hid (by
        rw [List.length_append]
        have h1 := arcsUp_len (inSat x) (fun i k => timeF x i k + (fun _ => 0) i) N i
        have h2 := arcRow_len (inSat x) (fun i k => timeF x i k + (fun _ => 0) i) i k
        have h3 : i * N ≤ 10 * 10 := Nat.mul_le_mul (by omega) hN10
        omega)
       obtain ⟨L, hL⟩ : ∃ L, arcsUp (inSat x) (fun i k => timeF x i k + (fun _ => 0) i) N i ++ arcRow (inSat x) (fun i k => timeF x i k + (fun _ => 0) i) i k = L := ⟨_, rfl⟩
       rw [hL] at hS HNX HLN
       clear hL
       by_cases c0 : i = k
       · have t0 : ((i : Int) != (k : Int)) = false := by rw [c0]; simp
         have HN1 : Hid (arcsUp (inSat x) (fun i k => timeF x i k + (fun _ => 0) i) N i ++ arcRow (inSat x) (fun i k => timeF x i k + (fun _ => 0) i) i (k + 1) = L) := Lib.hid (by rw [HNX.out false (by rw [c0]; simp)]; simp)
         have HS := Lib.hid hS
         clear hS c0
         go_wp2_with fail
         go_roundw
         case rel => exact ⟨k + 1, v, by omega, by go_num, by rw [HN1.out]; exact HS.out⟩
         case measure => simp [intOf]; omega
       · have t0 : ((i : Int) != (k : Int)) = true := by rw [bne_iff_ne]; omega
         have HN1 : Hid (arcsUp (inSat x) (fun i k => timeF x i k + (fun _ => 0) i) N i ++ arcRow (inSat x) (fun i k => timeF x i k + (fun _ => 0) i) i (k + 1) = L ++ [(⟨(i : Int), (k : Int), (fun i k => timeF x i k + (fun _ => 0) i) i k⟩ : ArcV)]) := Lib.hid (by
          rw [HNX.out true (by unfold inSat; rw [HNS.out]; simp [c0]; omega), if_pos rfl])
         have HS2 := Lib.hid hS
         clear hS HNX c0
         go_upto_region 11 with fail
         have hS2 := HS2.out
         obtain ⟨b, o, c9, b2', o2, hA, hbB, e1, hb2B, e2⟩ := time_at HI.out HF.out (i := i) (k := k) (by have := HN.out; have := HNN.out; omega) (by have := HN.out; have := HNN.out; omega)
         obtain ⟨rfl, rfl⟩ : tb = b ∧ to_ = o := by simpa using hA
         obtain ⟨tv, htv⟩ : ∃ t, timeF x i k = t := ⟨_, rfl⟩
         have htb := time_in HF.out i k
         rw [htv] at e2 htb
         obtain ⟨ht0, ht1⟩ := htb
         have HN2 : Hid (arcsUp (inSat x) (fun i k => timeF x i k + (fun _ => 0) i) N i ++ arcRow (inSat x) (fun i k => timeF x i k + (fun _ => 0) i) i (k + 1) = L ++ [(⟨(i : Int), (k : Int), tv⟩ : ArcV)]) := Lib.hid (HN1.out.trans (by rw [← htv]; simp))
         clear htv hA
         refine wp_region_sl [0, 1, 2, 3, 4, 5, 6, 7, 8, 9, 10, 11, 12] [13, 14] [15, 16] [.blk gb #[.int .i64 (N : Int), v] 111, .blk xb #[.int .i64 x.fin, .int .i64 x.tm, .int .i64 x.tr, .int .i64 x.bm, .int .i64 x.br, .slice (some ⟨sqb, sqo, none⟩) ns sc, .slice CA x.custs.length cc, .slice KA x.cost.length kc, .slice (some ⟨tb, to_, none⟩) x.time.length tc] 39] hS2 (.cons _ (.cons_cons _ (.cons_cons _ (List.nil_sublist _)))) (by kernel_rfl) (by kernel_rfl) (.cons rfl (.cons rfl .nil)) (fun C cw _ hC => ?_)
         have q9 : ∀ d, (cw d).cell? ⟨gb, 1, none⟩ = some v := fun d => (hC d).cell 0 rfl 1 rfl
         have qa : ∀ d, (cw d).cell? ⟨tb, to_ + i, none⟩ = some (.slice (some ⟨b2', o2, none⟩) x.n c9) := fun d => ((hC d).below.cell (p := ⟨tb, to_ + i, none⟩) hbB).trans e1
         have qb : ∀ d, (cw d).cell? ⟨b2', o2 + k, none⟩ = some (.int .i64 tv) := fun d => ((hC d).below.cell (p := ⟨b2', o2 + k, none⟩) hb2B).trans e2
         have q0 : ∀ d, (cw d).cell? ⟨xb, 0, none⟩ = some (.int .i64 x.fin) := fun d => (hC d).cell 1 rfl 0 rfl
         have q1 : ∀ d, (cw d).cell? ⟨xb, 1, none⟩ = some (.int .i64 x.tm) := fun d => (hC d).cell 1 rfl 1 rfl
         have q2 : ∀ d, (cw d).cell? ⟨xb, 2, none⟩ = some (.int .i64 x.tr) := fun d => (hC d).cell 1 rfl 2 rfl
         have q3 : ∀ d, (cw d).cell? ⟨xb, 3, none⟩ = some (.int .i64 x.bm) := fun d => (hC d).cell 1 rfl 3 rfl
         have q4 : ∀ d, (cw d).cell? ⟨xb, 4, none⟩ = some (.int .i64 x.br) := fun d => (hC d).cell 1 rfl 4 rfl
         have q5 : ∀ d, (cw d).cell? ⟨xb, 5, none⟩ = some (.slice (some ⟨sqb, sqo, none⟩) ns sc) := fun d => (hC d).cell 1 rfl 5 rfl
         have q6 : ∀ d, (cw d).cell? ⟨xb, 6, none⟩ = some (.slice CA x.custs.length cc) := fun d => (hC d).cell 1 rfl 6 rfl
         have q7 : ∀ d, (cw d).cell? ⟨xb, 7, none⟩ = some (.slice KA x.cost.length kc) := fun d => (hC d).cell 1 rfl 7 rfl
         have q8 : ∀ d, (cw d).cell? ⟨xb, 8, none⟩ = some (.slice (some ⟨tb, to_, none⟩) x.time.length tc) := fun d => (hC d).cell 1 rfl 8 rfl
         have hkn : k < x.n := by have := HN.out; have := HNN.out; omega
         have hin : i < x.n := by have := HN.out; have := HNN.out; omega
         have htl : i < x.time.length := by rw [HF.out.timeLen.1]; exact hin
         repeat (refine pl_look rfl rfl rfl (fun Kv hK => ?_); go_big_quiet_op; refine hK _ ?_; clear hK Kv)
         clear q0 q1 q2 q3 q4 q5 q6 q7 q8 q9 qa qb hC HS2
         refine pl_end ?_
         intro w4 hS4
         clear hS2
         refine pm_eff rfl rfl fun Kv hK => ?_
         go_simp
         refine ⟨(hS4.alloc _ _).sub (.cons _ (.cons _ (.cons_cons _ (.cons_cons _ (List.nil_sublist _))))), hK _ _ ?_⟩
         clear hK Kv
         refine pm_append rfl rfl (.tmp 33) (.tmp 45) 109 rfl hS4 0 i0 _ 3 24 Try.underlying109 HI0.out.1 HI0.out.2.1 HI0.out.2.2.1 HI0.out.2.2.2 rfl (by decide) v _ 1 _ rfl rfl _ rfl rfl (by decide) rfl (by simp [Value.oneCell']) (by have := HLN.out; omega) (by decide) ?_
         intro v' w6 hS6 hz6
         refine ⟨hS6.sub (.cons _ (.cons_cons _ (.cons_cons _ (List.nil_sublist _)))), fun Kv hK => hK _ _ ?_⟩
         refine pm_end ?_
         have hS7 : SL w w.heap.size [.row 113 3 v' (L.length + 1) (arcCells L ++ [.int .i64 (i : Int), .int .i64 (k : Int), .int .i64 tv]), .blk gb #[.int .i64 (N : Int), v] 111, .blk xb #[.int .i64 x.fin, .int .i64 x.tm, .int .i64 x.tr, .int .i64 x.bm, .int .i64 x.br, .slice (some ⟨sqb, sqo, none⟩) ns sc, .slice CA x.custs.length cc, .slice KA x.cost.length kc, .slice (some ⟨tb, to_, none⟩) x.time.length tc] 39] w6 := hS6
         obtain ⟨A', c', rfl, _, _⟩ := (hS7.row 0 rfl).slice_
         have e1' : w6.cell? ⟨gb, 1, none⟩ = some v := hS7.cell 1 rfl 1 rfl
         have e2' := hS7.free 1 rfl 1
         have HS8 : Hid (SL w w.heap.size _ _) := Lib.hid (hS7.setCell 1 rfl 1 (.slice A' (L.length + 1) c'))
         clear hS6 hS7 hS4 hz6 e1 e2 hbB hb2B hkn hin htl
         go_wp2_with fail
         go_roundw
         case rel => exact ⟨k + 1, .slice A' (L.length + 1) c', by omega, by go_num, by
          rw [HN2.out, arcCells_snoc, List.length_append]
          exact HS8.out⟩
         case measure => simp [intOf]; omega
     · obtain rfl : N = k := by omega
       have HN1 : Hid (arcsUp (inSat x) (fun i k => timeF x i k + (fun _ => 0) i) N (i + 1) = arcsUp (inSat x) (fun i k => timeF x i k + (fun _ => 0) i) N i ++ arcRow (inSat x) (fun i k => timeF x i k + (fun _ => 0) i) i N) := Lib.hid (by rw [arcsUp_succ])
       have HS := Lib.hid hS
       clear hS
       go_wp2_with fail
       go_roundw
       case rel => exact ⟨i + 1, v, by omega, by go_num, by rw [HN1.out]; exact HS.out⟩
       case measure => simp [intOf]; omega
  · obtain rfl : N = i := by omega
    obtain ⟨A', c', rfl, _, _⟩ := (hS.row 0 rfl).slice_
    have y1 : wr.cell? ⟨gb, 1, none⟩ = some (.slice A' (arcsUp (inSat x) (fun i k => timeF x i k + (fun _ => 0) i) N N).length c') := hS.cell 1 rfl 1 rfl
    have hrow := hS.reads 0 rfl
    have hT := fun i k => time_in HF.out i k
    have hck : checkG (N : Int) (arcsUp (inSat x) (fun i k => timeF x i k + (fun _ => 0) i) N N) = 0 := arcs_check (by omega) (fun i k => by have := hT i k; simp only [Int.add_zero]; omega)
    have hln := arcsUp_len (inSat x) (fun i k => timeF x i k + (fun _ => 0) i) N N
    have h00 : ∀ a ∈ (arcsUp (inSat x) (fun i k => timeF x i k + (fun _ => 0) i) N N), 0 ≤ a.wt := fun a ha => by
     obtain ⟨i, k, _, _, _, _, _, rfl⟩ := arcs_mem.1 ha
     have := hT i k
     simp only [Int.add_zero]; omega
    have h3 : N * N ≤ 10 * 10 := Nat.mul_le_mul hN10 hN10
    have h4 : N * ((arcsUp (inSat x) (fun i k => timeF x i k + (fun _ => 0) i) N N).length + 1) ≤ 10 * 101 := Nat.mul_le_mul hN10 (by omega)
    have HNE : Hid (Calls Try.prog 57 #[.agg #[.int .i64 (N : Int), .slice A' (arcsUp (inSat x) (fun i k => timeF x i k + (fun _ => 0) i) N N).length c'], .int .i64 0] wr (NearPost wr N (arcsUp (inSat x) (fun i k => timeF x i k + (fun _ => 0) i) N N) 0)) := Lib.hid (near_any N 0 A' c' (arcsUp (inSat x) (fun i k => timeF x i k + (fun _ => 0) i) N N) wr hrow hck (by have := HNN.out; omega) h00 (by omega))
    have HLF : Hid (∀ far by_, Looked N (arcsUp (inSat x) (fun i k => timeF x i k + (fun _ => 0) i) N N) 0 far by_ → ∀ i (hi : i < x.sats.length), (0 ≤ far (1 + i) ∧ far (1 + i) ≤ 10000) ∧ (readyM x)[i]? = some (far (1 + i) + (x.sats[i]'hi).hold)) := Lib.hid (fun far by_ h i hi => ready_far HF.out (by rw [HNS.out, HNN.out]; exact h) hi)
    obtain ⟨L, hL⟩ : ∃ L, (arcsUp (inSat x) (fun i k => timeF x i k + (fun _ => 0) i) N N) = L := ⟨_, rfl⟩
    rw [hL] at hS y1 HNE HLF
    have HS := Lib.hid hS
    clear hS hL hrow hT hck hln h00 h3 h4 hlt
    go_upto_region 15 with (go_at_call 57; (with_reducible refine HNE.out.mono ?_); rintro e w5 ⟨fb, bb, far, by_, rfl, hq, hlk⟩
                            have hS5 := (HS.out.join hq).alloc #[.slice (some ⟨fb, 0, none⟩) N N, .slice (some ⟨bb, 0, none⟩) N N] 115
                            have HLK := Lib.hid (HLF.out far by_ hlk)
                            clear hq hlk)
    clear HNE HLF y0 y1
    obtain ⟨rb, hrb⟩ : ∃ b, w5.heap.size = b := ⟨_, rfl⟩
    obtain ⟨w6, hw6⟩ : ∃ y, w5.alloc (.cells #[.slice (some ⟨fb, 0, none⟩) N N, .slice (some ⟨bb, 0, none⟩) N N] 115) = y := ⟨_, rfl⟩
    rw [hrb, hw6] at hS5 ⊢
    clear hrb hw6
    have hS6 := SL.nil (hS5.pick (l' := [.blk rb #[.slice (some ⟨fb, 0, none⟩) N N, .slice (some ⟨bb, 0, none⟩) N N] 115, .blk fb (iarr far N) 2, .blk xb #[.int .i64 x.fin, .int .i64 x.tm, .int .i64 x.tr, .int .i64 x.bm, .int .i64 x.br, .slice (some ⟨sqb, sqo, none⟩) ns sc, .slice CA x.custs.length cc, .slice KA x.cost.length kc, .slice (some ⟨tb, to_, none⟩) x.time.length tc] 39]) [0, 1, 5] (by decide) rfl) 2 1
    have HS6 := Lib.hid hS6
    have d5 : w6.cell? ⟨xb, 5, none⟩ = some (.slice (some ⟨sqb, sqo, none⟩) ns sc) := hS6.cell 3 rfl 5 rfl
    have HRL := Lib.hid (ready_len x)
    obtain ⟨R, hR⟩ : ∃ R, readyM x = R := ⟨_, rfl⟩
    have HR := Lib.hid hR
    rw [hR] at HLK HRL
    clear hS5 hS6 HS hR
    go_upto_region 19 with fail
    clear d5
    go_loopw [58, 8] (fun iv v8 wr => ∃ i : Nat, i ≤ ns ∧ iv = .int .i64 i ∧ SL w w.heap.size [.row 2 1 v8 i ((R.take i).map (.int .i64)), .blk rb #[.slice (some ⟨fb, 0, none⟩) N N, .slice (some ⟨bb, 0, none⟩) N N] 115, .blk fb (iarr far N) 2, .blk xb #[.int .i64 x.fin, .int .i64 x.tm, .int .i64 x.tr, .int .i64 x.bm, .int .i64 x.br, .slice (some ⟨sqb, sqo, none⟩) ns sc, .slice CA x.custs.length cc, .slice KA x.cost.length kc, .slice (some ⟨tb, to_, none⟩) x.time.length tc] 39] wr) (fun iv _ _ => ns - (intOf iv).toNat)
    case atStart => exact ⟨0, by omega, rfl, HS6.out⟩
    case round =>
     clear HS6
     obtain ⟨i, hi, rfl, hS⟩ := hrel
     obtain ⟨A8, c8, rfl, _, _⟩ := (hS.row 0 rfl).slice_
     by_cases hlt : i < ns
     · have his : i < x.sats.length := by rw [HNS.out]; exact hlt
       obtain ⟨b, o, hA, hbB, e0, e1⟩ := sats_at HI.out.sats his
       obtain ⟨rfl, rfl⟩ : sqb = b ∧ sqo = o := by simpa using hA
       obtain ⟨⟨hf0, hf1⟩, hrd⟩ := HLK.out i his
       have hsi := (HF.out.satsIn _ (List.getElem_mem his)).2
       obtain ⟨hd, hhd⟩ : ∃ v, (x.sats[i]'his).hold = v := ⟨_, rfl⟩
       obtain ⟨rm, hrm⟩ : ∃ v, (x.sats[i]'his).room = v := ⟨_, rfl⟩
       rw [hhd] at e1 hrd hsi
       rw [hrm] at e0
       obtain ⟨hh0, hh1⟩ := hsi
       have hRi : i < R.length := by rw [HRL.out]; exact his
       have HTK : Hid (R.take (i + 1) = R.take i ++ [far (1 + i) + hd]) := Lib.hid (by
        rw [List.take_succ_eq_append_getElem hRi]
        rw [List.getElem?_eq_getElem hRi] at hrd
        rw [Option.some.inj hrd])
       have d0 := (hS.below.cell (p := ⟨sqb, sqo + i * 2, none⟩) hbB).trans e0
       have d1 := (hS.below.cell (p := ⟨sqb, sqo + i * 2 + 1, none⟩) hbB).trans e1
       have hS2 := hS.alloc #[.int .i64 rm, .int .i64 hd] 97
       have hz1 : sqb < wr.heap.size := Nat.lt_of_lt_of_le hbB hS.size
       have hiN : 1 + i < N := by have := HNN.out; omega
       obtain ⟨fv, hfv⟩ : ∃ f, far (1 + i) = f := ⟨_, rfl⟩
       have HFV := Lib.hid hfv
       rw [hfv] at hf0 hf1 HTK
       clear hS hA hhd hrm hrd e0 e1 hRi hfv
       go_upto_region 19 with fail
       obtain ⟨ar, har⟩ : ∃ ar, wr.heap.size = ar := ⟨_, rfl⟩
       obtain ⟨w9, hw9⟩ : ∃ y, wr.alloc (.cells #[.int .i64 rm, .int .i64 hd] 97) = y := ⟨_, rfl⟩
       rw [har, hw9] at hS2 ⊢
       clear har hw9 d0 d1 hz1
       obtain ⟨j1, hj1⟩ : ∃ j, 1 + i = j := ⟨_, rfl⟩
       rw [hj1] at hiN HFV
       have hwr : IntKind.i64.wrap (fv + hd) = fv + hd := by rw [IntKind.wrap_i64]; omega
       refine wp_region_sl [0,1,2,3,4,5,6,7,8,9] [10,11] [12] [.blk ar #[.int .i64 rm, .int .i64 hd] 97, .blk rb #[.slice (some ⟨fb, 0, none⟩) N N, .slice (some ⟨bb, 0, none⟩) N N] 115, .blk fb (iarr far N) 2] hS2 (.cons_cons _ (.cons _ (.cons_cons _ (.cons_cons _ (List.nil_sublist _))))) (by kernel_rfl) (by kernel_rfl) (.cons rfl .nil) (fun C cw _ hC => ?_)
       have q1 : ∀ d, (cw d).cell? ⟨ar, 1, none⟩ = some (.int .i64 hd) := fun d => (hC d).cell 0 rfl 1 rfl
       have q2 : ∀ d, (cw d).cell? ⟨rb, 0, none⟩ = some (.slice (some ⟨fb, 0, none⟩) N N) := fun d => (hC d).cell 1 rfl 0 rfl
       have q3 : ∀ d, (cw d).cell? ⟨fb, j1, none⟩ = some (.int .i64 fv) := fun d => (hC d).cell 2 rfl j1 (by rw [iarr_get _ _ _ hiN, HFV.out])
       have hjj : (1 : Int) + (i : Int) = (j1 : Int) := by omega
       repeat (refine pl_look rfl rfl rfl (fun Kv hK => ?_); go_big_quiet_op; refine hK _ ?_; clear hK Kv)
       clear q1 q2 q3 hC
       refine pl_end ?_
       intro w4 hS4
       clear hS2
       refine pm_eff rfl rfl fun Kv hK => ?_
       go_simp
       refine ⟨(hS4.alloc _ _).sub (.cons _ (.cons_cons _ (.cons _ (.cons_cons _ (.cons_cons _ (List.nil_sublist _)))))), hK _ _ ?_⟩
       clear hK Kv
       refine pm_append rfl rfl (.tmp 63) (.tmp 73) 51 rfl hS4 1 i1 _ 1 8 Try.underlying51 HI1.out.1 HI1.out.2.1 HI1.out.2.2.1 HI1.out.2.2.2 rfl (by decide) _ _ 1 _ rfl rfl _ rfl rfl (by decide) rfl (by simp [Value.oneCell']) (by omega) (by decide) ?_
       intro v' w7 hS7 hz7
       refine ⟨hS7.sub (.cons_cons _ (.cons _ (.cons_cons _ (.cons_cons _ (List.nil_sublist _))))), fun Kv hK => hK _ _ ?_⟩
       refine pm_end ?_
       have HS8 : Hid (SL w w.heap.size [.row 2 1 v' (i + 1) ((R.take i).map (.int .i64) ++ [.int .i64 (fv + hd)]), .blk rb #[.slice (some ⟨fb, 0, none⟩) N N, .slice (some ⟨bb, 0, none⟩) N N] 115, .blk fb (iarr far N) 2, .blk xb #[.int .i64 x.fin, .int .i64 x.tm, .int .i64 x.tr, .int .i64 x.bm, .int .i64 x.br, .slice (some ⟨sqb, sqo, none⟩) ns sc, .slice CA x.custs.length cc, .slice KA x.cost.length kc, .slice (some ⟨tb, to_, none⟩) x.time.length tc] 39] w7) := Lib.hid hS7.tail
       clear hS7 hS4 hz7 hwr hjj hj1
       go_wp2_with fail
       go_roundw
       case rel => exact ⟨i + 1, by omega, by go_num, by
        rw [HTK.out, List.map_append]
        exact HS8.out⟩
       case measure => simp [intOf]; omega
     · obtain rfl : ns = i := by omega
       have HTK : Hid (R.take ns = R) := Lib.hid (List.take_of_length_le (by rw [HRL.out, HNS.out]; exact Nat.le_refl _))
       have HLR : Hid (R.length = ns) := Lib.hid (by rw [HRL.out, HNS.out])
       have HS := Lib.hid hS
       clear hS hlt
       go_wp2_with fail
       go_ret
       have h := HS.out
       rw [HTK.out] at h
       rw [HR.out]
       refine ⟨A8, c8, by rw [HLR.out]; rfl, ?_, h.below⟩
       have h2 := h.reads 0 rfl
       unfold IntsAt
       rw [HLR.out]
       exact h2
end Go.Proofs.Ytjpejclfppbboaa
