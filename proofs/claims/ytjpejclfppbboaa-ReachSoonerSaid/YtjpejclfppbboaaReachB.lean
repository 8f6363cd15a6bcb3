/- reach.ways, of an instance that may be. (printed by gen/reachb.py) -/
import Derived.Test.YtjpejclfppbboaaReachA
import Derived.Deep.CutBlock
import Derived.Deep.CutRange
import Derived.Deep.DeepCutAuto
namespace Go.Proofs.Ytjpejclfppbboaa
open Go.ChangeShapes Go.WideShapes Go.ChangeAt Go.RowKit
set_option linter.unusedVariables false
set_option linter.unusedSimpArgs false
theorem arcCells_snoc (l : List ArcV) (a : ArcV) : arcCells (l ++ [a]) = arcCells l ++ a.cells := by
 unfold arcCells
 rw [List.flatMap_append]
 simp
def GraphR (W : World) (N : Int) (L : List ArcV) (e : Ending) (w' : World) : Prop :=
 ∃ A c, e = .returned (.agg #[.int .i64 N, .slice A L.length c]) ∧ Arcs w' w'.heap.size A L ∧ Below W.heap.size W w' 
set_option maxRecDepth 100000 in
set_option maxHeartbeats 8000000 in
theorem ways_any (x : InstV) (p : IAt) (s : Nat) (w : World) (hI : InstIn w w.heap.size p x) (hF : x.Fit) (hs : s < x.sats.length) :
 Calls Try.prog 61 #[.agg (x.cells p), .int .i64 (s : Int)] w (GraphR w (x.n : Nat) (arcsUp (inWays x s) (fun i k => timeF x i k + stayF x i) x.n x.n)) := by
 have hs2 : s ≤ 1000 := by have := hF.sats; omega
 obtain ⟨tb, to_, c9, b9, o9, hTA, _⟩ := time_at hI hF (i := 0) (k := 0) (by unfold InstV.n; omega) (by unfold InstV.n; omega)
 obtain ⟨SA, sc, CA, cc, KA, kc, TA, tc⟩ := p
 simp only at hTA
 subst hTA
 have HI := Lib.hid hI
 have HF := Lib.hid hF
 obtain ⟨i0, hi0, hz0, hz1, hz2⟩ := info_parts arc_info
 have HI0 := Lib.hid (And.intro hi0 (And.intro hz0 (And.intro hz1 hz2)))
 have hN10 := hF.n9
 have HNO : Hid (∀ wx, Calls Try.prog 50 #[.agg #[.int .i64 x.fin, .int .i64 x.tm, .int .i64 x.tr, .int .i64 x.bm, .int .i64 x.br, .slice SA x.sats.length sc, .slice CA x.custs.length cc, .slice KA x.cost.length kc, .slice (some ⟨tb, to_, none⟩) x.time.length tc]] wx fun e w' => e = .returned (.int .i64 (x.n : Nat)) ∧ Below wx.heap.size wx w') := Lib.hid (fun wx => instNodes_any x ⟨SA, sc, CA, cc, KA, kc, some ⟨tb, to_, none⟩, tc⟩ wx (by have := hF.sats; omega) (by have := hF.custs; omega))
 have hS := (((SL.start (W := w) (Nat.le_refl w.heap.size)).alloc #[.int .i64 x.fin, .int .i64 x.tm, .int .i64 x.tr, .int .i64 x.bm, .int .i64 x.br, .slice SA x.sats.length sc, .slice CA x.custs.length cc, .slice KA x.cost.length kc, .slice (some ⟨tb, to_, none⟩) x.time.length tc] 39).alloc #[.int .i64 (s : Int)] 3).alloc #[.int .i64 0, .slice none 0 0] 111
 simp only [alloc_size] at hS
 unfold InstV.cells
 obtain ⟨xb, hxb⟩ : ∃ b, w.heap.size = b := ⟨_, rfl⟩
 obtain ⟨sb, hsb⟩ : ∃ b, xb + 1 = b := ⟨_, rfl⟩
 obtain ⟨rb, hrb⟩ : ∃ b, sb + 1 = b := ⟨_, rfl⟩
 obtain ⟨w0, hw0⟩ : ∃ y, ((w.alloc (.cells #[.int .i64 x.fin, .int .i64 x.tm, .int .i64 x.tr, .int .i64 x.bm, .int .i64 x.br, .slice SA x.sats.length sc, .slice CA x.custs.length cc, .slice KA x.cost.length kc, .slice (some ⟨tb, to_, none⟩) x.time.length tc] 39)).alloc (.cells #[.int .i64 (s : Int)] 3)).alloc (.cells #[.int .i64 0, .slice none 0 0] 111) = y := ⟨_, rfl⟩
 have HS0 : Hid (SL w w.heap.size [.blk rb #[.int .i64 0, .slice none 0 0] 111, .blk sb #[.int .i64 (s : Int)] 3, .blk xb #[.int .i64 x.fin, .int .i64 x.tm, .int .i64 x.tr, .int .i64 x.bm, .int .i64 x.br, .slice SA x.sats.length sc, .slice CA x.custs.length cc, .slice KA x.cost.length kc, .slice (some ⟨tb, to_, none⟩) x.time.length tc] 39] w0) := Lib.hid (by rw [← hrb, ← hsb, ← hxb, ← hw0]; exact hS)
 have HW := Lib.hid (And.intro hxb (And.intro hsb (And.intro hrb hw0)))
 obtain ⟨N, hN⟩ : ∃ n, x.n = n := ⟨_, rfl⟩
 have HN := Lib.hid hN
 rw [hN] at HNO hN10
 clear hS hxb hsb hrb hw0 hI hF hi0 hz0 hz1 hz2
 go_enter Try.func61, Try.ntmps61
 go_upto_region 1 with fail
 rw [HW.out.2.2.2, HW.out.1, HW.out.2.1, HW.out.2.2.1]
 have d0 : w0.cell? ⟨xb, 0, none⟩ = some (.int .i64 x.fin) := HS0.out.cell 2 rfl 0 rfl
 have d1 : w0.cell? ⟨xb, 1, none⟩ = some (.int .i64 x.tm) := HS0.out.cell 2 rfl 1 rfl
 have d2 : w0.cell? ⟨xb, 2, none⟩ = some (.int .i64 x.tr) := HS0.out.cell 2 rfl 2 rfl
 have d3 : w0.cell? ⟨xb, 3, none⟩ = some (.int .i64 x.bm) := HS0.out.cell 2 rfl 3 rfl
 have d4 : w0.cell? ⟨xb, 4, none⟩ = some (.int .i64 x.br) := HS0.out.cell 2 rfl 4 rfl
 have d5 : w0.cell? ⟨xb, 5, none⟩ = some (.slice SA x.sats.length sc) := HS0.out.cell 2 rfl 5 rfl
 have d6 : w0.cell? ⟨xb, 6, none⟩ = some (.slice CA x.custs.length cc) := HS0.out.cell 2 rfl 6 rfl
 have d7 : w0.cell? ⟨xb, 7, none⟩ = some (.slice KA x.cost.length kc) := HS0.out.cell 2 rfl 7 rfl
 have d8 : w0.cell? ⟨xb, 8, none⟩ = some (.slice (some ⟨tb, to_, none⟩) x.time.length tc) := HS0.out.cell 2 rfl 8 rfl
 go_upto_region 3 with (go_at_call 50; (with_reducible refine (HNO.out _).mono ?_); rintro e w1 ⟨rfl, hb⟩
                        have hS1 := (HS0.out.call hb).alloc #[.int .i64 (N : Int), .slice none 0 0] 111
                        clear hb)
 clear d0 d1 d2 d3 d4 d5 d6 d7 d8 HS0 HNO HW
 obtain ⟨gb, hgb⟩ : ∃ b, w1.heap.size = b := ⟨_, rfl⟩
 obtain ⟨w2, hw2⟩ : ∃ y, w1.alloc (.cells #[.int .i64 (N : Int), .slice none 0 0] 111) = y := ⟨_, rfl⟩
 rw [hgb, hw2] at hS1 ⊢
 clear hgb hw2
 have y0 : w2.cell? ⟨gb, 0, none⟩ = some (.int .i64 (N : Int)) := hS1.cell 0 rfl 0 rfl
 have HSTART := Lib.hid (hS1.nil 113 3)
 clear hS1
 clear hN
 go_upto_region 10 with fail
 clear y0
 go_loopw [15] (fun iv wr => ∃ (i : Nat) (v : Value), i ≤ N ∧ iv = .int .i64 i ∧ SL w w.heap.size ([.row 113 3 v (arcsUp (inWays x s) (fun i k => timeF x i k + stayF x i) N i).length (arcCells (arcsUp (inWays x s) (fun i k => timeF x i k + stayF x i) N i)), .blk gb #[.int .i64 (N : Int), v] 111, .blk rb #[.int .i64 0, .slice none 0 0] 111, .blk sb #[.int .i64 (s : Int)] 3, .blk xb #[.int .i64 x.fin, .int .i64 x.tm, .int .i64 x.tr, .int .i64 x.bm, .int .i64 x.br, .slice SA x.sats.length sc, .slice CA x.custs.length cc, .slice KA x.cost.length kc, .slice (some ⟨tb, to_, none⟩) x.time.length tc] 39]) wr) (fun iv _ => N - (intOf iv).toNat)
 case atStart => exact ⟨0, _, by omega, rfl, HSTART.out⟩
 case round =>
  clear HSTART
  obtain ⟨i, v, hi, rfl, hS⟩ := hrel
  have y0 : wr.cell? ⟨gb, 0, none⟩ = some (.int .i64 (N : Int)) := hS.cell 1 rfl 0 rfl
  by_cases hlt : i < N
  · have HS := Lib.hid hS
    clear hS
    obtain ⟨wo, rfl⟩ : ∃ wo : World, wo = wr := ⟨_, rfl⟩
    go_upto_region 10 with fail
    clear y0
    go_loopw [20] (fun iv wr => ∃ (k : Nat) (v : Value), k ≤ N ∧ iv = .int .i64 k ∧ SL w w.heap.size ([.row 113 3 v (arcsUp (inWays x s) (fun i k => timeF x i k + stayF x i) N i ++ arcRow (inWays x s) (fun i k => timeF x i k + stayF x i) i k).length (arcCells (arcsUp (inWays x s) (fun i k => timeF x i k + stayF x i) N i ++ arcRow (inWays x s) (fun i k => timeF x i k + stayF x i) i k)), .blk gb #[.int .i64 (N : Int), v] 111, .blk rb #[.int .i64 0, .slice none 0 0] 111, .blk sb #[.int .i64 (s : Int)] 3, .blk xb #[.int .i64 x.fin, .int .i64 x.tm, .int .i64 x.tr, .int .i64 x.bm, .int .i64 x.br, .slice SA x.sats.length sc, .slice CA x.custs.length cc, .slice KA x.cost.length kc, .slice (some ⟨tb, to_, none⟩) x.time.length tc] 39]) wr) (fun iv _ => N - (intOf iv).toNat)
    case atStart => exact ⟨0, v, by omega, rfl, by rw [show arcRow (inWays x s) (fun i k => timeF x i k + stayF x i) i 0 = [] from rfl, List.append_nil]; exact HS.out⟩
    case round =>
     clear HS
     obtain ⟨k, v, hk, rfl, hS⟩ := hrel
     by_cases hkl : k < N
     · have HNX : Hid (∀ b : Bool, (decide (i ≠ k) && ((inWays x s) i && (inWays x s) k)) = b → arcsUp (inWays x s) (fun i k => timeF x i k + stayF x i) N i ++ arcRow (inWays x s) (fun i k => timeF x i k + stayF x i) i (k + 1) = (arcsUp (inWays x s) (fun i k => timeF x i k + stayF x i) N i ++ arcRow (inWays x s) (fun i k => timeF x i k + stayF x i) i k) ++ if b = true then [(⟨(i : Int), (k : Int), (fun i k => timeF x i k + stayF x i) i k⟩ : ArcV)] else []) := Lib.hid (fun b hb => by rw [arcRow_succ, hb, List.append_assoc])
       have HLN : Hid ((arcsUp (inWays x s) (fun i k => timeF x i k + stayF x i) N i ++ arcRow (inWays x s) (fun i k => timeF x i k + stayF x i) i k).length ≤ 1000) := Lib.hid (by
        rw [List.length_append]
        have h1 := arcsUp_len (inWays x s) (fun i k => timeF x i k + stayF x i) N i
        have h2 := arcRow_len (inWays x s) (fun i k => timeF x i k + stayF x i) i k
        have h3 : i * N ≤ 10 * 10 := Nat.mul_le_mul (by omega) hN10
        omega)
       obtain ⟨L, hL⟩ : ∃ L, arcsUp (inWays x s) (fun i k => timeF x i k + stayF x i) N i ++ arcRow (inWays x s) (fun i k => timeF x i k + stayF x i) i k = L := ⟨_, rfl⟩
       rw [hL] at hS HNX HLN
       clear hL
       by_cases c0 : i = k
       · have t0 : ((i : Int) != (k : Int)) = false := by rw [c0]; simp
         have HN1 : Hid (arcsUp (inWays x s) (fun i k => timeF x i k + stayF x i) N i ++ arcRow (inWays x s) (fun i k => timeF x i k + stayF x i) i (k + 1) = L) := Lib.hid (by rw [HNX.out false (by rw [c0]; simp)]; simp)
         have HS := Lib.hid hS
         clear hS c0
         go_wp2_with fail
         go_roundw
         case rel => exact ⟨k + 1, v, by omega, by go_num, by rw [HN1.out]; exact HS.out⟩
         case measure => simp [intOf]; omega
       · have t0 : ((i : Int) != (k : Int)) = true := by rw [bne_iff_ne]; omega
         have HI1 := Lib.hid (inn_any x ⟨SA, sc, CA, cc, KA, kc, some ⟨tb, to_, none⟩, tc⟩ xb sb s i)
         have HI2 := Lib.hid (inn_any x ⟨SA, sc, CA, cc, KA, kc, some ⟨tb, to_, none⟩, tc⟩ xb sb s k)
         obtain ⟨b1, hb1⟩ : ∃ b, inWays x s i = b := ⟨_, rfl⟩
         obtain ⟨b2, hb2⟩ : ∃ b, inWays x s k = b := ⟨_, rfl⟩
         rw [hb1] at HI1
         rw [hb2] at HI2
         have HC1 := Lib.hid (HI1.out wr (hS.blk 4 rfl) (hS.cell 3 rfl 0 rfl) HF.out.sats.2 hs2 (by have := HN.out; omega))
         have HC2 : Hid (∀ wx, SL w w.heap.size ([.row 113 3 v (L).length (arcCells (L)), .blk gb #[.int .i64 (N : Int), v] 111, .blk rb #[.int .i64 0, .slice none 0 0] 111, .blk sb #[.int .i64 (s : Int)] 3, .blk xb #[.int .i64 x.fin, .int .i64 x.tm, .int .i64 x.tr, .int .i64 x.bm, .int .i64 x.br, .slice SA x.sats.length sc, .slice CA x.custs.length cc, .slice KA x.cost.length kc, .slice (some ⟨tb, to_, none⟩) x.time.length tc] 39]) wx → _) := Lib.hid (fun wx hS => HI2.out wx (hS.blk 4 rfl) (hS.cell 3 rfl 0 rfl) HF.out.sats.2 hs2 (by have := HN.out; omega))
         have HNY : Hid (∀ b : Bool, (b1 && b2) = b → arcsUp (inWays x s) (fun i k => timeF x i k + stayF x i) N i ++ arcRow (inWays x s) (fun i k => timeF x i k + stayF x i) i (k + 1) = L ++ if b = true then [(⟨(i : Int), (k : Int), (fun i k => timeF x i k + stayF x i) i k⟩ : ArcV)] else []) := Lib.hid (fun b hb => HNX.out b (by rw [hb1, hb2, hb, decide_eq_true c0]; rfl))
         have HS := Lib.hid hS
         clear hS hb1 hb2 HI1 HI2 HNX c0
         cases b1 with
         | false =>
           go_wp2_with (go_at_call 88; (with_reducible refine HC1.out.mono ?_); rintro e w1 ⟨rfl, hb⟩; have HS1 := Lib.hid (HS.out.call hb); clear hb)
           go_roundw
           case rel => exact ⟨k + 1, v, by omega, by go_num, by rw [HNY.out false rfl, if_neg (by simp), List.append_nil]; exact HS1.out⟩
           case measure => simp [intOf]; omega
         | true =>
         cases b2 with
         | false =>
           go_wp2_with first
            | (go_at_call 88; (with_reducible refine HC1.out.mono ?_); rintro e w1 ⟨rfl, hb⟩; have HS1 := Lib.hid (HS.out.call hb); have HC3 := Lib.hid (HC2.out w1 HS1.out); clear hb)
            | (go_at_call 88; (with_reducible refine HC3.out.mono ?_); rintro e w2 ⟨rfl, hb⟩; have HS2 := Lib.hid (HS1.out.call hb); clear hb)
           go_roundw
           case rel => exact ⟨k + 1, v, by omega, by go_num, by rw [HNY.out false rfl, if_neg (by simp), List.append_nil]; exact HS2.out⟩
           case measure => simp [intOf]; omega
         | true =>
         have HN1 : Hid (arcsUp (inWays x s) (fun i k => timeF x i k + stayF x i) N i ++ arcRow (inWays x s) (fun i k => timeF x i k + stayF x i) i (k + 1) = L ++ [(⟨(i : Int), (k : Int), (fun i k => timeF x i k + stayF x i) i k⟩ : ArcV)]) := Lib.hid (by rw [HNY.out true rfl, if_pos rfl])
         go_upto_region 10 with first
          | (go_at_call 88; (with_reducible refine HC1.out.mono ?_); rintro e w1 ⟨rfl, hb⟩; have HS1 := Lib.hid (HS.out.call hb); have HC3 := Lib.hid (HC2.out w1 HS1.out); clear hb)
          | (go_at_call 88; (with_reducible refine HC3.out.mono ?_); rintro e w2 ⟨rfl, hb⟩; have HS2 := Lib.hid (HS1.out.call hb); clear hb HS1)
         clear HC1 HC2 HC3 HNY
         have hS2 := HS2.out
         obtain ⟨b, o, c9, b2', o2, hA, hbB, e1, hb2B, e2⟩ := time_at HI.out HF.out (i := i) (k := k) (by have := HN.out; omega) (by have := HN.out; omega)
         obtain ⟨rfl, rfl⟩ : tb = b ∧ to_ = o := by simpa using hA
         obtain ⟨tv, htv⟩ : ∃ t, timeF x i k = t := ⟨_, rfl⟩
         have htb := time_in HF.out i k
         rw [htv] at e2 htb
         obtain ⟨ht0, ht1⟩ := htb
         obtain ⟨sv, hsv⟩ : ∃ t, stayF x i = t := ⟨_, rfl⟩
         have hsb := stay_in HF.out i
         rw [hsv] at hsb
         obtain ⟨hs0, hs1⟩ := hsb
         have HSTY : Hid (∀ wx, Below w.heap.size w wx → Calls Try.prog 89 #[.agg #[.int .i64 x.fin, .int .i64 x.tm, .int .i64 x.tr, .int .i64 x.bm, .int .i64 x.br, .slice SA x.sats.length sc, .slice CA x.custs.length cc, .slice KA x.cost.length kc, .slice (some ⟨tb, to_, none⟩) x.time.length tc], .int .i64 (i : Int)] wx fun e w' => e = .returned (.int .i64 sv) ∧ Below wx.heap.size wx w') := Lib.hid (fun wx hb => by rw [← hsv]; exact stay_any x ⟨SA, sc, CA, cc, KA, kc, some ⟨tb, to_, none⟩, tc⟩ i wx (HI.out.at_ hb) HF.out (by have := HN.out; omega))
         have hwr : IntKind.i64.wrap (tv + sv) = tv + sv := by rw [IntKind.wrap_i64]; omega
         have HN2 : Hid (arcsUp (inWays x s) (fun i k => timeF x i k + stayF x i) N i ++ arcRow (inWays x s) (fun i k => timeF x i k + stayF x i) i (k + 1) = L ++ [(⟨(i : Int), (k : Int), tv + sv⟩ : ArcV)]) := Lib.hid (HN1.out.trans (by rw [← htv, ← hsv]))
         clear hsv
         clear htv hA
         refine wp_region_sl [0, 1, 2, 3, 4, 5, 6, 7, 8, 9, 10, 11, 12, 13] [14, 15, 16, 17, 18] [19, 20] [.blk gb #[.int .i64 (N : Int), v] 111, .blk xb #[.int .i64 x.fin, .int .i64 x.tm, .int .i64 x.tr, .int .i64 x.bm, .int .i64 x.br, .slice SA x.sats.length sc, .slice CA x.custs.length cc, .slice KA x.cost.length kc, .slice (some ⟨tb, to_, none⟩) x.time.length tc] 39] hS2 (.cons _ (.cons_cons _ (.cons _ (.cons _ (.cons_cons _ (List.nil_sublist _)))))) (by kernel_rfl) (by kernel_rfl) (.cons rfl (.cons rfl .nil)) (fun C cw _ hC => ?_)
         have q9 : ∀ d, (cw d).cell? ⟨gb, 1, none⟩ = some v := fun d => (hC d).cell 0 rfl 1 rfl
         have qa : ∀ d, (cw d).cell? ⟨tb, to_ + i, none⟩ = some (.slice (some ⟨b2', o2, none⟩) x.n c9) := fun d => ((hC d).below.cell (p := ⟨tb, to_ + i, none⟩) hbB).trans e1
         have qb : ∀ d, (cw d).cell? ⟨b2', o2 + k, none⟩ = some (.int .i64 tv) := fun d => ((hC d).below.cell (p := ⟨b2', o2 + k, none⟩) hb2B).trans e2
         have q0 : ∀ d, (cw d).cell? ⟨xb, 0, none⟩ = some (.int .i64 x.fin) := fun d => (hC d).cell 1 rfl 0 rfl
         have q1 : ∀ d, (cw d).cell? ⟨xb, 1, none⟩ = some (.int .i64 x.tm) := fun d => (hC d).cell 1 rfl 1 rfl
         have q2 : ∀ d, (cw d).cell? ⟨xb, 2, none⟩ = some (.int .i64 x.tr) := fun d => (hC d).cell 1 rfl 2 rfl
         have q3 : ∀ d, (cw d).cell? ⟨xb, 3, none⟩ = some (.int .i64 x.bm) := fun d => (hC d).cell 1 rfl 3 rfl
         have q4 : ∀ d, (cw d).cell? ⟨xb, 4, none⟩ = some (.int .i64 x.br) := fun d => (hC d).cell 1 rfl 4 rfl
         have q5 : ∀ d, (cw d).cell? ⟨xb, 5, none⟩ = some (.slice SA x.sats.length sc) := fun d => (hC d).cell 1 rfl 5 rfl
         have q6 : ∀ d, (cw d).cell? ⟨xb, 6, none⟩ = some (.slice CA x.custs.length cc) := fun d => (hC d).cell 1 rfl 6 rfl
         have q7 : ∀ d, (cw d).cell? ⟨xb, 7, none⟩ = some (.slice KA x.cost.length kc) := fun d => (hC d).cell 1 rfl 7 rfl
         have q8 : ∀ d, (cw d).cell? ⟨xb, 8, none⟩ = some (.slice (some ⟨tb, to_, none⟩) x.time.length tc) := fun d => (hC d).cell 1 rfl 8 rfl
         have hkn : k < x.n := by have := HN.out; omega
         have hin : i < x.n := by have := HN.out; omega
         have htl : i < x.time.length := by rw [HF.out.timeLen.1]; exact hin
         repeat (refine pl_look rfl rfl rfl (fun Kv hK => ?_); go_big_quiet_op; refine hK _ ?_; clear hK Kv)
         clear q0 q1 q2 q3 q4 q5 q6 q7 q8 q9 qa qb hC HS2
         refine pl_end ?_
         intro w4 hS4
         clear hS2
         refine pm_eff rfl rfl fun Kv hK => ?_
         go_simp
         refine eff_call (HSTY.out w4 hS4.below) (fun e w5 h => ?_)
         obtain ⟨rfl, hb⟩ := h
         have hS5 := hS4.call hb
         refine .inl ⟨_, rfl, hS5.sub (.cons _ (.cons_cons _ (.cons _ (.cons _ (.cons_cons _ (List.nil_sublist _)))))), hK _ _ ?_⟩
         clear hK Kv hb hS4
         refine pm_eff rfl rfl fun Kv hK => ?_
         go_simp
         refine ⟨hS5.sub (.cons _ (.cons_cons _ (.cons _ (.cons _ (.cons_cons _ (List.nil_sublist _)))))), hK _ _ ?_⟩
         clear hK Kv
         refine pm_eff rfl rfl fun Kv hK => ?_
         go_simp
         refine ⟨hS5.sub (.cons _ (.cons_cons _ (.cons _ (.cons _ (.cons_cons _ (List.nil_sublist _)))))), hK _ _ ?_⟩
         clear hK Kv
         refine pm_eff rfl rfl fun Kv hK => ?_
         go_simp
         refine ⟨(hS5.alloc _ _).sub (.cons _ (.cons _ (.cons_cons _ (.cons _ (.cons _ (.cons_cons _ (List.nil_sublist _))))))), hK _ _ ?_⟩
         clear hK Kv
         refine pm_append rfl rfl (.tmp 37) (.tmp 53) 109 rfl hS5 0 i0 _ 3 24 Try.underlying109 HI0.out.1 HI0.out.2.1 HI0.out.2.2.1 HI0.out.2.2.2 rfl (by decide) v _ 1 _ rfl rfl _ rfl rfl (by decide) rfl (by simp [Value.oneCell']) (by have := HLN.out; omega) (by decide) ?_
         intro v' w6 hS6 hz6
         refine ⟨hS6.sub (.cons _ (.cons_cons _ (.cons _ (.cons _ (.cons_cons _ (List.nil_sublist _)))))), fun Kv hK => hK _ _ ?_⟩
         refine pm_end ?_
         have hS7 : SL w w.heap.size [.row 113 3 v' (L.length + 1) (arcCells L ++ [.int .i64 (i : Int), .int .i64 (k : Int), .int .i64 (tv + sv)]), .blk gb #[.int .i64 (N : Int), v] 111, .blk rb #[.int .i64 0, .slice none 0 0] 111, .blk sb #[.int .i64 (s : Int)] 3, .blk xb #[.int .i64 x.fin, .int .i64 x.tm, .int .i64 x.tr, .int .i64 x.bm, .int .i64 x.br, .slice SA x.sats.length sc, .slice CA x.custs.length cc, .slice KA x.cost.length kc, .slice (some ⟨tb, to_, none⟩) x.time.length tc] 39] w6 := hS6
         obtain ⟨A', c', rfl, _, _⟩ := (hS7.row 0 rfl).slice_
         have e1' : w6.cell? ⟨gb, 1, none⟩ = some v := hS7.cell 1 rfl 1 rfl
         have e2' := hS7.free 1 rfl 1
         have HS8 : Hid (SL w w.heap.size _ _) := Lib.hid (hS7.setCell 1 rfl 1 (.slice A' (L.length + 1) c'))
         clear hS6 hS7 hS5 hz6 e1 e2 hbB hb2B hkn hin htl
         go_wp2_with fail
         go_roundw
         case rel => exact ⟨k + 1, .slice A' (L.length + 1) c', by omega, by go_num, by
          rw [HN2.out, arcCells_snoc, List.length_append]
          exact HS8.out⟩
         case measure => simp [intOf]; omega
     · obtain rfl : N = k := by omega
       have HN1 : Hid (arcsUp (inWays x s) (fun i k => timeF x i k + stayF x i) N (i + 1) = arcsUp (inWays x s) (fun i k => timeF x i k + stayF x i) N i ++ arcRow (inWays x s) (fun i k => timeF x i k + stayF x i) i N) := Lib.hid (by rw [arcsUp_succ])
       have HS := Lib.hid hS
       clear hS
       go_wp2_with fail
       go_roundw
       case rel => exact ⟨i + 1, v, by omega, by go_num, by rw [HN1.out]; exact HS.out⟩
       case measure => simp [intOf]; omega
  · obtain rfl : N = i := by omega
    obtain ⟨A', c', rfl, _, _⟩ := (hS.row 0 rfl).slice_
    have y1 : wr.cell? ⟨gb, 1, none⟩ = some (.slice A' (arcsUp (inWays x s) (fun i k => timeF x i k + stayF x i) N N).length c') := hS.cell 1 rfl 1 rfl
    obtain ⟨L, hL⟩ : ∃ L, arcsUp (inWays x s) (fun i k => timeF x i k + stayF x i) N N = L := ⟨_, rfl⟩
    rw [hL] at hS y1
    have HL := Lib.hid hL
    have HS := Lib.hid hS
    have HB := Lib.hid (hS.blk 2 rfl)
    clear hS hL
    have H1C : Hid ((#[Value.int .i64 N, Value.slice A' L.length c'] : Array Value).all (·.oneCell') = true) := Lib.hid (by simp [Value.oneCell'])
    go_wp2_with (refine wpList_store_abs rfl 111 (.tmp 4) (.tmp 58) rfl rfl rb #[.int .i64 N, .slice A' L.length c'] rfl rfl 111 _ HB.out (by kernel_rfl) rfl H1C.out ?_; intro w5 ho5 hg5)
    refine retArr rfl _ _ rb 111 #[.int .i64 N, .slice A' L.length c'] _ rfl hg5 Try.underlying111 rfl (by kernel_rfl) ?_
    have hS9 := HS.out.only 2 rfl ho5 hg5
    rw [HN.out, HL.out]
    exact ⟨_, _, rfl, hS9.reads 0 rfl, hS9.below⟩
end Go.Proofs.Ytjpejclfppbboaa
