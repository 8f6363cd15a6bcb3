/- wharfagelaw14.apart, of an instance that may be. (printed by gen/apartw.py) -/
import Derived.Test.YtjpejclfppbboaaMatN
import Derived.Test.YtjpejclfppbboaaCloneInt64
import Derived.Deep.CutBlock
import Derived.Deep.CutRange
import Derived.Deep.DeepCutAuto
namespace Go.Proofs.Ytjpejclfppbboaa
open Go.ChangeShapes Go.WideShapes Go.ChangeAt Go.RowKit
set_option linter.unusedVariables false
set_option linter.unusedSimpArgs false
theorem info_rows14 : (Try.prog.info? 51).map (fun i => (i.zero, i.size, i.bytes)) = some (some (.slice none 0 0), 1, 24) := by kernel_rfl
theorem make_rows14 (N : Nat) (hN : N ≤ 1000) (w : World) : (Instr.makeSlice 37 (.int .i64 (N : Int)) (.int .i64 (N : Int))).run Try.prog w = .ok (.slice (some ⟨w.heap.size, 0, none⟩) N N) (w.alloc (.cells (Array.replicate N (.slice none 0 0)) 51)) := by
 obtain ⟨i, h1, h2, h3, h4⟩ := info_parts info_rows14
 have := run_make (P := Try.prog) w 37 51 i _ Try.underlying37 h1 h2 .i64 .i64 N N (by omega) (by omega) (by rw [h4]; omega) (by omega)
 rw [this, h3]
 simp only [Int.toNat_natCast, Nat.mul_one]
 have e : madeCells (Value.cells (.slice none 0 0)) N = Array.replicate N (.slice none 0 0) := madeCells_one _ _ rfl
 rw [← e]
def ApartPost (W : World) (n : Nat) (D : Nat → Nat → Int) (e : Ending) (w' : World) : Prop :=
 ∃ (g : Nat) (ps : List (List Int × Value)), e = .returned (.slice (some ⟨g, 0, none⟩) n n) ∧ MtxIs n D ps ∧ SL W W.heap.size (MO (.slice (some ⟨g, 0, none⟩) n n) ps []) w'
set_option maxRecDepth 100000 in
set_option maxHeartbeats 8000000 in
theorem lawApart_any (x : InstV) (hF : x.Fit) (TA : Option Addr) (tc sb ib : Nat) (st : Nat → Int) (I : Nat → Bool) (w : World) (hT : Mat w w.heap.size TA x.time)
 (hs : ∀ i, i < x.n → w.cell? ⟨sb, i, none⟩ = some (.int .i64 (st i))) (hi : ∀ i, i < x.n → w.cell? ⟨ib, i, none⟩ = some (.bool (I i))) (hst : ∀ i, 0 ≤ st i ∧ st i ≤ 10000) :
 Calls Try.prog 58 #[.slice TA x.time.length tc, .slice (some ⟨sb, 0, none⟩) x.n x.n, .slice (some ⟨ib, 0, none⟩) x.n x.n] w (ApartPost w x.n (apartM x.n (timeF x) st I)) := by
 have hN10 := hF.n9
 have hn0 : 0 < x.n := by unfold InstV.n; omega
 have hlen := hF.timeLen.1
 have hsb : sb < w.heap.size := World.block_lt_of_cell? w _ (hs 0 hn0)
 have hib : ib < w.heap.size := World.block_lt_of_cell? w _ (hi 0 hn0)
 obtain ⟨tb, to_, hA, htb⟩ : ∃ tb to_, TA = some ⟨tb, to_, none⟩ ∧ tb < w.heap.size := by
  obtain ⟨b, o, _, _, h1, h2, _⟩ := mat_at hT (i := 0) (by omega)
  exact ⟨b, o, h1, h2⟩
 subst hA
 have HTM : Hid (∀ i, i < x.n → ∃ a c xs, w.cell? ⟨tb, to_ + i, none⟩ = some (.slice a x.n c) ∧ Reads w w.heap.size 1 a x.n (xs.map (.int .i64)) ∧ xs = (List.range x.n).map (timeF x i)) := Lib.hid (fun i hi => by
  have hi' : i < x.time.length := by omega
  obtain ⟨b, o, a, c, hA, hb, hc, hr⟩ := mat_at hT hi'
  obtain ⟨rfl, rfl⟩ : tb = b ∧ to_ = o := by simpa using hA
  have hl := hF.timeLen.2 _ (List.getElem_mem hi')
  rw [hl] at hc hr
  exact ⟨a, c, _, hc, hr, time_row hF hi'⟩)
 have HTI := Lib.hid (time_in hF)
 rw [hlen]
 obtain ⟨T, hTT⟩ : ∃ T, timeF x = T := ⟨_, rfl⟩
 obtain ⟨N, hN⟩ : ∃ N, x.n = N := ⟨_, rfl⟩
 rw [hTT] at HTM HTI ⊢
 rw [hN] at HTM hN10 hn0 hs hi ⊢
 have HSB : Hid (∀ wx, Below w.heap.size w wx → ∀ i, i < N → wx.cell? ⟨sb, i, none⟩ = some (.int .i64 (st i))) := Lib.hid (fun wx hb i hi => (hb.cell (p := ⟨sb, i, none⟩) hsb).trans (hs i hi))
 have HIB : Hid (∀ wx, Below w.heap.size w wx → ∀ k, k < N → wx.cell? ⟨ib, k, none⟩ = some (.bool (I k))) := Lib.hid (fun wx hb k hk => (hb.cell (p := ⟨ib, k, none⟩) hib).trans (hi k hk))
 have HST := Lib.hid hst
 have HTB := Lib.hid htb
 clear hF hT hs hi hst hlen hsb hib hTT hN htb
 have hmk := make_rows14 N (by omega)
 go_enter Try.func58, Try.ntmps58
 go_upto_region 3 with fail
 have hS1 := mo_made (R := []) ((SL.start (W := w) (Nat.le_refl w.heap.size)).alloc (Array.replicate N (.slice none 0 0)) 51) (by unfold maxLen; omega)
 obtain ⟨g, hg⟩ : ∃ g, w.heap.size = g := ⟨_, rfl⟩
 obtain ⟨w1, hw1⟩ : ∃ y, w.alloc (.cells (Array.replicate N (.slice none 0 0)) 51) = y := ⟨_, rfl⟩
 have HS1 : Hid (SL w w.heap.size (MO (.slice (some ⟨g, 0, none⟩) N N) (List.replicate N (([] : List Int), .slice none 0 0)) []) w1) := Lib.hid (by rw [← hw1]; rw [← hg] ; exact hS1)
 rw [hw1]
 try rw [hg]
 clear hS1 hw1 hmk hg
 go_upto_region 4 with fail
 go_loopw [20] (fun iv wr => ∃ (i : Nat) (ps : List (List Int × Value)), i ≤ N ∧ iv = .int .i64 i ∧ Hid (FillIs N i I T ps) ∧ SL w w.heap.size (MO (.slice (some ⟨g, 0, none⟩) N N) ps []) wr) (fun iv _ => N - (intOf iv).toNat)
 case atStart => exact ⟨0, _, by omega, rfl, Lib.hid fill_zero, HS1.out⟩
 case round =>
  clear HS1
  obtain ⟨i, ps, hi, rfl, HFL, hS⟩ := hrel
  by_cases hlt : i < N
  · have hpl := HFL.out.1
    have hip : i < ps.length := by omega
    obtain ⟨a, c, xs, e0, e1, hxs⟩ := HTM.out i hlt
    have d0 := (hS.below.cell (p := ⟨tb, to_ + i, none⟩) HTB.out).trans e0
    have HCL := Lib.hid (cloneInt64 a N c _ wr (reads_more (Reads.below e1 hS.below) hS.below.size) (by
     intro u hu
     obtain ⟨n, _, rfl⟩ := List.mem_map.1 hu
     rfl) (by omega))
    have HXS := Lib.hid hxs
    have HS := Lib.hid hS
    obtain ⟨wo, rfl⟩ : ∃ wo : World, wo = wr := ⟨_, rfl⟩
    clear hS e0 e1 hxs
    go_upto_region 7 with (go_at_call 87; (with_reducible refine HCL.out.mono ?_); rintro e w2 ⟨v, rfl, hc⟩
                           have hS2 := HS.out.join hc
                           obtain ⟨ak, bk, rfl, _⟩ := (hc.row 0 rfl).slice_
                           obtain ⟨gk, ok, rfl⟩ : ∃ gk ok, ak = some ⟨gk, ok, none⟩ := by
                            rcases (hc.row 0 rfl).in_ with h0 | ⟨g', o', c', h1, _⟩
                            · omega
                            · simp only [Value.slice.injEq] at h1; exact ⟨g', o', h1.1⟩
                           clear hc
                           have y0 := mo_headN hpl hS2.tail hip rfl
                           have y1 := mo_freeN hpl hS2.tail hn0 i
                           have HS3 := Lib.hid (mo_putN hpl (by rw [HXS.out]; simp) hS2 hip)
                           clear hS2)
    clear HCL HS d0 y0 y1
    obtain ⟨w3, hw3⟩ : ∃ y, w2.setCell ⟨g, i, none⟩ (.slice (some ⟨gk, ok, none⟩) N bk) = y := ⟨_, rfl⟩
    rw [hw3] at HS3 ⊢
    clear hw3
    have HS4 : Hid (SL w w.heap.size (MO (.slice (some ⟨g, 0, none⟩) N N) (ps.set i (rowK N T I i 0, .slice (some ⟨gk, ok, none⟩) N bk)) []) w3) := Lib.hid (by
     have h := HS3.out
     rw [HXS.out, ← rowK_zero (I := I)] at h
     exact h)
    clear HS3 HXS
    have y0 : w3.cell? ⟨g, i, none⟩ = some (.slice (some ⟨gk, ok, none⟩) N bk) := mo_headN (by simpa using hpl) HS4.out (k := i) (by simpa using hip) (by simp)
    go_upto_region 8 with fail
    clear y0
    go_loopw [36] (fun iv wr => ∃ k : Nat, k ≤ N ∧ iv = .int .i64 k ∧ SL w w.heap.size (MO (.slice (some ⟨g, 0, none⟩) N N) (ps.set i (rowK N T I i k, .slice (some ⟨gk, ok, none⟩) N bk)) []) wr) (fun iv _ => N - (intOf iv).toNat)
    case atStart => exact ⟨0, by omega, rfl, HS4.out⟩
    case round =>
     clear HS4
     obtain ⟨k, hk, rfl, hS⟩ := hrel
     have HS := Lib.hid hS
     have y0 : wr.cell? ⟨g, i, none⟩ = some (.slice (some ⟨gk, ok, none⟩) N bk) := mo_headN (by simpa using hpl) hS (k := i) (by simpa using hip) (by simp)
     by_cases hkl : k < N
     · have x1 := HIB.out wr hS.below i hlt
       have x2 := HIB.out wr hS.below k hkl
       have z1 := mo_rownum hip hS (j := k) (by rw [rowK_len]; exact hkl)
       have z2 := mo_rowfree hip hS (by rw [rowK_len]; exact hn0) (ok + k)
       obtain ⟨zv, hzv⟩ : ∃ v, (rowK N T I i k).getD k 0 = v := ⟨_, rfl⟩
       rw [hzv] at z1
       have HSK : Hid (I i = true ∧ I k = true → rowK N T I i (k + 1) = rowK N T I i k) := Lib.hid rowK_skip
       have HPU : Hid (¬ (I i = true ∧ I k = true) → SL w w.heap.size (MO (.slice (some ⟨g, 0, none⟩) N N) (ps.set i (rowK N T I i (k + 1), .slice (some ⟨gk, ok, none⟩) N bk)) []) (wr.setCell ⟨gk, ok + k, none⟩ (.int .i64 1152921504606846976))) := Lib.hid (fun h => by
        rw [rowK_put h hkl]
        exact mo_rowset hip HS.out (by rw [rowK_len]; exact hkl) FarI)
       obtain ⟨b1, hb1⟩ : ∃ b, I i = b := ⟨_, rfl⟩
       obtain ⟨b2, hb2⟩ : ∃ b, I k = b := ⟨_, rfl⟩
       rw [hb1] at x1 HSK HPU
       rw [hb2] at x2 HSK HPU
       clear hS hzv hb1 hb2
       cases b1 with
       | false =>
         go_wp2_with fail
         go_roundw
         case rel => exact ⟨k + 1, by omega, by go_num, HPU.out (by simp)⟩
         case measure => simp [intOf]; omega
       | true =>
         cases b2 with
         | false =>
           go_wp2_with fail
           go_roundw
           case rel => exact ⟨k + 1, by omega, by go_num, HPU.out (by simp)⟩
           case measure => simp [intOf]; omega
         | true =>
           go_wp2_with fail
           go_roundw
           case rel => exact ⟨k + 1, by omega, by go_num, by rw [HSK.out (by simp)]; exact HS.out⟩
           case measure => simp [intOf]; omega
     · obtain rfl : N = k := by omega
       have z1 := mo_rownum hip hS (j := i) (by rw [rowK_len]; exact hlt)
       have z2 := mo_rowfree hip hS (by rw [rowK_len]; exact hn0) (ok + i)
       obtain ⟨zv, hzv⟩ : ∃ v, (rowK N T I i N).getD i 0 = v := ⟨_, rfl⟩
       rw [hzv] at z1
       have HS9 := Lib.hid (mo_rowset hip HS.out (j := i) (by rw [rowK_len]; exact hlt) 0)
       clear hS HS hzv hkl
       go_wp2_with fail
       go_roundw
       case rel => exact ⟨i + 1, _, by omega, by go_num, Lib.hid (fill_set HFL.out _), by rw [← rowK_end hlt]; exact HS9.out⟩
       case measure => simp [intOf]; omega
  · obtain rfl : N = i := by omega
    have HM0 := Lib.hid (fill_end HFL.out)
    have HB0 := Lib.hid (bnd_start (I := I) HTI.out)
    have HEND : Hid (apartM N T st I = loopR I st N N (startD I T)) := Lib.hid rfl
    obtain ⟨D0, hD0⟩ : ∃ D, startD I T = D := ⟨_, rfl⟩
    have HE0 : Hid (loopR I st N N D0 = apartM N T st I) := Lib.hid (by rw [HEND.out, hD0])
    rw [hD0] at HM0 HB0
    have HS0 := Lib.hid hS
    obtain ⟨ps0, hps0⟩ : ∃ q, ps = q := ⟨_, rfl⟩
    rw [hps0] at HM0 HS0
    clear hS HFL hD0 HEND HTM HTI hps0 ps hlt hi
    obtain ⟨wo, rfl⟩ : ∃ wo : World, wo = wr := ⟨_, rfl⟩
    go_upto_region 16 with fail
    go_loopw [66] (fun iv wr => ∃ (r : Nat) (ps : List (List Int × Value)), r ≤ N ∧ iv = .int .i64 r ∧ Hid (MtxIs N (loopR I st N r D0) ps) ∧ Hid (Bnd (loopR I st N r D0)) ∧ SL w w.heap.size (MO (.slice (some ⟨g, 0, none⟩) N N) ps []) wr) (fun iv _ => N - (intOf iv).toNat)
    case atStart => exact ⟨0, _, by omega, rfl, HM0, HB0, HS0.out⟩
    case round =>
     clear HM0 HB0 HS0
     obtain ⟨r, ps, hr, rfl, HM1, HB1, hS⟩ := hrel
     by_cases hlr : r < N
     · obtain ⟨D1, hD1⟩ : ∃ D, loopR I st N r D0 = D := ⟨_, rfl⟩
       rw [hD1] at HM1 HB1
       have HED1 := Lib.hid hD1
       have HM0 := HM1
       have HB0 := HB1
       have HS0 := Lib.hid hS
       clear hS hD1 HM1 HB1
       obtain ⟨wor, rfl⟩ : ∃ wo : World, wo = wr := ⟨_, rfl⟩
       go_upto_region 18 with fail
       go_loopw [69] (fun iv wr => ∃ (i : Nat) (ps : List (List Int × Value)), i ≤ N ∧ iv = .int .i64 i ∧ Hid (MtxIs N (loopI I st N i D1) ps) ∧ Hid (Bnd (loopI I st N i D1)) ∧ SL w w.heap.size (MO (.slice (some ⟨g, 0, none⟩) N N) ps []) wr) (fun iv _ => N - (intOf iv).toNat)
       case atStart => exact ⟨0, _, by omega, rfl, HM0, HB0, HS0.out⟩
       case round =>
        clear HM0 HB0 HS0
        obtain ⟨i, ps, hi, rfl, HM1, HB1, hS⟩ := hrel
        by_cases hli : i < N
        · obtain ⟨D2, hD2⟩ : ∃ D, loopI I st N i D1 = D := ⟨_, rfl⟩
          rw [hD2] at HM1 HB1
          have HED2 := Lib.hid hD2
          have HM0 := HM1
          have HB0 := HB1
          have HS0 := Lib.hid hS
          clear hS hD2 HM1 HB1
          obtain ⟨woi, rfl⟩ : ∃ wo : World, wo = wr := ⟨_, rfl⟩
          go_upto_region 21 with fail
          go_loopw [73] (fun iv wr => ∃ (k : Nat) (ps : List (List Int × Value)), k ≤ N ∧ iv = .int .i64 k ∧ Hid (MtxIs N (loopK I st N i k D2) ps) ∧ Hid (Bnd (loopK I st N i k D2)) ∧ SL w w.heap.size (MO (.slice (some ⟨g, 0, none⟩) N N) ps []) wr) (fun iv _ => N - (intOf iv).toNat)
          case atStart => exact ⟨0, _, by omega, rfl, HM0, HB0, HS0.out⟩
          case round =>
           clear HM0 HB0 HS0
           obtain ⟨k, ps, hk, rfl, HM1, HB1, hS⟩ := hrel
           by_cases hlk : k < N
           · obtain ⟨D3, hD3⟩ : ∃ D, loopK I st N i k D2 = D := ⟨_, rfl⟩
             rw [hD3] at HM1 HB1
             have HED3 := Lib.hid hD3
             have HM0 := HM1
             have HB0 := HB1
             have HS0 := Lib.hid hS
             clear hS hD3 HM1 HB1
             obtain ⟨wok, rfl⟩ : ∃ wo : World, wo = wr := ⟨_, rfl⟩
             go_upto_region 24 with fail
             go_loopw [77] (fun iv wr => ∃ (j : Nat) (ps : List (List Int × Value)), j ≤ N ∧ iv = .int .i64 j ∧ Hid (MtxIs N (loopJ I st i k j D3) ps) ∧ Hid (Bnd (loopJ I st i k j D3)) ∧ SL w w.heap.size (MO (.slice (some ⟨g, 0, none⟩) N N) ps []) wr) (fun iv _ => N - (intOf iv).toNat)
             case atStart => exact ⟨0, _, by omega, rfl, HM0, HB0, HS0.out⟩
             case round =>
              clear HM0 HB0 HS0
              obtain ⟨j, ps, hj, rfl, HM1, HB1, hS⟩ := hrel
              by_cases hlj : j < N
              · have x1 := HIB.out wr hS.below i hli
                have x2 := HIB.out wr hS.below j hlj
                have x3 := HIB.out wr hS.below k hlk
                have HSTEP : Hid (loopJ I st i k (j + 1) D3 = stepD I st i k j (loopJ I st i k j D3)) := Lib.hid rfl
                have HNO : Hid (¬ (i ≠ j ∧ j ≠ k ∧ I j = true ∧ I i = true ∧ I k = true) → Hid (MtxIs N (loopJ I st i k (j + 1) D3) ps) ∧ Hid (Bnd (loopJ I st i k (j + 1) D3)) ∧ SL w w.heap.size (MO (.slice (some ⟨g, 0, none⟩) N N) ps []) wr) := Lib.hid (fun h => by
                 have e : loopJ I st i k (j + 1) D3 = loopJ I st i k j D3 := by rw [HSTEP.out]; unfold stepD; rw [if_neg h]
                 rw [e]
                 exact ⟨HM1, HB1, hS⟩)
                by_cases c0 : i = j
                · have t0 : ((i : Int) != (j : Int)) = false := by rw [c0]; simp
                  have HNX := Lib.hid (HNO.out (fun h => h.1 c0))
                  clear HNO HSTEP hS c0
                  go_wp2_with fail
                  go_roundw
                  case rel => exact ⟨j + 1, _, by omega, by go_num, HNX.out.1, HNX.out.2.1, HNX.out.2.2⟩
                  case measure => simp [intOf]; omega
                have t0 : ((i : Int) != (j : Int)) = true := by rw [bne_iff_ne]; omega
                by_cases c1 : j = k
                · have t1 : ((j : Int) != (k : Int)) = false := by rw [c1]; simp
                  have HNX := Lib.hid (HNO.out (fun h => h.2.1 c1))
                  clear HNO HSTEP hS c0 c1
                  go_wp2_with fail
                  go_roundw
                  case rel => exact ⟨j + 1, _, by omega, by go_num, HNX.out.1, HNX.out.2.1, HNX.out.2.2⟩
                  case measure => simp [intOf]; omega
                have t1 : ((j : Int) != (k : Int)) = true := by rw [bne_iff_ne]; omega
                by_cases cj : I j = false
                · have HNX := Lib.hid (HNO.out (fun h => by have := h.2.2.1; rw [cj] at this; cases this))
                  rw [cj] at x2
                  clear HNO HSTEP hS c0 c1
                  go_wp2_with fail
                  go_roundw
                  case rel => exact ⟨j + 1, _, by omega, by go_num, HNX.out.1, HNX.out.2.1, HNX.out.2.2⟩
                  case measure => simp [intOf]; omega
                have cj : I j = true := by simpa using cj
                rw [cj] at x2
                by_cases ci : I i = false
                · have HNX := Lib.hid (HNO.out (fun h => by have := h.2.2.2.1; rw [ci] at this; cases this))
                  rw [ci] at x1
                  clear HNO HSTEP hS c0 c1
                  go_wp2_with fail
                  go_roundw
                  case rel => exact ⟨j + 1, _, by omega, by go_num, HNX.out.1, HNX.out.2.1, HNX.out.2.2⟩
                  case measure => simp [intOf]; omega
                have ci : I i = true := by simpa using ci
                rw [ci] at x1
                by_cases ck : I k = false
                · have HNX := Lib.hid (HNO.out (fun h => by have := h.2.2.2.2; rw [ck] at this; cases this))
                  rw [ck] at x3
                  clear HNO HSTEP hS c0 c1
                  go_wp2_with fail
                  go_roundw
                  case rel => exact ⟨j + 1, _, by omega, by go_num, HNX.out.1, HNX.out.2.1, HNX.out.2.2⟩
                  case measure => simp [intOf]; omega
                have ck : I k = true := by simpa using ck
                rw [ck] at x3
                have HC : Hid (i ≠ j ∧ j ≠ k ∧ I j = true ∧ I i = true ∧ I k = true) := Lib.hid ⟨c0, c1, cj, ci, ck⟩
                have HSE : Hid (loopJ I st i k (j + 1) D3 = setD (loopJ I st i k j D3) i k (min (loopJ I st i k j D3 i k) (loopJ I st i k j D3 i j + st j + loopJ I st i k j D3 j k))) := Lib.hid (by rw [HSTEP.out]; unfold stepD; rw [if_pos HC.out])
                have HBN : Hid (Bnd (loopJ I st i k (j + 1) D3)) := Lib.hid (by rw [HSTEP.out]; exact bnd_step (fun i => (HST.out i).1) HB1.out i k j)
                have HS := Lib.hid hS
                clear HNO HSTEP hS c0 c1 ci cj ck
                go_upto_region 27 with fail
                clear t0 t1 x1 x2 x3
                obtain ⟨D, hD⟩ : ∃ D, loopJ I st i k j D3 = D := ⟨_, rfl⟩
                rw [hD] at HSE HM1 HB1
                have hpl := HM1.out.1
                have hip : i < ps.length := by omega
                have hjp : j < ps.length := by omega
                obtain ⟨gi, oi, ci, hvi⟩ := mo_valN HM1.out HS.out hip hn0
                obtain ⟨gj, oj, cj, hvj⟩ := mo_valN HM1.out HS.out hjp hn0
                have HVI := Lib.hid hvi
                have HVJ := Lib.hid hvj
                obtain ⟨a1, ha1⟩ : ∃ v, D i k = v := ⟨_, rfl⟩
                obtain ⟨a2, ha2⟩ : ∃ v, D i j = v := ⟨_, rfl⟩
                obtain ⟨a3, ha3⟩ : ∃ v, D j k = v := ⟨_, rfl⟩
                obtain ⟨sj, hsj⟩ : ∃ v, st j = v := ⟨_, rfl⟩
                have hw1 : IntKind.i64.wrap (a2 + sj) = a2 + sj := by
                 have h1 := HB1.out i j
                 have h2 := HST.out j
                 rw [ha2] at h1
                 rw [hsj] at h2
                 unfold FarI at h1
                 rw [IntKind.wrap_i64]; omega
                have hw2 : IntKind.i64.wrap (a2 + sj + a3) = a2 + sj + a3 := by
                 have h1 := HB1.out i j
                 have h3 := HB1.out j k
                 have h2 := HST.out j
                 rw [ha2] at h1
                 rw [hsj] at h2
                 rw [ha3] at h3
                 unfold FarI at h1 h3
                 rw [IntKind.wrap_i64]; omega
                obtain ⟨zz, hzz⟩ : ∃ z, (if a2 + sj + a3 < a1 then a2 + sj + a3 else a1) = z := ⟨_, rfl⟩
                have HSF : Hid (loopJ I st i k (j + 1) D3 = setD D i k zz) := Lib.hid (by
                 rw [HSE.out, ha1, ha2, ha3, hsj]
                 congr 1
                 rw [← hzz]
                 split <;> omega)
                have HA := Lib.hid (And.intro ha1 (And.intro ha2 (And.intro ha3 hsj)))
                clear HSE hD ha1 ha2 ha3 hsj hvi hvj
                refine wp_region_sl [0,1,2,3,4,5,6,7,8,9,10,11,12,13,14,15,16,17,18,19,20,21,22,23,24,25,26,27,28,29,30,31,32] [] [33,34] _ HS.out (List.Sublist.refl _) (by kernel_rfl) (by kernel_rfl) (.cons rfl (.cons rfl .nil)) (fun C cw _ hC => ?_)
                have q1 : ∀ d, (cw d).cell? ⟨g, i, none⟩ = some (.slice (some ⟨gi, oi, none⟩) N ci) := fun d => mo_headN hpl (hC d) hip HVI.out
                have q2 : ∀ d, (cw d).cell? ⟨g, j, none⟩ = some (.slice (some ⟨gj, oj, none⟩) N cj) := fun d => mo_headN hpl (hC d) hjp HVJ.out
                have q3 : ∀ d, (cw d).cell? ⟨gi, oi + k, none⟩ = some (.int .i64 a1) := fun d => by rw [mo_numN HM1.out (hC d) hip HVI.out hlk, HA.out.1]
                have q4 : ∀ d, (cw d).cell? ⟨gi, oi + j, none⟩ = some (.int .i64 a2) := fun d => by rw [mo_numN HM1.out (hC d) hip HVI.out hlj, HA.out.2.1]
                have q5 : ∀ d, (cw d).cell? ⟨gj, oj + k, none⟩ = some (.int .i64 a3) := fun d => by rw [mo_numN HM1.out (hC d) hjp HVJ.out hlk, HA.out.2.2.1]
                have q6 : ∀ d, (cw d).cell? ⟨sb, j, none⟩ = some (.int .i64 sj) := fun d => by rw [HSB.out _ (hC d).below j hlj, HA.out.2.2.2]
                repeat (first | (refine pl_look rfl rfl rfl (fun Kv hK => ?_); go_big_quiet_op; refine hK _ ?_; clear hK Kv) | (refine pl_min _ _ _ _ _ _ _ zz rfl rfl rfl rfl rfl hzz (fun Kv hK => ?_); go_simp; refine hK _ ?_; clear hK Kv))
                clear q1 q2 q3 q4 q5 q6 hC HS
                refine pl_end ?_
                intro w5 hS5
                refine pm_end ?_
                have z1 := mo_numN HM1.out hS5 hip HVI.out hlk
                have z2 := mo_freeR HM1.out hS5 hip HVI.out hn0 (oi + k)
                rw [HA.out.1] at z1
                have HS6 := Lib.hid (mo_setN HM1.out hS5 hip HVI.out hlk zz)
                clear hS5 hw1 hw2 hzz
                go_wp2_with fail
                go_roundw
                case rel =>
                 obtain ⟨ps', hM', hS'⟩ := HS6.out
                 exact ⟨j + 1, ps', by omega, by go_num, Lib.hid (by rw [HSF.out]; exact hM'), HBN, hS'⟩
                case measure => simp [intOf]; omega
              · obtain rfl : N = j := by omega
                have HE : Hid (loopK I st N i (k + 1) D2 = loopJ I st i k N D3) := Lib.hid (by rw [← HED3.out]; rfl)
                rw [← HE.out] at HM1 HB1
                have HS := Lib.hid hS
                clear hS HE
                go_wp2_with fail
                go_roundw
                case rel => exact ⟨k + 1, _, by omega, by go_num, HM1, HB1, HS.out⟩
                case measure => simp [intOf]; omega
           · obtain rfl : N = k := by omega
             have HE : Hid (loopI I st N (i + 1) D1 = loopK I st N i N D2) := Lib.hid (by rw [← HED2.out]; rfl)
             rw [← HE.out] at HM1 HB1
             have HS := Lib.hid hS
             clear hS HE
             go_wp2_with fail
             go_roundw
             case rel => exact ⟨i + 1, _, by omega, by go_num, HM1, HB1, HS.out⟩
             case measure => simp [intOf]; omega
        · obtain rfl : N = i := by omega
          have HE : Hid (loopR I st N (r + 1) D0 = loopI I st N N D1) := Lib.hid (by rw [← HED1.out]; rfl)
          rw [← HE.out] at HM1 HB1
          have HS := Lib.hid hS
          clear hS HE
          go_wp2_with fail
          go_roundw
          case rel => exact ⟨r + 1, _, by omega, by go_num, HM1, HB1, HS.out⟩
          case measure => simp [intOf]; omega
     · obtain rfl : N = r := by omega
       have HS := Lib.hid hS
       clear hS
       go_wp2_with fail
       go_ret
       exact ⟨g, ps, rfl, by rw [← HE0.out]; exact HM1.out, HS.out⟩
end Go.Proofs.Ytjpejclfppbboaa
