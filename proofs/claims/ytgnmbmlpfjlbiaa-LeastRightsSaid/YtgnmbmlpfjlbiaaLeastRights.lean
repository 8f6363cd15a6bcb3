/- The walk of law LeastRights. -/
import Derived.Test.YtgnmbmlpfjlbiaaRightO
import Derived.Test.YtgnmbmlpfjlbiaaAwake10
import Derived.Test.YtgnmbmlpfjlbiaaCloneInt64
import Derived.Deep.CutBlock
namespace Go.Proofs.Ytgnmbmlpfjlbiaa
open Go.ChangeShapes Go.WideShapes Go.ChangeAt Go.RowKit
set_option linter.unusedVariables false
theorem leastOut_lists {w w' : World} {N : Nat} {ps : List PipeV} {s t : Nat} {want : Int} {FA : Option Addr} {fn : Nat} {c : Int} {HA : Option Addr} {hn : Nat} {err : Int} (h : LeastOut w N ps s t want w' FA fn c HA hn err) (hl : ps.length ≤ 30) (hN : N ≤ 30) :
    ∃ fl1 hl1 : List Int, fl1.length = fn ∧ hl1.length = hn ∧ (fl1.length ≤ 30 ∧ hl1.length ≤ 30) ∧ Reads w' w'.heap.size 1 FA fl1.length (fl1.map (.int .i64)) ∧ Reads w' w'.heap.size 1 HA hl1.length (hl1.map (.int .i64)) := by
  rcases h with ⟨rfl, rfl, rfl, rfl, rfl, rfl, _, _⟩ | ⟨y, h, fb, hb, rfl, rfl, rfl, rfl, e5, rfl, hS, _⟩
  · exact ⟨[], [], rfl, rfl, by simp, reads_nil _ _ _, reads_nil _ _ _⟩
  · exact ⟨(List.range ps.length).map y, (List.range N).map h, by simp, by simp [e5], by simp; omega, by simpa using reads_iarr (hS.blk 0 rfl), by simpa using reads_iarr (hS.blk 1 rfl)⟩
set_option maxRecDepth 100000 in
set_option maxHeartbeats 8000000 in
theorem leastRights0 (W : World) (n : Int) (A : Option Addr) (cap : Nat) (l : List TubeV) (a b want : Int) (FA HA : Option Addr) (fc hc : Nat) (fl hl : List Int) (cst turn at_ by_ : Int) (hr : Tubes W W.heap.size A l) (hll : l.length ≤ maxLen) (hok : ∀ x ∈ l, x.ok) (n0 : 0 ≤ n) (n1 : n ≤ 255) (a0 : 0 ≤ a) (a1 : a ≤ 255) (b0 : 0 ≤ b) (b1 : b ≤ 255) (w0 : 0 ≤ want) (w1 : want ≤ 65535)
    (hf : Reads W W.heap.size 1 FA fl.length (fl.map (.int .i64))) (hfl : fl.length ≤ maxLen) (hh : Reads W W.heap.size 1 HA hl.length (hl.map (.int .i64))) (hhl : hl.length ≤ maxLen) (t0 : 0 ≤ turn) (t1 : turn ≤ 255) (p0 : 0 ≤ at_) (p1 : at_ ≤ 255) (y0 : -32768 ≤ by_) (y1 : by_ ≤ 32767) :
    Calls Try.prog 9 #[.int .u8 n, .slice A l.length cap, .int .u8 a, .int .u8 b, .int .u16 want, .agg #[.slice FA fl.length fc, .int .i64 cst, .slice HA hl.length hc], .int .u8 turn, .int .u8 at_, .int .i16 by_] W fun e w' => e = .returned (.bool true) ∧ Below W.heap.size W w' := by
  obtain ⟨N, L, s, t, hLN, hnet, hend⟩ := lawNet10_pack W n A cap l a b hr hll hok n0 n1 a0 a1 b0 b1
  have HLN := Lib.hid hLN
  have HNET := Lib.hid hnet
  have HEND := Lib.hid hend
  have hsN : s < N := by have := hLN.s1; omega
  have htN : t < N := by have := hLN.t1; omega
  have HF := Lib.hid hf
  have HH := Lib.hid hh
  have HST := Lib.hid (And.intro hsN htN)
  obtain ⟨m, hm⟩ : ∃ m, want % 400 = m := ⟨_, rfl⟩
  have hm0 : 0 ≤ m ∧ m < 400 := by omega
  have hrem : want.tmod 400 = m := by rw [Int.tmod_eq_emod_of_nonneg w0]; exact hm
  have hS0 := (SL.start (Nat.le_refl W.heap.size)).alloc #[.slice FA fl.length fc, .int .i64 cst, .slice HA hl.length hc] 49
  have HS0 := Lib.hid hS0
  unfold maxLen at hfl hhl
  clear hr hll hok hLN hnet hend hf hh hS0 hsN htN
  by_cases g0 : 30 < fl.length
  · have g0i : (30 : Int) < (fl.length : Int) := by omega
    as_aux_lemma =>
      go_enter Try.func9, Try.ntmps9
      go_wp2_with (first
        | (go_at_call 24; (with_reducible refine (awake10 _).mono ?_); rintro e w1 ⟨rfl, hb1⟩
           have hS1 := HS0.out.call hb1
           have c0 : w1.cell? ⟨W.heap.size, 0, none⟩ = some (.slice FA fl.length fc) := hS1.cell 0 rfl 0 rfl
           have c2 : w1.cell? ⟨W.heap.size, 2, none⟩ = some (.slice HA hl.length hc) := hS1.cell 0 rfl 2 rfl
           have hz : W.heap.size < w1.heap.size := (hS1.lt 0 rfl).2
           have HS1 := Lib.hid hS1
           clear hb1 hS1))
      go_ret
      exact ⟨rfl, HS1.out.below⟩
  · have g0i : ¬ (30 : Int) < (fl.length : Int) := by omega
    by_cases g1 : 30 < hl.length
    · have g1i : (30 : Int) < (hl.length : Int) := by omega
      as_aux_lemma =>
        go_enter Try.func9, Try.ntmps9
        go_wp2_with (first
          | (go_at_call 24; (with_reducible refine (awake10 _).mono ?_); rintro e w1 ⟨rfl, hb1⟩
             have hS1 := HS0.out.call hb1
             have c0 : w1.cell? ⟨W.heap.size, 0, none⟩ = some (.slice FA fl.length fc) := hS1.cell 0 rfl 0 rfl
             have c2 : w1.cell? ⟨W.heap.size, 2, none⟩ = some (.slice HA hl.length hc) := hS1.cell 0 rfl 2 rfl
             have hz : W.heap.size < w1.heap.size := (hS1.lt 0 rfl).2
             have HS1 := Lib.hid hS1
             clear hb1 hS1))
        go_ret
        exact ⟨rfl, HS1.out.below⟩
    · have g1i : ¬ (30 : Int) < (hl.length : Int) := by omega
      go_enter Try.func9, Try.ntmps9
      go_upto_region 6 with (first
        | (go_at_call 24; (with_reducible refine (awake10 _).mono ?_); rintro e w1 ⟨rfl, hb1⟩
           have hS1 := HS0.out.call hb1
           have c0 : w1.cell? ⟨W.heap.size, 0, none⟩ = some (.slice FA fl.length fc) := hS1.cell 0 rfl 0 rfl
           have c2 : w1.cell? ⟨W.heap.size, 2, none⟩ = some (.slice HA hl.length hc) := hS1.cell 0 rfl 2 rfl
           have hz : W.heap.size < w1.heap.size := (hS1.lt 0 rfl).2
           have HS1 := Lib.hid hS1
           clear hb1 hS1)
        | (go_at_call 14; (with_reducible refine (HNET.out _ HS1.out.below).mono ?_); rintro e w2 ⟨v, rfl, hS⟩
           obtain ⟨A2, cc, rfl, _, _⟩ := (hS.row 0 rfl).slice_
           have HS2 := Lib.hid (HS1.out.join hS)
           clear hS c0 c2 hz))
      have hS3 := HS2.out.alloc #[.int .i64 N, .slice A2 L.length cc] 26
      obtain ⟨xb, hxb⟩ : ∃ xb, xb = w2.heap.size := ⟨_, rfl⟩
      generalize (w2.alloc (Obj.cells #[.int .i64 N, .slice A2 L.length cc] 26)) = w3 at *
      rw [← hxb] at hS3 ⊢
      clear hxb
      have HS3 := Lib.hid hS3
      have x0 : w3.cell? ⟨xb, 0, none⟩ = some (.int .i64 N) := hS3.cell 0 rfl 0 rfl
      have x1 : w3.cell? ⟨xb, 1, none⟩ = some (.slice A2 L.length cc) := hS3.cell 0 rfl 1 rfl
      clear hS3
      go_upto_region 9 with (first
        | (go_at_call 15; (with_reducible refine (HEND.out _ _).mono ?_); rintro e w4 ⟨rfl, hb4⟩
           have hS4 := HS3.out.call hb4
           have d0 : w4.cell? ⟨xb, 0, none⟩ = some (.int .i64 N) := hS4.cell 0 rfl 0 rfl
           have d1 : w4.cell? ⟨xb, 1, none⟩ = some (.slice A2 L.length cc) := hS4.cell 0 rfl 1 rfl
           have HLE := Lib.hid (least_one N A2 cc L s t m w4 (hS4.reads 1 rfl) HLN.out.ends hm0.1 (by omega) HLN.out.dear HLN.out.few)
           have HS4 := Lib.hid hS4
           clear hb4 hS4 x0 x1)
        | (go_at_call 25; (with_reducible refine HLE.out.mono ?_); rintro e w6 ⟨GA, fn, c, KA, hn, err, rfl, hO⟩
           have HO := Lib.hid hO
           clear hO d0 d1))
      obtain ⟨fl1, hl1, rfl, rfl, hlen1, hfr, hhr⟩ := leastOut_lists HO.out (by have := HLN.out.len; omega) (by have := HLN.out.n6; omega)
      have hS8 := (HS4.out.call HO.out.below).alloc #[.slice GA fl1.length fl1.length, .int .i64 c, .slice KA hl1.length hl1.length] 49
      have hbe := ((SL.start (Nat.le_refl w6.heap.size)).alloc #[.slice GA fl1.length fl1.length, .int .i64 c, .slice KA hl1.length hl1.length] 49).below
      have HFR := Lib.hid (reads_more (Reads.below hfr hbe) hbe.size)
      have HHR := Lib.hid (reads_more (Reads.below hhr hbe) hbe.size)
      obtain ⟨rb, hrb⟩ : ∃ rb, rb = w6.heap.size := ⟨_, rfl⟩
      have HL1 := Lib.hid hlen1
      have htr : turn.tmod 6 = turn % 6 := Int.tmod_eq_emod_of_nonneg t0
      rw [← hrb] at hS8 ⊢
      have HS8 := Lib.hid hS8
      clear hS8 hbe hfr hhr hlen1 hrb HO
      generalize (w6.alloc (.cells #[.slice GA fl1.length fl1.length, .int .i64 c, .slice KA hl1.length hl1.length] 49)) = w7 at *
      go_cut [64] (fun v wx => ∃ B : Bool, v = .bool B ∧ Hid (Reads wx wx.heap.size 1 GA fl1.length (fl1.map (.int .i64))) ∧ Hid (Reads wx wx.heap.size 1 KA hl1.length (hl1.map (.int .i64))) ∧ SL W W.heap.size [.blk rb #[.slice GA fl1.length fl1.length, .int .i64 c, .slice KA hl1.length hl1.length] 49, .blk xb #[.int .i64 N, .slice A2 L.length cc] 26, .row 40 4 (.slice A2 L.length cc) L.length (pipeCells L), .blk W.heap.size #[.slice FA fl.length fc, .int .i64 cst, .slice HA hl.length hc] 49] wx)
      case first =>
        by_cases e0 : err = 0
        · have z1 : (err != 0) = false := by simpa using e0
          go_wp2_with fail
          go_meet
          exact ⟨_, rfl, HFR, HHR, HS8.out⟩
        · have z1 : (err != 0) = true := by simpa using e0
          go_wp2_with fail
          go_meet
          exact ⟨_, rfl, HFR, HHR, HS8.out⟩
      clear HS8 HFR HHR
      obtain ⟨w8, rfl⟩ : ∃ w8 : World, w8 = wc := ⟨_, rfl⟩
      obtain ⟨B, rfl, HFR, HHR, hS⟩ := hcut
      have HS := Lib.hid hS
      have k0 : w8.cell? ⟨W.heap.size, 0, none⟩ = some (.slice FA fl.length fc) := hS.cell 3 rfl 0 rfl
      have k1 : w8.cell? ⟨W.heap.size, 1, none⟩ = some (.int .i64 cst) := hS.cell 3 rfl 1 rfl
      have k2 : w8.cell? ⟨W.heap.size, 2, none⟩ = some (.slice HA hl.length hc) := hS.cell 3 rfl 2 rfl
      have r0 := hS.free 0 rfl 0
      have r1 := hS.free 0 rfl 1
      have r2 := hS.free 0 rfl 2
      clear hS
      go_upto_if 64 with fail
      go_cut [] (fun wx => ∃ (F1 H1 : Option Addr) (f1 h1 : Nat) (fl2 hl2 : List Int) (c2 : Int), Hid (fl2.length ≤ 30 ∧ hl2.length ≤ 30) ∧ Hid (Reads wx wx.heap.size 1 F1 fl2.length (fl2.map (.int .i64))) ∧ Hid (Reads wx wx.heap.size 1 H1 hl2.length (hl2.map (.int .i64))) ∧ SL W W.heap.size [.blk rb #[.slice F1 fl2.length f1, .int .i64 c2, .slice H1 hl2.length h1] 49, .blk xb #[.int .i64 N, .slice A2 L.length cc] 26, .row 40 4 (.slice A2 L.length cc) L.length (pipeCells L)] wx)
      case first =>
        cases B
        · go_wp2_with fail
          go_meet
          exact ⟨GA, KA, fl1.length, hl1.length, fl1, hl1, c, HL1, HFR, HHR, HS.out.sub (.cons_cons _ (.cons_cons _ (.cons_cons _ (.cons _ .slnil))))⟩
        · go_wp2_with (refine wpList_store_abs rfl 49 (.tmp 23) (.tmp 65) rfl rfl rb #[.slice FA fl.length fc, .int .i64 cst, .slice HA hl.length hc] rfl rfl _ _ (HS.out.blk 0 rfl) (by kernel_rfl) rfl (by simp [Value.oneCell']) (fun w9 ho hh => ?_)
                       have hS9 := HS.out.only 0 rfl ho hh
                       have HA9 := Lib.hid (reads_more (Reads.below HF.out hS9.below) hS9.below.size)
                       have HB9 := Lib.hid (reads_more (Reads.below HH.out hS9.below) hS9.below.size)
                       have HS9 := Lib.hid hS9
                       clear ho hh hS9 k0 k1 k2 r0 r1 r2)
          go_meet
          exact ⟨FA, HA, fc, hc, fl, hl, cst, Lib.hid (by omega), HA9, HB9, HS9.out.sub (.cons_cons _ (.cons_cons _ (.cons_cons _ (.cons _ .slnil))))⟩
      clear HS HFR HHR k0 k1 k2 r0 r1 r2 HL1 HF HH g0i g1i HS4
      obtain ⟨w9, rfl⟩ : ∃ w9 : World, w9 = wc := ⟨_, rfl⟩
      obtain ⟨F1, H1, f1, h1, fl2, hl2, c2, HL2, HFR, HHR, hS⟩ := hcut
      have HS := Lib.hid hS
      clear hS
      go_upto_region 11 with fail
      go_cut [] (fun wx => ∃ (AF AH : Option Addr) (cF cH : Nat), SL W W.heap.size [.row 2 1 (.slice AH hl2.length cH) hl2.length (hl2.map (.int .i64)), .row 2 1 (.slice AF fl2.length cF) fl2.length (fl2.map (.int .i64)), .blk rb #[.slice AF fl2.length cF, .int .i64 c2, .slice AH hl2.length cH] 49, .blk xb #[.int .i64 N, .slice A2 L.length cc] 26, .row 40 4 (.slice A2 L.length cc) L.length (pipeCells L)] wx)
      case first =>
        refine wp_region_kb [0,1,3,4] [2,5,6] [7,8,9] _ HS.out.drew (by kernel_rfl) (by kernel_rfl) (.cons rfl (.cons rfl (.cons rfl .nil))) (fun C cw _ hC => ?_)
        have q0 : ∀ c, (cw c).cell? ⟨rb, 0, none⟩ = some (.slice F1 fl2.length f1) := fun c => (hC c).cell 0 rfl 0 rfl
        have q2 : ∀ c, (cw c).cell? ⟨rb, 2, none⟩ = some (.slice H1 hl2.length h1) := fun c => (hC c).cell 0 rfl 2 rfl
        repeat (refine pl_look rfl rfl rfl (fun Kv hK => ?_); go_big_quiet_op; refine hK _ ?_; clear hK Kv)
        clear q0 q2 hC
        refine pl_end ?_
        have hd : Below w9.heap.size w9 w9.drew := (Below.refl _ _).drew
        have HFD := Lib.hid (reads_more (Reads.below HFR.out hd) hd.size)
        have HHD := Lib.hid (reads_more (Reads.below HHR.out hd) hd.size)
        have HSD := Lib.hid HS.out.drew
        clear hd HFR HHR HS
        generalize w9.drew = w10 at *
        refine pb_one 2 (by kernel_rfl) (by kernel_rfl) ?_
        refine kOp_eff rfl rfl fun Kv hK => ?_
        go_simp
        refine eff_call (cloneInt64 F1 fl2.length f1 _ w10 HFD.out (by simp [Value.oneCell']) (by have := HL2.out; omega)) (fun e w11 h => ?_)
        obtain ⟨v, rfl, hS⟩ := h
        obtain ⟨AF, cF, rfl, _, _⟩ := (hS.row 0 rfl).slice_
        have HC2 := Lib.hid (cloneInt64 H1 hl2.length h1 _ w11 (reads_more (Reads.below HHD.out hS.below) hS.below.size) (by simp [Value.oneCell']) (by have := HL2.out; omega))
        have HS11 := Lib.hid (HSD.out.join hS)
        clear hS
        left
        refine ⟨_, rfl, HS11.out.tail, hK _ _ ?_⟩
        clear hK Kv
        refine pb_two 5 6 (by kernel_rfl) (by kernel_rfl) (by kernel_rfl) ?_ ?_
        · refine kOp_eff rfl rfl fun Kv hK => ?_
          go_simp
          refine eff_call HC2.out (fun e w12 h => ?_)
          obtain ⟨v, rfl, hS⟩ := h
          obtain ⟨AH, cH, rfl, _, _⟩ := (hS.row 0 rfl).slice_
          have hS12 := HS11.out.join hS
          left
          refine ⟨_, rfl, hS12.tail.tail, hK _ _ ?_⟩
          clear hK Kv
          refine pb_one 6 (by kernel_rfl) (by kernel_rfl) ?_
          refine kOp_eff rfl rfl fun Kv hK => ?_
          go_simp
          refine ⟨hS12.tail.tail, hK _ _ ?_⟩
          clear hK Kv
          refine pb_end (by kernel_rfl) ?_
          have hS13 := hS12.setCell 2 rfl 0 (.slice AF fl2.length cF)
          have hS14 := hS13.setCell 2 rfl 2 (.slice AH hl2.length cH)
          have v0 : w12.cell? ⟨rb, 0, none⟩ = some (.slice F1 fl2.length f1) := hS12.cell 2 rfl 0 rfl
          have v1 := hS12.free 2 rfl 0
          have v2 : (w12.setCell ⟨rb, 0, none⟩ (.slice AF fl2.length cF)).cell? ⟨rb, 2, none⟩ = some (.slice H1 hl2.length h1) := hS13.cell 2 rfl 2 rfl
          have v3 := hS13.free 2 rfl 2
          have HS14 := Lib.hid hS14
          clear hS hS12 hS13 hS14 HC2
          go_wp2_with fail
          go_meet
          exact ⟨AF, AH, cF, cH, HS14.out⟩
        · refine kOp_eff rfl rfl fun Kv hK => ?_
          go_simp
          refine ⟨HS11.out.tail, hK _ _ ?_⟩
          clear hK Kv
          refine pb_one 5 (by kernel_rfl) (by kernel_rfl) ?_
          refine kOp_eff rfl rfl fun Kv hK => ?_
          go_simp
          refine eff_call HC2.out (fun e w12 h => ?_)
          obtain ⟨v, rfl, hS⟩ := h
          obtain ⟨AH, cH, rfl, _, _⟩ := (hS.row 0 rfl).slice_
          have hS12 := HS11.out.join hS
          left
          refine ⟨_, rfl, hS12.tail.tail, hK _ _ ?_⟩
          clear hK Kv
          refine pb_end (by kernel_rfl) ?_
          have hS13 := hS12.setCell 2 rfl 0 (.slice AF fl2.length cF)
          have hS14 := hS13.setCell 2 rfl 2 (.slice AH hl2.length cH)
          have v0 : w12.cell? ⟨rb, 0, none⟩ = some (.slice F1 fl2.length f1) := hS12.cell 2 rfl 0 rfl
          have v1 := hS12.free 2 rfl 0
          have v2 : (w12.setCell ⟨rb, 0, none⟩ (.slice AF fl2.length cF)).cell? ⟨rb, 2, none⟩ = some (.slice H1 hl2.length h1) := hS13.cell 2 rfl 2 rfl
          have v3 := hS13.free 2 rfl 2
          have HS14 := Lib.hid hS14
          clear hS hS12 hS13 hS14 HC2
          go_wp2_with fail
          go_meet
          exact ⟨AF, AH, cF, cH, HS14.out⟩
      clear HS HFR HHR
      obtain ⟨w13, rfl⟩ : ∃ w13 : World, w13 = wc := ⟨_, rfl⟩
      obtain ⟨AF, AH, cF, cH, hS⟩ := hcut
      have HS := Lib.hid hS
      have r0 : w13.cell? ⟨rb, 0, none⟩ = some (.slice AF fl2.length cF) := hS.cell 2 rfl 0 rfl
      have r1 : w13.cell? ⟨rb, 1, none⟩ = some (.int .i64 c2) := hS.cell 2 rfl 1 rfl
      have r2 : w13.cell? ⟨rb, 2, none⟩ = some (.slice AH hl2.length cH) := hS.cell 2 rfl 2 rfl
      have rf := hS.free 2 rfl 1
      clear hS
      go_upto_block 0 with fail
      go_cut [22] (fun v wx => ∃ (m3 c3 : Int) (fl3 hl3 : List Int), v = .int .i64 m3 ∧ Hid (fl3.length = fl2.length ∧ hl3.length = hl2.length) ∧ SL W W.heap.size [.row 2 1 (.slice AH hl3.length cH) hl3.length (hl3.map (.int .i64)), .row 2 1 (.slice AF fl3.length cF) fl3.length (fl3.map (.int .i64)), .blk rb #[.slice AF fl3.length cF, .int .i64 c3, .slice AH hl3.length cH] 49, .blk xb #[.int .i64 N, .slice A2 L.length cc] 26, .row 40 4 (.slice A2 L.length cc) L.length (pipeCells L)] wx)
      case first =>
        by_cases T1 : turn % 6 = 1
        · have z1 : (turn % 6 == 1) = true := by simpa using T1
          clear T1
          by_cases hl0 : 0 < fl2.length
          · obtain ⟨gF, oF, cF2, hF⟩ : ∃ g off cap, Value.slice AF fl2.length cF = .slice (some ⟨g, off, none⟩) fl2.length cap := by
              rcases (HS.out.row 1 rfl).in_ with h | ⟨g, off, cap, h, _⟩
              · omega
              · exact ⟨g, off, cap, h⟩
            obtain ⟨rfl, rfl⟩ : AF = some ⟨gF, oF, none⟩ ∧ cF = cF2 := by simpa using hF
            obtain ⟨i, hi⟩ : ∃ i : Nat, (i : Int) = at_ % (fl2.length : Int) := ⟨(at_ % (fl2.length : Int)).toNat, by have := Int.emod_nonneg at_ (b := (fl2.length : Int)) (by omega); omega⟩
            have hil : i < fl2.length := by have := Int.emod_lt_of_pos at_ (b := (fl2.length : Int)) (by omega); omega
            have htm : at_.tmod (fl2.length : Int) = (i : Int) := by rw [Int.tmod_eq_emod_of_nonneg p0, hi]
            obtain ⟨v, hv⟩ : ∃ v, fl2[i] = v := ⟨_, rfl⟩
            have HV := Lib.hid hv
            clear hi hv hF
            have hne : ¬ (fl2.length : Int) = 0 := by omega
            have hl1 : (0 : Int) < (fl2.length : Int) := by omega
            go_upto_region 15 with fail
            have HS2 := HS.out
            refine wp_region_sl [0,1,2,3,4,5,6,7,8,9,10,11,12] [] [13,14] _ HS2 (List.Sublist.refl _) (by kernel_rfl) (by kernel_rfl) (.cons rfl (.cons rfl .nil)) (fun C cw _ hC => ?_)
            have q0 : ∀ c, (cw c).cell? ⟨rb, 0, none⟩ = some (.slice (some ⟨gF, oF, none⟩) fl2.length cF) := fun c => (hC c).cell 2 rfl 0 rfl
            have q1 : ∀ c, (cw c).cell? ⟨gF, oF + i, none⟩ = some (.int .i64 v) := fun c => (hC c).rowCell 1 rfl i (by rw [← HV.out]; simp [hil])
            repeat (first | (refine pl_len _ _ _ _ _ (by kernel_rfl) rfl rfl rfl rfl (fun Kv hK => ?_); go_simp; refine hK _ ?_; clear hK Kv) | (refine pl_look rfl rfl rfl (fun Kv hK => ?_); go_big_quiet_op; refine hK _ ?_; clear hK Kv))
            clear q0 q1 hC
            refine pl_end ?_
            intro w5 hS5
            refine pm_end ?_
            have y1 : w5.cell? ⟨gF, oF + i, none⟩ = some (.int .i64 v) := hS5.rowCell 1 rfl i (by rw [← HV.out]; simp [hil])
            have y2 := hS5.rowFree 1 rfl (oF + i) hl0
            have hS6 := hS5.setRowCell 1 rfl i (by omega) (.int .i64 (wrap64 (v + by_)))
            have e6 : (fl2.map (Value.int .i64)).set i (.int .i64 (wrap64 (v + by_))) = (fl2.set i (wrap64 (v + by_))).map (Value.int .i64) := by rw [List.map_set]
            rw [e6] at hS6
            have HS6 := Lib.hid hS6
            have HLN6 := Lib.hid (show (fl2.set i (wrap64 (v + by_))).length = fl2.length by simp)
            clear hS5 hS6 HS2 e6 r0 r1 r2 rf
            go_wp2_with fail
            go_meet
            refine ⟨m, c2, fl2.set i (wrap64 (v + by_)), hl2, rfl, Lib.hid (by simp), ?_⟩
            have h := HS6.out
            rw [HLN6.out]
            exact h
          · have hno : ¬ (0 : Int) < (fl2.length : Int) := by omega
            clear hl0
            go_wp2_with fail
            go_meet
            exact ⟨m, c2, fl2, hl2, rfl, Lib.hid ⟨rfl, rfl⟩, HS.out⟩
        · by_cases T2 : turn % 6 = 2
          · have z1 : (turn % 6 == 1) = false := by simpa using T1
            have z2 : (turn % 6 == 2) = true := by simpa using T2
            clear T1 T2
            by_cases hl0 : 0 < hl2.length
            · obtain ⟨gF, oF, cF2, hF⟩ : ∃ g off cap, Value.slice AH hl2.length cH = .slice (some ⟨g, off, none⟩) hl2.length cap := by
                rcases (HS.out.row 0 rfl).in_ with h | ⟨g, off, cap, h, _⟩
                · omega
                · exact ⟨g, off, cap, h⟩
              obtain ⟨rfl, rfl⟩ : AH = some ⟨gF, oF, none⟩ ∧ cH = cF2 := by simpa using hF
              obtain ⟨i, hi⟩ : ∃ i : Nat, (i : Int) = at_ % (hl2.length : Int) := ⟨(at_ % (hl2.length : Int)).toNat, by have := Int.emod_nonneg at_ (b := (hl2.length : Int)) (by omega); omega⟩
              have hil : i < hl2.length := by have := Int.emod_lt_of_pos at_ (b := (hl2.length : Int)) (by omega); omega
              have htm : at_.tmod (hl2.length : Int) = (i : Int) := by rw [Int.tmod_eq_emod_of_nonneg p0, hi]
              obtain ⟨v, hv⟩ : ∃ v, hl2[i] = v := ⟨_, rfl⟩
              have HV := Lib.hid hv
              clear hi hv hF
              have hne : ¬ (hl2.length : Int) = 0 := by omega
              have hl1 : (0 : Int) < (hl2.length : Int) := by omega
              go_upto_region 18 with fail
              have HS2 := HS.out
              refine wp_region_sl [0,1,2,3,4,5,6,7,8,9,10,11,12] [] [13,14] _ HS2 (List.Sublist.refl _) (by kernel_rfl) (by kernel_rfl) (.cons rfl (.cons rfl .nil)) (fun C cw _ hC => ?_)
              have q0 : ∀ c, (cw c).cell? ⟨rb, 2, none⟩ = some (.slice (some ⟨gF, oF, none⟩) hl2.length cH) := fun c => (hC c).cell 2 rfl 2 rfl
              have q1 : ∀ c, (cw c).cell? ⟨gF, oF + i, none⟩ = some (.int .i64 v) := fun c => (hC c).rowCell 0 rfl i (by rw [← HV.out]; simp [hil])
              repeat (first | (refine pl_len _ _ _ _ _ (by kernel_rfl) rfl rfl rfl rfl (fun Kv hK => ?_); go_simp; refine hK _ ?_; clear hK Kv) | (refine pl_look rfl rfl rfl (fun Kv hK => ?_); go_big_quiet_op; refine hK _ ?_; clear hK Kv))
              clear q0 q1 hC
              refine pl_end ?_
              intro w5 hS5
              refine pm_end ?_
              have y1 : w5.cell? ⟨gF, oF + i, none⟩ = some (.int .i64 v) := hS5.rowCell 0 rfl i (by rw [← HV.out]; simp [hil])
              have y2 := hS5.rowFree 0 rfl (oF + i) hl0
              have hS6 := hS5.setRowCell 0 rfl i (by omega) (.int .i64 (wrap64 (v + by_)))
              have e6 : (hl2.map (Value.int .i64)).set i (.int .i64 (wrap64 (v + by_))) = (hl2.set i (wrap64 (v + by_))).map (Value.int .i64) := by rw [List.map_set]
              rw [e6] at hS6
              have HS6 := Lib.hid hS6
              have HLN6 := Lib.hid (show (hl2.set i (wrap64 (v + by_))).length = hl2.length by simp)
              clear hS5 hS6 HS2 e6 r0 r1 r2 rf
              go_wp2_with fail
              go_meet
              refine ⟨m, c2, fl2, hl2.set i (wrap64 (v + by_)), rfl, Lib.hid (by simp), ?_⟩
              have h := HS6.out
              rw [HLN6.out]
              exact h
            · have hno : ¬ (0 : Int) < (hl2.length : Int) := by omega
              clear hl0
              go_wp2_with fail
              go_meet
              exact ⟨m, c2, fl2, hl2, rfl, Lib.hid ⟨rfl, rfl⟩, HS.out⟩
          · by_cases T3 : turn % 6 = 3
            · have HS3 := Lib.hid (HS.out.setCell 2 rfl 1 (.int .i64 (wrap64 (c2 + by_))))
              as_aux_lemma =>
                go_wp2_with fail
                go_meet
                exact ⟨m, wrap64 (c2 + by_), fl2, hl2, rfl, Lib.hid ⟨rfl, rfl⟩, HS3.out⟩
            · by_cases T4 : turn % 6 = 4
              · as_aux_lemma =>
                  go_wp2_with fail
                  go_meet
                  exact ⟨_, c2, fl2, hl2, rfl, Lib.hid ⟨rfl, rfl⟩, HS.out⟩
              · have z1 : (turn % 6 == 1) = false := by simpa using T1
                have z2 : (turn % 6 == 2) = false := by simpa using T2
                have z3 : (turn % 6 == 3) = false := by simpa using T3
                have z4 : (turn % 6 == 4) = false := by simpa using T4
                as_aux_lemma =>
                  go_wp2_with fail
                  go_meet
                  exact ⟨m, c2, fl2, hl2, rfl, Lib.hid ⟨rfl, rfl⟩, HS.out⟩
      clear HS r0 r1 r2 rf
      obtain ⟨w14, rfl⟩ : ∃ w14 : World, w14 = wc := ⟨_, rfl⟩
      obtain ⟨m3, c3, fl3, hl3, rfl, HL3, hS⟩ := hcut
      have hbig : Feas L (getI fl3) → ∀ k, k < L.length → getI fl3 k ≤ 10000 := fun hf k hk => by
        have h1 := hf k hk
        have h2 := HLN.out.small _ (List.getElem_mem hk)
        omega
      have HP := Lib.hid (rightp_any N A2 AF AH cc cF cH L fl3 hl3 s t m3 c3 w14 (hS.reads 4 rfl) (hS.reads 1 rfl) (hS.reads 0 rfl) (by have := HL2.out; have := HL3.out; omega) (by have := HL2.out; have := HL3.out; omega) (by have := HLN.out.n6; omega) (by have := HLN.out.len; omega) HLN.out.inn HLN.out.dear HLN.out.ends (by have := HST.out; omega) hbig)
      have x0 : w14.cell? ⟨xb, 0, none⟩ = some (.int .i64 N) := hS.cell 3 rfl 0 rfl
      have x1 : w14.cell? ⟨xb, 1, none⟩ = some (.slice A2 L.length cc) := hS.cell 3 rfl 1 rfl
      have r0 : w14.cell? ⟨rb, 0, none⟩ = some (.slice AF fl3.length cF) := hS.cell 2 rfl 0 rfl
      have r1 : w14.cell? ⟨rb, 1, none⟩ = some (.int .i64 c3) := hS.cell 2 rfl 1 rfl
      have r2 : w14.cell? ⟨rb, 2, none⟩ = some (.slice AH hl3.length cH) := hS.cell 2 rfl 2 rfl
      have HS := Lib.hid hS
      have HBIG := Lib.hid hbig
      clear hS hbig
      by_cases m0 : 0 ≤ m3
      · by_cases m1 : m3 ≤ 10000
        · as_aux_lemma =>
            go_wp2_with (first
              | (go_at_call 27; (with_reducible refine HP.out.mono ?_); rintro e w15 ⟨⟨b1, rfl, hb1⟩, hbe⟩
                 have hS15 := HS.out.call hbe
                 have HB1 := Lib.hid hb1
                 have x2 : w15.cell? ⟨xb, 0, none⟩ = some (.int .i64 N) := hS15.cell 3 rfl 0 rfl
                 have x3 : w15.cell? ⟨xb, 1, none⟩ = some (.slice A2 L.length cc) := hS15.cell 3 rfl 1 rfl
                 have s0 : w15.cell? ⟨rb, 0, none⟩ = some (.slice AF fl3.length cF) := hS15.cell 2 rfl 0 rfl
                 have s1 : w15.cell? ⟨rb, 1, none⟩ = some (.int .i64 c3) := hS15.cell 2 rfl 1 rfl
                 have s2 : w15.cell? ⟨rb, 2, none⟩ = some (.slice AH hl3.length cH) := hS15.cell 2 rfl 2 rfl
                 have HP2 := Lib.hid (right10_any N A2 AF AH cc cF cH L fl3 hl3 s t m3 c3 w15 (hS15.reads 4 rfl) (hS15.reads 1 rfl) (hS15.reads 0 rfl) (by have := HL2.out; have := HL3.out; omega) (by have := HL2.out; have := HL3.out; omega) (by have := HLN.out.n6; omega) (by have := HLN.out.len; omega) HLN.out.inn HLN.out.dear (by omega) (by have := HST.out; omega) HBIG.out)
                 have HS15 := Lib.hid hS15
                 clear hS15 hbe hb1 x0 x1 r0 r1 r2)
              | (go_at_call 28; (with_reducible refine HP2.out.mono ?_); rintro e w16 ⟨⟨b2, rfl, hb2⟩, hbe⟩
                 have HS16 := Lib.hid (HS15.out.call hbe)
                 obtain rfl : b1 = b2 := by
                   rw [Bool.eq_iff_iff, HB1.out, hb2]
                   exact ⟨fun h => h.2, fun h => ⟨⟨m0, m1⟩, h⟩⟩
                 have hbb : (b1 == b1) = true := by simp
                 clear hbe hb2 x2 x3 s0 s1 s2))
            go_ret
            exact ⟨rfl, HS16.out.below⟩
        · as_aux_lemma =>
            go_wp2_with (first
              | (go_at_call 27; (with_reducible refine HP.out.mono ?_); rintro e w15 ⟨⟨b1, rfl, hb1⟩, hbe⟩
                 have HS15 := Lib.hid (HS.out.call hbe)
                 obtain rfl : b1 = false := by
                   cases b1
                   · rfl
                   · exact absurd (hb1.1 rfl).1.2 m1
                 clear hbe hb1 x0 x1 r0 r1 r2))
            go_ret
            exact ⟨rfl, HS15.out.below⟩
      · as_aux_lemma =>
          go_wp2_with (first
            | (go_at_call 27; (with_reducible refine HP.out.mono ?_); rintro e w15 ⟨⟨b1, rfl, hb1⟩, hbe⟩
               have HS15 := Lib.hid (HS.out.call hbe)
               obtain rfl : b1 = false := by
                 cases b1
                 · rfl
                 · exact absurd (hb1.1 rfl).1.1 m0
               clear hbe hb1 x0 x1 r0 r1 r2))
          go_ret
          exact ⟨rfl, HS15.out.below⟩
theorem ints_open {H : Type} {enc : TypeId × Value → H} {W : World} {n : Nat} {v : Value} {y : DataW H × List MemPlace} (h : DataW.trod enc Try.prog W 0 (fun _ => true) true n 30 [v] = some y) :
    ∃ (A : Option Addr) (c : Nat) (l : List Int), v = .slice A l.length c ∧ Reads W W.heap.size 1 A l.length (l.map (.int .i64)) ∧ l.length ≤ maxLen := by
  rcases Go.ChangeShapes.open_ints Try.underlying30 Try.underlying2 (by kernel_rfl) h with ⟨hcs, _⟩ | ⟨x, len, cap, zs, hcs, _, hl, hm, hz, _, hcell, hwz⟩
  · simp only [List.cons.injEq, and_true] at hcs
    subst hcs
    exact ⟨none, 0, [], rfl, reads_nil _ _ _, by simp [maxLen]⟩
  · simp only [List.cons.injEq, and_true] at hcs
    subst hcs
    obtain ⟨l, h1, h2, h3, _⟩ := reads_take hl hm (by simpa using hz) hcell hwz
    subst h1
    exact ⟨some x, cap, l, rfl, h2, h3⟩
set_option maxRecDepth 100000 in
theorem leastRights_walk {H : Type} {enc : TypeId × Value → H} {base : Nat} (W : World) (n : Int) (_hn : (Lit.int .u8 n).wf = true) (v : Value) (d : DataW H) (p : List MemPlace) (o : Value.okWide Try.prog W .any base 22 v) (k : DataW.Trod enc Try.prog W 0 (fun _ => true) true 22 v d p)
    (a : Int) (_ha : (Lit.int .u8 a).wf = true) (b : Int) (_hb : (Lit.int .u8 b).wf = true) (want : Int) (_hw : (Lit.int .u16 want).wf = true) (v5 : Value) (d5 : DataW H) (p5 : List MemPlace) (o5 : Value.okWide Try.prog W .any base 49 v5) (k5 : DataW.Trod enc Try.prog W 0 (fun _ => true) true 49 v5 d5 p5)
    (turn : Int) (_ht : (Lit.int .u8 turn).wf = true) (at_ : Int) (_hp : (Lit.int .u8 at_).wf = true) (by_ : Int) (_hy : (Lit.int .i16 by_).wf = true) :
    Calls Try.prog 9 #[.int .u8 n, v, .int .u8 a, .int .u8 b, .int .u16 want, v5, .int .u8 turn, .int .u8 at_, .int .i16 by_] W fun e w' => e = .returned (.bool true) ∧ Below W.heap.size W w' := by
  obtain ⟨A, cap, l, rfl, hr, hl, hok⟩ := tubes_open o k
  obtain ⟨u0, u1, u2, y0, y1, y2, m, rfl, _, _, t0, t1, t2⟩ := Go.Joins.open_agg3 Try.underlying49 (by kernel_rfl) (by kernel_rfl) o5 k5
  obtain ⟨FA, fc, fl, rfl, hf, hfl⟩ := ints_open t0
  obtain ⟨c, e1, _, _⟩ := DataW.trod_int Try.underlying2 t1
  simp only [List.cons.injEq, and_true] at e1
  subst e1
  obtain ⟨HA, hc, hl2, rfl, hh, hhl⟩ := ints_open t2
  simp [Lit.wf, IntKind.min, IntKind.max, IntKind.signed, IntKind.bits] at _hn _ha _hb _hw _ht _hp _hy
  exact leastRights0 W n A cap l a b want FA HA fc hc fl hl2 c turn at_ by_ hr hl hok _hn.1 _hn.2 _ha.1 _ha.2 _hb.1 _hb.2 _hw.1 _hw.2 hf hfl hh hhl _ht.1 _ht.2 _hp.1 _hp.2 _hy.1 _hy.2
end Go.Proofs.Ytgnmbmlpfjlbiaa
