/- The walk of law LeastCheap. -/
import Derived.Test.YtgnmbmlpfjlbiaaAwake10
import Derived.Test.YtgnmbmlpfjlbiaaLawNet10
import Derived.Test.YtgnmbmlpfjlbiaaCopyInts
namespace Go.Proofs.Ytgnmbmlpfjlbiaa
open Go.ChangeShapes Go.WideShapes Go.ChangeAt Go.RowKit
set_option linter.unusedVariables false
set_option maxRecDepth 100000 in
set_option maxHeartbeats 8000000 in
theorem leastCheap0 (W : World) (n : Int) (A : Option Addr) (cap : Nat) (l : List TubeV) (a b : Int) (AR : Option Addr) (rc : Nat) (raw : List Int) (most : Bool) (hraw : Reads W W.heap.size 1 AR raw.length (raw.map (.int .i64))) (hrl : raw.length ≤ maxLen) (hr : Tubes W W.heap.size A l) (hl : l.length ≤ maxLen) (hok : ∀ x ∈ l, x.ok) (n0 : 0 ≤ n) (n1 : n ≤ 255) (a0 : 0 ≤ a) (a1 : a ≤ 255) (b0 : 0 ≤ b) (b1 : b ≤ 255) :
    Calls Try.prog 10 #[.int .u8 n, .slice A l.length cap, .int .u8 a, .int .u8 b, .slice AR raw.length rc, .bool most] W fun e w' => e = .returned (.bool true) ∧ Below W.heap.size W w' := by
  obtain ⟨N, L, s, t, hLN, hnet, hend⟩ := lawNet10_pack W n A cap l a b hr hl hok n0 n1 a0 a1 b0 b1
  have HLN := Lib.hid hLN
  have HNET := Lib.hid hnet
  have HEND := Lib.hid hend
  have HRAW := Lib.hid hraw
  have hl14 := hLN.len
  have hn6 := hLN.n6
  have hm1 := make_ints L.length (by omega)
  clear hr hl hok hLN hnet hend hraw hrl
  go_enter Try.func10, Try.ntmps10
  go_upto_region 4 with (first
    | (go_at_call 24; (with_reducible refine (awake10 _).mono ?_); rintro e w1 ⟨rfl, hb1⟩; have HB1 := Lib.hid hb1; clear hb1)
    | (go_at_call 14; (with_reducible refine (HNET.out _ HB1.out).mono ?_); rintro e w2 ⟨v, rfl, hS⟩
       obtain ⟨A2, c2, rfl, _, _⟩ := (hS.row 0 rfl).slice_
       have HS := Lib.hid (hS.rebase HB1.out HB1.out.size)
       clear hS))
  have hS := HS.out.alloc #[.int .i64 N, .slice A2 L.length c2] 26
  obtain ⟨xb, hxb⟩ : ∃ xb, xb = w2.heap.size := ⟨_, rfl⟩
  generalize (w2.alloc (Obj.cells #[.int .i64 N, .slice A2 L.length c2] 26)) = w3 at *
  rw [← hxb] at hS ⊢
  clear hxb
  have HS3 := Lib.hid hS
  have c0 : w3.cell? ⟨xb, 0, none⟩ = some (.int .i64 N) := hS.cell 0 rfl 0 rfl
  have c1 : w3.cell? ⟨xb, 1, none⟩ = some (.slice A2 L.length c2) := hS.cell 0 rfl 1 rfl
  clear hS
  go_upto_region 6 with (go_at_call 15; (with_reducible refine (HEND.out _ _).mono ?_); rintro e w4 ⟨rfl, hb4⟩
                         have hS4 := HS3.out.call hb4
                         have c2' : w4.cell? ⟨xb, 1, none⟩ = some (.slice A2 L.length c2) := hS4.cell 0 rfl 1 rfl
                         have hz4 := (hS4.lt 0 rfl).2
                         have HS4 := Lib.hid hS4
                         clear hb4 c0 c1 hS4)
  have hS5 := HS4.out.alloc (iarr (fun _ => 0) L.length) 2
  obtain ⟨fb, hfb⟩ : ∃ fb, fb = w4.heap.size := ⟨_, rfl⟩
  generalize (w4.alloc (Obj.cells (iarr (fun _ => 0) L.length) 2)) = w5 at *
  rw [← hfb] at hS5 ⊢
  have HS5 := Lib.hid hS5
  clear hfb c2' hz4 hS5 hm1
  go_upto_region 7 with (refine wpList_copy_ints rfl (.tmp 40) (.tmp 41) 30 30 rfl 2 rfl (by kernel_rfl) fb L.length _ rfl AR raw rc rfl W.heap.size (Reads.below HRAW.out HS5.out.below) (fun _ => 0) 2 (HS5.out.blk 0 rfl) ?_
                         intro w6 v6 ho6 hh6
                         have hS6 : SL W W.heap.size [.blk fb (iarr (laidOver raw (fun _ => 0)) L.length) 2, .blk xb #[.int .i64 N, .slice A2 L.length c2] 26, .row 40 4 (.slice A2 L.length c2) L.length (pipeCells L)] w6 := HS5.out.only 0 rfl ho6 hh6
                         have HS6 := Lib.hid hS6
                         clear ho6 hh6 hS6)
  generalize laidOver raw (fun _ => 0) = X0 at HS6
  go_upto_if 43 with fail
  go_cut [16] (fun s16 wx => ∃ (X : Nat → Int) (gb : Nat), s16 = .slice (some ⟨gb, 0, none⟩) L.length L.length ∧ SL W W.heap.size [.blk gb (iarr X L.length) 2, .blk xb #[.int .i64 N, .slice A2 L.length c2] 26, .row 40 4 (.slice A2 L.length c2) L.length (pipeCells L)] wx)
  case first =>
    cases most
    · go_wp2_with fail
      go_meet
      exact ⟨X0, fb, rfl, HS6.out⟩
    · have c0 : w6.cell? ⟨xb, 0, none⟩ = some (.int .i64 N) := HS6.out.cell 1 rfl 0 rfl
      have c1 : w6.cell? ⟨xb, 1, none⟩ = some (.slice A2 L.length c2) := HS6.out.cell 1 rfl 1 rfl
      have HM : Hid (Calls Try.prog 16 #[.agg #[.int .i64 N, .slice A2 L.length c2], .int .i64 (s : Int), .int .i64 (t : Int)] w6 (MostPost w6 N L s t)) := Lib.hid (most_any N A2 c2 L s t w6 (HS6.out.reads 2 rfl) HLN.out.ends)
      go_wp2_with (go_at_call 16; (with_reducible refine HM.out.mono ?_); rintro e w7 ⟨y, sum, lb, rfl, hS7, hM⟩; have HS7 := Lib.hid ((HS6.out.join hS7).sub (.cons_cons _ (.cons _ (List.Sublist.refl _)))); clear hS7 hM c0 c1)
      go_meet
      exact ⟨y, lb, rfl, HS7.out⟩
  case rest =>
  clear HS6 HS5 HS4 HS3 HS
  obtain ⟨X, gb, rfl, hS⟩ := hcut
  have c0 : wc.cell? ⟨xb, 0, none⟩ = some (.int .i64 N) := hS.cell 1 rfl 0 rfl
  have c1 : wc.cell? ⟨xb, 1, none⟩ = some (.slice A2 L.length c2) := hS.cell 1 rfl 1 rfl
  have HFL : Hid (Calls Try.prog 17 #[.agg #[.int .i64 N, .slice A2 L.length c2], .slice (some ⟨gb, 0, none⟩) L.length L.length, .int .i64 (s : Int), .int .i64 (t : Int)] wc (FlowsPost wc N L s t X)) := Lib.hid (flows_any N A2 _ c2 L.length L ((List.range L.length).map X) s t wc (hS.reads 2 rfl) (reads_iarr (hS.blk 0 rfl)) (by simp) (by omega) (by omega) HLN.out.inn HLN.out.t0 HLN.out.t1 X (by intro k hk; simp))
  have HS := Lib.hid hS
  clear hS
  obtain ⟨M, hM⟩ : ∃ M, inn L X t = M := ⟨_, rfl⟩
  by_cases hg : Good N L s t X
  · have HG := Lib.hid (And.intro hg hM)
    clear hg hM
    go_upto_region 10 with (go_at_call 17; (with_reducible refine HFL.out.mono ?_); rintro e w8 ⟨hor, hb8⟩
                            obtain rfl : e = .returned (.tuple #[.int .i64 M, .bool true]) := by
                              rcases hor with ⟨_, he⟩ | ⟨hn, _⟩
                              · rw [he, HG.out.2]
                              · exact absurd HG.out.1 hn
                            have HS8 := Lib.hid (HS.out.call hb8)
                            clear hor hb8 c0 c1)
    by_cases hbig : 10000 < M
    · have hbd : decide (10000 < M) = true := decide_eq_true hbig
      go_wp2_with fail
      go_ret
      exact ⟨rfl, HS8.out.below⟩
    · have hbd : decide (10000 < M) = false := decide_eq_false hbig
      have c1 : w8.cell? ⟨xb, 1, none⟩ = some (.slice A2 L.length c2) := HS8.out.cell 1 rfl 1 rfl
      go_wp2_with fail
      clear c1 hbd
      go_loopw [69, 19] (fun u69 u19 wr => ∃ k : Nat, k ≤ L.length ∧ u69 = .int .i64 k ∧ u19 = .int .i64 (costK L X k) ∧ SL W W.heap.size [.blk gb (iarr X L.length) 2, .blk xb #[.int .i64 N, .slice A2 L.length c2] 26, .row 40 4 (.slice A2 L.length c2) L.length (pipeCells L)] wr) (fun u69 _ _ => L.length - (intOf u69).toNat)
      case atStart => exact ⟨0, by omega, rfl, rfl, HS8.out⟩
      case round =>
        clear HS8
        obtain ⟨k, hk, rfl, rfl, hS⟩ := hrel
        by_cases hlt : k < L.length
        · obtain ⟨bA, oA, rfl, hbA, d0, d1, d2, d3⟩ := pipes_at (hS.reads 2 rfl) hlt
          have hcs := HLN.out.costs _ (List.getElem_mem hlt)
          have hsm := HLN.out.small _ (List.getElem_mem hlt)
          have hfe := HG.out.1.feas k hlt
          have hck := costK_le (C := 255) HLN.out.dear (by decide) (fun j hj => ⟨(HG.out.1.feas j hj).1, by have h1 := (HG.out.1.feas j hj).2; have h2 := HLN.out.small _ (List.getElem_mem hj); omega⟩) k hk
          have hcb : costK L X k ≤ 255 * 4294967296 * 14 := by
            have h2 : (255 : Int) * DearI * (k : Int) ≤ 255 * DearI * 14 := Int.mul_le_mul_of_nonneg_left (by omega) (by decide)
            have := hck.2
            unfold DearI at *
            omega
          have hmu : 0 ≤ X k * L[k].cost ∧ X k * L[k].cost ≤ 255 * 255 := ⟨Int.mul_nonneg hfe.1 hcs.1, Int.mul_le_mul (by omega) hcs.2 hcs.1 (by omega)⟩
          have HCK := Lib.hid (costK_succ (x := X) hlt)
          obtain ⟨fr, hfr⟩ : ∃ x, L[k].fr = x := ⟨_, rfl⟩
          obtain ⟨tt, htt⟩ : ∃ x, L[k].to = x := ⟨_, rfl⟩
          obtain ⟨rm, hrm⟩ : ∃ x, L[k].room = x := ⟨_, rfl⟩
          obtain ⟨ct, hct⟩ : ∃ x, L[k].cost = x := ⟨_, rfl⟩
          rw [hct] at d3 hmu HCK
          rw [hfr] at d0
          rw [htt] at d1
          rw [hrm] at d2
          obtain ⟨q, hq⟩ : ∃ q, costK L X k = q := ⟨_, rfl⟩
          rw [hq] at hck hcb HCK ⊢
          obtain ⟨xk, hxk⟩ : ∃ x, X k = x := ⟨_, rfl⟩
          rw [hxk] at hmu HCK
          have HXK := Lib.hid hxk
          have hw1 : IntKind.i64.wrap (xk * ct) = xk * ct := by rw [IntKind.wrap_i64]; omega
          have hw2 : IntKind.i64.wrap (q + xk * ct) = q + xk * ct := by rw [IntKind.wrap_i64]; omega
          have hS9 := hS.alloc #[.int .i64 fr, .int .i64 tt, .int .i64 rm, .int .i64 ct] 40
          have hz9 : bA < wr.heap.size := hbA
          clear hS hcs hsm hfe hck hcb hmu hfr htt hrm hct hq hxk
          go_upto_region 16 with fail
          obtain ⟨pb, hpb⟩ : ∃ pb, pb = wr.heap.size := ⟨_, rfl⟩
          generalize (wr.alloc (.cells #[.int .i64 fr, .int .i64 tt, .int .i64 rm, .int .i64 ct] 40)) = w9 at *
          rw [← hpb] at hS9 ⊢
          clear hpb d0 d1 d2 d3 hz9 hbA
          refine wp_region_sl [0,1,2,3,4,5,6,7,8] [] [9] _ hS9 (List.Sublist.refl _) (by kernel_rfl) (by kernel_rfl) (.cons rfl .nil) (fun C cw _ hC => ?_)
          have q0 : ∀ c, (cw c).cell? ⟨gb, k, none⟩ = some (.int .i64 xk) := fun c => (by have h9 := (hC c).cell 1 rfl k (iarr_get _ _ _ hlt); rw [HXK.out] at h9; exact h9)
          have q3 : ∀ c, (cw c).cell? ⟨pb, 3, none⟩ = some (.int .i64 ct) := fun c => (hC c).cell 0 rfl 3 rfl
          repeat (refine pl_look rfl rfl rfl (fun Kv hK => ?_); go_big_quiet_op; refine hK _ ?_; clear hK Kv)
          clear q0 q3 hC hw1 hw2
          refine pl_end ?_
          intro w10 hS10
          refine pm_end ?_
          have HS10 := Lib.hid hS10
          clear hS9 hS10
          go_wp2_with fail
          go_roundw
          case rel => exact ⟨k + 1, by omega, by go_num, by rw [HCK.out], HS10.out.tail⟩
          case measure => simp [intOf]; omega
        · obtain rfl : k = L.length := by omega
          have hM0 : 0 ≤ M := by rw [← HG.out.2]; exact HG.out.1.pos
          have c0 : wr.cell? ⟨xb, 0, none⟩ = some (.int .i64 N) := hS.cell 1 rfl 0 rfl
          have c1 : wr.cell? ⟨xb, 1, none⟩ = some (.slice A2 L.length c2) := hS.cell 1 rfl 1 rfl
          have HLE := Lib.hid (least_one N A2 c2 L s t M wr (hS.reads 2 rfl) HLN.out.ends hM0 (by omega) HLN.out.dear HLN.out.few)
          have HS := Lib.hid hS
          clear hS
          go_upto_region 19 with (go_at_call 25; (with_reducible refine HLE.out.mono ?_); rintro e w11 ⟨FA, fn, c, HA, hn, err, rfl, hO⟩
                                  have HS11 := Lib.hid (HS.out.call hO.below)
                                  have HO := Lib.hid hO
                                  clear hO c0 c1)
          have hS12 := HS11.out.alloc #[.slice FA fn fn, .int .i64 c, .slice HA hn hn] 49
          obtain ⟨rb, hrb⟩ : ∃ rb, rb = w11.heap.size := ⟨_, rfl⟩
          generalize (w11.alloc (.cells #[.slice FA fn fn, .int .i64 c, .slice HA hn hn] 49)) = w12 at *
          rw [← hrb] at hS12 ⊢
          clear hrb
          have hFl := good_flow HLN.out.inn HG.out.1
          rw [HG.out.2] at hFl
          rcases HO.out with ⟨e1, e2, e3, e4, e5, e6, e7, y, sum, hM5, hlt5⟩ | ⟨y, h, fb2, hb2, e1, e2, e3, e4, e5, rfl, e6, hO⟩
          · have := most_is HLN.out.inn (by have := HLN.out.s1; omega) (by have := HLN.out.t1; omega) hM5 hFl
            omega
          · have hle := opt_dual HLN.out.inn (by have := HLN.out.t1; omega) hO hFl
            rw [Int.sub_self, Int.mul_zero, Int.add_zero, ← e3] at hle
            have y1 : w12.cell? ⟨rb, 1, none⟩ = some (.int .i64 c) := hS12.cell 0 rfl 1 rfl
            have HS12 := Lib.hid hS12
            have hled : decide (c ≤ costK L X L.length) = true := decide_eq_true hle
            clear e1 e2 e3 e4 e5 e6 hO hS12 hFl hle
            go_wp2_with fail
            go_ret
            exact ⟨rfl, HS12.out.below⟩
  · have HG := Lib.hid hg
    clear hg hM
    go_wp2_with (go_at_call 17; (with_reducible refine HFL.out.mono ?_); rintro e w8 ⟨hor, hb8⟩
                 obtain rfl : e = .returned (.tuple #[.int .i64 0, .bool false]) := by
                   rcases hor with ⟨hn, _⟩ | ⟨_, he⟩
                   · exact absurd hn HG.out
                   · exact he
                 have HS8 := Lib.hid (HS.out.call hb8)
                 clear hor hb8 c0 c1)
    go_ret
    exact ⟨rfl, HS8.out.below⟩
set_option maxRecDepth 100000 in
theorem leastCheap_walk {H : Type} {enc : TypeId × Value → H} {base : Nat} (W : World) (n : Int) (_hn : (Lit.int .u8 n).wf = true) (v : Value) (d : DataW H) (p : List MemPlace) (o : Value.okWide Try.prog W .any base 22 v) (k : DataW.Trod enc Try.prog W 0 (fun _ => true) true 22 v d p)
    (a : Int) (_ha : (Lit.int .u8 a).wf = true) (b : Int) (_hb : (Lit.int .u8 b).wf = true) (AR : Option Addr) (rc : Nat) (raw : List Int) (hraw : Reads W W.heap.size 1 AR raw.length (raw.map (.int .i64))) (hrl : raw.length ≤ maxLen) (_hw : ∀ n ∈ raw, (Lit.int .i64 n).wf = true) (most : Bool) :
    Calls Try.prog 10 #[.int .u8 n, v, .int .u8 a, .int .u8 b, .slice AR raw.length rc, .bool most] W fun e w' => e = .returned (.bool true) ∧ Below W.heap.size W w' := by
  obtain ⟨A, cap, l, rfl, hr, hl, hok⟩ := tubes_open o k
  simp [Lit.wf, IntKind.min, IntKind.max, IntKind.signed, IntKind.bits] at _hn _ha _hb
  exact leastCheap0 W n A cap l a b AR rc raw most hraw hrl hr hl hok _hn.1 _hn.2 _ha.1 _ha.2 _hb.1 _hb.2
end Go.Proofs.Ytgnmbmlpfjlbiaa
