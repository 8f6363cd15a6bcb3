/- The walk of law LeastMore. -/
import Derived.Test.YtgnmbmlpfjlbiaaAwake10
import Derived.Test.YtgnmbmlpfjlbiaaLawNet10
namespace Go.Proofs.Ytgnmbmlpfjlbiaa
open Go.ChangeShapes Go.WideShapes Go.ChangeAt Go.RowKit
set_option linter.unusedVariables false
/-- What the first k amounts cost. -/
def MoreSt (N : Nat) (L : List PipeV) (s t k : Nat) (last step : Int) : Prop :=
  (k = 0 ∧ last = 0 ∧ step = 0) ∨ (k = 1 ∧ last = 0 ∧ step = 0 ∧ ∃ y h, Opt N L s t y h 0 ∧ costF L y = 0) ∨
  (2 ≤ k ∧ ∃ y0 h0 y1 h1, Opt N L s t y0 h0 ((k : Int) - 1 - 1) ∧ Opt N L s t y1 h1 ((k : Int) - 1) ∧ last = costF L y1 ∧ step = costF L y1 - costF L y0)
theorem more_step {N : Nat} {L : List PipeV} {s t k : Nat} {last step : Int} {y h : Nat → Int} (hL : LawNet10 N L s t) (hM : MoreSt N L s t k last step) (hO : Opt N L s t y h k) (hk : k ≤ 100) : ¬ costF L y - last < step ∧ MoreSt N L s t (k + 1) (costF L y) (costF L y - last) := by
  have hc := cost_small hL hO (by omega)
  have htN : t < N := by have := hL.t1; omega
  rcases hM with ⟨rfl, rfl, rfl⟩ | ⟨rfl, rfl, rfl, y0, h0, o0, e0⟩ | ⟨hk2, y0, h0, y1, h1, o0, o1, rfl, rfl⟩
  · refine ⟨by omega, .inr (.inl ?_)⟩
    have hz := opt_dual hL.inn htN hO (flow_zero (s := (s : Int)) (t := (t : Int)) hL.inn)
    have e : costF L (fun _ => 0) = 0 := costK_zero L _
    rw [e] at hz
    simp at hz
    have e2 : costF L y = 0 := by omega
    exact ⟨rfl, e2, by omega, y, h, hO, e2⟩
  · refine ⟨by omega, .inr (.inr ⟨by omega, y0, h0, y, h, ?_, ?_, rfl, by omega⟩)⟩
    · simpa using o0
    · simpa using hO
  · refine ⟨?_, .inr (.inr ⟨by omega, y1, h1, y, h, ?_, ?_, rfl, rfl⟩)⟩
    · have hO2 : Opt N L s t y h ((k : Int) - 1 + 1) := by rw [show (k : Int) - 1 + 1 = k by omega]; exact hO
      have := opt_convex hL.inn htN o0 o1 hO2
      omega
    · rw [show ((k + 1 : Nat) : Int) - 1 - 1 = (k : Int) - 1 by omega]; exact o1
    · rw [show ((k + 1 : Nat) : Int) - 1 = (k : Int) by omega]; exact hO
set_option maxHeartbeats 4000000 in
theorem leastMore0 (W : World) (n : Int) (A : Option Addr) (cap : Nat) (l : List TubeV) (a b : Int) (hr : Tubes W W.heap.size A l) (hl : l.length ≤ maxLen) (hok : ∀ x ∈ l, x.ok) (n0 : 0 ≤ n) (n1 : n ≤ 255) (a0 : 0 ≤ a) (a1 : a ≤ 255) (b0 : 0 ≤ b) (b1 : b ≤ 255) :
    Calls Try.prog 8 #[.int .u8 n, .slice A l.length cap, .int .u8 a, .int .u8 b] W fun e w' => e = .returned (.bool true) ∧ Below W.heap.size W w' := by
  obtain ⟨N, L, s, t, hLN, hnet, hend⟩ := lawNet10_pack W n A cap l a b hr hl hok n0 n1 a0 a1 b0 b1
  have HLN := Lib.hid hLN
  have HNET := Lib.hid hnet
  have HEND := Lib.hid hend
  clear hr hl hok hLN hnet hend
  go_enter Try.func8, Try.ntmps8
  go_upto_region 4 with (first
    | (go_at_call 24; (with_reducible refine (awake10 _).mono ?_); rintro e w1 ⟨rfl, hb1⟩; have HB1 := Lib.hid hb1; clear hb1)
    | (go_at_call 14; (with_reducible refine (HNET.out _ HB1.out).mono ?_); rintro e w2 ⟨v, rfl, hS⟩
       obtain ⟨A2, c2, rfl, _, _⟩ := (hS.row 0 rfl).slice_
       have HS := Lib.hid (hS.rebase HB1.out HB1.out.size)
       clear hS))
  have hS := HS.out.alloc #[.int .i64 N, .slice A2 L.length c2] 26
  obtain ⟨xb, hxb⟩ : ∃ xb, xb = w2.heap.size := ⟨_, rfl⟩
  generalize (w2.alloc (Obj.cells #[.int .i64 N, .slice A2 L.length c2] 26)) = w3 at *
  rw [← hxb] at hS ⊢
  clear hxb
  have HS3 := Lib.hid hS
  have c0 : w3.cell? ⟨xb, 0, none⟩ = some (.int .i64 N) := hS.cell 0 rfl 0 rfl
  have c1 : w3.cell? ⟨xb, 1, none⟩ = some (.slice A2 L.length c2) := hS.cell 0 rfl 1 rfl
  clear hS
  go_wp2_with (go_at_call 15; (with_reducible refine (HEND.out _ _).mono ?_); rintro e w4 ⟨rfl, hb4⟩
               have HS4 := Lib.hid (HS3.out.call hb4)
               clear hb4 c0 c1)
  go_loopw [29, 12, 13] (fun u29 u12 u13 wr => ∃ (k : Nat) (last step : Int), k ≤ 12 ∧ u29 = .int .i64 k ∧ u12 = .int .i64 last ∧ u13 = .int .i64 step ∧ -700000000000000 ≤ step ∧ step ≤ 700000000000000 ∧ 0 ≤ last ∧ last ≤ 700000000000000 ∧ Hid (MoreSt N L s t k last step) ∧ SL W W.heap.size [.blk xb #[.int .i64 N, .slice A2 L.length c2] 26, .row 40 4 (.slice A2 L.length c2) L.length (pipeCells L)] wr) (fun u29 _ _ _ => 12 - (intOf u29).toNat)
  case atStart => exact ⟨0, 0, 0, by omega, rfl, rfl, rfl, by omega, by omega, by omega, by omega, Lib.hid (.inl ⟨rfl, rfl, rfl⟩), HS4.out⟩
  case round =>
    clear HS4 HS3 HS
    obtain ⟨k, last, step, hk, rfl, rfl, rfl, hs1, hs2, hs3, hs4, HM, hS⟩ := hrel
    by_cases hlt : k < 12
    · have hki : (k : Int) < 12 := by omega
      have HLE := Lib.hid (least_one N A2 c2 L s t (k : Int) wr (hS.reads 1 rfl) HLN.out.ends (by omega) (by omega) HLN.out.dear HLN.out.few)
      have c0 : wr.cell? ⟨xb, 0, none⟩ = some (.int .i64 N) := hS.cell 0 rfl 0 rfl
      have c1 : wr.cell? ⟨xb, 1, none⟩ = some (.slice A2 L.length c2) := hS.cell 0 rfl 1 rfl
      have HS := Lib.hid hS
      clear hS
      go_upto_region 9 with fail
      go_upto_region 10 with (go_at_call 25; (with_reducible refine HLE.out.mono ?_); rintro e w5 ⟨FA, fn, c, HA, hn, err, rfl, hO⟩
                              have HS5 := Lib.hid (HS.out.call hO.below)
                              have HO := Lib.hid hO
                              clear hO)
      have hS6 := HS5.out.alloc #[.slice FA fn fn, .int .i64 c, .slice HA hn hn] 49
      clear c0 c1
      obtain ⟨rb, hrb⟩ : ∃ rb, rb = w5.heap.size := ⟨_, rfl⟩
      generalize (w5.alloc (.cells #[.slice FA fn fn, .int .i64 c, .slice HA hn hn] 49)) = w6 at *
      rw [← hrb] at hS6 ⊢
      clear hrb
      rcases HO.out with ⟨e1, e2, e3, e4, e5, rfl, e6, y, sum, hM5, hlt5⟩ | ⟨y, h, fb, hb, e1, e2, rfl, e4, e5, rfl, e6, hO⟩
      · have hpos := hM5.flow.pos
        have hk0 : 0 < k := by omega
        clear e1 e2 e3 e4 e5 e6
        have HS6 := Lib.hid hS6
        have HK0 := Lib.hid hk0
        clear hS6 hM5
        go_wp2_with fail
        go_ret
        exact ⟨by have h9 := HK0.out; simp [h9], HS6.out.below⟩
      · have hcs := cost_small HLN.out hO (by omega)
        obtain ⟨hno, hM2⟩ := more_step HLN.out HM.out hO (by omega)
        generalize costF L y = c at *
        have HM2 := Lib.hid hM2
        have hw1 : IntKind.i64.wrap (c - last) = c - last := by rw [IntKind.wrap_i64]; omega
        have y1 : w6.cell? ⟨rb, 1, none⟩ = some (.int .i64 c) := hS6.cell 0 rfl 1 rfl
        clear hM2 hO e1 e2 e4 e5 e6
        go_upto_region 14 with fail
        clear y1
        refine wp_region_sl [0,1,2,3,4,5] [6,7] [] _ hS6 (List.Sublist.refl _) (by kernel_rfl) (by kernel_rfl) .nil (fun C cw _ hC => ?_)
        have q1 : ∀ x, (cw x).cell? ⟨rb, 1, none⟩ = some (.int .i64 c) := fun x => (hC x).cell 0 rfl 1 rfl
        repeat (refine pl_look rfl rfl rfl (fun Kv hK => ?_); go_big_quiet_op; refine hK _ ?_; clear hK Kv)
        clear q1 hC
        refine pl_end ?_
        intro w7 hS7
        refine pm_eff rfl rfl fun Kv hK => ?_
        go_simp
        refine ⟨hS7, hK _ _ ?_⟩
        clear hK Kv
        refine pm_eff rfl rfl fun Kv hK => ?_
        go_simp
        refine ⟨hS7, hK _ _ ?_⟩
        clear hK Kv hw1 hS6
        refine pm_end ?_
        have HS7 := Lib.hid hS7
        clear hS7
        go_wp2_with fail
        go_roundw
        case rel => exact ⟨k + 1, c, c - last, by omega, by go_num, rfl, rfl, by omega, by omega, by omega, by omega, HM2, HS7.out.tail⟩
        case measure => simp [intOf]; omega
    · obtain rfl : k = 12 := by omega
      have HS := Lib.hid hS
      clear hS
      go_wp2_with fail
      go_ret
      exact ⟨rfl, HS.out.below⟩
set_option maxRecDepth 100000 in
theorem leastMore_walk {H : Type} {enc : TypeId × Value → H} {base : Nat} (W : World) (n : Int) (_hn : (Lit.int .u8 n).wf = true) (v : Value) (d : DataW H) (p : List MemPlace) (o : Value.okWide Try.prog W .any base 22 v) (k : DataW.Trod enc Try.prog W 0 (fun _ => true) true 22 v d p)
    (a : Int) (_ha : (Lit.int .u8 a).wf = true) (b : Int) (_hb : (Lit.int .u8 b).wf = true) :
    Calls Try.prog 8 #[.int .u8 n, v, .int .u8 a, .int .u8 b] W fun e w' => e = .returned (.bool true) ∧ Below W.heap.size W w' := by
  obtain ⟨A, cap, l, rfl, hr, hl, hok⟩ := tubes_open o k
  simp [Lit.wf, IntKind.min, IntKind.max, IntKind.signed, IntKind.bits] at _hn _ha _hb
  exact leastMore0 W n A cap l a b hr hl hok _hn.1 _hn.2 _ha.1 _ha.2 _hb.1 _hb.2
end Go.Proofs.Ytgnmbmlpfjlbiaa
