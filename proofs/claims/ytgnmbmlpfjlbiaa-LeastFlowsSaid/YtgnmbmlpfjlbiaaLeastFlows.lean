/- The walk of law LeastFlows. -/
import Derived.Test.YtgnmbmlpfjlbiaaRightO
import Derived.Test.YtgnmbmlpfjlbiaaAwake10
namespace Go.Proofs.Ytgnmbmlpfjlbiaa
open Go.ChangeShapes Go.WideShapes Go.ChangeAt Go.RowKit
set_option linter.unusedVariables false
set_option maxRecDepth 100000 in
set_option maxHeartbeats 8000000 in
theorem leastFlows0 (W : World) (n : Int) (A : Option Addr) (cap : Nat) (l : List TubeV) (a b want : Int) (hr : Tubes W W.heap.size A l) (hl : l.length ≤ maxLen) (hok : ∀ x ∈ l, x.ok) (n0 : 0 ≤ n) (n1 : n ≤ 255) (a0 : 0 ≤ a) (a1 : a ≤ 255) (b0 : 0 ≤ b) (b1 : b ≤ 255) (w0 : 0 ≤ want) (w1 : want ≤ 65535) :
    Calls Try.prog 11 #[.int .u8 n, .slice A l.length cap, .int .u8 a, .int .u8 b, .int .u16 want] W fun e w' => e = .returned (.bool true) ∧ Below W.heap.size W w' := by
  obtain ⟨N, L, s, t, hLN, hnet, hend⟩ := lawNet10_pack W n A cap l a b hr hl hok n0 n1 a0 a1 b0 b1
  have HLN := Lib.hid hLN
  have HNET := Lib.hid hnet
  have HEND := Lib.hid hend
  have hn6 := hLN.n6
  have hsN : s < N := by have := hLN.s1; omega
  have htN : t < N := by have := hLN.t1; omega
  obtain ⟨m, hm⟩ : ∃ m, want % 1200 = m := ⟨_, rfl⟩
  have hm0 : 0 ≤ m ∧ m < 1200 := by omega
  have hrem : want.tmod 1200 = m := by rw [Int.tmod_eq_emod_of_nonneg w0]; exact hm
  clear hr hl hok hLN hnet hend
  go_enter Try.func11, Try.ntmps11
  go_upto_region 4 with (first
    | (go_at_call 24; (with_reducible refine (awake10 _).mono ?_); rintro e w1 ⟨rfl, hb1⟩; have HB1 := Lib.hid hb1; clear hb1)
    | (go_at_call 14; (with_reducible refine (HNET.out _ HB1.out).mono ?_); rintro e w2 ⟨v, rfl, hS⟩
       obtain ⟨A2, c2, rfl, _, _⟩ := (hS.row 0 rfl).slice_
       have HS := Lib.hid (hS.rebase HB1.out HB1.out.size)
       clear hS))
  have hS := HS.out.alloc #[.int .i64 N, .slice A2 L.length c2] 26
  obtain ⟨xb, hxb⟩ : ∃ xb, xb = w2.heap.size := ⟨_, rfl⟩
  generalize (w2.alloc (Obj.cells #[.int .i64 N, .slice A2 L.length c2] 26)) = w3 at *
  rw [← hxb] at hS ⊢
  clear hxb
  have HS3 := Lib.hid hS
  have c0 : w3.cell? ⟨xb, 0, none⟩ = some (.int .i64 N) := hS.cell 0 rfl 0 rfl
  have c1 : w3.cell? ⟨xb, 1, none⟩ = some (.slice A2 L.length c2) := hS.cell 0 rfl 1 rfl
  clear hS
  go_upto_region 8 with (first
    | (go_at_call 15; (with_reducible refine (HEND.out _ _).mono ?_); rintro e w4 ⟨rfl, hb4⟩
       have hS4 := HS3.out.call hb4
       have d0 : w4.cell? ⟨xb, 0, none⟩ = some (.int .i64 N) := hS4.cell 0 rfl 0 rfl
       have d1 : w4.cell? ⟨xb, 1, none⟩ = some (.slice A2 L.length c2) := hS4.cell 0 rfl 1 rfl
       have HM : Hid (Calls Try.prog 16 #[.agg #[.int .i64 N, .slice A2 L.length c2], .int .i64 (s : Int), .int .i64 (t : Int)] w4 (MostPost w4 N L s t)) := Lib.hid (most_any N A2 c2 L s t w4 (hS4.reads 1 rfl) HLN.out.ends)
       have HS4 := Lib.hid hS4
       clear hb4 c0 c1 hS4)
    | (go_at_call 16; (with_reducible refine HM.out.mono ?_); rintro e w5 ⟨y0, sum0, lb, rfl, hS5, hM⟩
       have hS6 := (HS4.out.join hS5).tail
       have e0 : w5.cell? ⟨xb, 0, none⟩ = some (.int .i64 N) := hS6.cell 0 rfl 0 rfl
       have e1 : w5.cell? ⟨xb, 1, none⟩ = some (.slice A2 L.length c2) := hS6.cell 0 rfl 1 rfl
       have HLE := Lib.hid (least_one N A2 c2 L s t m w5 (hS6.reads 1 rfl) HLN.out.ends hm0.1 (by omega) HLN.out.dear HLN.out.few)
       have HS6 := Lib.hid (And.intro hS6 hM)
       clear hS6 hS5 hM d0 d1)
    | (go_at_call 25; (with_reducible refine HLE.out.mono ?_); rintro e w6 ⟨FA, fn, c, HA, hn, err, rfl, hO⟩
       have HS7 := Lib.hid (HS6.out.1.call hO.below)
       have HO := Lib.hid hO
       clear hO e0 e1))
  have hS8 := HS7.out.alloc #[.slice FA fn fn, .int .i64 c, .slice HA hn hn] 49
  obtain ⟨rb, hrb⟩ : ∃ rb, rb = w6.heap.size := ⟨_, rfl⟩
  rcases HO.out with ⟨rfl, rfl, rfl, rfl, rfl, rfl, e6, y, sum, hM5, hlt5⟩ | ⟨y, h, fb, hb, rfl, rfl, rfl, rfl, e5, rfl, hSO, hO⟩
  · have hle := most_is HLN.out.inn hsN htN hM5 HS6.out.2.flow
    have hgt : decide (sum0 < m) = true := decide_eq_true (by omega)
    generalize (w6.alloc (.cells #[.slice none 0 0, .int .i64 0, .slice none 0 0] 49)) = w7 at *
    rw [← hrb] at hS8 ⊢
    have r0 : w7.cell? ⟨rb, 0, none⟩ = some (.slice none 0 0) := hS8.cell 0 rfl 0 rfl
    have r1 : w7.cell? ⟨rb, 1, none⟩ = some (.int .i64 0) := hS8.cell 0 rfl 1 rfl
    have r2 : w7.cell? ⟨rb, 2, none⟩ = some (.slice none 0 0) := hS8.cell 0 rfl 2 rfl
    have HS8 := Lib.hid hS8
    clear hS8 hrb hM5 hle hlt5 e6
    go_wp2_with fail
    go_ret
    exact ⟨rfl, HS8.out.below⟩
  · have e5' := e5.symm
    clear e5
    subst e5'
    have hle := most_is HLN.out.inn hsN htN HS6.out.2 hO.flow
    have hgt : decide (sum0 < m) = false := decide_eq_false (by omega)
    have hS9 := (HS6.out.1.join hSO).alloc #[.slice (some ⟨fb, 0, none⟩) L.length L.length, .int .i64 (costF L y), .slice (some ⟨hb, 0, none⟩) N N] 49
    generalize (w6.alloc (.cells #[.slice (some ⟨fb, 0, none⟩) L.length L.length, .int .i64 (costF L y), .slice (some ⟨hb, 0, none⟩) N N] 49)) = w7 at *
    rw [← hrb] at hS9 ⊢
    have hhs := hO.hs
    have HY := Lib.hid hO
    have HR1 := Lib.hid (fun (w' : World) (h1 : Pipes w' w'.heap.size A2 L) h2 h3 => right10_yes N A2 c2 L s t m y h fb hb 2 2 w' h1 h2 h3 HLN.out.ends HLN.out.dear hO (by omega))
    have HR2 := Lib.hid (fun (w' : World) (h1 : Pipes w' w'.heap.size A2 L) h2 h3 => rightp_yes N A2 c2 L s t m y h fb hb 2 2 w' h1 h2 h3 HLN.out.ends HLN.out.dear hO (by omega))
    obtain ⟨c, hc⟩ : ∃ c, costF L y = c := ⟨_, rfl⟩
    rw [hc] at hS9 HR1 HR2 ⊢
    have x0 : w7.cell? ⟨xb, 0, none⟩ = some (.int .i64 N) := hS9.cell 3 rfl 0 rfl
    have x1 : w7.cell? ⟨xb, 1, none⟩ = some (.slice A2 L.length c2) := hS9.cell 3 rfl 1 rfl
    have r0 : w7.cell? ⟨rb, 0, none⟩ = some (.slice (some ⟨fb, 0, none⟩) L.length L.length) := hS9.cell 0 rfl 0 rfl
    have r1 : w7.cell? ⟨rb, 1, none⟩ = some (.int .i64 c) := hS9.cell 0 rfl 1 rfl
    have r2 : w7.cell? ⟨rb, 2, none⟩ = some (.slice (some ⟨hb, 0, none⟩) N N) := hS9.cell 0 rfl 2 rfl
    have HC1 := Lib.hid (HR1.out w7 (hS9.reads 4 rfl) (hS9.blk 1 rfl) (hS9.blk 2 rfl))
    have HS9 := Lib.hid hS9
    have hsi : (s : Int) < (N : Int) := by omega
    have HHS := Lib.hid hhs
    have hz : ((0 : Int) != 0) = false := rfl
    clear hS9 hrb hle hSO hO hc hS8 hhs
    go_wp2_with (first
      | (go_at_call 28; (with_reducible refine HC1.out.mono ?_); rintro e w8 ⟨rfl, hb8⟩
         have hS10 := HS9.out.call hb8
         have x2 : w8.cell? ⟨xb, 0, none⟩ = some (.int .i64 N) := hS10.cell 3 rfl 0 rfl
         have x3 : w8.cell? ⟨xb, 1, none⟩ = some (.slice A2 L.length c2) := hS10.cell 3 rfl 1 rfl
         have s0 : w8.cell? ⟨rb, 0, none⟩ = some (.slice (some ⟨fb, 0, none⟩) L.length L.length) := hS10.cell 0 rfl 0 rfl
         have s1 : w8.cell? ⟨rb, 1, none⟩ = some (.int .i64 c) := hS10.cell 0 rfl 1 rfl
         have s2 : w8.cell? ⟨rb, 2, none⟩ = some (.slice (some ⟨hb, 0, none⟩) N N) := hS10.cell 0 rfl 2 rfl
         have HC2 := Lib.hid (HR2.out w8 (hS10.reads 4 rfl) (hS10.blk 1 rfl) (hS10.blk 2 rfl))
         have HS10 := Lib.hid hS10
         clear hS10 hb8 x0 x1 r0 r1 r2)
      | (go_at_call 27; (with_reducible refine HC2.out.mono ?_); rintro e w9 ⟨rfl, hb9⟩
         have hS11 := HS10.out.call hb9
         have u2 : w9.cell? ⟨rb, 2, none⟩ = some (.slice (some ⟨hb, 0, none⟩) N N) := hS11.cell 0 rfl 2 rfl
         have us : w9.cell? ⟨hb, s, none⟩ = some (.int .i64 0) := (by have h9 := hS11.cell 2 rfl s (iarr_get _ _ _ hsN); rw [HHS.out] at h9; exact h9)
         have HS11 := Lib.hid hS11
         clear hS11 hb9 x2 x3 s0 s1 s2))
    clear u2 us
    go_loopw [104] (fun u104 wr => ∃ i : Nat, i ≤ N ∧ u104 = .int .i64 i ∧ SL W W.heap.size [.blk rb #[.slice (some ⟨fb, 0, none⟩) L.length L.length, .int .i64 c, .slice (some ⟨hb, 0, none⟩) N N] 49, .blk fb (iarr y L.length) 2, .blk hb (iarr h N) 2, .blk xb #[.int .i64 N, .slice A2 L.length c2] 26, .row 40 4 (.slice A2 L.length c2) L.length (pipeCells L)] wr) (fun u104 _ => N - (intOf u104).toNat)
    case atStart => exact ⟨0, by omega, rfl, HS11.out⟩
    case round =>
      clear HS11 HS10 HS9
      obtain ⟨i, hi, rfl, hS⟩ := hrel
      by_cases hlt : i < N
      · have u2 : wr.cell? ⟨rb, 2, none⟩ = some (.slice (some ⟨hb, 0, none⟩) N N) := hS.cell 0 rfl 2 rfl
        have ui : wr.cell? ⟨hb, i, none⟩ = some (.int .i64 (h i)) := hS.cell 2 rfl i (iarr_get _ _ _ hlt)
        have ut : wr.cell? ⟨hb, t, none⟩ = some (.int .i64 (h t)) := hS.cell 2 rfl t (iarr_get _ _ _ htN)
        have hti : (t : Int) < (N : Int) := by omega
        have hii : (i : Int) < (N : Int) := by omega
        have hle := (HY.out.hb i hlt).2
        have hled : decide (h t < h i) = false := decide_eq_false (by omega)
        generalize h i = hi' at *
        generalize h t = ht' at *
        have HS := Lib.hid hS
        clear hS
        go_wp2_with fail
        go_roundw
        case rel => exact ⟨i + 1, by omega, by go_num, HS.out⟩
        case measure => simp [intOf]; omega
      · obtain rfl : i = N := by omega
        have HS := Lib.hid hS
        clear hS
        go_wp2_with fail
        go_ret
        exact ⟨rfl, HS.out.below⟩
set_option maxRecDepth 100000 in
theorem leastFlows_walk {H : Type} {enc : TypeId × Value → H} {base : Nat} (W : World) (n : Int) (_hn : (Lit.int .u8 n).wf = true) (v : Value) (d : DataW H) (p : List MemPlace) (o : Value.okWide Try.prog W .any base 22 v) (k : DataW.Trod enc Try.prog W 0 (fun _ => true) true 22 v d p)
    (a : Int) (_ha : (Lit.int .u8 a).wf = true) (b : Int) (_hb : (Lit.int .u8 b).wf = true) (want : Int) (_hw : (Lit.int .u16 want).wf = true) :
    Calls Try.prog 11 #[.int .u8 n, v, .int .u8 a, .int .u8 b, .int .u16 want] W fun e w' => e = .returned (.bool true) ∧ Below W.heap.size W w' := by
  obtain ⟨A, cap, l, rfl, hr, hl, hok⟩ := tubes_open o k
  simp [Lit.wf, IntKind.min, IntKind.max, IntKind.signed, IntKind.bits] at _hn _ha _hb _hw
  exact leastFlows0 W n A cap l a b want hr hl hok _hn.1 _hn.2 _ha.1 _ha.2 _hb.1 _hb.2 _hw.1 _hw.2
end Go.Proofs.Ytgnmbmlpfjlbiaa
