/- The walk of law FlowMosts. -/
import Derived.Test.YtgnmbmlpfjlbiaaFlows
import Derived.Test.YtgnmbmlpfjlbiaaLeast
namespace Go.Proofs.Ytgnmbmlpfjlbiaa
open Go.ChangeShapes Go.WideShapes Go.ChangeAt Go.RowKit
set_option linter.unusedVariables false
theorem most_good {N : Nat} {L : List PipeV} {s t sum : Int} {y : Nat → Int} (h : MostOf N L s t y sum) : Good N L s t y :=
  ⟨h.flow.feas, by rw [h.flow.amount]; exact h.flow.pos, fun v _ h1 h2 => h.flow.kept v h1 h2⟩
set_option maxHeartbeats 4000000 in
theorem flowMosts0 (W : World) (n : Int) (A : Option Addr) (cap : Nat) (l : List TubeV) (a b : Int) (hr : Tubes W W.heap.size A l) (hl : l.length ≤ maxLen) (hok : ∀ x ∈ l, x.ok) (n0 : 0 ≤ n) (n1 : n ≤ 255) (a0 : 0 ≤ a) (a1 : a ≤ 255) (b0 : 0 ≤ b) (b1 : b ≤ 255) :
    Calls Try.prog 3 #[.int .u8 n, .slice A l.length cap, .int .u8 a, .int .u8 b] W fun e w' => e = .returned (.bool true) ∧ Below W.heap.size W w' := by
  obtain ⟨N, L, s, t, hLN, hnet, hend⟩ := lawNet_pack W n A cap l a b hr hl hok n0 n1 a0 a1 b0 b1
  have HLN := Lib.hid hLN
  have HNET := Lib.hid hnet
  have HEND := Lib.hid hend
  clear hr hl hok hLN hnet hend
  go_enter Try.func3, Try.ntmps3
  go_upto_region 4 with (first
    | (go_at_call 13; (with_reducible refine (awake09 _).mono ?_); rintro e w1 ⟨rfl, hb1⟩; have HB1 := Lib.hid hb1; clear hb1)
    | (go_at_call 14; (with_reducible refine (HNET.out _ HB1.out).mono ?_); rintro e w2 ⟨v, rfl, hS⟩
       obtain ⟨A2, c2, rfl, _, _⟩ := (hS.row 0 rfl).slice_
       have HS := Lib.hid (hS.rebase HB1.out HB1.out.size)
       clear hS))
  have hS := HS.out.alloc #[.int .i64 N, .slice A2 L.length c2] 26
  obtain ⟨xb, hxb⟩ : ∃ xb, xb = w2.heap.size := ⟨_, rfl⟩
  generalize (w2.alloc (Obj.cells #[.int .i64 N, .slice A2 L.length c2] 26)) = w3 at *
  rw [← hxb] at hS ⊢
  clear hxb
  have HS3 := Lib.hid hS
  have c0 : w3.cell? ⟨xb, 0, none⟩ = some (.int .i64 N) := hS.cell 0 rfl 0 rfl
  have c1 : w3.cell? ⟨xb, 1, none⟩ = some (.slice A2 L.length c2) := hS.cell 0 rfl 1 rfl
  clear hS
  have hz0 : ((0 : Int) == 0) = true := rfl
  go_wp2_with (first
    | (go_at_call 15; (with_reducible refine (HEND.out _ _).mono ?_); rintro e w4 ⟨rfl, hb4⟩
       have hS4 := HS3.out.call hb4
       have d0 : w4.cell? ⟨xb, 0, none⟩ = some (.int .i64 N) := hS4.cell 0 rfl 0 rfl
       have d1 : w4.cell? ⟨xb, 1, none⟩ = some (.slice A2 L.length c2) := hS4.cell 0 rfl 1 rfl
       have HM : Hid (Calls Try.prog 16 #[.agg #[.int .i64 N, .slice A2 L.length c2], .int .i64 s, .int .i64 t] w4 (MostPost w4 N L s t)) := Lib.hid (most_any N A2 c2 L s t w4 (hS4.reads 1 rfl) HLN.out.ends)
       have HS4 := Lib.hid hS4
       clear hb4 c0 c1 hS4)
    | (go_at_call 16; (with_reducible refine HM.out.mono ?_); rintro e w5 ⟨y, sum, lb, rfl, hS5, hM⟩
       have hS6 := HS4.out.join hS5
       have e0 : w5.cell? ⟨xb, 0, none⟩ = some (.int .i64 N) := hS6.cell 1 rfl 0 rfl
       have e1 : w5.cell? ⟨xb, 1, none⟩ = some (.slice A2 L.length c2) := hS6.cell 1 rfl 1 rfl
       have HFL : Hid (Calls Try.prog 17 #[.agg #[.int .i64 N, .slice A2 L.length c2], .slice (some ⟨lb, 0, none⟩) L.length L.length, .int .i64 s, .int .i64 t] w5 (FlowsPost w5 N L s t y)) := Lib.hid (flows_any N A2 _ c2 L.length L ((List.range L.length).map y) s t w5 (hS6.reads 2 rfl) (reads_iarr (hS6.blk 0 rfl)) (by simp) (by have := HLN.out.n6; omega) (by have := HLN.out.len; omega) HLN.out.inn HLN.out.t0 HLN.out.t1 y (by intro k hk; simp))
       have HS6 := Lib.hid (And.intro hS6 hM)
       clear hS6 hS5 hM d0 d1)
    | (go_at_call 17; (with_reducible refine HFL.out.mono ?_); rintro e w6 ⟨hor, hb6⟩
       obtain rfl : e = .returned (.tuple #[.int .i64 sum, .bool true]) := by
         rcases hor with ⟨_, he⟩ | ⟨hn, _⟩
         · rw [he, HS6.out.2.flow.amount]
         · exact absurd (most_good HS6.out.2) hn
       have hS7 := HS6.out.1.call hb6
       have f0 : w6.cell? ⟨xb, 0, none⟩ = some (.int .i64 N) := hS7.cell 1 rfl 0 rfl
       have f1 : w6.cell? ⟨xb, 1, none⟩ = some (.slice A2 L.length c2) := hS7.cell 1 rfl 1 rfl
       have HLE : Hid (Calls Try.prog 18 #[.agg #[.int .i64 N, .slice A2 L.length c2], .int .i64 s, .int .i64 t] w6 (fun e w' => (∃ b, e = .returned (.int .i64 b) ∧ LeastK L s t (2 ^ N) b) ∧ Below w6.heap.size w6 w')) := Lib.hid (least_any N A2 c2 L s t w6 (hS7.reads 2 rfl) HLN.out.n6 HLN.out.len HLN.out.inn HLN.out.s0 HLN.out.s1 HLN.out.t0 HLN.out.t1)
       have HS7 := Lib.hid hS7
       clear hor hb6 hS7 e0 e1)
    | (go_at_call 18; (with_reducible refine HLE.out.mono ?_); rintro e w7 ⟨⟨b', rfl, hK⟩, hb7⟩
       obtain rfl : b' = sum := least_most HLN.out.inn (by have := HLN.out.len; omega) HLN.out.s0 HLN.out.s1 HLN.out.t0 HLN.out.t1 hK HS6.out.2
       have HS8 := Lib.hid (HS7.out.call hb7)
       clear hK hb7 f0 f1))
  go_ret
  exact ⟨rfl, HS8.out.below⟩
set_option maxRecDepth 100000 in
theorem flowMosts_walk {H : Type} {enc : TypeId × Value → H} {base : Nat} (W : World) (n : Int) (_hn : (Lit.int .u8 n).wf = true) (v : Value) (d : DataW H) (p : List MemPlace) (o : Value.okWide Try.prog W .any base 22 v) (k : DataW.Trod enc Try.prog W 0 (fun _ => true) true 22 v d p)
    (a : Int) (_ha : (Lit.int .u8 a).wf = true) (b : Int) (_hb : (Lit.int .u8 b).wf = true) :
    Calls Try.prog 3 #[.int .u8 n, v, .int .u8 a, .int .u8 b] W fun e w' => e = .returned (.bool true) ∧ Below W.heap.size W w' := by
  obtain ⟨A, cap, l, rfl, hr, hl, hok⟩ := tubes_open o k
  simp [Lit.wf, IntKind.min, IntKind.max, IntKind.signed, IntKind.bits] at _hn _ha _hb
  exact flowMosts0 W n A cap l a b hr hl hok _hn.1 _hn.2 _ha.1 _ha.2 _hb.1 _hb.2
end Go.Proofs.Ytgnmbmlpfjlbiaa
