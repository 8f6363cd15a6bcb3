/- The walk of the law GraphOuts. -/
import Derived.Test.YthdjmljoiflkjaaGraphNone
import Derived.Test.YthdjmljoiflkjaaTurned
import Derived.Test.YthdjmljoiflkjaaEqual
namespace Go.Proofs.Ythdjmljoiflkjaa
open Go.ChangeShapes Go.WideShapes Go.ChangeAt Go.RowKit
set_option linter.unusedVariables false
@[go_sem] theorem eqArc (w : World) (x y z : Int) : (Op.equalIn 10000 53 (.agg #[.int .i64 x, .int .i64 y, .int .i64 z]) (.agg #[.int .i64 x, .int .i64 y, .int .i64 z])).run Try.prog w = .ok true w := by
  have hS : Try.prog.underlying 53 = some (.struct (Try.prog.fieldsOf 53)) := by kernel_rfl
  have hp : Try.prog.stoodInHeld 53 = false := by kernel_rfl
  rw [show (10000 : Nat) = 9999 + 1 from rfl, run_equalIn_agg w 9999 53 _ _ hS hp]
  simp only [Program.fieldsOf, Try.underlying53]
  go_simp
set_option maxHeartbeats 4000000 in
theorem graphOuts0 (W : World) (N : Int) (A : Option Addr) (cap : Nat) (l : List ArcV) (i : Int) (hr : Arcs W W.heap.size A l) (h3 : l.length ≤ 100) :
    Calls Try.prog 10 #[.agg #[.int .i64 N, .slice A l.length cap], .int .i64 i] W fun e w' => e = .returned (.bool true) ∧ Below W.heap.size W w' := by
  obtain ⟨i0, hi0, hz0, hz1, hz2⟩ := info_parts int_info
  have HI := Lib.hid (And.intro hi0 (And.intro hz0 (And.intro hz1 hz2)))
  have HR := Lib.hid hr
  clear hr hi0 hz0 hz1 hz2
  go_enter Try.func10, Try.ntmps10
  go_wp2_with (go_at_call 24; (with_reducible refine (graph_awake _).mono ?_); rintro e w1 ⟨rfl, hb1⟩
               obtain ⟨hg, hbw, hz⟩ := box_awake hb1
               have c0 : w1.cell? ⟨W.heap.size, 0, none⟩ = some (.int .i64 N) := cell_of_row _ _ _ _ _ _ hg
               have c1 : w1.cell? ⟨W.heap.size, 1, none⟩ = some (.slice A l.length cap) := cell_of_row _ _ _ _ _ _ hg
               have HG := Lib.hid hg
               have HB := Lib.hid hbw
               clear hg hbw hb1)
  go_loopw [5, 20] (fun v i' wr => ∃ k : Nat, k ≤ l.length ∧ i' = .int .i64 k ∧ wr.ownsRow w1.heap.size 3 1 v (outK l i k).length ((outK l i k).map (.int .i64)) ∧ Below w1.heap.size w1 wr) (fun _ i' _ => l.length - (intOf i').toNat)
  case atStart => exact ⟨0, by omega, rfl, by exact World.ownsRow_nil _ _ _ _, Below.refl _ _⟩
  case round =>
    obtain ⟨k, hk, rfl, hown, hB⟩ := hrel
    have hB0 : Hid (Below W.heap.size W wr) := HB.out.trans (hB.mono HB.out.size)
    have hzz := hB.size
    have hol := outK_len l i k
    have hgr : Hid (wr.heap[W.heap.size]? = some (.cells #[.int .i64 N, .slice A l.length cap] 51 (0, 0))) := (hB.block _ hz).trans HG.out
    by_cases hlt : k < l.length
    · obtain ⟨b, o, hA, hb, d0, d1, d2⟩ := arcs_at (Reads.below HR.out hB0.out) hlt
      subst hA
      have hbz : b < wr.heap.size := by omega
      by_cases hf : l[k].fr = i
      · have HQ := Lib.hid (outK_yes hlt hf)
        have hf' : (l[k].fr == i) = true := by simpa using hf
        clear hf c0 c1
        go_wp2_with (at_builtin; refine wpList_append_new rfl _ _ 63 rfl w1.heap.size i0 (.int .i64 0) 1 8 Try.underlying63 HI.out.1 HI.out.2.1 HI.out.2.2.1 HI.out.2.2.2 rfl (by decide) _ _ _ rfl (hown.alloc _) _ rfl ?c0 rfl ?c1 ?c2 ?c3 ?c4 ?_)
        case c0 => simp
        case c1 => simp [Value.oneCell']
        case c2 => omega
        case c3 => omega
        case c4 => simp; omega
        intro v' w' hown' hb' hz'
        have HO := Lib.hid (And.intro hown' hb')
        clear hown' hb' hown
        go_wp2
        go_roundw
        case rel => exact ⟨k + 1, by omega, by go_num, by rw [HQ.out]; simpa using HO.out.1, hB.trans (((Below.refl _ _).alloc hzz _).trans HO.out.2)⟩
        case measure => simp [intOf]; omega
      · have HQ := Lib.hid (outK_no hlt hf)
        have hf' : (l[k].fr == i) = false := by simpa using hf
        have HO := Lib.hid hown
        clear hf hown c0 c1
        go_wp2
        go_roundw
        case rel => exact ⟨k + 1, by omega, by go_num, by rw [HQ.out]; exact HO.out.alloc _, hB.trans ((Below.refl _ _).alloc hzz _)⟩
        case measure => simp [intOf]; omega
    · obtain rfl : k = l.length := by omega
      obtain ⟨A5, c5, rfl, _⟩ := ownsRow_slice hown
      obtain ⟨ks, HK⟩ : ∃ ks, Hid (ks = outK l i l.length) := ⟨_, rfl⟩
      rw [← HK.out] at hown hol
      rw [← HK.out]
      have HRW := Lib.hid (And.intro (reads_own hown) hol)
      have HA1 : Hid (Arcs wr wr.heap.size A l) := reads_more (Reads.below HR.out hB0.out) hB0.out.size
      have hct : Hid (∀ w', Arcs w' w'.heap.size A l → Calls Try.prog 31 #[.agg #[.int .i64 N, .slice A l.length cap]] w' (TurnedPost w' N l)) := fun w' h => turned_any N A cap l w' h (by omega)
      have hco : Hid (∀ w', Arcs w' w'.heap.size A l → Calls Try.prog 33 #[.agg #[.int .i64 N, .slice A l.length cap], .int .i64 i] w' (MadeInts w' ks)) := fun w' h => by rw [HK.out]; exact out_any N A cap l i w' h (by omega)
      have d0 : wr.cell? ⟨W.heap.size, 0, none⟩ = some (.int .i64 N) := cell_of_row _ _ _ _ _ _ hgr.out
      have d1 : wr.cell? ⟨W.heap.size, 1, none⟩ = some (.slice A l.length cap) := cell_of_row _ _ _ _ _ _ hgr.out
      have hzr : W.heap.size < wr.heap.size := block_lt_of_cell d0
      clear hown hol c0 c1 hB hzz hlt hk
      go_wp2_with (first
        | (go_at_call 31; (with_reducible refine (hct.out _ HA1.out).mono ?_); rintro e w2 ⟨A6, c6, rfl, hr6, hb6⟩
           have g0 : w2.cell? ⟨W.heap.size, 0, none⟩ = some (.int .i64 N) := (hb6.cell hzr).trans d0
           have g1 : w2.cell? ⟨W.heap.size, 1, none⟩ = some (.slice A l.length cap) := (hb6.cell hzr).trans d1
           have hz2 : W.heap.size < w2.heap.size := Nat.lt_of_lt_of_le hzr hb6.size
           have H6 := Lib.hid (And.intro hr6 hb6)
           have HB6 : Hid (Below W.heap.size W w2) := hB0.out.trans (hb6.mono hB0.out.size)
           have HA3 : Hid (Arcs (w2.alloc (.cells #[.int .i64 N, .slice A6 l.length c6] 51)) (w2.alloc (.cells #[.int .i64 N, .slice A6 l.length c6] 51)).heap.size A l) :=
             reads_more (Reads.below HR.out (HB6.out.alloc HB6.out.size _)) (by have := HB6.out.size; simp; omega)
           clear hr6 hb6)
        | (go_at_call 33; (with_reducible refine (hco.out _ HA3.out).mono ?_); rintro e w4 ⟨v4, rfl, hown4, hb4⟩
           obtain ⟨A7, c7, rfl, _⟩ := ownsRow_slice hown4
           have hs3 : (w2.alloc (.cells #[.int .i64 N, .slice A6 l.length c6] 51)).heap.size = w2.heap.size + 1 := by simp
           have hb4' : Below (w2.heap.size + 1) (w2.alloc (.cells #[.int .i64 N, .slice A6 l.length c6] 51)) w4 := by rw [← hs3]; exact hb4
           have HB24 : Hid (Below w2.heap.size w2 w4) := ((Below.refl _ _).alloc (Nat.le_refl _) _).trans (hb4'.mono (by omega))
           have HT4 : Hid (w4.heap[w2.heap.size]? = some (.cells #[.int .i64 N, .slice A6 l.length c6] 51 (0, 0))) := (hb4'.block _ (by omega)).trans (heap_alloc_new w2 _)
           have HR7 := Lib.hid (reads_own hown4)
           have HR5 : Hid (Reads w4 w4.heap.size 1 A5 ks.length (ks.map (.int .i64))) := by
             have q := (HRW.out.1.below H6.out.2).below (HB24.out.mono H6.out.2.size)
             exact reads_more q (Nat.le_trans H6.out.2.size HB24.out.size)
           have HE : Hid (w4.heap.size = w4.heap.size) := rfl
           clear hown4 hb4 hb4' hs3)
        | (go_at_call 32; (with_reducible refine (equal_ints A7 A5 c7 c5 ks w4 HR7.out HR5.out (by have := HRW.out.2; unfold maxLen; omega)).mono ?_); rintro e w5 ⟨rfl, hb5⟩
           have HB25 : Hid (Below w2.heap.size w2 w5) := HB24.out.trans (hb5.mono HB24.out.size)
           have hz24 : w2.heap.size < w4.heap.size := by
             rcases Nat.lt_or_ge w2.heap.size w4.heap.size with h | h
             · exact h
             · have := HT4.out; rw [Array.getElem?_eq_none h] at this; cases this
           have HT5 : Hid (w5.heap[w2.heap.size]? = some (.cells #[.int .i64 N, .slice A6 l.length c6] 51 (0, 0))) := (hb5.block _ hz24).trans HT4.out
           have k0 : w5.cell? ⟨W.heap.size, 0, none⟩ = some (.int .i64 N) := (HB25.out.cell hz2).trans g0
           have k1 : w5.cell? ⟨W.heap.size, 1, none⟩ = some (.slice A l.length cap) := (HB25.out.cell hz2).trans g1
           have t0 : w5.cell? ⟨w2.heap.size, 0, none⟩ = some (.int .i64 N) := cell_of_row _ _ _ _ _ _ HT5.out
           have t1 : w5.cell? ⟨w2.heap.size, 1, none⟩ = some (.slice A6 l.length c6) := cell_of_row _ _ _ _ _ _ HT5.out
           clear hb5))
      have hsA : Hid (Arcs w5 w5.heap.size A l) := reads_more (Reads.below HR.out (HB6.out.trans (HB25.out.mono HB6.out.size))) (Nat.le_trans HB6.out.size HB25.out.size)
      have hsB : Hid (Arcs w5 w5.heap.size A6 (l.map ArcV.turn)) := reads_more (Reads.below H6.out.1 HB25.out) HB25.out.size
      go_loopw [61] (fun i' wr => ∃ k : Nat, k ≤ l.length ∧ i' = .int .i64 k ∧ Below w5.heap.size w5 wr) (fun i' _ => l.length - (intOf i').toNat)
      case atStart => exact ⟨0, by omega, rfl, Below.refl _ _⟩
      case round =>
        obtain ⟨k, hk, rfl, hB⟩ := hrel
        by_cases hlt : k < l.length
        · obtain ⟨b, o, hA, hb, d0, d1, d2⟩ := arcs_at (Reads.below hsA.out hB) hlt
          obtain ⟨b', o', hA', hb', f0, f1, f2⟩ := arcs_at (Reads.below hsB.out hB) (by simpa using hlt)
          subst hA
          subst hA'
          simp only [List.getElem_map, ArcV.turn] at f0 f1 f2
          have g0' := (hB.cell (block_lt_of_cell k0)).trans k0
          have g1' := (hB.cell (block_lt_of_cell k1)).trans k1
          have t0' := (hB.cell (block_lt_of_cell t0)).trans t0
          have t1' := (hB.cell (block_lt_of_cell t1)).trans t1
          have hBs := hB.size
          go_wp2
          have HA' : Below wr.heap.size wr (wr.alloc (.cells #[.int .i64 l[k].fr, .int .i64 l[k].to, .int .i64 l[k].wt] 53)) := (Below.refl _ _).alloc (Nat.le_refl _) _
          have HN := heap_alloc_new wr (.cells #[.int .i64 l[k].fr, .int .i64 l[k].to, .int .i64 l[k].wt] 53)
          generalize (wr.alloc (.cells #[.int .i64 l[k].fr, .int .i64 l[k].to, .int .i64 l[k].wt] 53)) = w9 at *
          have q1 := (HA'.cell (block_lt_of_cell t1')).trans t1'
          have q2 := (HA'.cell (block_lt_of_cell f0)).trans f0
          have q3 := (HA'.cell (block_lt_of_cell f1)).trans f1
          have q4 := (HA'.cell (block_lt_of_cell f2)).trans f2
          have n0 : w9.cell? ⟨wr.heap.size, 0, none⟩ = some (.int .i64 l[k].fr) := cell_of_row _ _ _ _ _ _ HN
          have n1 : w9.cell? ⟨wr.heap.size, 1, none⟩ = some (.int .i64 l[k].to) := cell_of_row _ _ _ _ _ _ HN
          have n2 : w9.cell? ⟨wr.heap.size, 2, none⟩ = some (.int .i64 l[k].wt) := cell_of_row _ _ _ _ _ _ HN
          go_quiet (fail)
          go_wp2
          go_roundw
          case rel => exact ⟨k + 1, by omega, by go_num, below_drewN (hB.trans (HA'.mono hBs)) _⟩
          case measure => simp [intOf]; omega
        · obtain rfl : k = l.length := by omega
          go_wp2
          go_ret
          exact ⟨rfl, HB6.out.trans ((HB25.out.trans (hB.mono HB25.out.size)).mono HB6.out.size)⟩
theorem graphOuts_walk {H : Type} {enc : TypeId × Value → H} {base : Nat} (W : World) (v : Value) (d : DataW H) (p : List MemPlace) (o : Value.okWide Try.prog W .any base 51 v) (k : DataW.Trod enc Try.prog W 0 (fun _ => true) true 51 v d p)
    (i : Int) (_hi : (Lit.int .i64 i).wf = true) :
    Calls Try.prog 10 #[v, .int .i64 i] W fun e w' => e = .returned (.bool true) ∧ Below W.heap.size W w' := by
  obtain ⟨N, A, cap, l, rfl, hr, hl, _⟩ := graph_open o k
  by_cases h : (100 : Int) < (l.length : Int)
  · unfold maxLen at hl
    go_enter Try.func10, Try.ntmps10
    go_wp2_with (go_at_call 24; (with_reducible refine (graph_awake _).mono ?_); rintro e w1 ⟨rfl, hb1⟩
                 obtain ⟨hg, hbw, hz⟩ := box_awake hb1
                 have c0 : w1.cell? ⟨W.heap.size, 0, none⟩ = some (.int .i64 N) := cell_of_row _ _ _ _ _ _ hg
                 have c1 : w1.cell? ⟨W.heap.size, 1, none⟩ = some (.slice A l.length cap) := cell_of_row _ _ _ _ _ _ hg
                 have HB := Lib.hid hbw
                 clear hg hbw hb1)
    go_ret
    exact ⟨rfl, HB.out⟩
  · exact graphOuts0 W N A cap l i hr (by omega)
end Go.Proofs.Ythdjmljoiflkjaa
