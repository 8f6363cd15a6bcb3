/- The walk of law OrderCycles. -/
import Derived.Test.YtaaffahjlkfbgaaCycleO
import Derived.Test.YtaaffahjlkfbgaaJoined
import Derived.Test.YtaaffahjlkfbgaaLinksOpen
namespace Go.Proofs.Ytaaffahjlkfbgaa
open Go.ChangeShapes Go.WideShapes Go.ChangeAt Go.RowKit
set_option linter.unusedVariables false
theorem arcsO_cells {w : World} {B b o : Nat} {l : List ArcV} (h : Arcs w B (some ⟨b, o, none⟩) l) {k : Nat} (hk : k < l.length) : b < B ∧ w.cell? ⟨b, o + k * 3, none⟩ = some (.int .i64 l[k].fr) ∧ w.cell? ⟨b, o + (k * 3) + 1, none⟩ = some (.int .i64 l[k].to) ∧ w.cell? ⟨b, o + (k * 3) + 2, none⟩ = some (.int .i64 l[k].wt) := by
  obtain ⟨b', o', e, h1, h2, h3, h4⟩ := arcs_at h hk
  simp only [Option.some.injEq, Addr.mk.injEq, and_true] at e
  obtain ⟨rfl, rfl⟩ := e
  exact ⟨h1, h2, h3, h4⟩
set_option maxRecDepth 100000 in
set_option maxHeartbeats 4000000 in
theorem cycleO_no (N : Nat) (A : Option Addr) (cap : Nat) (l : List ArcV) (w : World) (hr : Arcs w w.heap.size A l) (hck : checkG N l = 0) {out : List Int} (hg : Grd N l out) (hs : Stop N l out) (hln : out.length = N) :
    Calls Try.prog 41 #[.agg #[.int .i64 N, .slice A l.length cap]] w fun e w' => e = .returned (.slice none 0 0) ∧ Below w.heap.size w w' := by
  have hS0 := (SL.start (Nat.le_refl w.heap.size)).alloc #[.int .i64 N, .slice A l.length cap] 45
  have HR : Hid (∀ (rs : List Rs) w', SL w w.heap.size rs w' → Arcs w' w'.heap.size A l) := Lib.hid (fun rs w' h => reads_more (Reads.below hr h.below) h.below.size)
  obtain ⟨_, hN, hl, hin⟩ := inN_of_check hck
  have HCK : Hid (∀ (rs : List Rs) w', SL w w.heap.size rs w' → Calls Try.prog 39 #[.agg #[.int .i64 N, .slice A l.length cap]] w' fun e w'' => e = .returned (.int .i64 0) ∧ Below w'.heap.size w' w'') := Lib.hid (fun rs w' h => by
    rw [← hck]; exact checkG_any N A cap l w' (HR.out _ _ h) (by unfold maxLen; omega))
  have HST : Hid (∀ (rs : List Rs) w', SL w w.heap.size rs w' → Calls Try.prog 32 #[.agg #[.int .i64 N, .slice A l.length cap]] w' fun e w'' => ∃ A' n' c', e = .returned (.tuple #[.slice A' n' c', .bool true]) ∧ Below w'.heap.size w' w'') := Lib.hid (fun rs w' h => by
    refine (sort_any N A cap l w' (HR.out _ _ h) hck).mono ?_
    rintro e w'' ⟨o2, g2, s2, h⟩
    obtain rfl := g2.one hg s2 hs
    rcases h with ⟨hn, A', c', rfl, hS⟩ | ⟨h, _⟩
    · exact ⟨_, _, _, rfl, hS.below⟩
    · omega)
  clear hr hck hN hin hg hs hln
  go_enter Try.func41, Try.ntmps41
  go_wp2_with fail
  go_step3
  go_upto_region 1 with fail
  obtain ⟨gb, hgb⟩ : ∃ gb, gb = w.heap.size := ⟨_, rfl⟩
  obtain ⟨w0, hw0⟩ : ∃ w0, w0 = w.alloc (.cells #[.int .i64 N, .slice A l.length cap] 45) := ⟨_, rfl⟩
  have HS0 : Hid (SL w w.heap.size [.blk gb #[.int .i64 N, .slice A l.length cap] 45] w0) := Lib.hid (by rw [hgb, hw0]; exact hS0)
  rw [← hw0, ← hgb]
  clear hS0 hw0 hgb
  have c0 : w0.cell? ⟨gb, 0, none⟩ = some (.int .i64 N) := HS0.out.cell 0 rfl 0 rfl
  have c1 : w0.cell? ⟨gb, 1, none⟩ = some (.slice A l.length cap) := HS0.out.cell 0 rfl 1 rfl
  go_upto_region 3 with (go_at_call 39; (with_reducible refine (HCK.out _ _ HS0.out).mono ?_); rintro e w1 ⟨rfl, hB⟩; have hS1 := HS0.out.call hB
                         have c2 : w1.cell? ⟨gb, 0, none⟩ = some (.int .i64 N) := hS1.cell 0 rfl 0 rfl
                         have c3 : w1.cell? ⟨gb, 1, none⟩ = some (.slice A l.length cap) := hS1.cell 0 rfl 1 rfl
                         have HS1 := Lib.hid hS1; clear hB hS1 c0 c1)
  go_wp2_with (go_at_call 32; (with_reducible refine (HST.out _ _ HS1.out).mono ?_); rintro e w2 ⟨A7, n7, c7, rfl, hB⟩; have HS2 := Lib.hid (HS1.out.call hB); clear hB c2 c3)
  try rw [Exit.noGoto_ret]
  go_ret
  exact ⟨rfl, HS2.out.below⟩
set_option maxRecDepth 100000 in
set_option maxHeartbeats 8000000 in
theorem orderCycles0 (W : World) (n : Int) (A : Option Addr) (cap : Nat) (l : List LinkV) (hr : Links W W.heap.size A l) (hl : l.length ≤ maxLen) (hok : ∀ a ∈ l, a.ok) (n0 : 0 ≤ n) (n1 : n ≤ 255) :
    Calls Try.prog 13 #[.int .u8 n, .slice A l.length cap] W fun e w' => e = .returned (.bool true) ∧ Below W.heap.size W w' := by
  have HS0 := Lib.hid (SL.start (Nat.le_refl W.heap.size))
  obtain ⟨N, L, hlo, hgr⟩ := lawO_pack cap hr hl hok n0 n1
  obtain ⟨out, hg, hs⟩ := exists_out N L
  have HLO := Lib.hid hlo
  have HGR := Lib.hid hgr
  have HG := Lib.hid (And.intro hg hs)
  have hle := hg.len
  have hlen := hlo.len
  have hn8 := hlo.n8
  have HSD : Hid (∀ w (A : Option Addr) (cap : Nat), Arcs w w.heap.size A L → Calls Try.prog 33 #[.agg #[.int .i64 N, .slice A L.length cap]] w fun e w' => ∃ A' n' c', e = .returned (.tuple #[.slice A' n' c', .bool (decide (out.length = N))]) ∧ Below w.heap.size w w') := Lib.hid (fun w A cap hr =>
    (sorted_of N A cap L w hr HLO.out.check HG.out.1 HG.out.2).mono fun e w' ⟨A', c', he, hS⟩ => ⟨_, _, _, he, hS.below⟩)
  clear hr hok hlo hgr hg hs
  go_enter Try.func13, Try.ntmps13
  go_upto_region 4 with (first
    | (go_at_call 31; (with_reducible refine (awake08 _).mono ?_); rintro e w1 ⟨rfl, hb1⟩; have HS1 := Lib.hid (HS0.out.call hb1); clear hb1)
    | (go_at_call 23; (with_reducible refine (HGR.out _ HS1.out.below).mono ?_); rintro e w2 ⟨v, rfl, hS⟩
       obtain ⟨A2, c2, rfl, _, _⟩ := (hS.row 0 rfl).slice_
       have hS2 := HS1.out.join hS
       clear hS))
  have hS3 := hS2.alloc #[.int .i64 N, .slice A2 L.length c2] 45
  obtain ⟨gb, hgb⟩ : ∃ gb, gb = w2.heap.size := ⟨_, rfl⟩
  generalize (w2.alloc (.cells #[.int .i64 N, .slice A2 L.length c2] 45)) = w3 at *
  rw [← hgb] at hS3 ⊢
  clear hgb hS2
  have c0 : w3.cell? ⟨gb, 0, none⟩ = some (.int .i64 N) := hS3.cell 0 rfl 0 rfl
  have c1 : w3.cell? ⟨gb, 1, none⟩ = some (.slice A2 L.length c2) := hS3.cell 0 rfl 1 rfl
  by_cases hln : out.length = N
  · rw [decide_eq_true hln] at HSD
    have HCY := Lib.hid (cycleO_no N A2 c2 L w3 (hS3.reads 1 rfl) HLO.out.check HG.out.1 HG.out.2 hln)
    have HS3 := Lib.hid hS3
    clear hS3 hln hle
    go_upto_region 5 with (go_at_call 41; (with_reducible refine HCY.out.mono ?_); rintro e w4 ⟨rfl, hB⟩
                           have hS4 := HS3.out.call hB
                           have d0 : w4.cell? ⟨gb, 0, none⟩ = some (.int .i64 N) := hS4.cell 0 rfl 0 rfl
                           have d1 : w4.cell? ⟨gb, 1, none⟩ = some (.slice A2 L.length c2) := hS4.cell 0 rfl 1 rfl
                           have HM2 := Lib.hid (HSD.out _ _ c2 (hS4.reads 1 rfl))
                           have HS4 := Lib.hid hS4
                           clear hB hS4 c0 c1)
    go_wp2_with (go_at_call 33; (with_reducible refine HM2.out.mono ?_); rintro e w5 ⟨A5, n5, c5, rfl, hB⟩
                 have HS5 := Lib.hid (HS4.out.call hB); clear hB)
    go_ret
    exact ⟨rfl, HS5.out.below⟩
  · rw [decide_eq_false hln] at HSD
    have HCY := Lib.hid (cycleO_yes N A2 c2 L w3 (hS3.reads 1 rfl) HLO.out.check HG.out.1 HG.out.2 (by omega))
    have HS3 := Lib.hid hS3
    clear hS3 hln hle
    go_upto_region 5 with (go_at_call 41; (with_reducible refine HCY.out.mono ?_); rintro e w4 ⟨zs, u, sm, A4, c4, k, ks, hk, rfl, hzN, hp, hzs, hfr, hS⟩
                           have hS4 := HS3.out.join hS
                           have HP := Lib.hid (And.intro hp (And.intro hzs hfr))
                           have d0 : w4.cell? ⟨gb, 0, none⟩ = some (.int .i64 N) := hS4.cell 1 rfl 0 rfl
                           have d1 : w4.cell? ⟨gb, 1, none⟩ = some (.slice A2 L.length c2) := hS4.cell 1 rfl 1 rfl
                           have HM2 := Lib.hid (HSD.out _ _ c2 (hS4.reads 2 rfl))
                           have HS4 := Lib.hid hS4
                           clear hS hS4 c0 c1 hp hzs hfr)
    have hzf : zs[0]? = some (k : Int) := by rw [HP.out.2.1]; rfl
    have HZF := Lib.hid hzf
    have hz0 : 0 < zs.length := (List.getElem?_eq_some_iff.1 hzf).1
    obtain ⟨m, hm⟩ : ∃ m, zs.length = m + 1 := ⟨zs.length - 1, by omega⟩
    have HM := Lib.hid hm
    rcases (HS4.out.row 0 rfl).in_ with h0 | ⟨g4, o4, c9, e8, hg8⟩
    · omega
    obtain ⟨rfl, rfl⟩ : A4 = some ⟨g4, o4, none⟩ ∧ c4 = c9 := by simpa using e8
    clear hzf e8 hg8
    go_upto_region 8 with (go_at_call 33; (with_reducible refine HM2.out.mono ?_); rintro e w5 ⟨A5, n5, c5, rfl, hB⟩
                           have HS5 := Lib.hid (HS4.out.call hB); clear hB d0 d1)
    clear HCY HM2 HS4
    have hS8 := HS5.out
    obtain ⟨ab, ao, hAe, _⟩ := arcs_at (hS8.reads 2 rfl) hk
    subst hAe
    have hj3 : decide (L.length ≤ k) = false := decide_eq_false (by omega)
    have hj4 : decide ((k : Int) < 0) = false := decide_eq_false (by omega)
    have hj5 : (k : Int) < (L.length : Int) := by omega
    clear HS5
    refine wp_region_sl (List.range 18) [] [] _ hS8 (List.Sublist.refl _) (by kernel_rfl) (by kernel_rfl) .nil (fun C cw _ hC => ?_)
    have q0 : ∀ c, (cw c).cell? ⟨gb, 1, none⟩ = some (.slice (some ⟨ab, ao, none⟩) L.length c2) := fun c => (hC c).cell 1 rfl 1 rfl
    have q1 : ∀ c, (cw c).cell? ⟨g4, o4, none⟩ = some (.int .i64 k) := fun c => (hC c).rowCell 0 rfl 0 (by rw [List.getElem?_map, HZF.out]; rfl)
    repeat (first | (refine pl_look rfl rfl rfl (fun Kv hK => ?_); go_big_quiet_op; refine hK _ ?_; clear hK Kv) | (refine pl_skip rfl rfl (fun Kv hK => ?_); go_simp; refine hK _ ?_; clear hK Kv) | (refine pl_len _ _ _ _ _ (by kernel_rfl) rfl rfl rfl rfl (fun Kv hK => ?_); go_simp; refine hK _ ?_; clear hK Kv))
    clear q0 q1 hC
    refine pl_end ?_
    intro w7 hS7
    refine pm_end ?_
    clear hS8
    go_upto_region 10 with fail
    refine wp_region_sl (List.range 9) [] [] _ hS7 (List.Sublist.refl _) (by kernel_rfl) (by kernel_rfl) .nil (fun C cw _ hC => ?_)
    have q0 : ∀ c, (cw c).cell? ⟨gb, 1, none⟩ = some (.slice (some ⟨ab, ao, none⟩) L.length c2) := fun c => (hC c).cell 1 rfl 1 rfl
    have q1 : ∀ c, (cw c).cell? ⟨g4, o4, none⟩ = some (.int .i64 k) := fun c => (hC c).rowCell 0 rfl 0 (by rw [List.getElem?_map, HZF.out]; rfl)
    have q2 : ∀ c, (cw c).cell? ⟨ab, ao + k * 3, none⟩ = some (.int .i64 u) := fun c => by rw [← HP.out.2.2]; exact (arcsO_cells ((hC c).reads 2 rfl) hk).2.1
    repeat (first | (refine pl_look rfl rfl rfl (fun Kv hK => ?_); go_big_quiet_op; refine hK _ ?_; clear hK Kv) | (refine pl_skip rfl rfl (fun Kv hK => ?_); go_simp; refine hK _ ?_; clear hK Kv) | (refine pl_len _ _ _ _ _ (by kernel_rfl) rfl rfl rfl rfl (fun Kv hK => ?_); go_simp; refine hK _ ?_; clear hK Kv))
    clear q0 q1 q2 hC
    refine pl_end ?_
    intro w8 hS8
    refine pm_end ?_
    have d0 : w8.cell? ⟨gb, 0, none⟩ = some (.int .i64 N) := hS8.cell 1 rfl 0 rfl
    have d1 : w8.cell? ⟨gb, 1, none⟩ = some (.slice (some ⟨ab, ao, none⟩) L.length c2) := hS8.cell 1 rfl 1 rfl
    have HJ : Hid (Calls Try.prog 29 #[.agg #[.int .i64 N, .slice (some ⟨ab, ao, none⟩) L.length c2], .slice (some ⟨g4, o4, none⟩) (m + 1) c4, .int .i64 u, .int .i64 u] w8 fun e w' => e = .returned (.tuple #[.int .i64 sm, .bool true]) ∧ Below w8.heap.size w8 w') := Lib.hid (by
      have h := joined_ok N _ _ c2 c4 L zs u u sm w8 (hS8.reads 2 rfl) (hS8.reads 0 rfl) HP.out.1 (by omega) (by omega) (fun a ha => by have := HLO.out.wt a ha; omega)
      rw [HM.out] at h
      exact h)
    have HS8 := Lib.hid hS8
    clear hS7 hS8
    go_wp2_with (go_at_call 29; (with_reducible refine HJ.out.mono ?_); rintro e w9 ⟨rfl, hB9⟩
                 have HS9 := Lib.hid (HS8.out.call hB9)
                 clear hB9)
    go_ret
    exact ⟨rfl, HS9.out.below⟩
set_option maxRecDepth 100000 in
theorem orderCycles_walk {H : Type} {enc : TypeId × Value → H} {base : Nat} (W : World) (n : Int) (_hn : (Lit.int .u8 n).wf = true) (v : Value) (d : DataW H) (p : List MemPlace) (o : Value.okWide Try.prog W .any base 39 v) (k : DataW.Trod enc Try.prog W 0 (fun _ => true) true 39 v d p) :
    Calls Try.prog 13 #[.int .u8 n, v] W fun e w' => e = .returned (.bool true) ∧ Below W.heap.size W w' := by
  obtain ⟨A, cap, l, rfl, hr, hl, hok⟩ := links_open o k
  simp [Lit.wf, IntKind.min, IntKind.max, IntKind.signed, IntKind.bits] at _hn
  exact orderCycles0 W n A cap l hr hl hok _hn.1 _hn.2
end Go.Proofs.Ytaaffahjlkfbgaa
