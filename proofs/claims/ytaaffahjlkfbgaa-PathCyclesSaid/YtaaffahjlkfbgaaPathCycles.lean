/- The walk of law PathCycles. -/
import Derived.Test.YtaaffahjlkfbgaaLawF
import Derived.Test.YtaaffahjlkfbgaaTight
import Derived.Test.YtaaffahjlkfbgaaCycle
import Derived.Test.YtaaffahjlkfbgaaComes
namespace Go.Proofs.Ytaaffahjlkfbgaa
open Go.ChangeShapes Go.WideShapes Go.ChangeAt Go.RowKit
set_option linter.unusedVariables false
/-- The cycle that is found, as arcs one behind the other; the first one begins where it ends. -/
theorem cyc_path {N : Nat} {l : List ArcV} {by_ : Nat → Int} {c p : Nat} (hN : InN N l) (h : Cyc N l by_ c p) : Pth l (cycL l by_ c p).reverse c c (backW l by_ c p) ∧ ∃ k ks, ∃ hk : k < l.length, (cycL l by_ c p).reverse = (k : Int) :: ks ∧ l[k].fr = (c : Int) := by
  have key : ∀ m, Pth l (cycL l by_ c m).reverse (pit l by_ m c) c (backW l by_ c m) := by
    intro m
    induction m with
    | zero => exact .nil
    | succ m ih =>
      obtain ⟨hv, k, hk, h1, h2⟩ := h.led m
      have e1 : pit l by_ (m + 1) c = l[k].fr.toNat := by rw [pit]; exact predF_at hk h1
      have e2 : wtAt l (by_ (pit l by_ m c)) = l[k].wt := by unfold wtAt; rw [h1, Int.toNat_natCast, List.getElem?_eq_getElem hk]
      have hin := hN _ (List.getElem_mem hk)
      rw [cycL_succ, List.reverse_append, List.reverse_cons, List.reverse_nil, List.nil_append, h1, backW, e2, e1, Int.add_comm]
      refine Pth.cons hk (by omega) ?_
      rw [h2]
      exact ih
  refine ⟨by have := key p; rw [h.back] at this; exact this, ?_⟩
  obtain ⟨q, hq⟩ : ∃ q, p = q + 1 := ⟨p - 1, by have := h.pos; omega⟩
  obtain ⟨hv, k, hk, h1, h2⟩ := h.led q
  have e1 : pit l by_ (q + 1) c = l[k].fr.toNat := by rw [pit]; exact predF_at hk h1
  have hin := hN _ (List.getElem_mem hk)
  refine ⟨k, (cycL l by_ c q).reverse, hk, ?_, ?_⟩
  · rw [hq, cycL_succ, List.reverse_append, List.reverse_cons, List.reverse_nil, List.nil_append, h1]; rfl
  · rw [← hq, h.back] at e1; omega
theorem LawG.cycle {N f : Nat} {A : Option Addr} {c : Nat} {L : List ArcV} {w : World} (h : LawG N L f) (hr : Arcs w w.heap.size A L) :
    Calls Try.prog 28 #[.agg #[.int .i64 N, .slice A L.length c], .int .i64 f] w (CyclePost w N L f) :=
  cycle_any N f A c L w hr h.check h.lt 32768 h.wt (by omega) (by omega) h.sz
theorem LawG.cycle_no {N f : Nat} {A : Option Addr} {c : Nat} {L : List ArcV} {w : World} (h : LawG N L f) (hr : Arcs w w.heap.size A L) (hb : (bendM N L f).2 < 0) :
    Calls Try.prog 28 #[.agg #[.int .i64 N, .slice A L.length c], .int .i64 f] w fun e w' => e = .returned (.slice none 0 0) ∧ Below w.heap.size w w' := by
  refine (h.cycle hr).mono ?_
  rintro e w' (⟨_, h1, h2⟩ | ⟨v0, p, hv, _⟩)
  · exact ⟨h1, h2⟩
  · omega
/-- What Cycle tells, where there is one. -/
structure CycleIs (N : Nat) (L : List ArcV) (f : Nat) (zs : List Int) (k b : Nat) (s : Int) : Prop where
  first : zs[0]? = some (k : Int)
  len : zs.length ≤ N
  lt : k < L.length
  fr : ∀ h : k < L.length, L[k].fr = (b : Int)
  path : Pth L zs b b s
  neg : s < 0
  comes : b < N ∧ Rch L f b
theorem LawG.cycle_yes {N f : Nat} {A : Option Addr} {c : Nat} {L : List ArcV} {w : World} (h : LawG N L f) (hr : Arcs w w.heap.size A L) (hb : ¬ (bendM N L f).2 < 0) :
    ∃ zs k b s, CycleIs N L f zs k b s ∧ Calls Try.prog 28 #[.agg #[.int .i64 N, .slice A L.length c], .int .i64 f] w fun e w' => ∃ g o c', e = .returned (.slice (some ⟨g, o, none⟩) zs.length c') ∧ SL w w.heap.size [.row 3 1 (.slice (some ⟨g, o, none⟩) zs.length c') zs.length (zs.map (.int .i64))] w' := by
  rcases h.still with ⟨h0, _⟩ | ⟨v, hv, he, _⟩
  · omega
  · obtain ⟨p, hpN, hc⟩ := endless_cyc h.inn he
    obtain ⟨hp, k, ks, hk, e1, e2⟩ := cyc_path h.inn hc
    refine ⟨_, k, _, _, ⟨by rw [e1]; rfl, by rw [List.length_reverse, cycL_len]; exact hpN, hk, fun _ => e2, hp, cyc_weight h.inn he.inv hc, (hc.led 0).1, cyc_comes h.inn he.inv hc⟩, ?_⟩
    refine (h.cycle hr).mono ?_
    rintro e w' (⟨h1, _⟩ | ⟨v0, p', hv', hp', hc', u, rfl, hS⟩)
    · omega
    · obtain rfl : v0 = v := by omega
      have hpp : p' = p := by
        apply Classical.byContradiction
        intro hne
        rcases Nat.lt_or_ge p p' with h1 | h1
        · exact hc'.min p hc.pos h1 hc.back
        · exact hc.min p' hc'.pos (by omega) hc'.back
      subst hpp
      have hl : (cycL L (bendM N L f).1.by_ (pit L (bendM N L f).1.by_ N v0) p').reverse.length = p' := by rw [List.length_reverse, cycL_len]
      rw [hl]
      rcases (hS.row 0 rfl).in_ with h0 | ⟨g, o, c', rfl, _⟩
      · have := hc.pos; omega
      · exact ⟨g, o, c', rfl, hS⟩
set_option maxRecDepth 100000 in
set_option maxHeartbeats 8000000 in
theorem pathCycles0 (W : World) (n : Int) (A : Option Addr) (cap : Nat) (l : List LinkV) (s : Int) (hr : Links W W.heap.size A l) (hl : l.length ≤ maxLen) (hok : ∀ a ∈ l, a.ok) (n0 : 0 ≤ n) (n1 : n ≤ 255) (s0 : 0 ≤ s) (s1 : s ≤ 255) :
    Calls Try.prog 7 #[.int .u8 n, .slice A l.length cap, .int .u8 s] W fun e w' => e = .returned (.bool true) ∧ Below W.heap.size W w' := by
  have HS0 := Lib.hid (SL.start (Nat.le_refl W.heap.size))
  obtain ⟨N, hN⟩ : ∃ N : Nat, (N : Int) = nodesOf n := ⟨(nodesOf n).toNat, by unfold nodesOf; omega⟩
  have hN1 : 1 ≤ N ∧ N ≤ 8 := by unfold nodesOf at hN; omega
  obtain ⟨f, hf⟩ : ∃ f : Nat, s % (N : Int) = (f : Int) := ⟨(s % (N : Int)).toNat, by rw [Int.toNat_of_nonneg (Int.emod_nonneg _ (by omega))]⟩
  have hfN : f < N := by have := Int.emod_lt_of_pos s (show (0 : Int) < N by omega); omega
  obtain ⟨L, hL⟩ : ∃ L, L = arcsOf N l := ⟨_, rfl⟩
  have HLG : Hid (LawG N L f) := Lib.hid (by rw [hL]; exact lawG n0 n1 hN hok hfN)
  have HGR : Hid (∀ w', Below W.heap.size W w' → Calls Try.prog 23 #[.int .u8 n, .slice A l.length cap] w' (GraphPost w' N L)) := Lib.hid (fun w' h => by
    rw [hL, hN]; exact graph06_any n A cap l w' (reads_more (Reads.below hr h) h.size) hl n0 n1 hok)
  have hlen := HLG.out.len
  have HF := Lib.hid hf
  clear hr hok hL hN hf
  go_enter Try.func7, Try.ntmps7
  go_upto_region 4 with (first
    | (go_at_call 22; (with_reducible refine (awake07 _).mono ?_); rintro e w1 ⟨rfl, hb1⟩; have HS1 := Lib.hid (HS0.out.call hb1); clear hb1)
    | (go_at_call 23; (with_reducible refine (HGR.out _ HS1.out.below).mono ?_); rintro e w2 ⟨v, rfl, hS⟩
       obtain ⟨A2, c2, rfl, _, _⟩ := (hS.row 0 rfl).slice_
       have hS2 := HS1.out.join hS
       clear hS))
  have hS3 := hS2.alloc #[.int .i64 N, .slice A2 L.length c2] 45
  obtain ⟨gb, hgb⟩ : ∃ gb, gb = w2.heap.size := ⟨_, rfl⟩
  generalize (w2.alloc (.cells #[.int .i64 N, .slice A2 L.length c2] 45)) = w3 at *
  rw [← hgb] at hS3 ⊢
  clear hgb hS2
  have c0 : w3.cell? ⟨gb, 0, none⟩ = some (.int .i64 N) := hS3.cell 0 rfl 0 rfl
  have c1 : w3.cell? ⟨gb, 1, none⟩ = some (.slice A2 L.length c2) := hS3.cell 0 rfl 1 rfl
  go_upto_region 5 with fail
  rw [HF.out]
  by_cases hb1 : (bendM N L f).2 < 0
  · have HCY := Lib.hid (HLG.out.cycle_no (c := c2) (hS3.reads 1 rfl) hb1)
    have HS3 := Lib.hid hS3
    have HB1 := Lib.hid hb1
    clear hS3 hb1
    go_upto_region 6 with (go_at_call 28; (with_reducible refine HCY.out.mono ?_); rintro e w4 ⟨rfl, hb4⟩
                           have hS6 := HS3.out.call hb4
                           have d0 : w4.cell? ⟨gb, 0, none⟩ = some (.int .i64 N) := hS6.cell 0 rfl 0 rfl
                           have d1 : w4.cell? ⟨gb, 1, none⟩ = some (.slice A2 L.length c2) := hS6.cell 0 rfl 1 rfl
                           have HFA := Lib.hid (HLG.out.fars_yes (c := c2) (hS6.reads 1 rfl) HB1.out)
                           have HS6 := Lib.hid hS6
                           clear hb4 c0 c1 hS6)
    go_wp2_with (go_at_call 26; (with_reducible refine HFA.out.mono ?_); rintro e w6 ⟨A7, c7, rfl, hS7⟩
                 have HS8 := Lib.hid (HS6.out.join hS7)
                 clear hS7)
    go_ret
    exact ⟨rfl, HS8.out.below⟩
  · obtain ⟨zs, k, b, sm, hci, hcy⟩ := HLG.out.cycle_yes (c := c2) (hS3.reads 1 rfl) hb1
    have HCY := Lib.hid hcy
    have HCI := Lib.hid hci
    have HS3 := Lib.hid hS3
    have HB1 := Lib.hid hb1
    clear hS3 hb1 hcy hci
    go_upto_region 6 with (go_at_call 28; (with_reducible refine HCY.out.mono ?_); rintro e w4 ⟨g4, o4, c4, rfl, hS4⟩
                           have hS6 := HS3.out.join hS4
                           have d0 : w4.cell? ⟨gb, 0, none⟩ = some (.int .i64 N) := hS6.cell 1 rfl 0 rfl
                           have d1 : w4.cell? ⟨gb, 1, none⟩ = some (.slice A2 L.length c2) := hS6.cell 1 rfl 1 rfl
                           have HFA := Lib.hid (HLG.out.fars_no (c := c2) (hS6.reads 2 rfl) (by have := HB1.out; omega))
                           have HS6 := Lib.hid hS6
                           clear hS4 c0 c1 hS6)
    have hzl := HCI.out.len
    have hk := HCI.out.lt
    have hzf := HCI.out.first
    have hz0 : 0 < zs.length := (List.getElem?_eq_some_iff.1 hzf).1
    obtain ⟨m, hm⟩ : ∃ m, zs.length = m + 1 := ⟨zs.length - 1, by omega⟩
    have HM := Lib.hid hm
    clear hzf
    go_upto_region 9 with (go_at_call 26; (with_reducible refine HFA.out.mono ?_); rintro e w6 ⟨rfl, hB6⟩
                           have HS8 := Lib.hid (HS6.out.call hB6)
                           clear hB6 d0 d1)
    clear HCY HFA HS6
    have hS8 := HS8.out
    obtain ⟨ab, ao, hAe, _⟩ := arcs_at (hS8.reads 2 rfl) hk
    subst hAe
    have hj3 : decide (L.length ≤ k) = false := decide_eq_false (by omega)
    have hj4 : decide ((k : Int) < 0) = false := decide_eq_false (by omega)
    have hj5 : (k : Int) < (L.length : Int) := by omega
    refine wp_region_sl (List.range 18) [] [] _ hS8 (List.Sublist.refl _) (by kernel_rfl) (by kernel_rfl) .nil (fun C cw _ hC => ?_)
    have q0 : ∀ c, (cw c).cell? ⟨gb, 1, none⟩ = some (.slice (some ⟨ab, ao, none⟩) L.length c2) := fun c => (hC c).cell 1 rfl 1 rfl
    have q1 : ∀ c, (cw c).cell? ⟨g4, o4, none⟩ = some (.int .i64 k) := fun c => (hC c).rowCell 0 rfl 0 (by rw [List.getElem?_map, HCI.out.first]; rfl)
    repeat (first | (refine pl_look rfl rfl rfl (fun Kv hK => ?_); go_big_quiet_op; refine hK _ ?_; clear hK Kv) | (refine pl_skip rfl rfl (fun Kv hK => ?_); go_simp; refine hK _ ?_; clear hK Kv) | (refine pl_len _ _ _ _ _ (by kernel_rfl) rfl rfl rfl rfl (fun Kv hK => ?_); go_simp; refine hK _ ?_; clear hK Kv))
    clear q0 q1 hC
    refine pl_end ?_
    intro w7 hS7
    refine pm_end ?_
    clear hS8
    go_upto_region 11 with fail
    refine wp_region_sl (List.range 9) [] [] _ hS7 (List.Sublist.refl _) (by kernel_rfl) (by kernel_rfl) .nil (fun C cw _ hC => ?_)
    have q0 : ∀ c, (cw c).cell? ⟨gb, 1, none⟩ = some (.slice (some ⟨ab, ao, none⟩) L.length c2) := fun c => (hC c).cell 1 rfl 1 rfl
    have q1 : ∀ c, (cw c).cell? ⟨g4, o4, none⟩ = some (.int .i64 k) := fun c => (hC c).rowCell 0 rfl 0 (by rw [List.getElem?_map, HCI.out.first]; rfl)
    have q2 : ∀ c, (cw c).cell? ⟨ab, ao + k * 3, none⟩ = some (.int .i64 b) := fun c => by rw [← HCI.out.fr hk]; exact (arcs_cells ((hC c).reads 2 rfl) hk).2.1
    repeat (first | (refine pl_look rfl rfl rfl (fun Kv hK => ?_); go_big_quiet_op; refine hK _ ?_; clear hK Kv) | (refine pl_skip rfl rfl (fun Kv hK => ?_); go_simp; refine hK _ ?_; clear hK Kv) | (refine pl_len _ _ _ _ _ (by kernel_rfl) rfl rfl rfl rfl (fun Kv hK => ?_); go_simp; refine hK _ ?_; clear hK Kv))
    clear q0 q1 q2 hC
    refine pl_end ?_
    intro w8 hS8
    refine pm_end ?_
    have d0 : w8.cell? ⟨gb, 0, none⟩ = some (.int .i64 N) := hS8.cell 1 rfl 0 rfl
    have d1 : w8.cell? ⟨gb, 1, none⟩ = some (.slice (some ⟨ab, ao, none⟩) L.length c2) := hS8.cell 1 rfl 1 rfl
    have h8 := HLG.out.n8
    have HJ : Hid (Calls Try.prog 29 #[.agg #[.int .i64 N, .slice (some ⟨ab, ao, none⟩) L.length c2], .slice (some ⟨g4, o4, none⟩) (m + 1) c4, .int .i64 b, .int .i64 b] w8 fun e w' => e = .returned (.tuple #[.int .i64 sm, .bool true]) ∧ Below w8.heap.size w8 w') := Lib.hid (by
      have h := joined_ok N _ _ c2 c4 L zs b b sm w8 (hS8.reads 2 rfl) (hS8.reads 0 rfl) HCI.out.path (by omega) (by omega) (fun a ha => by have := HLG.out.wt a ha; omega)
      rw [hm] at h
      exact h)
    have HS8 := Lib.hid hS8
    clear hS7 hS8
    go_upto_region 13 with (go_at_call 29; (with_reducible refine HJ.out.mono ?_); rintro e w9 ⟨rfl, hB9⟩
                            have hS9 := HS8.out.call hB9
                            have e0 : w9.cell? ⟨gb, 0, none⟩ = some (.int .i64 N) := hS9.cell 1 rfl 0 rfl
                            have e1 : w9.cell? ⟨gb, 1, none⟩ = some (.slice (some ⟨ab, ao, none⟩) L.length c2) := hS9.cell 1 rfl 1 rfl
                            have HS9 := Lib.hid hS9
                            clear hS9 hB9 d0 d1 HJ HS8)
    have HCO := Lib.hid (comes_any N (some ⟨ab, ao, none⟩) c2 L f w9 (HS9.out.reads 2 rfl) (by omega) (by omega) HLG.out.inn (by omega) (by have := HLG.out.lt; omega))
    have hneg : sm < 0 := HCI.out.neg
    have hbN := HCI.out.comes.1
    go_wp2_with (go_at_call 30; (with_reducible refine HCO.out.mono ?_); rintro e wz ⟨fz, gz, rfl, hz, hBz, hfz⟩
                 have z0 : wz.cell? ⟨gz, b, none⟩ = some (.bool true) := by
                   rw [cell_of_row _ _ _ _ _ _ hz, barr_get _ _ _ hbN, (hfz b hbN).2 HCI.out.comes.2]
                 have HSz := Lib.hid (HS9.out.call hBz)
                 clear hz hBz hfz e0 e1)
    go_ret
    exact ⟨rfl, HSz.out.below⟩
set_option maxRecDepth 100000 in
theorem pathCycles_walk {H : Type} {enc : TypeId × Value → H} {base : Nat} (W : World) (n : Int) (_hn : (Lit.int .u8 n).wf = true) (v : Value) (d : DataW H) (p : List MemPlace) (o : Value.okWide Try.prog W .any base 39 v) (k : DataW.Trod enc Try.prog W 0 (fun _ => true) true 39 v d p) (a : Int) (_ha : (Lit.int .u8 a).wf = true) :
    Calls Try.prog 7 #[.int .u8 n, v, .int .u8 a] W fun e w' => e = .returned (.bool true) ∧ Below W.heap.size W w' := by
  obtain ⟨A, cap, l, rfl, hr, hl, hok⟩ := links_open o k
  simp [Lit.wf, IntKind.min, IntKind.max, IntKind.signed, IntKind.bits] at _hn _ha
  exact pathCycles0 W n A cap l a hr hl hok _hn.1 _hn.2 _ha.1 _ha.2
end Go.Proofs.Ytaaffahjlkfbgaa
