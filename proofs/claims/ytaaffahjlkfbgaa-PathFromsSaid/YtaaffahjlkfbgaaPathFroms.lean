/- The walk of law PathFroms. -/
import Derived.Test.YtaaffahjlkfbgaaLawF
import Derived.Test.YtaaffahjlkfbgaaTight
namespace Go.Proofs.Ytaaffahjlkfbgaa
open Go.ChangeShapes Go.WideShapes Go.ChangeAt Go.RowKit
set_option linter.unusedVariables false
set_option maxRecDepth 100000 in
set_option maxHeartbeats 8000000 in
theorem pathFroms0 (W : World) (n : Int) (A : Option Addr) (cap : Nat) (l : List LinkV) (s : Int) (hr : Links W W.heap.size A l) (hl : l.length ≤ maxLen) (hok : ∀ a ∈ l, a.ok) (n0 : 0 ≤ n) (n1 : n ≤ 255) (s0 : 0 ≤ s) (s1 : s ≤ 255) :
    Calls Try.prog 6 #[.int .u8 n, .slice A l.length cap, .int .u8 s] W fun e w' => e = .returned (.bool true) ∧ Below W.heap.size W w' := by
  have HS0 := Lib.hid (SL.start (Nat.le_refl W.heap.size))
  obtain ⟨N, hN⟩ : ∃ N : Nat, (N : Int) = nodesOf n := ⟨(nodesOf n).toNat, by unfold nodesOf; omega⟩
  have hN1 : 1 ≤ N ∧ N ≤ 8 := by unfold nodesOf at hN; omega
  obtain ⟨f, hf⟩ : ∃ f : Nat, s % (N : Int) = (f : Int) := ⟨(s % (N : Int)).toNat, by rw [Int.toNat_of_nonneg (Int.emod_nonneg _ (by omega))]⟩
  have hfN : f < N := by have := Int.emod_lt_of_pos s (show (0 : Int) < N by omega); omega
  obtain ⟨L, hL⟩ : ∃ L, L = arcsOf N l := ⟨_, rfl⟩
  have HLG : Hid (LawG N L f) := Lib.hid (by rw [hL]; exact lawG n0 n1 hN hok hfN)
  have HGR : Hid (∀ w', Below W.heap.size W w' → Calls Try.prog 23 #[.int .u8 n, .slice A l.length cap] w' (GraphPost w' N L)) := Lib.hid (fun w' h => by
    rw [hL, hN]; exact graph06_any n A cap l w' (reads_more (Reads.below hr h) h.size) hl n0 n1 hok)
  have hlen := HLG.out.len
  have HF := Lib.hid hf
  clear hr hok hL hN hf
  go_enter Try.func6, Try.ntmps6
  go_upto_region 4 with (first
    | (go_at_call 22; (with_reducible refine (awake07 _).mono ?_); rintro e w1 ⟨rfl, hb1⟩; have HS1 := Lib.hid (HS0.out.call hb1); clear hb1)
    | (go_at_call 23; (with_reducible refine (HGR.out _ HS1.out.below).mono ?_); rintro e w2 ⟨v, rfl, hS⟩
       obtain ⟨A2, c2, rfl, _, _⟩ := (hS.row 0 rfl).slice_
       have hS2 := HS1.out.join hS
       clear hS))
  have hS3 := hS2.alloc #[.int .i64 N, .slice A2 L.length c2] 45
  obtain ⟨gb, hgb⟩ : ∃ gb, gb = w2.heap.size := ⟨_, rfl⟩
  generalize (w2.alloc (.cells #[.int .i64 N, .slice A2 L.length c2] 45)) = w3 at *
  rw [← hgb] at hS3 ⊢
  clear hgb hS2
  have c0 : w3.cell? ⟨gb, 0, none⟩ = some (.int .i64 N) := hS3.cell 0 rfl 0 rfl
  have c1 : w3.cell? ⟨gb, 1, none⟩ = some (.slice A2 L.length c2) := hS3.cell 0 rfl 1 rfl
  go_upto_region 5 with fail
  rw [HF.out]
  by_cases hb1 : (bendM N L f).2 < 0
  · have HFR := Lib.hid (HLG.out.from_yes (c := c2) (hS3.reads 1 rfl) hb1)
    have HS3 := Lib.hid hS3
    have HB1 := Lib.hid hb1
    clear hS3 hb1
    go_upto_region 6 with (go_at_call 24; (with_reducible refine HFR.out.mono ?_); rintro e w4 ⟨fb, bb, rfl, hS4⟩
                           have hS5 := HS3.out.join hS4
                           clear hS4 c0 c1)
    have hS6 := hS5.alloc #[.slice (some ⟨fb, 0, none⟩) N N, .slice (some ⟨bb, 0, none⟩) N N] 50
    obtain ⟨tb, htb⟩ : ∃ tb, tb = w4.heap.size := ⟨_, rfl⟩
    generalize (w4.alloc (.cells #[.slice (some ⟨fb, 0, none⟩) N N, .slice (some ⟨bb, 0, none⟩) N N] 50)) = w5 at *
    rw [← htb] at hS6 ⊢
    clear htb hS5
    have c0 : w5.cell? ⟨gb, 0, none⟩ = some (.int .i64 N) := hS6.cell 3 rfl 0 rfl
    have c1 : w5.cell? ⟨gb, 1, none⟩ = some (.slice A2 L.length c2) := hS6.cell 3 rfl 1 rfl
    have HFA := Lib.hid (HLG.out.fars_yes (c := c2) (hS6.reads 4 rfl) HB1.out)
    have HS6 := Lib.hid hS6
    clear hS6
    go_upto_region 9 with (go_at_call 26; (with_reducible refine HFA.out.mono ?_); rintro e w6 ⟨A7, c7, rfl, hS7⟩
                           have hS8 := HS6.out.join hS7
                           have d0 : w6.cell? ⟨gb, 0, none⟩ = some (.int .i64 N) := hS8.cell 4 rfl 0 rfl
                           have d1 : w6.cell? ⟨gb, 1, none⟩ = some (.slice A2 L.length c2) := hS8.cell 4 rfl 1 rfl
                           have d2 : w6.cell? ⟨tb, 0, none⟩ = some (.slice (some ⟨fb, 0, none⟩) N N) := hS8.cell 1 rfl 0 rfl
                           have d3 : w6.cell? ⟨tb, 1, none⟩ = some (.slice (some ⟨bb, 0, none⟩) N N) := hS8.cell 1 rfl 1 rfl
                           have HS8 := Lib.hid hS8
                           clear hS7 hS8 c0 c1)
    have HTI : Hid (Calls Try.prog 27 #[.agg #[.int .i64 N, .slice A2 L.length c2], .agg #[.slice (some ⟨fb, 0, none⟩) N N, .slice (some ⟨bb, 0, none⟩) N N], .int .i64 f, .slice A7 N c7] w6 fun e w' => e = .returned (.bool true) ∧ Below W.heap.size W w') := Lib.hid (by
      have h8 := HLG.out.n8
      rcases HLG.out.still with ⟨_, hst, hB⟩ | ⟨v, hv, _⟩
      · refine (tight_ok W W.heap.size _ w6 A2 A7 c2 c7 L _ _ N f fb bb 2 3 0 HS8.out rfl rfl rfl (fun w' h => h.reads 5 rfl) (by omega) HLG.out.inn (by omega) HLG.out.lt (fun a ha => by have := HLG.out.wt a ha; omega) (treeOk HLG.out.inn HLG.out.lt HLG.out.wt hB hst) (still_far HLG.out HB1.out)).mono ?_
        rintro e w' ⟨h1, h2⟩
        exact ⟨h1, h2.below⟩
      · have := HB1.out; omega)
    have hz0 : ((0 : Int) == 0) = true := rfl
    go_wp2_with (go_at_call 27; (with_reducible refine HTI.out.mono ?_); rintro e w7 ⟨rfl, hB7⟩
                 have HB7 := Lib.hid hB7
                 clear hB7 d0 d1 d2 d3)
    go_ret
    exact ⟨rfl, HB7.out⟩
  · have HFR := Lib.hid (HLG.out.from_no (c := c2) (hS3.reads 1 rfl) hb1)
    have HS3 := Lib.hid hS3
    have HB1 := Lib.hid hb1
    clear hS3 hb1
    go_upto_region 6 with (go_at_call 24; (with_reducible refine HFR.out.mono ?_); rintro e w4 ⟨rfl, hb4⟩
                           have hS5 := HS3.out.call hb4
                           clear hb4 c0 c1)
    have hS6 := hS5.alloc #[.slice none 0 0, .slice none 0 0] 50
    obtain ⟨tb, htb⟩ : ∃ tb, tb = w4.heap.size := ⟨_, rfl⟩
    generalize (w4.alloc (.cells #[.slice none 0 0, .slice none 0 0] 50)) = w5 at *
    rw [← htb] at hS6 ⊢
    clear htb hS5
    have c0 : w5.cell? ⟨gb, 0, none⟩ = some (.int .i64 N) := hS6.cell 1 rfl 0 rfl
    have c1 : w5.cell? ⟨gb, 1, none⟩ = some (.slice A2 L.length c2) := hS6.cell 1 rfl 1 rfl
    have HFA := Lib.hid (HLG.out.fars_no (c := c2) (hS6.reads 2 rfl) (by have := HB1.out; omega))
    have HS6 := Lib.hid hS6
    clear hS6
    have hz8 : ((7 : Int) == 7) = true := rfl
    go_wp2_with (go_at_call 26; (with_reducible refine HFA.out.mono ?_); rintro e w6 ⟨rfl, hb6⟩
                 have hS8 := HS6.out.call hb6
                 have d2 : w6.cell? ⟨tb, 0, none⟩ = some (.slice none 0 0) := hS8.cell 0 rfl 0 rfl
                 have d3 : w6.cell? ⟨tb, 1, none⟩ = some (.slice none 0 0) := hS8.cell 0 rfl 1 rfl
                 have HS8 := Lib.hid hS8
                 clear hb6 hS8 c0 c1)
    go_ret
    exact ⟨rfl, HS8.out.below⟩
set_option maxRecDepth 100000 in
theorem pathFroms_walk {H : Type} {enc : TypeId × Value → H} {base : Nat} (W : World) (n : Int) (_hn : (Lit.int .u8 n).wf = true) (v : Value) (d : DataW H) (p : List MemPlace) (o : Value.okWide Try.prog W .any base 39 v) (k : DataW.Trod enc Try.prog W 0 (fun _ => true) true 39 v d p) (a : Int) (_ha : (Lit.int .u8 a).wf = true) :
    Calls Try.prog 6 #[.int .u8 n, v, .int .u8 a] W fun e w' => e = .returned (.bool true) ∧ Below W.heap.size W w' := by
  obtain ⟨A, cap, l, rfl, hr, hl, hok⟩ := links_open o k
  simp [Lit.wf, IntKind.min, IntKind.max, IntKind.signed, IntKind.bits] at _hn _ha
  exact pathFroms0 W n A cap l a hr hl hok _hn.1 _hn.2 _ha.1 _ha.2
end Go.Proofs.Ytaaffahjlkfbgaa
