/- The walk of law 07's Awake. -/
import Derived.Test.YtaaffahjlkfbgaaCycle
import Derived.Test.YtaaffahjlkfbgaaEqual
namespace Go.Proofs.Ytaaffahjlkfbgaa
open Go.ChangeShapes Go.WideShapes Go.ChangeAt Go.RowKit
set_option linter.unusedVariables false
theorem arc_info7 : (Try.prog.info? 55).map (fun i => (i.zero, i.size, i.bytes)) = some (some (.agg #[.int .i64 0, .int .i64 0, .int .i64 0]), 3, 24) := by kernel_rfl
/-- A block, as a row. -/
theorem SL.blkRow {W w : World} {B : Nat} {l : List Rs} (h : SL W B l w) (i : Nat) {g n size : Nat} {cs : Array Value} {e : TypeId} (hi : l[i]? = some (.blk g cs e)) (hn : cs.size = n * size) (hm : n ≤ maxLen) : SL W B (l.set i (.row e size (.slice (some ⟨g, 0, none⟩) n n) n cs.toList)) w := by
  refine h.turn i hi rfl rfl rfl (Nat.le_refl _) (fun _ _ _ => rfl) ?_ ?_
  · exact ⟨by simpa using hn, .inr ⟨g, 0, n, cs, rfl, Nat.zero_le _, h.blk i hi, Nat.le_refl _, hm, by omega, by rw [List.drop_zero, List.take_of_length_le (by simp; omega)]⟩⟩
  · intro g' hg'
    simp only [Rs.block, Value.ownBlock, Option.some.injEq] at hg'
    subst hg'
    exact ⟨.inl rfl, (h.lt i hi).2⟩
theorem reads_blk {w : World} {b : Nat} {cs : Array Value} {t : TypeId} {size n : Nat} (hg : w.heap[b]? = some (.cells cs t (0, 0))) (hn : cs.size = n * size) : Reads w w.heap.size size (some ⟨b, 0, none⟩) n cs.toList :=
  ⟨by simpa using hn, fun _ => ⟨_, rfl, (Array.getElem?_eq_some_iff.1 hg).1, fun j u hu => by rw [Addr.add_mid, Nat.zero_add, cell_of_row _ _ _ _ _ _ hg]; simpa using hu⟩⟩
def exA : List ArcV := [⟨0, 1, 2⟩, ⟨1, 2, -1⟩, ⟨0, 2, 3⟩]
def exB : List ArcV := [⟨0, 1, 2⟩, ⟨1, 2, -1⟩, ⟨0, 2, 3⟩, ⟨2, 0, -2⟩]
theorem exA_bend : (bendM 3 exA 0).2 = -1 ∧ (bendM 3 exA 0).1.far 0 = 0 ∧ (bendM 3 exA 0).1.far 1 = 2 ∧ (bendM 3 exA 0).1.far 2 = 1 ∧ (bendM 3 exA 0).1.by_ 0 = -1 ∧ (bendM 3 exA 0).1.by_ 1 = 0 ∧ (bendM 3 exA 0).1.by_ 2 = 1 := by decide +kernel
theorem exB_bend : 0 ≤ (bendM 3 exB 0).2 ∧ pit exB (bendM 3 exB 0).1.by_ 3 (pit exB (bendM 3 exB 0).1.by_ 3 (bendM 3 exB 0).2.toNat) = pit exB (bendM 3 exB 0).1.by_ 3 (bendM 3 exB 0).2.toNat ∧
    pit exB (bendM 3 exB 0).1.by_ 1 (pit exB (bendM 3 exB 0).1.by_ 3 (bendM 3 exB 0).2.toNat) ≠ pit exB (bendM 3 exB 0).1.by_ 3 (bendM 3 exB 0).2.toNat ∧ pit exB (bendM 3 exB 0).1.by_ 2 (pit exB (bendM 3 exB 0).1.by_ 3 (bendM 3 exB 0).2.toNat) ≠ pit exB (bendM 3 exB 0).1.by_ 3 (bendM 3 exB 0).2.toNat := by decide +kernel
theorem iarr3 (f : Nat → Int) : iarr f 3 = #[.int .i64 (f 0), .int .i64 (f 1), .int .i64 (f 2)] := by rfl
theorem exA_back : Back exA (bendM 3 exA 0).1.by_ 2 [1, 0] := by
  obtain ⟨_, _, _, _, h0, h1, h2⟩ := exA_bend
  exact .step (u := 1) (k := 1) (by decide) h2 rfl (.step (u := 0) (k := 0) (by decide) h1 rfl (.stop h0))
theorem exB_back : Back exB (bendM 3 exA 0).1.by_ 2 [1, 0] := by
  obtain ⟨_, _, _, _, h0, h1, h2⟩ := exA_bend
  exact .step (u := 1) (k := 1) (by decide) h2 rfl (.step (u := 0) (k := 0) (by decide) h1 rfl (.stop h0))
theorem exB_in : InN 3 exB := (inN_of_check (N := 3) (l := exB) (by decide)).2.2.2
theorem exB_three {p : Nat} {v0 : Nat} (hv : (bendM 3 exB 0).2 = (v0 : Int)) (h : Cyc 3 exB (bendM 3 exB 0).1.by_ (pit exB (bendM 3 exB 0).1.by_ 3 v0) p) : p = 3 := by
  obtain ⟨_, h3, h1, h2⟩ := exB_bend
  have e : (bendM 3 exB 0).2.toNat = v0 := by omega
  rw [e] at h1 h2 h3
  have p0 := h.pos
  rcases Nat.lt_or_ge 3 p with hp | hp
  · exact absurd h3 (h.min 3 (by omega) hp)
  · rcases (show p = 1 ∨ p = 2 ∨ p = 3 by omega) with rfl | rfl | rfl
    · exact absurd h.back h1
    · exact absurd h.back h2
    · rfl
set_option maxRecDepth 100000 in
set_option maxHeartbeats 4000000 in
theorem awake07 (w : World) : Calls Try.prog 22 #[] w fun e w' => e = .returned (.bool true) ∧ Below w.heap.size w w' := by
  obtain ⟨i0, hi0, hz0, hz1, hz2⟩ := info_parts arc_info7
  have HI := Lib.hid (And.intro hi0 (And.intro hz0 (And.intro hz1 hz2)))
  clear hi0 hz0 hz1 hz2
  go_enter Try.func22, Try.ntmps22
  go_upto_region 2 with fail
  have hS0 := ((SL.start (Nat.le_refl w.heap.size)).alloc #[.int .i64 0, .int .i64 1, .int .i64 2, .int .i64 1, .int .i64 2, .int .i64 (-1), .int .i64 0, .int .i64 2, .int .i64 3] 55).alloc #[.int .i64 3, .slice (some ⟨w.heap.size, 0, none⟩) 3 3] 45
  simp only [alloc_size] at hS0
  generalize ((w.alloc (Obj.cells #[.int .i64 0, .int .i64 1, .int .i64 2, .int .i64 1, .int .i64 2, .int .i64 (-1), .int .i64 0, .int .i64 2, .int .i64 3] 55)).alloc (Obj.cells #[.int .i64 3, .slice (some ⟨w.heap.size, 0, none⟩) 3 3] 45)) = w1 at *
  obtain ⟨gb, hgb⟩ : ∃ gb, gb = w.heap.size + 1 := ⟨_, rfl⟩
  rw [← hgb] at hS0 ⊢
  clear hgb
  have HM : Hid (Calls Try.prog 24 #[.agg #[.int .i64 3, .slice (some ⟨w.heap.size, 0, none⟩) 3 3], .int .i64 0] w1 (FromPost w1 3 exA 0)) := Lib.hid (from_any 3 0 _ 3 exA w1 (reads_blk (size := 3) (n := 3) (hS0.blk 1 rfl) rfl) (by decide) (by decide) 3 (by decide) (by decide) (by decide) (by unfold FAR; decide))
  have HS0 := Lib.hid hS0
  have c0 : w1.cell? ⟨gb, 0, none⟩ = some (.int .i64 3) := hS0.cell 0 rfl 0 rfl
  have c1 : w1.cell? ⟨gb, 1, none⟩ = some (.slice (some ⟨w.heap.size, 0, none⟩) 3 3) := hS0.cell 0 rfl 1 rfl
  clear hS0
  have hz0 : ((0 : Int) != 0) = false := rfl
  have hz3 : ((3 : Int) != 3) = false := rfl
  have hz4 : ((2 : Int) == 2) = true := rfl
  have hz5 : ((1 : Int) == 1) = true := rfl
  have hz7 : ((7 : Int) == 7) = true := rfl
  have hz8 : ((3 : Int) == 3) = true := rfl
  go_upto_region 3 with (go_at_call 24; (with_reducible refine HM.out.mono ?_); rintro e w2 (⟨hlt, fb, bb, rfl, hS2⟩ | ⟨hge, _⟩)
                         rotate_left
                         exact absurd hge (by rw [exA_bend.1]; decide)
                         have hS3 := HS0.out.join hS2
                         clear hS2 hlt c0 c1)
  have hS4 := hS3.alloc #[.slice (some ⟨fb, 0, none⟩) 3 3, .slice (some ⟨bb, 0, none⟩) 3 3] 50
  obtain ⟨tb, htb⟩ : ∃ tb, tb = w2.heap.size := ⟨_, rfl⟩
  generalize (w2.alloc (.cells #[.slice (some ⟨fb, 0, none⟩) 3 3, .slice (some ⟨bb, 0, none⟩) 3 3] 50)) = w3 at *
  rw [← htb] at hS4 ⊢
  clear htb hS3
  have hS5 := hS4.blkRow 4 (n := 3) (size := 3) rfl rfl (by unfold maxLen; decide)
  have d0 : w3.cell? ⟨tb, 0, none⟩ = some (.slice (some ⟨fb, 0, none⟩) 3 3) := hS4.cell 0 rfl 0 rfl
  have d1 : w3.cell? ⟨tb, 1, none⟩ = some (.slice (some ⟨bb, 0, none⟩) 3 3) := hS4.cell 0 rfl 1 rfl
  have d2 : w3.cell? ⟨gb, 1, none⟩ = some (.slice (some ⟨w.heap.size, 0, none⟩) 3 3) := hS4.cell 3 rfl 1 rfl
  have HS4 := Lib.hid hS4
  clear hS4
  go_wp2_with (at_builtin; refine stopHere ?_)
  show wpList _ _ _ _ _ _
  refine wpList_append_sl rfl _ _ 43 rfl hS5 4 i0 (.agg #[.int .i64 0, .int .i64 0, .int .i64 0]) 3 24 Try.underlying43 HI.out.1 HI.out.2.1 HI.out.2.2.1 HI.out.2.2.2 rfl (by decide) _ _ 1 _ rfl rfl _ rfl rfl (by decide) rfl (by simp [Value.oneCell']) (by decide) (by decide) ?_
  intro v' w' hS8 hz8
  obtain ⟨A8, c8, rfl, _, _⟩ := (hS8.row 4 rfl).slice_
  have e0 : w'.cell? ⟨gb, 1, none⟩ = some (.slice (some ⟨w.heap.size, 0, none⟩) 3 3) := hS8.cell 3 rfl 1 rfl
  have e1 := hS8.free 3 rfl 1
  have hS9 := hS8.setCell 3 rfl 1 (.slice A8 4 c8)
  have HS9 : Hid (SL w w.heap.size [.blk tb #[.slice (some ⟨fb, 0, none⟩) 3 3, .slice (some ⟨bb, 0, none⟩) 3 3] 50, .blk fb (iarr (bendM 3 exA 0).1.far 3) 2, .blk bb (iarr (bendM 3 exA 0).1.by_ 3) 3, .blk gb #[.int .i64 3, .slice A8 4 c8] 45, .row 55 3 (.slice A8 4 c8) 4 (arcCells exB)] _) := Lib.hid hS9
  clear hS8 hS9 hS5 d0 d1 d2
  go_upto_region 6 with fail
  generalize (w'.setCell ⟨gb, 1, none⟩ (.slice A8 4 c8)) = w5 at *
  clear e0 e1 hz8
  have HM2 : Hid (Calls Try.prog 24 #[.agg #[.int .i64 3, .slice A8 4 c8], .int .i64 0] w5 (FromPost w5 3 exB 0)) := Lib.hid (from_any 3 0 A8 c8 exB w5 (HS9.out.reads 4 rfl) (by decide) (by decide) 3 (by decide) (by decide) (by decide) (by unfold FAR; decide))
  have c0 : w5.cell? ⟨gb, 0, none⟩ = some (.int .i64 3) := HS9.out.cell 3 rfl 0 rfl
  have c1 : w5.cell? ⟨gb, 1, none⟩ = some (.slice A8 4 c8) := HS9.out.cell 3 rfl 1 rfl
  go_upto_region 7 with (go_at_call 24; (with_reducible refine HM2.out.mono ?_); rintro e w6 (⟨hlt, _⟩ | ⟨hge, rfl, hB⟩)
                         exact absurd hlt (by have := exB_bend.1; omega)
                         have hS10 := HS9.out.call hB
                         clear hB hge c0 c1)
  have hS11 := hS10.alloc #[.slice none 0 0, .slice none 0 0] 50
  generalize (w6.alloc (.cells #[.slice none 0 0, .slice none 0 0] 50)) = w7 at *
  obtain ⟨_, f0, f1, f2, b0, b1, b2⟩ := exA_bend
  have HEX := Lib.hid (And.intro f0 (And.intro f1 (And.intro f2 (And.intro b0 (And.intro b1 b2)))))
  clear hS10 f0 b0 b1 b2
  have d0 : w7.cell? ⟨tb, 0, none⟩ = some (.slice (some ⟨fb, 0, none⟩) 3 3) := hS11.cell 1 rfl 0 rfl
  have d1 : w7.cell? ⟨tb, 1, none⟩ = some (.slice (some ⟨bb, 0, none⟩) 3 3) := hS11.cell 1 rfl 1 rfl
  have d2 : w7.cell? ⟨fb, 1, none⟩ = some (.int .i64 2) := by rw [← f1]; exact hS11.cell 2 rfl 1 (iarr_get _ _ _ (by decide))
  have d3 : w7.cell? ⟨fb, 2, none⟩ = some (.int .i64 1) := by rw [← f2]; exact hS11.cell 2 rfl 2 (iarr_get _ _ _ (by decide))
  have d4 : w7.cell? ⟨gb, 0, none⟩ = some (.int .i64 3) := hS11.cell 4 rfl 0 rfl
  have d5 : w7.cell? ⟨gb, 1, none⟩ = some (.slice A8 4 c8) := hS11.cell 4 rfl 1 rfl
  have HWY : Hid (Calls Try.prog 49 #[.agg #[.slice (some ⟨fb, 0, none⟩) 3 3, .slice (some ⟨bb, 0, none⟩) 3 3], .agg #[.int .i64 3, .slice A8 4 c8], .int .i64 2] w7 (WayPost w w.heap.size _ [1, 0])) := Lib.hid (way_any w w.heap.size _ w7 3 A8 c8 exB (bendM 3 exA 0).1.far (bendM 3 exA 0).1.by_ 3 fb bb 2 3 2 [1, 0] hS11 rfl rfl (fun w' h => h.reads 5 rfl) (by decide) exB_in (by decide) (by decide) (by rw [f2]; unfold FAR; decide) exB_back (by decide))
  have HS11 := Lib.hid hS11
  clear hS11 f1 f2
  go_wp2_with (first
    | (go_at_call 49; (with_reducible refine HWY.out.mono ?_); rintro e w8 ⟨v8, rfl, hS12⟩
       obtain ⟨A9, c9, rfl, _, _⟩ := (hS12.row 0 rfl).slice_
       have hS13 := hS12.alloc #[.int .i64 0, .int .i64 1] 3
       have HE := Lib.hid (equal_ints A9 (some ⟨w8.heap.size, 0, none⟩) c9 2 [0, 1] _ (hS13.reads 1 rfl) (reads_blk (size := 1) (n := 2) (hS13.blk 0 rfl) rfl) (by unfold maxLen; decide))
       have HS13 := Lib.hid hS13
       clear hS12 hS13 d0 d1 d2 d3 d4 d5)
    | (go_at_call 34; (refine HE.out.mono ?_); rintro e w9 ⟨rfl, hB⟩
       have hS14 := HS13.out.call hB
       have g4 : w9.cell? ⟨gb, 0, none⟩ = some (.int .i64 3) := hS14.cell 6 rfl 0 rfl
       have g5 : w9.cell? ⟨gb, 1, none⟩ = some (.slice A8 4 c8) := hS14.cell 6 rfl 1 rfl
       have HCY := Lib.hid (cycle_any 3 0 A8 c8 exB w9 (hS14.reads 7 rfl) (by decide) (by decide) 3 (by decide) (by decide) (by decide) (by unfold FAR; decide))
       have HS14 := Lib.hid hS14
       clear hS14 hB)
    | (go_at_call 28; (refine HCY.out.mono ?_); rintro e w10 (⟨hlt, _⟩ | ⟨v0, p, hv0, hp, hcyc, v10, rfl, hS15⟩)
       exact absurd hlt (by have := exB_bend.1; omega)
       obtain rfl : p = 3 := exB_three hv0 hcyc
       obtain ⟨A10, c10, rfl, _, _⟩ := (hS15.row 0 rfl).slice_
       have HS16 := Lib.hid (HS14.out.join hS15)
       clear hS15 hcyc hv0 hp g4 g5))
  go_ret
  exact ⟨rfl, HS16.out.below⟩
end Go.Proofs.Ytaaffahjlkfbgaa
