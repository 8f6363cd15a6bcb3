/- The walk of law 08's Awake. -/
import Derived.Test.YtaaffahjlkfbgaaLate
import Derived.Test.YtaaffahjlkfbgaaEqual
import Derived.Test.YtaaffahjlkfbgaaAwake07
namespace Go.Proofs.Ytaaffahjlkfbgaa
open Go.ChangeShapes Go.WideShapes Go.ChangeAt Go.RowKit
set_option linter.unusedVariables false
def exO : List ArcV := [⟨2, 0, 5⟩, ⟨1, 0, 1⟩]
theorem exO_next0 : NextN 3 exO [] 1 := by unfold NextN; decide
theorem exO_next1 : NextN 3 exO [1] 2 := by unfold NextN; decide
theorem exO_next2 : NextN 3 exO [1, 2] 0 := by unfold NextN; decide
theorem exO_grd : Grd 3 exO [1, 2, 0] := ((Grd.nil.snoc exO_next0).snoc exO_next1).snoc exO_next2
theorem exO_stop : Stop 3 exO [1, 2, 0] := exO_grd.stop_full rfl
theorem exO_in : InN 3 exO := (inN_of_check (N := 3) (l := exO) (by decide)).2.2.2
theorem sort08 (A : Option Addr) (cap : Nat) (w : World) (hr : Arcs w w.heap.size A exO) :
    Calls Try.prog 32 #[.agg #[.int .i64 3, .slice A 2 cap]] w fun e w' => ∃ A' c', e = .returned (.tuple #[.slice A' 3 c', .bool true]) ∧ SL w w.heap.size [.row 3 1 (.slice A' 3 c') 3 [.int .i64 1, .int .i64 2, .int .i64 0]] w' := by
  refine (sort_any 3 A cap exO w hr (by decide)).mono ?_
  rintro e w' ⟨out, hg, hs, ⟨h1, A', c', rfl, h3⟩ | ⟨h1, _, _⟩⟩
  · obtain rfl := hg.one exO_grd hs exO_stop
    exact ⟨A', c', rfl, h3⟩
  · obtain rfl := hg.one exO_grd hs exO_stop
    exact absurd h1 (by decide)
theorem late08 (A : Option Addr) (cap : Nat) (AF : Option Addr) (cF : Nat) (w : World) (hr : Arcs w w.heap.size A exO) (hrF : Reads w w.heap.size 1 AF 3 [.int .i64 0, .int .i64 9, .int .i64 3]) :
    Calls Try.prog 36 #[.agg #[.int .i64 3, .slice A 2 cap], .slice AF 3 cF] w fun e w' => ∃ g, e = .returned (.tuple #[.slice (some ⟨g, 0, none⟩) 3 3, .int .i64 0]) ∧ SL w w.heap.size [.blk g #[.int .i64 10, .int .i64 9, .int .i64 3] 2] w' := by
  refine (late_fin 3 A cap exO AF cF [0, 9, 3] w hr hrF rfl (by decide) (by decide)).mono ?_
  rintro e w' ⟨out, hg, hs, ⟨h1, g, v, rfl, h3, h4⟩ | ⟨h1, _⟩⟩
  · have hr := late_rounds h4 hg h1 exO_in
    refine ⟨g, rfl, ?_⟩
    have e : iarr v 3 = #[.int .i64 10, .int .i64 9, .int .i64 3] := by
      rw [iarr3, ← hr 0 (by decide), ← hr 1 (by decide), ← hr 2 (by decide)]
      rfl
    rw [← e]
    exact h3
  · obtain rfl := hg.one exO_grd hs exO_stop
    exact absurd h1 (by decide)
set_option maxRecDepth 100000 in
set_option maxHeartbeats 4000000 in
theorem awake08 (w : World) : Calls Try.prog 31 #[] w fun e w' => e = .returned (.bool true) ∧ Below w.heap.size w w' := by
  go_enter Try.func31, Try.ntmps31
  go_upto_region 2 with fail
  have hS0 := ((SL.start (Nat.le_refl w.heap.size)).alloc #[.int .i64 2, .int .i64 0, .int .i64 5, .int .i64 1, .int .i64 0, .int .i64 1] 55).alloc #[.int .i64 3, .slice (some ⟨w.heap.size, 0, none⟩) 2 2] 45
  simp only [alloc_size] at hS0
  generalize ((w.alloc (Obj.cells #[.int .i64 2, .int .i64 0, .int .i64 5, .int .i64 1, .int .i64 0, .int .i64 1] 55)).alloc (Obj.cells #[.int .i64 3, .slice (some ⟨w.heap.size, 0, none⟩) 2 2] 45)) = w1 at *
  obtain ⟨gb, hgb⟩ : ∃ gb, gb = w.heap.size + 1 := ⟨_, rfl⟩
  rw [← hgb] at hS0 ⊢
  clear hgb
  have HM := Lib.hid (sort08 (some ⟨w.heap.size, 0, none⟩) 2 w1 (reads_blk (size := 3) (n := 2) (hS0.blk 1 rfl) rfl))
  have HS0 := Lib.hid hS0
  have c0 : w1.cell? ⟨gb, 0, none⟩ = some (.int .i64 3) := hS0.cell 0 rfl 0 rfl
  have c1 : w1.cell? ⟨gb, 1, none⟩ = some (.slice (some ⟨w.heap.size, 0, none⟩) 2 2) := hS0.cell 0 rfl 1 rfl
  clear hS0
  have hz0 : ((0 : Int) == 0) = true := rfl
  go_wp2_with (first
    | (go_at_call 32; (with_reducible refine HM.out.mono ?_); rintro e w2 ⟨A2, c2, rfl, hS2⟩
       have hS3 := HS0.out.join hS2
       have d0 : w2.cell? ⟨gb, 0, none⟩ = some (.int .i64 3) := hS3.cell 1 rfl 0 rfl
       have d1 : w2.cell? ⟨gb, 1, none⟩ = some (.slice (some ⟨w.heap.size, 0, none⟩) 2 2) := hS3.cell 1 rfl 1 rfl
       have hz2 := (hS3.lt 1 rfl).2
       have hS4 := hS3.alloc #[.int .i64 0, .int .i64 9, .int .i64 3] 2
       have HML := Lib.hid (late08 (some ⟨w.heap.size, 0, none⟩) 2 (some ⟨w2.heap.size, 0, none⟩) 3 _ (reads_blk (size := 3) (n := 2) (hS4.blk 3 rfl) rfl) (reads_blk (size := 1) (n := 3) (hS4.blk 0 rfl) rfl))
       have HS4 := Lib.hid hS4
       clear hS2 hS3 hS4 c0 c1)
    | (go_at_call 36; (with_reducible refine HML.out.mono ?_); rintro e w5 ⟨g, rfl, hS5⟩
       have hS6 := HS4.out.join hS5
       have hS7 := hS6.alloc #[.int .i64 1, .int .i64 2, .int .i64 0] 3
       have HE := Lib.hid (equal_ints A2 (some ⟨w5.heap.size, 0, none⟩) c2 3 [1, 2, 0] _ (hS7.reads 3 rfl) (reads_blk (size := 1) (n := 3) (hS7.blk 0 rfl) rfl) (by unfold maxLen; decide))
       have HS7 := Lib.hid hS7
       clear hS5 hS6 hS7 d0 d1 hz2)
    | (go_at_call 34; (refine HE.out.mono ?_); rintro e w9 ⟨rfl, hB⟩
       have hS8 := HS7.out.call hB
       have hS9 := hS8.alloc #[.int .i64 10, .int .i64 9, .int .i64 3] 2
       have HF := Lib.hid (equal_int64s (some ⟨g, 0, none⟩) (some ⟨w9.heap.size, 0, none⟩) 3 3 [10, 9, 3] _ (reads_blk (size := 1) (n := 3) (hS9.blk 2 rfl) rfl) (reads_blk (size := 1) (n := 3) (hS9.blk 0 rfl) rfl) (by unfold maxLen; decide))
       have HS9 := Lib.hid hS9
       clear hB hS8 hS9)
    | (go_at_call 38; (refine HF.out.mono ?_); rintro e w10 ⟨rfl, hB⟩
       have HS10 := Lib.hid (HS9.out.call hB)
       clear hB))
  go_ret
  exact ⟨rfl, HS10.out.below⟩
end Go.Proofs.Ytaaffahjlkfbgaa
