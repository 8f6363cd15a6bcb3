/- The walk of path.From. -/
import Derived.Test.YtaaffahjlkfbgaaBendW
namespace Go.Proofs.Ytaaffahjlkfbgaa
open Go.ChangeShapes Go.WideShapes Go.ChangeAt Go.RowKit
set_option linter.unusedVariables false
set_option maxRecDepth 100000 in
set_option maxHeartbeats 4000000 in
theorem from_bad (N : Int) (A : Option Addr) (cap : Nat) (l : List ArcV) (s : Int) (w : World) (hr : Arcs w w.heap.size A l) (hl : l.length ≤ maxLen) (hc : checkF N l s ≠ 0) :
    Calls Try.prog 24 #[.agg #[.int .i64 N, .slice A l.length cap], .int .i64 s] w fun e w' => e = .returned (.tuple #[.agg #[.slice none 0 0, .slice none 0 0], .int .i64 (checkF N l s)]) ∧ Below w.heap.size w w' := by
  have hS0 := ((SL.start (Nat.le_refl w.heap.size)).alloc #[.int .i64 N, .slice A l.length cap] 45).alloc #[.slice none 0 0, .slice none 0 0] 50
  simp only [alloc_size] at hS0
  have HR : Hid (∀ (rs : List Rs) w', SL w w.heap.size rs w' → Arcs w' w'.heap.size A l) := Lib.hid (fun rs w' h => reads_more (Reads.below hr h.below) h.below.size)
  have HL := Lib.hid hl
  obtain ⟨C, hC⟩ : ∃ C, C = checkF N l s := ⟨_, rfl⟩
  rw [← hC] at hc ⊢
  have HC := Lib.hid hC
  have hz : (C != 0) = true := by simpa using hc
  clear hr hl hC hc
  go_enter Try.func24, Try.ntmps24
  go_upto_region 1 with fail
  generalize ((w.alloc (Obj.cells #[.int .i64 N, .slice A l.length cap] 45)).alloc (Obj.cells #[.slice none 0 0, .slice none 0 0] 50)) = w0 at *
  obtain ⟨zb, hzb⟩ : ∃ zb, zb = w.heap.size + 1 := ⟨_, rfl⟩
  rw [← hzb] at hS0 ⊢
  clear hzb
  have c0 : w0.cell? ⟨w.heap.size, 0, none⟩ = some (.int .i64 N) := hS0.cell 1 rfl 0 rfl
  have c1 : w0.cell? ⟨w.heap.size, 1, none⟩ = some (.slice A l.length cap) := hS0.cell 1 rfl 1 rfl
  have HS0 := Lib.hid hS0
  clear hS0
  go_upto_region 3 with (go_at_call 50; (with_reducible refine (checkF_any N A cap l s _ (HR.out _ _ HS0.out) HL.out).mono ?_); rintro e w2 ⟨rfl, hB⟩; rw [← HC.out]
                         have HS1 := Lib.hid (HS0.out.call hB)
                         clear hB c0 c1)
  go_wp2_with (refine wpList_store_abs rfl 50 (.tmp 4) (.tmp 14) rfl rfl zb #[.slice none 0 0, .slice none 0 0] rfl rfl _ _ (HS1.out.blk 0 rfl) (by kernel_rfl) rfl (by simp [Value.oneCell']) ?_; intro w5 ho5 hh5; have HU := Lib.hid (HS1.out.only 0 rfl ho5 hh5); clear ho5 hh5)
  exact retArr2 rfl _ _ zb 50 _ _ _ rfl rfl (HU.out.blk 0 rfl) Try.underlying50 rfl (by kernel_rfl) ⟨rfl, HU.out.below⟩
def FromPost (W : World) (N : Nat) (l : List ArcV) (f : Nat) (e : Ending) (w' : World) : Prop :=
  ((bendM N l f).2 < 0 ∧ ∃ fb bb, e = .returned (.tuple #[.agg #[.slice (some ⟨fb, 0, none⟩) N N, .slice (some ⟨bb, 0, none⟩) N N], .int .i64 0]) ∧ SL W W.heap.size [.blk fb (iarr (bendM N l f).1.far N) 2, .blk bb (iarr (bendM N l f).1.by_ N) 3] w') ∨
  (0 ≤ (bendM N l f).2 ∧ e = .returned (.tuple #[.agg #[.slice none 0 0, .slice none 0 0], .int .i64 7]) ∧ Below W.heap.size W w')
theorem checkF_ok {N : Nat} {l : List ArcV} {f : Nat} (h : checkG N l = 0) (hf : f < N) : checkF N l f = 0 := by
  unfold checkF
  rw [if_neg (by omega), if_pos (by omega)]
set_option maxRecDepth 100000 in
set_option maxHeartbeats 4000000 in
theorem from_any (N f : Nat) (A : Option Addr) (cap : Nat) (l : List ArcV) (w : World) (hr : Arcs w w.heap.size A l) (hck : checkG N l = 0) (hf : f < N) (W : Int) (hw : ∀ a ∈ l, -W ≤ a.wt ∧ a.wt ≤ W) (hW0 : 0 ≤ W) (hW1 : W ≤ 1099511627776) (hsz : W * (((N + 2) * (l.length + 1) : Nat) : Int) < FAR) :
    Calls Try.prog 24 #[.agg #[.int .i64 N, .slice A l.length cap], .int .i64 f] w (FromPost w N l f) := by
  have hS0 := ((SL.start (Nat.le_refl w.heap.size)).alloc #[.int .i64 N, .slice A l.length cap] 45).alloc #[.slice none 0 0, .slice none 0 0] 50
  simp only [alloc_size] at hS0
  have HR : Hid (∀ (rs : List Rs) w', SL w w.heap.size rs w' → Arcs w' w'.heap.size A l) := Lib.hid (fun rs w' h => reads_more (Reads.below hr h.below) h.below.size)
  obtain ⟨_, hN, hl, hin⟩ := inN_of_check hck
  have HBE : Hid (∀ wx, Arcs wx wx.heap.size A l → Calls Try.prog 51 #[.agg #[.int .i64 N, .slice A l.length cap], .int .i64 f] wx (BendPost wx N l f)) := Lib.hid (fun wx hx => bend_any N f A cap l wx hx (by omega) hf hl (by simpa using hin) W hw hW0 hW1 hsz)
  have HC := Lib.hid (checkF_ok hck hf)
  have hl2 : l.length ≤ maxLen := by unfold maxLen; omega
  have HL := Lib.hid hl2
  obtain ⟨X, hX⟩ : ∃ X, X = bendM N l f := ⟨_, rfl⟩
  have HX := Lib.hid hX
  have hz : ((0 : Int) != 0) = false := rfl
  clear hr hl hl2 hck hin hw hsz hX
  obtain ⟨S, at_⟩ := X
  go_enter Try.func24, Try.ntmps24
  go_upto_region 1 with fail
  generalize ((w.alloc (Obj.cells #[.int .i64 N, .slice A l.length cap] 45)).alloc (Obj.cells #[.slice none 0 0, .slice none 0 0] 50)) = w0 at *
  obtain ⟨zb, hzb⟩ : ∃ zb, zb = w.heap.size + 1 := ⟨_, rfl⟩
  rw [← hzb] at hS0 ⊢
  clear hzb
  have c0 : w0.cell? ⟨w.heap.size, 0, none⟩ = some (.int .i64 N) := hS0.cell 1 rfl 0 rfl
  have c1 : w0.cell? ⟨w.heap.size, 1, none⟩ = some (.slice A l.length cap) := hS0.cell 1 rfl 1 rfl
  have HS0 := Lib.hid hS0
  clear hS0
  go_upto_region 5 with (first
    | (go_at_call 50; (with_reducible refine (checkF_any N A cap l f _ (HR.out _ _ HS0.out) HL.out).mono ?_); rintro e w2 ⟨rfl, hB⟩; rw [HC.out]
       have hS1 := HS0.out.call hB
       have d0 : w2.cell? ⟨w.heap.size, 0, none⟩ = some (.int .i64 N) := hS1.cell 1 rfl 0 rfl
       have d1 : w2.cell? ⟨w.heap.size, 1, none⟩ = some (.slice A l.length cap) := hS1.cell 1 rfl 1 rfl
       have HS1 := Lib.hid hS1
       clear hB c0 c1 hS1)
    | (go_at_call 51; (with_reducible refine (HBE.out _ (HR.out _ _ HS1.out)).mono ?_); rintro e w3 ⟨fb, bb, rfl, hS2⟩; rw [← HX.out] at hS2 ⊢
       have hS3 := HS1.out.join hS2
       clear hS2 d0 d1))
  have hS4 := hS3.alloc #[.slice (some ⟨fb, 0, none⟩) N N, .slice (some ⟨bb, 0, none⟩) N N] 50
  obtain ⟨tb, htb⟩ : ∃ tb, tb = w3.heap.size := ⟨_, rfl⟩
  generalize (w3.alloc (.cells #[.slice (some ⟨fb, 0, none⟩) N N, .slice (some ⟨bb, 0, none⟩) N N] 50)) = wa at *
  rw [← htb] at hS4 ⊢
  clear htb hS3
  have HS4 := Lib.hid hS4
  by_cases hat : 0 ≤ at_
  · clear hS4
    go_wp2_with (refine wpList_store_abs rfl 50 (.tmp 4) (.tmp 24) rfl rfl zb #[.slice none 0 0, .slice none 0 0] rfl rfl _ _ (HS4.out.blk 3 rfl) (by kernel_rfl) rfl (by simp [Value.oneCell']) ?_; intro w5 ho5 hh5; have HU := Lib.hid (HS4.out.only 3 rfl ho5 hh5); clear ho5 hh5)
    exact retArr2 rfl _ _ zb 50 _ _ _ rfl rfl (HU.out.blk 3 rfl) Try.underlying50 rfl (by kernel_rfl) (.inr ⟨by rw [← HX.out]; exact hat, rfl, HU.out.below⟩)
  · have d0 : wa.cell? ⟨tb, 0, none⟩ = some (.slice (some ⟨fb, 0, none⟩) N N) := hS4.cell 0 rfl 0 rfl
    have d1 : wa.cell? ⟨tb, 1, none⟩ = some (.slice (some ⟨bb, 0, none⟩) N N) := hS4.cell 0 rfl 1 rfl
    clear hS4
    go_wp2_with (refine wpList_store_abs rfl 50 (.tmp 4) (.tmp 25) rfl rfl zb #[.slice (some ⟨fb, 0, none⟩) N N, .slice (some ⟨bb, 0, none⟩) N N] rfl rfl _ _ (HS4.out.blk 3 rfl) (by kernel_rfl) rfl (by simp [Value.oneCell']) ?_; intro w5 ho5 hh5; have HU := Lib.hid (HS4.out.only 3 rfl ho5 hh5); clear ho5 hh5 d0 d1)
    refine retArr2 rfl _ _ zb 50 _ _ _ rfl rfl (HU.out.blk 3 rfl) Try.underlying50 rfl (by kernel_rfl) (.inl ⟨by rw [← HX.out]; exact (show at_ < 0 by omega), fb, bb, rfl, ?_⟩)
    rw [← HX.out]
    exact (SL.tail HU.out).sub (l' := [.blk fb (iarr S.far N) 2, .blk bb (iarr S.by_ N) 3]) (by simp)
end Go.Proofs.Ytaaffahjlkfbgaa
