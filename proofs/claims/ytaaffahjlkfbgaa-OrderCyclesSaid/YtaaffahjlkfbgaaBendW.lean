/- The walk of path.bend. -/
import Derived.Test.YtaaffahjlkfbgaaBend
namespace Go.Proofs.Ytaaffahjlkfbgaa
open Go.ChangeShapes Go.WideShapes Go.ChangeAt Go.RowKit
set_option linter.unusedVariables false
/-- What a round leaves is small enough. -/
theorem roundK_small {N : Nat} {l : List ArcV} {f : Nat} {W : Int} {r : Nat} {s : BS} (hN : InN N l) (hf : f < N) (hW : ∀ a ∈ l, -W ≤ a.wt ∧ a.wt ≤ W) (hW0 : 0 ≤ W) (hr : 1 ≤ r) (hrN : r ≤ N + 1) (hl : s.clk ≤ 1 + (r - 1) * l.length) (hsz : W * (((N + 2) * (l.length + 1) : Nat) : Int) < FAR) (h : RInv N l f W r 0 s) :
    W * (r : Int) < FAR ∧ (∀ k, k ≤ l.length → ∀ v, v < N → -2305843009213693952 ≤ (roundK l r s k).1.far v ∧ (roundK l r s k).1.far v ≤ 1152921504606846976) ∧ (roundK l r s l.length).1.clk ≤ 1 + r * l.length := by
  have e1 : r ≤ (N + 2) * (l.length + 1) := Nat.le_trans (by omega) (Nat.le_mul_of_pos_right (N + 2) (Nat.succ_pos _))
  have hB : W * (r : Int) < FAR := by
    have : W * (r : Int) ≤ W * (((N + 2) * (l.length + 1) : Nat) : Int) := Int.mul_le_mul_of_nonneg_left (by omega) hW0
    omega
  refine ⟨hB, ?_, ?_⟩
  · intro k hk v hv
    obtain ⟨h1, h2, _⟩ := roundK_inv hN hf hW hB hr h k hk
    rcases h1.inv.bnd v hv with h | h
    · rw [h]; unfold FAR; omega
    · have e2 : (roundK l r s k).1.clk ≤ (N + 2) * (l.length + 1) := by
        have e3 : (r - 1) * l.length ≤ N * l.length := Nat.mul_le_mul_right _ (by omega)
        have e4 : (N + 2) * (l.length + 1) = N * l.length + 2 * l.length + N + 2 := by rw [Nat.add_mul, Nat.mul_add, Nat.mul_add]; omega
        omega
      have : W * ((roundK l r s k).1.clk : Int) ≤ W * (((N + 2) * (l.length + 1) : Nat) : Int) := Int.mul_le_mul_of_nonneg_left (by omega) hW0
      unfold FAR at *
      omega
  · obtain ⟨_, h2, _⟩ := roundK_inv hN hf hW hB hr h l.length (Nat.le_refl _)
    have : r * l.length = (r - 1) * l.length + l.length := by
      obtain ⟨q, rfl⟩ : ∃ q, r = q + 1 := ⟨r - 1, by omega⟩
      rw [Nat.add_sub_cancel, Nat.add_mul, Nat.one_mul]
    omega
def BendPost (W : World) (N : Nat) (l : List ArcV) (f : Nat) (e : Ending) (w' : World) : Prop :=
  ∃ fb bb, e = .returned (.tuple #[.agg #[.slice (some ⟨fb, 0, none⟩) N N, .slice (some ⟨bb, 0, none⟩) N N], .int .i64 (bendM N l f).2]) ∧ SL W W.heap.size [.blk fb (iarr (bendM N l f).1.far N) 2, .blk bb (iarr (bendM N l f).1.by_ N) 3] w'
/-- Behind j rounds. -/
structure BState (N : Nat) (l : List ArcV) (f : Nat) (W : Int) (j : Nat) (s : BS) : Prop where
  inv : RInv N l f W (j + 1) 0 s
  clk : s.clk ≤ 1 + j * l.length
  eq : bendM N l f = bendK l (N - j) (j + 1) s
theorem BState.start {N : Nat} {l : List ArcV} {f : Nat} {W : Int} (hf : f < N) (hW : 0 ≤ W) : BState N l f W 0 (BS.start f) :=
  ⟨RInv.start hf hW, by simp [BS.start], rfl⟩
theorem BState.stop {N : Nat} {l : List ArcV} {f : Nat} {W : Int} {j : Nat} {s : BS} (h : BState N l f W j s) (hj : j < N) (hn : (roundK l (j + 1) s l.length).2 < 0) : bendM N l f = ((roundK l (j + 1) s l.length).1, -1) := by
  rw [h.eq]
  obtain ⟨n, hn'⟩ : ∃ n, N - j = n + 1 := ⟨N - j - 1, by omega⟩
  rw [hn', bendK, if_pos hn]
theorem BState.next {N : Nat} {l : List ArcV} {f : Nat} {W : Int} {j : Nat} {s : BS} (hN : InN N l) (hf : f < N) (hW : ∀ a ∈ l, -W ≤ a.wt ∧ a.wt ≤ W) (hW0 : 0 ≤ W) (hsz : W * (((N + 2) * (l.length + 1) : Nat) : Int) < FAR) (h : BState N l f W j s) (hj : j < N) (hn : ¬ (roundK l (j + 1) s l.length).2 < 0) : BState N l f W (j + 1) (roundK l (j + 1) s l.length).1 := by
  obtain ⟨hB, _, hc⟩ := roundK_small hN hf hW hW0 (by omega) (by omega) h.clk hsz h.inv
  obtain ⟨h1, _, _⟩ := roundK_inv hN hf hW hB (by omega) h.inv l.length (Nat.le_refl _)
  refine ⟨h1.next hN (by omega), hc, ?_⟩
  rw [h.eq]
  obtain ⟨n, hn'⟩ : ∃ n, N - j = n + 1 := ⟨N - j - 1, by omega⟩
  rw [hn', bendK, if_neg hn]
  congr 1
  omega
theorem BState.end_ {N : Nat} {l : List ArcV} {f : Nat} {W : Int} {s : BS} (h : BState N l f W N s) : bendM N l f = roundK l (N + 1) s l.length := by
  rw [h.eq, Nat.sub_self, bendK]
set_option maxRecDepth 100000 in
set_option maxHeartbeats 4000000 in
theorem bend_any (N f : Nat) (A : Option Addr) (cap : Nat) (l : List ArcV) (w : World) (hr : Arcs w w.heap.size A l) (hN : N ≤ 1000) (hf : f < N) (hl : l.length ≤ 20000) (hin : InN N l) (W : Int) (hw : ∀ a ∈ l, -W ≤ a.wt ∧ a.wt ≤ W) (hW0 : 0 ≤ W) (hW1 : W ≤ 1099511627776) (hsz : W * (((N + 2) * (l.length + 1) : Nat) : Int) < FAR) :
    Calls Try.prog 51 #[.agg #[.int .i64 N, .slice A l.length cap], .int .i64 f] w (BendPost w N l f) := by
  have hS0 := ((SL.start (Nat.le_refl w.heap.size)).alloc #[.int .i64 N, .slice A l.length cap] 45).alloc #[.slice none 0 0, .slice none 0 0] 50
  simp only [alloc_size] at hS0
  have HR : Hid (∀ (rs : List Rs) w', SL w w.heap.size rs w' → Arcs w' w'.heap.size A l) := Lib.hid (fun rs w' h => reads_more (Reads.below hr h.below) h.below.size)
  have HIN := Lib.hid hin
  have HW := Lib.hid hw
  have HSZ := Lib.hid hsz
  clear hr hin hw hsz
  go_enter Try.func51, Try.ntmps51
  go_upto_region 1 with fail
  obtain ⟨gb, hgb⟩ : ∃ gb, gb = w.heap.size := ⟨_, rfl⟩
  obtain ⟨zb, hzb⟩ : ∃ zb, zb = w.heap.size + 1 := ⟨_, rfl⟩
  generalize ((w.alloc (Obj.cells #[.int .i64 N, .slice A l.length cap] 45)).alloc (Obj.cells #[.slice none 0 0, .slice none 0 0] 50)) = w0 at *
  have hgb2 := hgb
  rw [← hzb, show (Rs.blk w.heap.size #[.int .i64 N, .slice A l.length cap] 45) = .blk gb #[.int .i64 N, .slice A l.length cap] 45 by rw [hgb]] at hS0
  rw [← hzb]
  rw [← hgb]
  clear hzb hgb2 hgb
  have c0 : w0.cell? ⟨gb, 0, none⟩ = some (.int .i64 N) := hS0.cell 1 rfl 0 rfl
  have HS0 := Lib.hid hS0
  clear hS0
  go_upto_region 2 with (go_at_call 59; (with_reducible refine (start_any N f _ hN hf).mono ?_); rintro e w2 ⟨fb, bb, rfl, hS2⟩
                         have hS3 := HS0.out.join hS2
                         clear hS2 c0)
  have hS4 := hS3.alloc #[.slice (some ⟨fb, 0, none⟩) N N, .slice (some ⟨bb, 0, none⟩) N N] 50
  obtain ⟨tb, htb⟩ : ∃ tb, tb = w2.heap.size := ⟨_, rfl⟩
  generalize (w2.alloc (.cells #[.slice (some ⟨fb, 0, none⟩) N N, .slice (some ⟨bb, 0, none⟩) N N] 50)) = wa at *
  rw [← htb] at hS4 ⊢
  clear htb
  have hS : SL w w.heap.size [.blk fb (iarr (BS.start f).far N) 2, .blk bb (iarr (BS.start f).by_ N) 3, .blk tb #[.slice (some ⟨fb, 0, none⟩) N N, .slice (some ⟨bb, 0, none⟩) N N] 50, .blk zb #[.slice none 0 0, .slice none 0 0] 50, .blk gb #[.int .i64 N, .slice A l.length cap] 45] wa := SL.swap2 (SL.swap hS4)
  clear hS4
  have c0 : wa.cell? ⟨gb, 0, none⟩ = some (.int .i64 N) := hS.cell 4 rfl 0 rfl
  have HS := Lib.hid hS
  clear hS hS3 HS0
  go_wp2_with fail
  clear c0
  go_loopw [13] (fun i wr => ∃ (j : Nat) (s : BS), j ≤ N ∧ i = .int .i64 j ∧ BState N l f W j s ∧ SL w w.heap.size [.blk fb (iarr s.far N) 2, .blk bb (iarr s.by_ N) 3, .blk tb #[.slice (some ⟨fb, 0, none⟩) N N, .slice (some ⟨bb, 0, none⟩) N N] 50, .blk zb #[.slice none 0 0, .slice none 0 0] 50, .blk gb #[.int .i64 N, .slice A l.length cap] 45] wr) (fun i _ => N - (intOf i).toNat)
  case atStart => exact ⟨0, _, by omega, rfl, BState.start hf hW0, HS.out⟩
  case round =>
    clear HS
    obtain ⟨j, s, hj, rfl, hB, hS⟩ := hrel
    obtain ⟨hb1, hb2, _⟩ := roundK_small HIN.out hf HW.out hW0 (by omega) (by omega) hB.clk HSZ.out hB.inv
    have hRA : RoundPost w w.heap.size [.blk tb #[.slice (some ⟨fb, 0, none⟩) N N, .slice (some ⟨bb, 0, none⟩) N N] 50, .blk zb #[.slice none 0 0, .slice none 0 0] 50, .blk gb #[.int .i64 N, .slice A l.length cap] 45] N fb bb (roundK l (j + 1) s l.length) = RoundPost w w.heap.size [.blk tb #[.slice (some ⟨fb, 0, none⟩) N N, .slice (some ⟨bb, 0, none⟩) N N] 50, .blk zb #[.slice none 0 0, .slice none 0 0] 50, .blk gb #[.int .i64 N, .slice A l.length cap] 45] N fb bb (roundK l (j + 1) s l.length) := rfl
    have HRO : Hid (∀ wx, SL w w.heap.size [.blk fb (iarr s.far N) 2, .blk bb (iarr s.by_ N) 3, .blk tb #[.slice (some ⟨fb, 0, none⟩) N N, .slice (some ⟨bb, 0, none⟩) N N] 50, .blk zb #[.slice none 0 0, .slice none 0 0] 50, .blk gb #[.int .i64 N, .slice A l.length cap] 45] wx → Calls Try.prog 69 #[.agg #[.slice (some ⟨fb, 0, none⟩) N N, .slice (some ⟨bb, 0, none⟩) N N], .agg #[.int .i64 N, .slice A l.length cap]] wx (RoundPost w w.heap.size [.blk tb #[.slice (some ⟨fb, 0, none⟩) N N, .slice (some ⟨bb, 0, none⟩) N N] 50, .blk zb #[.slice none 0 0, .slice none 0 0] 50, .blk gb #[.int .i64 N, .slice A l.length cap] 45] N fb bb (roundK l (j + 1) s l.length))) :=
      Lib.hid (fun wx h => round_any w w.heap.size _ N A cap l fb bb s (j + 1) wx h (HR.out _) hl HIN.out (fun a ha => by have := HW.out a ha; omega) hb2)
    have HBS := Lib.hid hB
    have c0 : wr.cell? ⟨gb, 0, none⟩ = some (.int .i64 N) := hS.cell 4 rfl 0 rfl
    have c1 : wr.cell? ⟨gb, 1, none⟩ = some (.slice A l.length cap) := hS.cell 4 rfl 1 rfl
    have c2 : wr.cell? ⟨tb, 0, none⟩ = some (.slice (some ⟨fb, 0, none⟩) N N) := hS.cell 2 rfl 0 rfl
    have c3 : wr.cell? ⟨tb, 1, none⟩ = some (.slice (some ⟨bb, 0, none⟩) N N) := hS.cell 2 rfl 1 rfl
    clear hB hb1 hb2 hRA
    by_cases hlt : j < N
    · have hstop := Lib.hid (HBS.out.stop hlt)
      have hnext := Lib.hid (HBS.out.next HIN.out hf HW.out hW0 HSZ.out hlt)
      obtain ⟨X, hX⟩ : ∃ X, X = roundK l (j + 1) s l.length := ⟨_, rfl⟩
      rw [← hX] at HRO hstop hnext
      clear hX
      obtain ⟨S1, last⟩ := X
      dsimp only at hstop hnext
      have HS := Lib.hid hS
      clear hS
      by_cases hlast : last < 0
      · have HE := Lib.hid (hstop.out hlast)
        go_wp2_with (first
          | (go_at_call 69; (with_reducible refine (HRO.out _ HS.out).mono ?_); rintro e w2 ⟨rfl, hS2⟩
             have d0 : w2.cell? ⟨tb, 0, none⟩ = some (.slice (some ⟨fb, 0, none⟩) N N) := hS2.cell 2 rfl 0 rfl
             have d1 : w2.cell? ⟨tb, 1, none⟩ = some (.slice (some ⟨bb, 0, none⟩) N N) := hS2.cell 2 rfl 1 rfl
             have HS2 := Lib.hid hS2
             clear hS2 c0 c1 c2 c3)
          | (refine wpList_store_abs rfl 50 (.tmp 4) (.tmp 19) rfl rfl zb #[.slice (some ⟨fb, 0, none⟩) N N, .slice (some ⟨bb, 0, none⟩) N N] rfl rfl _ _ (HS2.out.blk 3 rfl) (by kernel_rfl) rfl (by simp [Value.oneCell']) ?_; intro w5 ho5 hh5; have HU := Lib.hid (HS2.out.only 3 rfl ho5 hh5); clear d0 d1 ho5 hh5))
        refine retArr2 rfl _ _ zb 50 _ _ _ rfl rfl (HU.out.blk 3 rfl) Try.underlying50 rfl (by kernel_rfl) ⟨fb, bb, ?_, ?_⟩
        · rw [HE.out]; rfl
        · rw [HE.out]
          exact (SL.sub (l' := [.blk fb (iarr S1.far N) 2, .blk bb (iarr S1.by_ N) 3]) HU.out (by simp))
      · have HE := Lib.hid (hnext.out hlast)
        go_wp2_with (go_at_call 69; (with_reducible refine (HRO.out _ HS.out).mono ?_); rintro e w2 ⟨rfl, hS2⟩
                     have HS2 := Lib.hid hS2
                     clear hS2 c0 c1 c2 c3)
        go_roundw
        case rel => exact ⟨j + 1, S1, by omega, by go_num, HE.out, HS2.out⟩
        case measure => simp [intOf]; omega
    · obtain rfl : N = j := by omega
      have HE := Lib.hid HBS.out.end_
      obtain ⟨X, hX⟩ : ∃ X, X = roundK l (N + 1) s l.length := ⟨_, rfl⟩
      rw [← hX] at HRO HE
      clear hX
      obtain ⟨S1, last⟩ := X
      go_upto_region 7 with fail
      refine wp_region_sl [0,1,2] [3] [4,5] [.blk tb #[.slice (some ⟨fb, 0, none⟩) N N, .slice (some ⟨bb, 0, none⟩) N N] 50, .blk gb #[.int .i64 N, .slice A l.length cap] 45] hS (.cons _ (.cons _ (.cons_cons _ (.cons _ (.cons_cons _ .slnil))))) (by kernel_rfl) (by kernel_rfl) (.cons rfl (.cons rfl .nil)) (fun C cw _ hC => ?_)
      have q0 : ∀ c, (cw c).cell? ⟨tb, 0, none⟩ = some (.slice (some ⟨fb, 0, none⟩) N N) := fun c => (hC c).cell 0 rfl 0 rfl
      have q1 : ∀ c, (cw c).cell? ⟨tb, 1, none⟩ = some (.slice (some ⟨bb, 0, none⟩) N N) := fun c => (hC c).cell 0 rfl 1 rfl
      have q2 : ∀ c, (cw c).cell? ⟨gb, 0, none⟩ = some (.int .i64 N) := fun c => (hC c).cell 1 rfl 0 rfl
      have q3 : ∀ c, (cw c).cell? ⟨gb, 1, none⟩ = some (.slice A l.length cap) := fun c => (hC c).cell 1 rfl 1 rfl
      repeat (refine pl_look rfl rfl rfl (fun Kv hK => ?_); go_big_quiet_op; refine hK _ ?_; clear hK Kv)
      clear q0 q1 q2 q3 hC c0 c1 c2 c3
      refine pl_end ?_
      intro w1 hS1
      have HS1 := Lib.hid hS1
      clear hS hS1
      refine pm_eff rfl rfl fun Kv hK => ?_
      go_simp
      refine eff_call (HRO.out _ HS1.out) (fun e w2 h => ?_)
      obtain ⟨rfl, hS2⟩ := h
      left
      refine ⟨_, rfl, hS2.sub (.cons _ (.cons _ (.cons_cons _ (.cons _ (.cons_cons _ .slnil))))), hK _ _ ?_⟩
      clear hK Kv HS1
      refine pm_end ?_
      have HS2 := Lib.hid hS2
      clear hS2
      go_wp2_with (refine wpList_store_abs rfl 50 (.tmp 4) (.tmp 21) rfl rfl zb #[.slice (some ⟨fb, 0, none⟩) N N, .slice (some ⟨bb, 0, none⟩) N N] rfl rfl _ _ (HS2.out.blk 3 rfl) (by kernel_rfl) rfl (by simp [Value.oneCell']) ?_; intro w5 ho5 hh5; have HU := Lib.hid (HS2.out.only 3 rfl ho5 hh5); clear ho5 hh5)
      refine retArr2 rfl _ _ zb 50 _ _ _ rfl rfl (HU.out.blk 3 rfl) Try.underlying50 rfl (by kernel_rfl) ⟨fb, bb, ?_, ?_⟩
      · rw [HE.out]; rfl
      · rw [HE.out]
        exact (SL.sub (l' := [.blk fb (iarr S1.far N) 2, .blk bb (iarr S1.by_ N) 3]) HU.out (by simp))
end Go.Proofs.Ytaaffahjlkfbgaa
