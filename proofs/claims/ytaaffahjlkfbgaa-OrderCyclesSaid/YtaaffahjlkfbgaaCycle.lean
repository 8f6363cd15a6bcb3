/- The walk of path.Cycle. -/
import Derived.Test.YtaaffahjlkfbgaaWay
import Derived.Test.YtaaffahjlkfbgaaCycleM
namespace Go.Proofs.Ytaaffahjlkfbgaa
open Go.ChangeShapes Go.WideShapes Go.ChangeAt Go.RowKit
set_option linter.unusedVariables false
set_option maxRecDepth 100000 in
set_option maxHeartbeats 4000000 in
theorem cycle_bad (N : Int) (A : Option Addr) (cap : Nat) (l : List ArcV) (s : Int) (w : World) (hr : Arcs w w.heap.size A l) (hl : l.length ≤ maxLen) (hc : checkF N l s ≠ 0) :
    Calls Try.prog 28 #[.agg #[.int .i64 N, .slice A l.length cap], .int .i64 s] w fun e w' => e = .returned (.slice none 0 0) ∧ Below w.heap.size w w' := by
  have hS0 := (SL.start (Nat.le_refl w.heap.size)).alloc #[.int .i64 N, .slice A l.length cap] 45
  have HRD : Hid (Arcs (w.alloc (.cells #[.int .i64 N, .slice A l.length cap] 45)) (w.alloc (.cells #[.int .i64 N, .slice A l.length cap] 45)).heap.size A l) := Lib.hid (reads_more (Reads.below hr hS0.below) (by simp))
  have HS0 := Lib.hid hS0
  have HL := Lib.hid hl
  have HC := Lib.hid hc
  have hz : (checkF N l s != 0) = true := by simpa using hc
  clear hr hl hc hS0
  go_enter Try.func28, Try.ntmps28
  go_wp2_with (go_at_call 50; (with_reducible refine (checkF_any N A cap l s _ HRD.out HL.out).mono ?_); rintro e w2 ⟨rfl, hB⟩; have HS1 := Lib.hid (HS0.out.call hB); clear hB)
  go_ret
  exact ⟨rfl, HS1.out.below⟩
/-- The arcs back from c. -/
def cycL (l : List ArcV) (by_ : Nat → Int) (c p : Nat) : List Int := (List.range p).map fun j => by_ (pit l by_ j c)
theorem cycL_succ (l : List ArcV) (by_ : Nat → Int) (c p : Nat) : cycL l by_ c (p + 1) = cycL l by_ c p ++ [by_ (pit l by_ p c)] := by
  unfold cycL; rw [List.range_succ, List.map_append]; rfl
theorem cycL_len (l : List ArcV) (by_ : Nat → Int) (c p : Nat) : (cycL l by_ c p).length = p := by simp [cycL]
def CyclePost (W : World) (N : Nat) (l : List ArcV) (f : Nat) (e : Ending) (w' : World) : Prop :=
  ((bendM N l f).2 < 0 ∧ e = .returned (.slice none 0 0) ∧ Below W.heap.size W w') ∨
  (∃ v0 p : Nat, (bendM N l f).2 = (v0 : Int) ∧ p ≤ N ∧ Cyc N l (bendM N l f).1.by_ (pit l (bendM N l f).1.by_ N v0) p ∧ ∃ v, e = .returned v ∧ SL W W.heap.size [.row 3 1 v p ((cycL l (bendM N l f).1.by_ (pit l (bendM N l f).1.by_ N v0) p).reverse.map (.int .i64))] w')
set_option maxRecDepth 100000 in
set_option maxHeartbeats 4000000 in
theorem cycle_any (N f : Nat) (A : Option Addr) (cap : Nat) (l : List ArcV) (w : World) (hr : Arcs w w.heap.size A l) (hck : checkG N l = 0) (hf : f < N) (W : Int) (hw : ∀ a ∈ l, -W ≤ a.wt ∧ a.wt ≤ W) (hW0 : 0 ≤ W) (hW1 : W ≤ 1099511627776) (hsz : W * (((N + 2) * (l.length + 1) : Nat) : Int) < FAR) :
    Calls Try.prog 28 #[.agg #[.int .i64 N, .slice A l.length cap], .int .i64 f] w (CyclePost w N l f) := by
  have hS0 := (SL.start (Nat.le_refl w.heap.size)).alloc #[.int .i64 N, .slice A l.length cap] 45
  have HR : Hid (∀ (rs : List Rs) w', SL w w.heap.size rs w' → Arcs w' w'.heap.size A l) := Lib.hid (fun rs w' h => reads_more (Reads.below hr h.below) h.below.size)
  have HRW := Lib.hid hr
  obtain ⟨_, hN, hl, hin⟩ := inN_of_check hck
  simp only [Int.toNat_natCast] at hin
  have HBE : Hid (∀ wx, Arcs wx wx.heap.size A l → Calls Try.prog 51 #[.agg #[.int .i64 N, .slice A l.length cap], .int .i64 f] wx (BendPost wx N l f)) := Lib.hid (fun wx hx => bend_any N f A cap l wx hx (by omega) hf hl hin W hw hW0 hW1 hsz)
  have hcase : ((bendM N l f).2 = -1) ∨ ∃ v0 : Nat, (bendM N l f).2 = (v0 : Int) ∧ v0 < N ∧ (∀ m, m ≤ N → Led N l (bendM N l f).1.by_ (pit l (bendM N l f).1.by_ m v0)) ∧ ∃ p, p ≤ N ∧ Cyc N l (bendM N l f).1.by_ (pit l (bendM N l f).1.by_ N v0) p := by
    have hB : W * ((1 + N : Nat) : Int) < FAR := by
      have e1 : 1 + N ≤ (N + 2) * (l.length + 1) := Nat.le_trans (by omega) (Nat.le_mul_of_pos_right (N + 2) (Nat.succ_pos _))
      have : W * ((1 + N : Nat) : Int) ≤ W * (((N + 2) * (l.length + 1) : Nat) : Int) := Int.mul_le_mul_of_nonneg_left (by omega) hW0
      omega
    obtain ⟨_, h⟩ := bendK_spec hin hf hw N 1 (BS.start f) (Nat.le_refl _) hB hW0 (RInv.start hf hW0)
    rcases h with ⟨h, _⟩ | ⟨⟨v, hv, he⟩, _⟩
    · exact .inl h
    · rw [Nat.add_comm] at he
      exact .inr ⟨v, hv, he.lt, fun m hm => (endless_led hin he m hm).1, endless_cyc hin he⟩
  have HC := Lib.hid (checkF_ok hck hf)
  have hl2 : l.length ≤ maxLen := by unfold maxLen; omega
  have HL := Lib.hid hl2
  have HIN := Lib.hid hin
  obtain ⟨X, hX⟩ : ∃ X, X = bendM N l f := ⟨_, rfl⟩
  rw [← hX] at hcase
  have HX := Lib.hid hX
  have HCASE := Lib.hid hcase
  have hz : ((0 : Int) != 0) = false := rfl
  obtain ⟨i0, hi0, hz0, hz1, hz2⟩ := info_parts int_info
  have HI := Lib.hid (And.intro hi0 (And.intro hz0 (And.intro hz1 hz2)))
  clear hr hl2 hck hw hsz hX hcase hin hi0 hz0 hz1 hz2
  obtain ⟨S, at_⟩ := X
  dsimp only at HCASE
  go_enter Try.func28, Try.ntmps28
  go_upto_region 1 with fail
  generalize (w.alloc (Obj.cells #[.int .i64 N, .slice A l.length cap] 45)) = w0 at *
  obtain ⟨gb, hgb⟩ : ∃ gb, gb = w.heap.size := ⟨_, rfl⟩
  rw [show (Rs.blk w.heap.size #[.int .i64 N, .slice A l.length cap] 45) = .blk gb #[.int .i64 N, .slice A l.length cap] 45 by rw [hgb]] at hS0
  rw [← hgb]
  clear hgb
  have c0 : w0.cell? ⟨gb, 0, none⟩ = some (.int .i64 N) := hS0.cell 0 rfl 0 rfl
  have c1 : w0.cell? ⟨gb, 1, none⟩ = some (.slice A l.length cap) := hS0.cell 0 rfl 1 rfl
  have HS0 := Lib.hid hS0
  clear hS0
  go_upto_region 4 with (first
    | (go_at_call 50; (with_reducible refine (checkF_any N A cap l f _ (HR.out _ _ HS0.out) HL.out).mono ?_); rintro e w2 ⟨rfl, hB⟩; rw [HC.out]
       have hS1 := HS0.out.call hB
       have d0 : w2.cell? ⟨gb, 0, none⟩ = some (.int .i64 N) := hS1.cell 0 rfl 0 rfl
       have d1 : w2.cell? ⟨gb, 1, none⟩ = some (.slice A l.length cap) := hS1.cell 0 rfl 1 rfl
       have HS1 := Lib.hid hS1
       clear hB c0 c1 hS1)
    | (go_at_call 51; (with_reducible refine (HBE.out _ (HR.out _ _ HS1.out)).mono ?_); rintro e w3 ⟨fb, bb, rfl, hS2⟩; rw [← HX.out] at hS2 ⊢
       have hS3 := HS1.out.join hS2
       clear hS2 d0 d1))
  have hS4 := hS3.alloc #[.slice (some ⟨fb, 0, none⟩) N N, .slice (some ⟨bb, 0, none⟩) N N] 50
  obtain ⟨tb, htb⟩ : ∃ tb, tb = w3.heap.size := ⟨_, rfl⟩
  generalize (w3.alloc (.cells #[.slice (some ⟨fb, 0, none⟩) N N, .slice (some ⟨bb, 0, none⟩) N N] 50)) = wa at *
  rw [← htb] at hS4 ⊢
  clear htb hS3
  have HS4 := Lib.hid hS4
  rcases HCASE.out with hat | hat
  · obtain rfl := hat
    clear hS4
    go_wp2_with fail
    go_ret
    exact .inl ⟨by rw [← HX.out]; exact (by omega : (-1 : Int) < 0), rfl, HS4.out.below⟩
  · obtain ⟨v0, hv0, hvN, hled, p, hpN, hcyc⟩ := hat
    obtain rfl := hv0
    have HLED := Lib.hid hled
    have HCYC := Lib.hid hcyc
    have c0 : wa.cell? ⟨gb, 0, none⟩ = some (.int .i64 N) := hS4.cell 3 rfl 0 rfl
    clear hled hcyc hS4 HCASE
    go_wp2_with fail
    clear c0
    obtain ⟨by_, hby⟩ : ∃ b, b = S.by_ := ⟨_, rfl⟩
    rw [← hby] at HLED HCYC HS4
    have HBY := Lib.hid hby
    clear hby
    go_loopw [6, 23] (fun va vk wr => ∃ k : Nat, k ≤ N ∧ vk = .int .i64 k ∧ va = .int .i64 (pit l by_ k v0 : Int) ∧ SL w w.heap.size [.blk tb #[.slice (some ⟨fb, 0, none⟩) N N, .slice (some ⟨bb, 0, none⟩) N N] 50, .blk fb (iarr S.far N) 2, .blk bb (iarr by_ N) 3, .blk gb #[.int .i64 N, .slice A l.length cap] 45] wr) (fun _ vk _ => N - (intOf vk).toNat)
    case atStart => exact ⟨0, by omega, rfl, rfl, HS4.out⟩
    case round =>
      clear HS4
      obtain ⟨k, hk, rfl, rfl, hS⟩ := hrel
      have d0 : wr.cell? ⟨tb, 1, none⟩ = some (.slice (some ⟨bb, 0, none⟩) N N) := hS.cell 0 rfl 1 rfl
      have d1 : wr.cell? ⟨gb, 1, none⟩ = some (.slice A l.length cap) := hS.cell 3 rfl 1 rfl
      by_cases hlt : k < N
      · obtain ⟨hq1, q, hql, hq2, hq3⟩ := HLED.out k (by omega)
        have hnx : Hid (pit l by_ (k + 1) v0 = l[q].fr.toNat) := Lib.hid (by rw [pit]; exact predF_at hql hq2)
        obtain ⟨b, o, rfl, hb, a0, a1, a2⟩ := arcs_at HRW.out hql
        have hfr := HIN.out _ (List.getElem_mem hql)
        have hft : ((l[q].fr.toNat : Nat) : Int) = l[q].fr := by omega
        rw [← hft, ← hnx.out] at a0
        have hql2 : (q : Int) < (l.length : Int) := by omega
        go_upto_region 8 with fail
        refine wp_region_sl [0,1,2,3,4,5,6,7,8,9] [] [10] _ hS (List.Sublist.refl _) (by kernel_rfl) (by kernel_rfl) (.cons rfl .nil) (fun C cw _ hC => ?_)
        have q0 : ∀ c, (cw c).cell? ⟨tb, 1, none⟩ = some (.slice (some ⟨bb, 0, none⟩) N N) := fun c => (hC c).cell 0 rfl 1 rfl
        have q1 : ∀ c, (cw c).cell? ⟨gb, 1, none⟩ = some (.slice (some ⟨b, o, none⟩) l.length cap) := fun c => (hC c).cell 3 rfl 1 rfl
        have q2 : ∀ c, (cw c).cell? ⟨bb, pit l by_ k v0, none⟩ = some (.int .i64 (q : Int)) := fun c => by rw [← hq2]; exact (hC c).cell 2 rfl _ (iarr_get _ _ _ hq1)
        have q3 : ∀ c, (cw c).cell? ⟨b, o + q * 3, none⟩ = some (.int .i64 (pit l by_ (k + 1) v0 : Int)) := fun c => ((hC c).below.cell hb).trans a0
        obtain ⟨nx, hnx2⟩ : ∃ nx, pit l by_ (k + 1) v0 = nx := ⟨_, rfl⟩
        rw [hnx2] at q3
        have HNX := Lib.hid hnx2
        generalize pit l by_ k v0 = cu at *
        clear hnx2 hnx
        clear hq2 hq3 hft hfr a1 a2 a0 d0 d1
        repeat (refine pl_look rfl rfl rfl (fun Kv hK => ?_); go_big_quiet_op; refine hK _ ?_; clear hK Kv)
        clear q0 q1 q2 q3 hC
        refine pl_end ?_
        intro w1 hS1
        refine pm_end ?_
        have HS1 := Lib.hid hS1
        clear hS hS1
        go_wp2_with fail
        go_roundw
        case rel => exact ⟨k + 1, by omega, by go_num, by rw [HNX.out], HS1.out⟩
        case measure => simp [intOf]; omega
      · obtain rfl : N = k := by omega
        obtain ⟨c, hc⟩ : ∃ c, c = pit l by_ N v0 := ⟨_, rfl⟩
        rw [← hc] at HCYC ⊢
        have HCC := Lib.hid hc
        have HS := Lib.hid (hS.nil 3 1)
        clear hS d0 d1 hc hlt
        go_wp2_with fail
        go_loopw [7, 8] (fun v7 v8 wr => ∃ m : Nat, m ≤ p ∧ v8 = .int .i64 (pit l by_ m c : Int) ∧ SL w w.heap.size [.row 3 1 v7 (cycL l by_ c m).length ((cycL l by_ c m).map (.int .i64)), .blk tb #[.slice (some ⟨fb, 0, none⟩) N N, .slice (some ⟨bb, 0, none⟩) N N] 50, .blk fb (iarr S.far N) 2, .blk bb (iarr by_ N) 3, .blk gb #[.int .i64 N, .slice A l.length cap] 45] wr) (fun v7 _ _ => p - lenOf v7)
        case atStart => exact ⟨0, by omega, rfl, HS.out⟩
        case round =>
          clear HS
          obtain ⟨m, hm, rfl, hS⟩ := hrel
          obtain ⟨A7, c7, rfl, _, _⟩ := (hS.row 0 rfl).slice_
          rw [cycL_len] at hS
          rw [cycL_len]
          by_cases hgo : m = 0 ∨ pit l by_ m c ≠ c
          · have hmp : m < p := by
              rcases Nat.lt_or_ge m p with h | h
              · exact h
              · obtain rfl : m = p := by omega
                rcases hgo with h0 | h0
                · have := HCYC.out.pos; omega
                · exact absurd HCYC.out.back h0
            obtain ⟨hq1, q, hql, hq2, hq3⟩ := HCYC.out.led m
            have hnx : Hid (pit l by_ (m + 1) c = l[q].fr.toNat) := Lib.hid (by rw [pit]; exact predF_at hql hq2)
            obtain ⟨b, o, rfl, hb, a0, a1, a2⟩ := arcs_at HRW.out hql
            have hfr := HIN.out _ (List.getElem_mem hql)
            have hft : ((l[q].fr.toNat : Nat) : Int) = l[q].fr := by omega
            rw [← hft, ← hnx.out] at a0
            have HL1 : Hid (cycL l by_ c (m + 1) = cycL l by_ c m ++ [(q : Int)]) := Lib.hid (by rw [cycL_succ, hq2])
            have hql2 : (q : Int) < (l.length : Int) := by omega
            have y0 : wr.cell? ⟨tb, 1, none⟩ = some (.slice (some ⟨bb, 0, none⟩) N N) := hS.cell 1 rfl 1 rfl
            have y1 : wr.cell? ⟨bb, pit l by_ m c, none⟩ = some (.int .i64 (q : Int)) := by rw [← hq2]; exact hS.cell 3 rfl _ (iarr_get _ _ _ hq1)
            have HQ := Lib.hid (And.intro hq1 hq2)
            clear hq2 hq3 hft hfr a1 a2
            go_upto_region 12 with fail
            go_cut [44] (fun vb wx => vb = .bool true ∧ SL w w.heap.size [.row 3 1 (.slice A7 m c7) m ((cycL l by_ c m).map (.int .i64)), .blk tb #[.slice (some ⟨fb, 0, none⟩) N N, .slice (some ⟨bb, 0, none⟩) N N] 50, .blk fb (iarr S.far N) 2, .blk bb (iarr by_ N) 3, .blk gb #[.int .i64 N, .slice (some ⟨b, o, none⟩) l.length cap] 45] wx)
            case first =>
              have HS := Lib.hid hS
              by_cases h0 : m = 0
              · have hz0 : ((m : Int) == 0) = true := by simp [h0]
                clear hS h0 hgo y0 y1
                go_wp2_with fail
                go_meet
                exact ⟨rfl, HS.out⟩
              · have hz0 : ((m : Int) == 0) = false := by simpa using h0
                have hz1 : ((pit l by_ m c : Int) != (c : Int)) = true := by rw [bne_iff_ne]; rcases hgo with h | h; exact absurd h h0; omega
                clear hS h0 hgo y0 y1
                go_wp2_with fail
                go_meet
                exact ⟨rfl, HS.out⟩
            case rest =>
              clear hS y0 y1 hgo
              obtain ⟨rfl, hS⟩ := hcut
              obtain ⟨wb, rfl⟩ : ∃ wb : World, wb = wc := ⟨_, rfl⟩
              have y0 : wb.cell? ⟨tb, 1, none⟩ = some (.slice (some ⟨bb, 0, none⟩) N N) := hS.cell 1 rfl 1 rfl
              have y1 : wb.cell? ⟨bb, pit l by_ m c, none⟩ = some (.int .i64 (q : Int)) := by rw [← HQ.out.2]; exact hS.cell 3 rfl _ (iarr_get _ _ _ HQ.out.1)
              go_wp2_with (at_builtin; refine stopHere ?_)
              show wpList _ _ _ _ _ _
              refine wpList_append_sl rfl _ _ 48 rfl hS 0 i0 (.int .i64 0) 1 8 Try.underlying48 HI.out.1 HI.out.2.1 HI.out.2.2.1 HI.out.2.2.2 rfl (by decide) _ _ 1 _ rfl rfl _ rfl rfl (by decide) rfl (by simp [Value.oneCell']) (by omega) (by decide) ?_
              intro v' w' hS8 hz8
              obtain ⟨A8, c8, rfl, _, _⟩ := (hS8.row 0 rfl).slice_
              have hS9 : SL w w.heap.size [.row 3 1 (.slice A8 (m + 1) c8) (m + 1) ((cycL l by_ c (m + 1)).map (.int .i64)), .blk tb #[.slice (some ⟨fb, 0, none⟩) N N, .slice (some ⟨bb, 0, none⟩) N N] 50, .blk fb (iarr S.far N) 2, .blk bb (iarr by_ N) 3, .blk gb #[.int .i64 N, .slice (some ⟨b, o, none⟩) l.length cap] 45] w' := by rw [HL1.out, List.map_append]; exact hS8
              clear hS8 hS y0 y1
              go_upto_region 13 with fail
              refine wp_region_sl [0,1,2,3,4,5,6,7,8,9] [] [10] _ hS9 (List.Sublist.refl _) (by kernel_rfl) (by kernel_rfl) (.cons rfl .nil) (fun C cw _ hC => ?_)
              have q0 : ∀ c, (cw c).cell? ⟨tb, 1, none⟩ = some (.slice (some ⟨bb, 0, none⟩) N N) := fun c => (hC c).cell 1 rfl 1 rfl
              have q1 : ∀ c, (cw c).cell? ⟨gb, 1, none⟩ = some (.slice (some ⟨b, o, none⟩) l.length cap) := fun c => (hC c).cell 4 rfl 1 rfl
              have q2 : ∀ c', (cw c').cell? ⟨bb, pit l by_ m c, none⟩ = some (.int .i64 (q : Int)) := fun c' => by rw [← HQ.out.2]; exact (hC c').cell 3 rfl _ (iarr_get _ _ _ HQ.out.1)
              have q3 : ∀ c', (cw c').cell? ⟨b, o + q * 3, none⟩ = some (.int .i64 (pit l by_ (m + 1) c : Int)) := fun c' => ((hC c').below.cell hb).trans a0
              obtain ⟨nx, hnx2⟩ : ∃ nx, pit l by_ (m + 1) c = nx := ⟨_, rfl⟩
              rw [hnx2] at q3
              have HNX := Lib.hid hnx2
              have hcu := HQ.out.1
              obtain ⟨cu, hcu2⟩ : ∃ cu, pit l by_ m c = cu := ⟨_, rfl⟩
              rw [hcu2] at q2 hcu ⊢
              clear hnx2 hnx hcu2 a0
              repeat (refine pl_look rfl rfl rfl (fun Kv hK => ?_); go_big_quiet_op; refine hK _ ?_; clear hK Kv)
              clear q0 q1 q2 q3 hC
              refine pl_end ?_
              intro w1 hS1
              refine pm_end ?_
              have HS1 := Lib.hid hS1
              clear hS9 hS1
              go_wp2_with fail
              go_roundw
              case rel => exact ⟨m + 1, by omega, by rw [HNX.out], by rw [cycL_len]; exact HS1.out⟩
              case measure => simp [lenOf]; omega
          · have hmc : m ≠ 0 ∧ pit l by_ m c = c := by
              refine ⟨fun h => hgo (.inl h), ?_⟩
              apply Classical.byContradiction
              intro h
              exact hgo (.inr h)
            have hmp : m = p := by
              rcases Nat.lt_or_ge m p with h | h
              · exact absurd hmc.2 (HCYC.out.min m (by omega) h)
              · omega
            subst hmp
            rw [hmc.2]
            have hz0 : ((m : Int) == 0) = false := by simpa using hmc.1
            have hz1 : ((c : Int) != (c : Int)) = false := by simp
            have HS := Lib.hid hS
            clear hS hgo hmc
            go_wp2_with (go_at_call 52; (refine (reverse_any w w.heap.size _ _ 0 _ (cycL l by_ c m) HS.out (by rw [cycL_len]; rfl) (by rw [cycL_len]; omega)).mono ?_); rintro e w2 ⟨rfl, hS2⟩; have HS2 := Lib.hid hS2; clear hS2)
            go_ret
            refine .inr ⟨v0, m, by rw [← HX.out], hpN, ?_, ?_⟩
            · rw [← HX.out, ← HBY.out, ← HCC.out]; exact HCYC.out
            · rw [← HX.out, ← HBY.out, ← HCC.out]
              have h := HS2.out
              rw [cycL_len] at h
              exact ⟨_, rfl, SL.sub (l' := _ :: []) h (.cons_cons _ (List.nil_sublist _))⟩
end Go.Proofs.Ytaaffahjlkfbgaa
