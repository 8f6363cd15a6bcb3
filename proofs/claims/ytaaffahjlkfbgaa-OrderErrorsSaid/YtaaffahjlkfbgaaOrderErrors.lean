/- The walk of law OrderErrors. -/
import Derived.Test.YtaaffahjlkfbgaaLate
import Derived.Test.YtaaffahjlkfbgaaSorted
import Derived.Test.YtaaffahjlkfbgaaOrd
import Derived.Test.YtaaffahjlkfbgaaAwake08
import Derived.Test.YtaaffahjlkfbgaaGraphOpen
import Derived.Deep.CutBlock
namespace Go.Proofs.Ytaaffahjlkfbgaa
open Go.ChangeShapes Go.WideShapes Go.ChangeAt Go.RowKit
set_option linter.unusedVariables false
set_option maxRecDepth 100000 in
set_option maxHeartbeats 4000000 in
theorem cycleO_bad (N : Int) (A : Option Addr) (cap : Nat) (l : List ArcV) (w : World) (hr : Arcs w w.heap.size A l) (hl : l.length ≤ maxLen) (hck : checkG N l ≠ 0) :
    Calls Try.prog 41 #[.agg #[.int .i64 N, .slice A l.length cap]] w fun e w' => e = .returned (.slice none 0 0) ∧ Below w.heap.size w w' := by
  have hS0 := (SL.start (Nat.le_refl w.heap.size)).alloc #[.int .i64 N, .slice A l.length cap] 45
  have HRD : Hid (Arcs (w.alloc (.cells #[.int .i64 N, .slice A l.length cap] 45)) (w.alloc (.cells #[.int .i64 N, .slice A l.length cap] 45)).heap.size A l) := Lib.hid (reads_more (Reads.below hr hS0.below) (by simp))
  have HS0 := Lib.hid hS0
  have HL := Lib.hid hl
  obtain ⟨k, hk⟩ : ∃ k, checkG N l = k := ⟨_, rfl⟩
  rw [hk] at hck
  have hz : (k != 0) = true := by simpa using hck
  have HK := Lib.hid hk
  clear hr hl hck hS0 hk
  go_enter Try.func41, Try.ntmps41
  go_wp2_with fail
  go_step3
  go_wp2_with fail
  go_wp2_with (go_at_call 39; (with_reducible refine (checkG_any N A cap l _ HRD.out HL.out).mono ?_); rintro e w2 ⟨rfl, hB⟩; rw [HK.out]; have HS1 := Lib.hid (HS0.out.call hB); clear hB)
  try rw [Exit.noGoto_ret]
  go_ret
  exact ⟨rfl, HS1.out.below⟩
/-- Which error comes first. -/
def lateE (N : Int) (l : List ArcV) (fl : List Int) (okb : Bool) : Int := if (fl.length : Int) ≠ N then 4 else if checkG N l ≠ 0 then checkG N l else if fl.any farB = true then 2 else if okb = true then 0 else 7
structure OkB (N : Int) (l : List ArcV) (okb : Bool) : Prop where
  bad : checkG N l ≠ 0 → okb = false
  good : checkG N l = 0 → ∃ out, Grd N.toNat l out ∧ Stop N.toNat l out ∧ (okb = true ↔ out.length = N.toNat)
theorem exists_okb (N : Int) (l : List ArcV) : ∃ okb, OkB N l okb := by
  by_cases h : checkG N l = 0
  · obtain ⟨out, hg, hs⟩ := exists_out N.toNat l
    exact ⟨decide (out.length = N.toNat), fun h' => absurd h h', fun _ => ⟨out, hg, hs, by simp⟩⟩
  · exact ⟨false, fun _ => rfl, fun h' => absurd h' h⟩
theorem late_errs (N : Int) (A : Option Addr) (cap : Nat) (l : List ArcV) (FA : Option Addr) (fc : Nat) (fl : List Int) (okb : Bool) (ho : OkB N l okb) (w : World) (hr : Arcs w w.heap.size A l) (hl : l.length ≤ maxLen) (hrF : Reads w w.heap.size 1 FA fl.length (fl.map (.int .i64))) (hfl : fl.length ≤ maxLen) :
    Calls Try.prog 36 #[.agg #[.int .i64 N, .slice A l.length cap], .slice FA fl.length fc] w fun e w' => ∃ (A' : Option Addr) (n' c' : Nat), e = .returned (.tuple #[.slice A' n' c', .int .i64 (lateE N l fl okb)]) ∧ (lateE N l fl okb = 0 → (n' : Int) = N) ∧ (lateE N l fl okb ≠ 0 → n' = 0) ∧ Below w.heap.size w w' := by
  by_cases h0 : (fl.length : Int) = N
  · subst h0
    by_cases h1 : checkG fl.length l = 0
    · by_cases h2 : fl.any farB = true
      · have hE : lateE fl.length l fl okb = 2 := by unfold lateE; rw [if_neg (by simp), if_neg (by simpa using h1), if_pos h2]
        rw [hE]
        refine (late_far fl.length A cap l FA fc fl w hr hrF rfl h1 (by simpa using h2)).mono ?_
        rintro e w' ⟨rfl, hb⟩
        exact ⟨_, _, _, rfl, fun h => by omega, fun _ => rfl, hb⟩
      · refine (late_fin fl.length A cap l FA fc fl w hr hrF rfl h1 (fun h => h2 (by simpa using h))).mono ?_
        rintro e w' ⟨o2, g2, s2, h⟩
        obtain ⟨out, hg, hs, hko⟩ := ho.good h1
        simp only [Int.toNat_natCast] at hg hs hko
        obtain rfl := g2.one hg s2 hs
        have hE : lateE fl.length l fl okb = if okb = true then 0 else 7 := by unfold lateE; rw [if_neg (by simp), if_neg (by simpa using h1), if_neg h2]
        rw [hE]
        rcases h with ⟨hn, g, v, rfl, hSv, _⟩ | ⟨hlt, rfl, hb⟩
        · rw [if_pos (hko.2 hn)]
          exact ⟨_, _, _, rfl, fun _ => rfl, fun h => absurd rfl h, hSv.below⟩
        · rw [if_neg (fun h => by have := hko.1 h; omega)]
          exact ⟨_, _, _, rfl, fun h => by omega, fun _ => rfl, hb⟩
    · have hE : lateE fl.length l fl okb = checkG fl.length l := by unfold lateE; rw [if_neg (by simp), if_pos h1]
      rw [hE]
      refine (late_check fl.length A cap l FA fc w hr hl hfl h1).mono ?_
      rintro e w' ⟨rfl, hb⟩
      exact ⟨_, _, _, rfl, fun h => absurd h h1, fun _ => rfl, hb⟩
  · have hE : lateE N l fl okb = 4 := by unfold lateE; rw [if_pos h0]
    rw [hE]
    refine (late_size N A cap l.length FA fl.length fc w hfl h0).mono ?_
    rintro e w' ⟨rfl, hb⟩
    exact ⟨_, _, _, rfl, fun h => by omega, fun _ => rfl, hb⟩
theorem sort_errs (N : Int) (A : Option Addr) (cap : Nat) (l : List ArcV) (okb : Bool) (ho : OkB N l okb) (w : World) (hr : Arcs w w.heap.size A l) (hl : l.length ≤ maxLen) :
    Calls Try.prog 32 #[.agg #[.int .i64 N, .slice A l.length cap]] w fun e w' => ∃ (A' : Option Addr) (n' c' : Nat), e = .returned (.tuple #[.slice A' n' c', .bool okb]) ∧ Below w.heap.size w w' := by
  by_cases h1 : checkG N l = 0
  · obtain ⟨out, hg, hs, hko⟩ := ho.good h1
    obtain ⟨h2, _, _, _⟩ := inN_of_check h1
    obtain ⟨n, rfl⟩ : ∃ n : Nat, N = n := ⟨N.toNat, by omega⟩
    simp only [Int.toNat_natCast] at hg hs hko
    refine (sort_any n A cap l w hr h1).mono ?_
    rintro e w' ⟨o2, g2, s2, h⟩
    obtain rfl := g2.one hg s2 hs
    rcases h with ⟨hn, A', c', rfl, hSv⟩ | ⟨hlt, rfl, hb⟩
    · rw [hko.2 hn]; exact ⟨_, _, _, rfl, hSv.below⟩
    · obtain rfl : okb = false := by cases okb; rfl; exact absurd (hko.1 rfl) (by omega)
      exact ⟨_, _, _, rfl, hb⟩
  · rw [ho.bad h1]
    refine (sort_bad N A cap l w hr hl h1).mono ?_
    rintro e w' ⟨rfl, hb⟩
    exact ⟨_, _, _, rfl, hb⟩
theorem any_take_succ {α : Type} (p : α → Bool) (l : List α) (k : Nat) (hk : k < l.length) : (l.take (k + 1)).any p = ((l.take k).any p || p l[k]) := by
  rw [List.take_succ_eq_append_getElem hk, List.any_append]; simp
theorem any_take_zero {α : Type} (p : α → Bool) (l : List α) : (l.take 0).any p = false := rfl
set_option maxRecDepth 100000 in
set_option maxHeartbeats 8000000 in
theorem orderErrors0 (W : World) (N : Int) (A : Option Addr) (cap : Nat) (l : List ArcV) (hr : Arcs W W.heap.size A l) (hl : l.length ≤ maxLen) (FA : Option Addr) (fc : Nat) (fl : List Int) (hfr : Reads W W.heap.size 1 FA fl.length (fl.map (.int .i64))) (hfl : fl.length ≤ maxLen) :
    Calls Try.prog 12 #[.agg #[.int .i64 N, .slice A l.length cap], .slice FA fl.length fc] W fun e w' => e = .returned (.bool true) ∧ Below W.heap.size W w' := by
  have hS0 := (SL.start (Nat.le_refl W.heap.size)).alloc #[.int .i64 N, .slice A l.length cap] 45
  have HR := Lib.hid hr
  have HFR := Lib.hid hfr
  have HS0 := Lib.hid hS0
  have HLL := Lib.hid (And.intro hl hfl)
  unfold maxLen at hl hfl
  clear hr hfr hS0
  by_cases g0 : 40 < l.length
  · have g0i : (40 : Int) < (l.length : Int) := by omega
    go_enter Try.func12, Try.ntmps12
    go_wp2_with (go_at_call 31; (with_reducible refine (awake08 _).mono ?_); rintro e w1 ⟨rfl, hb1⟩
                 have hS1 := HS0.out.call hb1
                 have c0 : w1.cell? ⟨W.heap.size, 0, none⟩ = some (.int .i64 N) := hS1.cell 0 rfl 0 rfl
                 have c1 : w1.cell? ⟨W.heap.size, 1, none⟩ = some (.slice A l.length cap) := hS1.cell 0 rfl 1 rfl
                 have hz : W.heap.size < w1.heap.size := (hS1.lt 0 rfl).2
                 have HS1 := Lib.hid hS1
                 clear hb1 hS1)
    go_ret
    exact ⟨rfl, HS1.out.below⟩
  · have g0i : ¬ (40 : Int) < (l.length : Int) := by omega
    by_cases g6 : 40 < fl.length
    · have g6i : (40 : Int) < (fl.length : Int) := by omega
      go_enter Try.func12, Try.ntmps12
      go_wp2_with (go_at_call 31; (with_reducible refine (awake08 _).mono ?_); rintro e w1 ⟨rfl, hb1⟩
                   have hS1 := HS0.out.call hb1
                   have c0 : w1.cell? ⟨W.heap.size, 0, none⟩ = some (.int .i64 N) := hS1.cell 0 rfl 0 rfl
                   have c1 : w1.cell? ⟨W.heap.size, 1, none⟩ = some (.slice A l.length cap) := hS1.cell 0 rfl 1 rfl
                   have hz : W.heap.size < w1.heap.size := (hS1.lt 0 rfl).2
                   have HS1 := Lib.hid hS1
                   clear hb1 hS1)
      go_ret
      exact ⟨rfl, HS1.out.below⟩
    · have g6i : ¬ (40 : Int) < (fl.length : Int) := by omega
      by_cases g1 : 30 < N ∧ N ≤ 1000
      · obtain ⟨g2, g3⟩ := g1
        go_enter Try.func12, Try.ntmps12
        go_wp2_with (go_at_call 31; (with_reducible refine (awake08 _).mono ?_); rintro e w1 ⟨rfl, hb1⟩
                     have hS1 := HS0.out.call hb1
                     have c0 : w1.cell? ⟨W.heap.size, 0, none⟩ = some (.int .i64 N) := hS1.cell 0 rfl 0 rfl
                     have c1 : w1.cell? ⟨W.heap.size, 1, none⟩ = some (.slice A l.length cap) := hS1.cell 0 rfl 1 rfl
                     have hz : W.heap.size < w1.heap.size := (hS1.lt 0 rfl).2
                     have HS1 := Lib.hid hS1
                     clear hb1 hS1)
        go_ret
        exact ⟨rfl, HS1.out.below⟩
      · obtain ⟨okb, hokb⟩ := exists_okb N l
        obtain ⟨C, hC⟩ : ∃ C, C = checkG N l := ⟨_, rfl⟩
        obtain ⟨E, hE⟩ : ∃ E, E = lateE N l fl okb := ⟨_, rfl⟩
        have HC := Lib.hid (And.intro hC hE)
        have HOK := Lib.hid hokb
        have HSO : ∀ wx, SL W W.heap.size [.blk W.heap.size #[.int .i64 N, .slice A l.length cap] 45] wx → Arcs wx wx.heap.size A l := fun wx h => reads_more (Reads.below HR.out h.below) h.below.size
        have HSO2 : Hid (∀ wx, SL W W.heap.size [.blk W.heap.size #[.int .i64 N, .slice A l.length cap] 45] wx → Reads wx wx.heap.size 1 FA fl.length (fl.map (.int .i64))) := Lib.hid (fun wx h => reads_more (Reads.below HFR.out h.below) h.below.size)
        have HCK : Hid (∀ wx, SL W W.heap.size [.blk W.heap.size #[.int .i64 N, .slice A l.length cap] 45] wx → Calls Try.prog 39 #[.agg #[.int .i64 N, .slice A l.length cap]] wx fun e w' => e = .returned (.int .i64 C) ∧ Below wx.heap.size wx w') := Lib.hid (fun wx h => by rw [hC]; exact checkG_any N A cap l wx (HSO wx h) HLL.out.1)
        have HLT : Hid (∀ wx, SL W W.heap.size [.blk W.heap.size #[.int .i64 N, .slice A l.length cap] 45] wx → Calls Try.prog 36 #[.agg #[.int .i64 N, .slice A l.length cap], .slice FA fl.length fc] wx fun e w' => ∃ (A' : Option Addr) (n' c' : Nat), e = .returned (.tuple #[.slice A' n' c', .int .i64 E]) ∧ (E = 0 → (n' : Int) = N) ∧ (E ≠ 0 → n' = 0) ∧ Below wx.heap.size wx w') := Lib.hid (fun wx h => by rw [hE]; exact late_errs N A cap l FA fc fl okb hokb wx (HSO wx h) HLL.out.1 (HSO2.out wx h) HLL.out.2)
        have HST : Hid (∀ wx, SL W W.heap.size [.blk W.heap.size #[.int .i64 N, .slice A l.length cap] 45] wx → Calls Try.prog 32 #[.agg #[.int .i64 N, .slice A l.length cap]] wx fun e w' => ∃ (A' : Option Addr) (n' c' : Nat), e = .returned (.tuple #[.slice A' n' c', .bool okb]) ∧ Below wx.heap.size wx w') := Lib.hid (fun wx h => sort_errs N A cap l okb hokb wx (HSO wx h) HLL.out.1)
        have HCY : Hid (C ≠ 0 → ∀ wx, SL W W.heap.size [.blk W.heap.size #[.int .i64 N, .slice A l.length cap] 45] wx → Calls Try.prog 41 #[.agg #[.int .i64 N, .slice A l.length cap]] wx fun e w' => e = .returned (.slice none 0 0) ∧ Below wx.heap.size wx w') := Lib.hid (fun h0 wx h => cycleO_bad N A cap l wx (HSO wx h) HLL.out.1 (by rw [← hC]; exact h0))
        clear hC hE hokb HSO
        go_enter Try.func12, Try.ntmps12
        go_upto_region 3 with (go_at_call 31; (with_reducible refine (awake08 _).mono ?_); rintro e w1 ⟨rfl, hb1⟩
                               have hS1 := HS0.out.call hb1
                               have c0 : w1.cell? ⟨W.heap.size, 0, none⟩ = some (.int .i64 N) := hS1.cell 0 rfl 0 rfl
                               have c1 : w1.cell? ⟨W.heap.size, 1, none⟩ = some (.slice A l.length cap) := hS1.cell 0 rfl 1 rfl
                               have hz : W.heap.size < w1.heap.size := (hS1.lt 0 rfl).2
                               have HS1 := Lib.hid hS1
                               clear hb1 hS1)
        go_cut [33] (fun c wx => c = .bool false ∧ SL W W.heap.size [.blk W.heap.size #[.int .i64 N, .slice A l.length cap] 45] wx)
        case first =>
          by_cases g4 : 30 < N
          · have g5 : ¬ N ≤ 1000 := by omega
            clear g1
            go_wp2_with fail
            go_meet
            exact ⟨by rw [decide_eq_false (Int.not_lt.2 g0i), decide_eq_false (Int.not_lt.2 g6i)]; rfl, HS1.out⟩
          · clear g1
            go_wp2_with fail
            go_meet
            exact ⟨by rw [decide_eq_false (Int.not_lt.2 g0i), decide_eq_false (Int.not_lt.2 g6i)]; rfl, HS1.out⟩
        clear c0 c1 hz HS1
        obtain ⟨wa, rfl⟩ : ∃ wa : World, wa = wc := ⟨_, rfl⟩
        obtain ⟨rfl, hS⟩ := hcut
        have c0 : wa.cell? ⟨W.heap.size, 0, none⟩ = some (.int .i64 N) := hS.cell 0 rfl 0 rfl
        have c1 : wa.cell? ⟨W.heap.size, 1, none⟩ = some (.slice A l.length cap) := hS.cell 0 rfl 1 rfl
        have hz : W.heap.size < wa.heap.size := (hS.lt 0 rfl).2
        have HS := Lib.hid hS
        clear hS
        go_upto_region 6 with (go_at_call 36; (with_reducible refine (HLT.out _ HS.out).mono ?_); rintro e wn ⟨A5, n5, c5, rfl, h50, h51, hbn⟩
                               have hSn := HS.out.call hbn
                               have HN5 := Lib.hid (And.intro h50 h51)
                               have c2 : wn.cell? ⟨W.heap.size, 0, none⟩ = some (.int .i64 N) := hSn.cell 0 rfl 0 rfl
                               have c3 : wn.cell? ⟨W.heap.size, 1, none⟩ = some (.slice A l.length cap) := hSn.cell 0 rfl 1 rfl
                               have hz1 : W.heap.size < wn.heap.size := (hSn.lt 0 rfl).2
                               have HT := Lib.hid hSn
                               clear hbn hSn c0 c1 hz h50 h51)
        go_upto_region 7 with (go_at_call 32; (with_reducible refine (HST.out _ HT.out).mono ?_); rintro e wm ⟨A7, n7, c7, rfl, hbm⟩
                               have HU := Lib.hid (HT.out.call hbm)
                               clear hbm c2 c3 hz1)
        go_wp2_with fail
        go_loopw [47, 10] (fun i b wr => ∃ k : Nat, k ≤ fl.length ∧ i = .int .i64 k ∧ b = .bool ((fl.take k).any farB) ∧ SL W W.heap.size [.blk W.heap.size #[.int .i64 N, .slice A l.length cap] 45] wr) (fun i _ _ => fl.length - (intOf i).toNat)
        case atStart => exact ⟨0, by omega, rfl, rfl, HU.out⟩
        case round =>
          clear HU HS HT
          obtain ⟨k, hk, rfl, rfl, hS⟩ := hrel
          by_cases hlt : k < fl.length
          · obtain ⟨bf, pf, rfl, hbf, e0⟩ := reads_plain (HSO2.out _ hS) (by omega) Nat.one_pos
            have x0 : wr.cell? ⟨bf, pf + k, none⟩ = some (.int .i64 fl[k]) := e0 k _ (by simp [hlt])
            have HQ := Lib.hid (any_take_succ farB fl k hlt)
            obtain ⟨x, hx⟩ : ∃ x, fl[k] = x := ⟨_, rfl⟩
            obtain ⟨B, hB⟩ : ∃ B, (fl.take k).any farB = B := ⟨_, rfl⟩
            rw [hx, hB] at HQ
            rw [hx] at x0
            rw [hB]
            have HS := Lib.hid hS
            clear hx hB hS e0 hbf
            cases B
            · by_cases x1 : x < -1125899906842624
              · have hf : Hid (farB x = true) := Lib.hid (by unfold farB; simp; omega)
                go_wp2_with fail
                go_roundw
                case rel => exact ⟨k + 1, by omega, by go_num, by rw [HQ.out, hf.out]; rfl, HS.out⟩
                case measure => simp [intOf]; omega
              · by_cases x2 : 1125899906842624 < x
                · have hf : Hid (farB x = true) := Lib.hid (by unfold farB; simp; omega)
                  go_wp2_with fail
                  go_roundw
                  case rel => exact ⟨k + 1, by omega, by go_num, by rw [HQ.out, hf.out]; rfl, HS.out⟩
                  case measure => simp [intOf]; omega
                · have hf : Hid (farB x = false) := Lib.hid (by unfold farB; simp; omega)
                  go_wp2_with fail
                  go_roundw
                  case rel => exact ⟨k + 1, by omega, by go_num, by rw [HQ.out, hf.out]; rfl, HS.out⟩
                  case measure => simp [intOf]; omega
            · go_wp2_with fail
              go_roundw
              case rel => exact ⟨k + 1, by omega, by go_num, by rw [HQ.out]; rfl, HS.out⟩
              case measure => simp [intOf]; omega
          · obtain rfl : k = fl.length := by omega
            rw [List.take_length]
            obtain ⟨FB, hFB⟩ : ∃ FB, fl.any farB = FB := ⟨_, rfl⟩
            rw [hFB]
            have HFB := Lib.hid hFB
            have c0 : wr.cell? ⟨W.heap.size, 0, none⟩ = some (.int .i64 N) := hS.cell 0 rfl 0 rfl
            have c1 : wr.cell? ⟨W.heap.size, 1, none⟩ = some (.slice A l.length cap) := hS.cell 0 rfl 1 rfl
            have hz : W.heap.size < wr.heap.size := (hS.lt 0 rfl).2
            have HS := Lib.hid hS
            clear hS hFB g1
            go_upto_block 2 with fail
            go_cut [9] (fun c wx => c = .int .i64 E ∧ SL W W.heap.size [.blk W.heap.size #[.int .i64 N, .slice A l.length cap] 45] wx)
            case first =>
              by_cases e0 : (fl.length : Int) = N
              · have e0b : ((fl.length : Int) != N) = false := by simpa using e0
                have HE0 := Lib.hid e0
                clear e0
                by_cases e1 : C = 0
                · have e1b : (C != 0) = false := by simpa using e1
                  have HE1 := Lib.hid e1
                  clear e1
                  cases FB
                  · cases okb
                    · have HEE : Hid (E = 7) := Lib.hid (by rw [HC.out.2]; unfold lateE; rw [if_neg (by rw [HE0.out]; simp), ← HC.out.1, HE1.out, HFB.out]; rfl)
                      go_wp2_with (go_at_call 39; (with_reducible refine (HCK.out _ HS.out).mono ?_); rintro e wn ⟨rfl, hbn⟩; have HT := Lib.hid (HS.out.call hbn); clear hbn)
                      go_meet
                      exact ⟨by rw [HEE.out], HT.out⟩
                    · have HEE : Hid (E = 0) := Lib.hid (by rw [HC.out.2]; unfold lateE; rw [if_neg (by rw [HE0.out]; simp), ← HC.out.1, HE1.out, HFB.out]; rfl)
                      go_wp2_with (go_at_call 39; (with_reducible refine (HCK.out _ HS.out).mono ?_); rintro e wn ⟨rfl, hbn⟩; have HT := Lib.hid (HS.out.call hbn); clear hbn)
                      go_meet
                      exact ⟨by rw [HEE.out], HT.out⟩
                  · have HEE : Hid (E = 2) := Lib.hid (by rw [HC.out.2]; unfold lateE; rw [if_neg (by rw [HE0.out]; simp), ← HC.out.1, HE1.out, HFB.out]; rfl)
                    go_wp2_with (go_at_call 39; (with_reducible refine (HCK.out _ HS.out).mono ?_); rintro e wn ⟨rfl, hbn⟩; have HT := Lib.hid (HS.out.call hbn); clear hbn)
                    go_meet
                    exact ⟨by rw [HEE.out], HT.out⟩
                · have e1b : (C != 0) = true := by simpa using e1
                  have HEE : Hid (E = C) := Lib.hid (by rw [HC.out.2]; unfold lateE; rw [if_neg (by rw [HE0.out]; simp), ← HC.out.1, if_pos e1])
                  clear e1
                  go_upto_region 17 with (go_at_call 39; (with_reducible refine (HCK.out _ HS.out).mono ?_); rintro e wn ⟨rfl, hbn⟩; have hSn := HS.out.call hbn
                                          have c2 : wn.cell? ⟨W.heap.size, 0, none⟩ = some (.int .i64 N) := hSn.cell 0 rfl 0 rfl
                                          have c3 : wn.cell? ⟨W.heap.size, 1, none⟩ = some (.slice A l.length cap) := hSn.cell 0 rfl 1 rfl
                                          have hz1 : W.heap.size < wn.heap.size := (hSn.lt 0 rfl).2
                                          have HT := Lib.hid hSn; clear hbn hSn c0 c1 hz)
                  go_wp2_with (go_at_call 39; (with_reducible refine (HCK.out _ HT.out).mono ?_); rintro e wm ⟨rfl, hbm⟩; have HU := Lib.hid (HT.out.call hbm); clear hbm)
                  go_meet
                  exact ⟨by rw [HEE.out], HU.out⟩
              · have e0b : ((fl.length : Int) != N) = true := by simpa using e0
                have HEE : Hid (E = 4) := Lib.hid (by rw [HC.out.2]; unfold lateE; rw [if_pos e0])
                clear e0
                go_wp2_with fail
                go_meet
                exact ⟨by rw [HEE.out], HS.out⟩
            clear c0 c1 hz HS
            obtain ⟨wb, rfl⟩ : ∃ wb : World, wb = wc := ⟨_, rfl⟩
            obtain ⟨rfl, hS⟩ := hcut
            have c0 : wb.cell? ⟨W.heap.size, 0, none⟩ = some (.int .i64 N) := hS.cell 0 rfl 0 rfl
            have c1 : wb.cell? ⟨W.heap.size, 1, none⟩ = some (.slice A l.length cap) := hS.cell 0 rfl 1 rfl
            have hz : W.heap.size < wb.heap.size := (hS.lt 0 rfl).2
            have HS := Lib.hid hS
            clear hS
            go_upto_region 22 with fail
            go_cut [89] (fun c wx => c = .bool false ∧ SL W W.heap.size [.blk W.heap.size #[.int .i64 N, .slice A l.length cap] 45] wx)
            case first =>
              by_cases e1 : C = 0
              · have e1b : (C != 0) = false := by simpa using e1
                clear e1
                go_wp2_with (go_at_call 39; (with_reducible refine (HCK.out _ HS.out).mono ?_); rintro e wn ⟨rfl, hbn⟩; have HT := Lib.hid (HS.out.call hbn); clear hbn)
                go_meet
                exact ⟨rfl, HT.out⟩
              · have e1b : (C != 0) = true := by simpa using e1
                have HC0 := Lib.hid (HCY.out e1)
                obtain rfl : okb = false := HOK.out.bad (by rw [← HC.out.1]; exact e1)
                clear e1
                go_wp2_with (first
                  | (go_at_call 39; (with_reducible refine (HCK.out _ HS.out).mono ?_); rintro e wn ⟨rfl, hbn⟩; have hSn := HS.out.call hbn
                     have c2 : wn.cell? ⟨W.heap.size, 0, none⟩ = some (.int .i64 N) := hSn.cell 0 rfl 0 rfl
                     have c3 : wn.cell? ⟨W.heap.size, 1, none⟩ = some (.slice A l.length cap) := hSn.cell 0 rfl 1 rfl
                     have hz1 : W.heap.size < wn.heap.size := (hSn.lt 0 rfl).2
                     have HT := Lib.hid hSn; clear hbn hSn c0 c1 hz)
                  | (go_at_call 41; (with_reducible refine (HC0.out _ HT.out).mono ?_); rintro e wm ⟨rfl, hbm⟩; have HU := Lib.hid (HT.out.call hbm); clear hbm))
                go_meet
                exact ⟨rfl, HU.out⟩
            clear c0 c1 hz HS
            obtain ⟨rfl, hS⟩ := hcut
            have c0 : wc.cell? ⟨W.heap.size, 0, none⟩ = some (.int .i64 N) := hS.cell 0 rfl 0 rfl
            have HS := Lib.hid hS
            clear hS
            have hee : (E == E) = true := by simp
            by_cases e2 : E = 0
            · have hn := HN5.out.1 e2
              have e2b : (E == 0) = true := by simpa using e2
              have hnb : ((n5 : Int) == N) = true := by simpa using hn
              clear e2 hn
              go_wp2_with fail
              go_ret
              exact ⟨rfl, HS.out.below⟩
            · have hn := HN5.out.2 e2
              have e2b : (E == 0) = false := by simpa using e2
              have e2c : (E != 0) = true := by simpa using e2
              obtain rfl := hn
              clear e2
              go_wp2_with fail
              go_ret
              exact ⟨rfl, HS.out.below⟩
set_option maxRecDepth 100000 in
theorem orderErrors_walk {H : Type} {enc : TypeId × Value → H} {base : Nat} (W : World) (v : Value) (d : DataW H) (p : List MemPlace) (o : Value.okWide Try.prog W .any base 45 v) (k : DataW.Trod enc Try.prog W 0 (fun _ => true) true 45 v d p)
    (FA : Option Addr) (fc : Nat) (fl : List Int) (hfr : Reads W W.heap.size 1 FA fl.length (fl.map (.int .i64))) (hfl : fl.length ≤ maxLen) (hfw : ∀ x ∈ fl, (Lit.int .i64 x).wf = true) :
    Calls Try.prog 12 #[v, .slice FA fl.length fc] W fun e w' => e = .returned (.bool true) ∧ Below W.heap.size W w' := by
  obtain ⟨N, A, cap, l, rfl, hr, hl, _⟩ := graph_open o k
  exact orderErrors0 W N A cap l hr hl FA fc fl hfr hfl
end Go.Proofs.Ytaaffahjlkfbgaa
