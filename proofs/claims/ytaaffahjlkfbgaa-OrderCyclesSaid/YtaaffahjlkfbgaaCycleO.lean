/- The walk of order.Cycle. -/
import Derived.Test.YtaaffahjlkfbgaaStuck
import Derived.Test.YtaaffahjlkfbgaaCloneInt
import Derived.Test.YtaaffahjlkfbgaaReverse
import Derived.Test.YtaaffahjlkfbgaaCopyI
import Derived.Test.YtaaffahjlkfbgaaIarr
import Derived.Deep.LoopGhost
namespace Go.Proofs.Ytaaffahjlkfbgaa
open Go.ChangeShapes Go.WideShapes Go.ChangeAt Go.RowKit
set_option linter.unusedVariables false
theorem sliceI_elem : Try.prog.underlying 48 = some (.slice (Try.prog.elem 48)) := by kernel_rfl
theorem run_from (w : World) (g off n c i : Nat) (hi : i < n) (h : n ≤ c) : (Instr.slice 48 (.slice (some ⟨g, off, none⟩) n c) (some (.int .i64 (i : Int))) none none).run Try.prog w = .ok (.slice (some ⟨g, off + i, none⟩) (n - i) (c - i)) w := by
  have hs : (sizeOf (Try.prog.elem 48)).run Try.prog w = .ok 1 w := by kernel_rfl
  rw [run_slice_l (P := Try.prog) w 48 _ n c sliceI_elem .i64 i (by omega) (by omega), hs]
  simp only [Result.andThen_ok, sliced]
  by_cases h0 : i = 0
  · subst h0; simp [Addr.add]
  · simp [Addr.add, h0, show ¬ c = i by omega]
theorem reads_drop {w : World} {g off n : Nat} {xs : List Value} (h : Reads w w.heap.size 1 (some ⟨g, off, none⟩) n xs) (i : Nat) (hi : i < n) : Reads w w.heap.size 1 (some ⟨g, off + i, none⟩) (n - i) (xs.drop i) := by
  refine ⟨by have := h.1; simp; omega, fun _ => ?_⟩
  obtain ⟨ad, e, hb, hc⟩ := h.2 (by omega)
  cases e
  refine ⟨_, rfl, hb, fun j u hu => ?_⟩
  rw [List.getElem?_drop] at hu
  have := hc _ _ hu
  rw [Addr.add_mid] at this ⊢
  rw [Nat.add_assoc]; exact this
/-- A cycle, told from what is stuck. -/
def CycleO (w : World) (N : Nat) (l : List ArcV) (e : Ending) (w' : World) : Prop :=
  ∃ (zs : List Int) (u : Nat) (wt : Int) (A : Option Addr) (c k : Nat) (ks : List Int), ∃ hk : k < l.length, e = .returned (.slice A zs.length c) ∧ zs.length ≤ N ∧ Pth l zs u u wt ∧ zs = (k : Int) :: ks ∧ l[k].fr = (u : Int) ∧ SL w w.heap.size [.row 3 1 (.slice A zs.length c) zs.length (zs.map (.int .i64))] w'
set_option maxRecDepth 100000 in
set_option maxHeartbeats 8000000 in
theorem cycleO_yes (N : Nat) (A : Option Addr) (cap : Nat) (l : List ArcV) (w : World) (hr : Arcs w w.heap.size A l) (hck : checkG N l = 0) {out : List Int} (hg : Grd N l out) (hs : Stop N l out) (hlt : out.length < N) :
    Calls Try.prog 41 #[.agg #[.int .i64 N, .slice A l.length cap]] w (CycleO w N l) := by
  have hS0 := (SL.start (Nat.le_refl w.heap.size)).alloc #[.int .i64 N, .slice A l.length cap] 45
  have HR : Hid (∀ (rs : List Rs) w', SL w w.heap.size rs w' → Arcs w' w'.heap.size A l) := Lib.hid (fun rs w' h => reads_more (Reads.below hr h.below) h.below.size)
  obtain ⟨_, hN, hl, hin⟩ := inN_of_check hck
  simp only [Int.toNat_natCast] at hin
  have hNn : N ≤ 1000 := by omega
  obtain ⟨i0, hi0, hz0, hz1, hz2⟩ := info_parts int_info
  have HI := Lib.hid (And.intro hi0 (And.intro hz0 (And.intro hz1 hz2)))
  obtain ⟨S, hSS⟩ : ∃ S, S = stuckR l N := ⟨_, rfl⟩
  have hsome := stuck_some hin hs hlt
  have hled : ∀ i, i < N → S i = true → ∃ k, ∃ hk : k < l.length, l[k].to = (i : Int) ∧ S l[k].fr.toNat = true := fun i hi h => by rw [hSS] at h ⊢; exact stuck_led hin hi h
  have HCK : Hid (∀ (rs : List Rs) w', SL w w.heap.size rs w' → Calls Try.prog 39 #[.agg #[.int .i64 N, .slice A l.length cap]] w' fun e w'' => e = .returned (.int .i64 0) ∧ Below w'.heap.size w' w'') := Lib.hid (fun rs w' h => by
    rw [← hck]; exact checkG_any N A cap l w' (HR.out _ _ h) (by unfold maxLen; omega))
  have HST : Hid (∀ (rs : List Rs) w', SL w w.heap.size rs w' → Calls Try.prog 32 #[.agg #[.int .i64 N, .slice A l.length cap]] w' fun e w'' => e = .returned (.tuple #[.slice none 0 0, .bool false]) ∧ Below w'.heap.size w' w'') := Lib.hid (fun rs w' h => by
    refine (sort_any N A cap l w' (HR.out _ _ h) hck).mono ?_
    rintro e w'' ⟨o2, g2, s2, h⟩
    obtain rfl := g2.one hg s2 hs
    rcases h with ⟨hn, _⟩ | ⟨_, rfl, hb⟩
    · omega
    · exact ⟨rfl, hb⟩)
  have HSK : Hid (∀ (rs : List Rs) w', SL w w.heap.size rs w' → Calls Try.prog 60 #[.agg #[.int .i64 N, .slice A l.length cap]] w' fun e w'' => ∃ g, e = .returned (.slice (some ⟨g, 0, none⟩) N N) ∧ SL w' w'.heap.size [.blk g (barr S N) 4] w'') := Lib.hid (fun rs w' h => by
    rw [hSS]; exact stuck_any N A cap l w' (HR.out _ _ h) hin hNn hl)
  have HIX : Hid (∀ (g : Nat) (rs : List Rs) w', SL w w.heap.size (.blk g (barr S N) 4 :: rs) w' → Calls Try.prog 61 #[.slice (some ⟨g, 0, none⟩) N N, .bool true] w' fun e w'' => (∃ i : Nat, i < N ∧ S i = true ∧ e = .returned (.int .i64 i)) ∧ Below w'.heap.size w' w'') := Lib.hid (fun g rs w' h =>
    index_true g N S w' (fun j hj => h.cell 0 rfl j (barr_get _ _ _ hj)) hNn (by rw [hSS]; exact hsome))
  have HIN := Lib.hid hin
  have HLED := Lib.hid hled
  clear hr hck hN hin hg hs hlt hSS hsome hled hi0 hz0 hz1 hz2
  go_enter Try.func41, Try.ntmps41
  go_wp2_with fail
  go_step3
  go_upto_region 1 with fail
  obtain ⟨gb, hgb⟩ : ∃ gb, gb = w.heap.size := ⟨_, rfl⟩
  obtain ⟨w0, hw0⟩ : ∃ w0, w0 = w.alloc (.cells #[.int .i64 N, .slice A l.length cap] 45) := ⟨_, rfl⟩
  have HS0 : Hid (SL w w.heap.size [.blk gb #[.int .i64 N, .slice A l.length cap] 45] w0) := Lib.hid (by rw [hgb, hw0]; exact hS0)
  rw [← hw0, ← hgb]
  clear hS0 hw0 hgb
  have c0 : w0.cell? ⟨gb, 0, none⟩ = some (.int .i64 N) := HS0.out.cell 0 rfl 0 rfl
  have c1 : w0.cell? ⟨gb, 1, none⟩ = some (.slice A l.length cap) := HS0.out.cell 0 rfl 1 rfl
  go_upto_region 3 with (go_at_call 39; (with_reducible refine (HCK.out _ _ HS0.out).mono ?_); rintro e w1 ⟨rfl, hB⟩; have hS1 := HS0.out.call hB
                         have c2 : w1.cell? ⟨gb, 0, none⟩ = some (.int .i64 N) := hS1.cell 0 rfl 0 rfl
                         have c3 : w1.cell? ⟨gb, 1, none⟩ = some (.slice A l.length cap) := hS1.cell 0 rfl 1 rfl
                         have HS1 := Lib.hid hS1; clear hB hS1 c0 c1)
  go_upto_region 6 with (go_at_call 32; (with_reducible refine (HST.out _ _ HS1.out).mono ?_); rintro e w2 ⟨rfl, hB⟩; have hS2 := HS1.out.call hB
                         have c0 : w2.cell? ⟨gb, 0, none⟩ = some (.int .i64 N) := hS2.cell 0 rfl 0 rfl
                         have c1 : w2.cell? ⟨gb, 1, none⟩ = some (.slice A l.length cap) := hS2.cell 0 rfl 1 rfl
                         have HS2 := Lib.hid hS2; clear hB hS2 c2 c3)
  go_upto_region 7 with (go_at_call 60; (with_reducible refine (HSK.out _ _ HS2.out).mono ?_); rintro e w3 ⟨sb, rfl, hS⟩; have HS3 : Hid (SL w w.heap.size [.blk sb (barr S N) 4, .blk gb #[.int .i64 N, .slice A l.length cap] 45] w3) := Lib.hid (HS2.out.join hS); clear hS c0 c1)
  go_upto_region 8 with (go_at_call 61; (with_reducible refine (HIX.out _ _ _ HS3.out).mono ?_); rintro e w4 ⟨⟨v0, hv0, hv1, rfl⟩, hB⟩; have hS4 := HS3.out.call hB
                         have HV := Lib.hid (And.intro hv0 hv1)
                         have c0 : w4.cell? ⟨gb, 0, none⟩ = some (.int .i64 N) := hS4.cell 1 rfl 0 rfl
                         have HS4 := Lib.hid hS4; clear hB hS4 hv0 hv1)
  clear HS0 HS1 HS2 HS3
  have hzg : gb < w4.heap.size := (HS4.out.lt 1 rfl).2
  go_upto_region 9 with (at_make; refine wpList_make_rep _ rfl _ _ 48 rfl 3 i0 (.int .i64 0) Try.underlying48 HI.out.1 HI.out.2.1 HI.out.2.2.1 rfl .i64 .i64 N N N rfl rfl rfl rfl ?b2 ?b3 ?_
                         case b2 => rw [HI.out.2.2.2]; omega
                         case b3 => unfold maxLen; omega
                         intro w5 hg5 hb5 hz5
                         obtain ⟨sn, hsn⟩ : ∃ sn, sn = w4.heap.size := ⟨_, rfl⟩
                         have hS := HS4.out.made hb5 hg5
                         have HS5 : Hid (SL w w.heap.size [.blk sn (iarr (seenV []) N) 3, .blk sb (barr S N) 4, .blk gb #[.int .i64 N, .slice A l.length cap] 45] w5) := Lib.hid (by
                           have e : iarr (seenV []) N = Array.replicate N (.int .i64 0) := by
                             rw [← madeCells_one (.int .i64 0) N rfl]
                             show _ = madeCells #[Value.int .i64 0] N
                             rw [iarr_made]
                             exact iarr_ext fun i _ => by simp [seenV]
                           rw [e, hsn]
                           exact hS)
                         rw [← hsn]
                         clear hg5 hb5 hz5 hS hsn c0 hzg)
  have hS6 := SL.asRow (f := fun _ => 0) (n := 0) (g := w5.heap.size) (t := 3) (HS5.out.alloc (iarr (fun _ => 0) 0) 3) 0 rfl (by unfold maxLen; omega)
  have e0 : iarr (fun _ => 0) 0 = #[] := by simp [iarr]
  rw [e0] at hS6
  clear e0
  go_step3
  obtain ⟨wb, hwb⟩ : ∃ wb, wb = w5.heap.size := ⟨_, rfl⟩
  generalize (w5.alloc (.cells #[] 3)) = w6 at *
  rw [← hwb] at hS6 ⊢
  have HS6 : Hid (SL w w.heap.size [.row 3 1 (.slice (some ⟨wb, 0, none⟩) 0 0) ([] : List Int).length (([] : List Int).map (.int .i64)), .blk sn (iarr (seenV []) N) 3, .blk sb (barr S N) 4, .blk gb #[.int .i64 N, .slice A l.length cap] 45] w6) := Lib.hid hS6
  clear hwb hS6 HS4 HS5
  go_wp2_with fail
  go_loopg [6, 8] (N + 1) (fun gk at_ wy wr => ∃ (vs : List Nat) (ws : List Int) (v : Nat) (A8 : Option Addr) (c8 : Nat), at_ = .int .i64 v ∧ wy = .slice A8 ws.length c8 ∧ Hid (Trail l S vs ws v) ∧ v < N ∧ N + 1 ≤ vs.length + gk ∧ SL w w.heap.size [.row 3 1 (.slice A8 ws.length c8) ws.length (ws.map (.int .i64)), .blk sn (iarr (seenV vs) N) 3, .blk sb (barr S N) 4, .blk gb #[.int .i64 N, .slice A l.length cap] 45] wr)
  case atStart => exact ⟨[], [], v0, _, _, rfl, rfl, Lib.hid (.nil HV.out.2), HV.out.1, by simp, HS6.out⟩
  case round =>
    clear HS6
    obtain ⟨vs, ws, v, A8, c8, rfl, rfl, HT, hv, hgk, hS⟩ := hrel
    have hwl := HT.out.len
    have hlt := HT.out.lt HIN.out (fun u _ e1 e2 => by rw [← e2]; exact hv)
    have hvl : vs.length ≤ N := trail_len HT.out.nodup hlt.1
    clear hlt
    by_cases hmem : v ∈ vs
    · have hne : seenV vs v ≠ 0 := fun h => seenV_zero.1 h hmem
      obtain ⟨i, hi, hvi, hsi⟩ := seenV_mem hne
      have d0 : wr.cell? ⟨sn, v, none⟩ = some (.int .i64 ((i : Int) + 1)) := by rw [← hsi]; exact hS.cell 1 rfl v (iarr_get _ _ _ hv)
      have hnz : ((i : Int) + 1 == 0) = false := by simpa using (show ¬ (i : Int) + 1 = 0 by omega)
      rcases (hS.row 0 rfl).in_ with h0 | ⟨g8, o8, c9, e8, hg8⟩
      · omega
      obtain ⟨rfl, rfl⟩ : A8 = some ⟨g8, o8, none⟩ ∧ c8 = c9 := by simpa using e8
      obtain ⟨_, _, e9, hcap, _⟩ := (hS.row 0 rfl).slice_
      have hcap9 : ws.length ≤ c8 := by cases e9; omega
      obtain ⟨zr, hzr⟩ : ∃ zr, ws.drop i = zr := ⟨_, rfl⟩
      have hzl : zr.length = ws.length - i := by rw [← hzr]; simp
      have hsl : ∀ w' : World, (Instr.slice 48 (.slice (some ⟨g8, o8, none⟩) ws.length c8) (some (.int .i64 (i : Int))) none none).run Try.prog w' = .ok (.slice (some ⟨g8, o8 + i, none⟩) zr.length (c8 - i)) w' := fun w' => by rw [hzl]; exact run_from w' g8 o8 ws.length c8 i (by omega) hcap9
      have hrd := reads_drop (hS.reads 0 rfl) i (by omega)
      rw [← hzl, ← List.map_drop, hzr] at hrd
      have HCL := Lib.hid (cloneInt (some ⟨g8, o8 + i, none⟩) zr.length (c8 - i) (zr.map (.int .i64)) wr hrd (by intro u hu; obtain ⟨x, _, rfl⟩ := List.mem_map.1 hu; rfl) (by omega))
      obtain ⟨wt, hp, k, ks, hkl, hzs, hfr⟩ := HT.out.ways (fun a ha => (HIN.out a ha).1.1) i hi
      rw [hvi, hzr] at hp
      rw [hzr] at hzs
      have hzN : zr.length ≤ N := by omega
      have HP := Lib.hid (And.intro hp (And.intro hzs (And.intro hfr hzN)))
      have HS := Lib.hid hS
      clear hS hp hzs hfr hvi hsi hne hmem e8 e9 hcap hg8 hzr hzl hrd hwl hgk HT
      go_wp2_with (first
        | (go_at_call 62; (with_reducible refine HCL.out.mono ?_); rintro e w7 ⟨v8, rfl, hc⟩
           have HS7 := Lib.hid (HS.out.join hc); clear hc)
        | (go_at_call 52; (refine (reverse_any w w.heap.size _ _ 0 _ zr HS7.out rfl (by omega)).mono ?_); rintro e w8 ⟨rfl, hS8⟩; have HS8 := Lib.hid hS8; clear hS8))
      try rw [Exit.noGoto_ret]
      go_ret
      obtain ⟨A', c', rfl, _, _⟩ := (HS8.out.row 0 rfl).slice_
      obtain ⟨hp, hzs, hfr, hzN⟩ := HP.out
      have h9 : SL w w.heap.size [.row 3 1 (.slice A' zr.length c') zr.length (zr.reverse.map (.int .i64))] w8 := SL.sub (l' := _ :: []) HS8.out (.cons_cons _ (List.nil_sublist _))
      have e9 : zr.reverse.length = zr.length := List.length_reverse
      exact ⟨zr.reverse, v, wt, A', c', k, ks, hkl, by rw [e9]; rfl, by rw [e9]; exact hzN, hp, hzs, hfr, by rw [e9]; exact h9⟩
    · have hse : seenV vs v = 0 := seenV_zero.2 hmem
      have d0 : wr.cell? ⟨sn, v, none⟩ = some (.int .i64 0) := by rw [← hse]; exact hS.cell 1 rfl v (iarr_get _ _ _ hv)
      have d1 := hS.free 1 rfl v
      have hS4 := hS.setInt 1 rfl v ((ws.length : Int) + 1)
      have e : iarr (fun j => if j = v then (ws.length : Int) + 1 else seenV vs j) N = iarr (seenV (vs ++ [v])) N := iarr_ext fun j _ => by rw [seenV_snoc hmem, hwl]
      rw [e] at hS4
      have HWL := Lib.hid (And.intro hwl (And.intro hmem hvl))
      have HS4 := Lib.hid hS4
      have hws : ws.length ≤ 1000 := by omega
      obtain ⟨gO, rfl⟩ : ∃ gO : Nat, gO = gk := ⟨_, rfl⟩
      have HGK := Lib.hid hgk
      clear hS hS4 e hwl hse hmem hgk hvl
      go_upto_region 11 with fail
      have hS5 := HS4.out
      clear HS4 d0 d1
      generalize (wr.setCell ⟨sn, v, none⟩ (.int .i64 ((ws.length : Int) + 1))) = wo at *
      have c1 : wo.cell? ⟨gb, 1, none⟩ = some (.slice A l.length cap) := hS5.cell 3 rfl 1 rfl
      have HS5 : Hid (SL w w.heap.size [.row 3 1 (.slice A8 ws.length c8) ws.length (ws.map (.int .i64)), .blk sn (iarr (seenV (vs ++ [v])) N) 3, .blk sb (barr S N) 4, .blk gb #[.int .i64 N, .slice A l.length cap] 45] wo) := Lib.hid hS5
      clear hS5
      go_wp2_with fail
      clear c1
      go_loopg [6, 8, 43] (l.length + 1) (fun gi s6 s8 i wi => ∃ k : Nat, s6 = .int .i64 v ∧ s8 = .slice A8 ws.length c8 ∧ k ≤ l.length ∧ i = .int .i64 k ∧ Hid (∀ j, ∀ h : j < l.length, j < k → ¬ (l[j].to = (v : Int) ∧ S l[j].fr.toNat = true)) ∧ l.length < k + gi ∧ SL w w.heap.size [.row 3 1 (.slice A8 ws.length c8) ws.length (ws.map (.int .i64)), .blk sn (iarr (seenV (vs ++ [v])) N) 3, .blk sb (barr S N) 4, .blk gb #[.int .i64 N, .slice A l.length cap] 45] wi)
      case atStart => exact ⟨0, rfl, rfl, by omega, rfl, Lib.hid (fun j _ h => absurd h (by omega)), by omega, HS5.out⟩
      case round =>
        clear HS5
        obtain ⟨k, rfl, rfl, hk, rfl, HNO, hgi, hS⟩ := hrel
        by_cases hltk : k < l.length
        · obtain ⟨b, p, rfl, hb, a0, a1, a2⟩ := arcs_at (HR.out _ _ hS) hltk
          obtain ⟨⟨f0, f1⟩, t0, t1⟩ := HIN.out _ (List.getElem_mem hltk)
          obtain ⟨a, ha⟩ : ∃ a, l[k] = a := ⟨_, rfl⟩
          have HA := Lib.hid ha
          rw [ha] at a0 a1 a2 f0 f1 t0 t1
          clear ha
          have hS2 := hS.alloc #[.int .i64 a.fr, .int .i64 a.to, .int .i64 a.wt] 55
          have hz1 : b < wr.heap.size := hb
          clear hS
          go_upto_region 14 with fail
          obtain ⟨ar, har⟩ : ∃ ar, ar = wr.heap.size := ⟨_, rfl⟩
          generalize (wr.alloc (.cells #[.int .i64 a.fr, .int .i64 a.to, .int .i64 a.wt] 55)) = w9 at *
          rw [← har] at hS2 ⊢
          clear har a0 a1 a2 hz1 hb
          have y0 : w9.cell? ⟨ar, 0, none⟩ = some (.int .i64 a.fr) := hS2.cell 0 rfl 0 rfl
          have y1 : w9.cell? ⟨ar, 1, none⟩ = some (.int .i64 a.to) := hS2.cell 0 rfl 1 rfl
          have y2 : w9.cell? ⟨sb, a.fr.toNat, none⟩ = some (.bool (S a.fr.toNat)) := hS2.cell 3 rfl _ (barr_get _ _ _ (by omega))
          obtain ⟨s2, hs2⟩ : ∃ s2, S a.fr.toNat = s2 := ⟨_, rfl⟩
          rw [hs2] at y2
          have HS2 := Lib.hid hS2
          have HSV := Lib.hid hs2
          clear hS2 hs2
          by_cases hto : a.to = (v : Int)
          · have hq : (a.to == (v : Int)) = true := by simpa using hto
            have HTO := Lib.hid hto
            clear hto
            cases s2
            · go_wp2_with fail
              go_roundg (l.length - k)
              case measure => omega
              case rel => exact ⟨k + 1, rfl, rfl, by omega, by go_num, Lib.hid (fun j h hj => by
                by_cases e : j = k
                · subst e; rw [HA.out, HSV.out]; simp
                · exact HNO.out j h (by omega)), by omega, HS2.out.tail⟩
            · go_upto_region 15 with fail
              have hS2 := HS2.out
              clear y0 y1 y2 HS2 hq
              refine wp_region_sl [0,1,4,5] [2,3,6] [7] [.blk ar #[.int .i64 a.fr, .int .i64 a.to, .int .i64 a.wt] 55, .blk sn (iarr (seenV (vs ++ [v])) N) 3, .blk sb (barr S N) 4, .blk gb #[.int .i64 N, .slice (some ⟨b, p, none⟩) l.length cap] 45] hS2 (by simp) (by kernel_rfl) (by kernel_rfl) (.cons rfl .nil) (fun C cw _ hC => ?_)
              have q0 : ∀ c, (cw c).cell? ⟨ar, 0, none⟩ = some (.int .i64 a.fr) := fun c => (hC c).cell 0 rfl 0 rfl
              repeat (refine pl_look rfl rfl rfl (fun Kv hK => ?_); go_big_quiet_op; refine hK _ ?_; clear hK Kv)
              clear q0 hC
              refine pl_end ?_
              intro w1 hS9
              refine pm_eff rfl rfl fun Kv hK => ?_
              go_simp
              refine ⟨(hS9.alloc _ _).sub (by simp), hK _ _ ?_⟩
              clear hK Kv
              refine pm_append rfl rfl (.tmp 59) (.tmp 61) 48 rfl hS9 1 i0 _ 1 8 Try.underlying48 HI.out.1 HI.out.2.1 HI.out.2.2.1 HI.out.2.2.2 rfl (by decide) (.slice A8 ws.length c8) ws.length 1 _ rfl rfl _ rfl rfl (by decide) rfl (by simp [Value.oneCell']) (by omega) (by decide) ?_
              intro v' w' hS10 hz10
              refine ⟨hS10.sub (by simp), fun Kv hK => hK _ _ ?_⟩
              refine pm_eff rfl rfl fun Kv hK => ?_
              go_simp
              refine ⟨hS10.sub (by simp), hK _ _ ?_⟩
              clear hK Kv
              refine pm_end ?_
              obtain ⟨A9, c9, rfl, _, _⟩ := (hS10.row 1 rfl).slice_
              have HS10 : Hid (SL w w.heap.size [.row 3 1 (.slice A9 (ws.length + 1) c9) (ws.length + 1) (ws.map (.int .i64) ++ [.int .i64 (k : Int)]), .blk sn (iarr (seenV (vs ++ [v])) N) 3, .blk sb (barr S N) 4, .blk gb #[.int .i64 N, .slice (some ⟨b, p, none⟩) l.length cap] 45] w') := Lib.hid hS10.tail
              clear hS9 hS10 hz10 hS2
              go_wp2_with fail
              go_roundg (gO - 1)
              case measure => have := HGK.out; have := HWL.out.2.2; omega
              case rel =>
                have h1 := HT.out.snoc HWL.out.2.1 hltk (by rw [HA.out]; exact HTO.out) (by rw [HA.out]; exact HSV.out)
                rw [HA.out] at h1
                have e1 : (ws ++ [(k : Int)]).length = ws.length + 1 := by simp
                have := HGK.out
                have := HWL.out.2.2
                exact ⟨vs ++ [v], ws ++ [(k : Int)], a.fr.toNat, A9, c9, by rw [Int.toNat_of_nonneg f0], by rw [e1], Lib.hid h1, by omega, by simp; omega, by rw [e1, List.map_append]; exact HS10.out⟩
          · have hq : (a.to == (v : Int)) = false := by simpa using hto
            have HTO := Lib.hid hto
            clear hto
            go_wp2_with fail
            go_roundg (l.length - k)
            case measure => omega
            case rel => exact ⟨k + 1, rfl, rfl, by omega, by go_num, Lib.hid (fun j h hj => by
              by_cases e : j = k
              · subst e; rw [HA.out]; exact fun h => HTO.out h.1
              · exact HNO.out j h (by omega)), by omega, HS2.out.tail⟩
        · exfalso
          obtain ⟨j, hj, h1, h2⟩ := HLED.out v hv HT.out.at
          exact HNO.out j hj (by omega) ⟨h1, h2⟩
end Go.Proofs.Ytaaffahjlkfbgaa
