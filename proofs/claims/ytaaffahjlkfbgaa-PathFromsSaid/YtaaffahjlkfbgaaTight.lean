/- The walk of law 07's tight at a right tree. -/
import Derived.Test.YtaaffahjlkfbgaaJoined
import Derived.Test.YtaaffahjlkfbgaaFars
namespace Go.Proofs.Ytaaffahjlkfbgaa
open Go.ChangeShapes Go.WideShapes Go.ChangeAt Go.RowKit
set_option linter.unusedVariables false
theorem SL.readsBlk {W w : World} {B : Nat} {l : List Rs} (h : SL W B l w) (i : Nat) {g n : Nat} {f : Nat → Int} {t : TypeId} (hi : l[i]? = some (.blk g (iarr f n) t)) : Reads w w.heap.size 1 (some ⟨g, 0, none⟩) n (nums f n) := by
  have := reads_iarr (h.blk i hi)
  rw [List.map_map] at this
  rw [List.length_map, List.length_range] at this
  exact this
theorem arcs_cells {w : World} {B b o : Nat} {l : List ArcV} (h : Arcs w B (some ⟨b, o, none⟩) l) {k : Nat} (hk : k < l.length) : b < B ∧ w.cell? ⟨b, o + k * 3, none⟩ = some (.int .i64 l[k].fr) ∧ w.cell? ⟨b, o + (k * 3) + 1, none⟩ = some (.int .i64 l[k].to) ∧ w.cell? ⟨b, o + (k * 3) + 2, none⟩ = some (.int .i64 l[k].wt) := by
  obtain ⟨b', o', e, h1, h2, h3, h4⟩ := arcs_at h hk
  simp only [Option.some.injEq, Addr.mk.injEq, and_true] at e
  obtain ⟨rfl, rfl⟩ := e
  exact ⟨h1, h2, h3, h4⟩
set_option maxRecDepth 100000 in
set_option maxHeartbeats 8000000 in
theorem tight_ok (W : World) (B : Nat) (rs : List Rs) (w : World) (A AF : Option Addr) (cap cf : Nat) (l : List ArcV) (far by_ : Nat → Int) (N f fb bb i1 i2 i3 : Nat) (hS : SL W B rs w) (h1 : rs[i1]? = some (.blk fb (iarr far N) 2)) (h2 : rs[i2]? = some (.blk bb (iarr by_ N) 3)) (h3 : rs[i3]? = some (.row 2 1 (.slice AF N cf) N (nums far N))) (hA : ∀ w', SL W B rs w' → Arcs w' w'.heap.size A l) (hl : l.length ≤ 20000) (hin : InN N l) (hN : N ≤ 1000) (hf : f < N) (hw : ∀ a ∈ l, -1099511627776 ≤ a.wt ∧ a.wt ≤ 1099511627776) (ht : TreeOk N l f far by_) (hb : ∀ i, i < N → -1152921504606846976 ≤ far i ∧ far i ≤ 1152921504606846976) :
    Calls Try.prog 27 #[.agg #[.int .i64 N, .slice A l.length cap], .agg #[.slice (some ⟨fb, 0, none⟩) N N, .slice (some ⟨bb, 0, none⟩) N N], .int .i64 f, .slice AF N cf] w fun e w' => e = .returned (.bool true) ∧ SL W B rs w' := by
  have hS1 := (hS.alloc #[.int .i64 N, .slice A l.length cap] 45).alloc #[.slice (some ⟨fb, 0, none⟩) N N, .slice (some ⟨bb, 0, none⟩) N N] 50
  simp only [alloc_size] at hS1
  have HA := Lib.hid hA
  have HIN := Lib.hid hin
  have HW := Lib.hid hw
  have HT := Lib.hid ht
  have HBD := Lib.hid hb
  have H123 := Lib.hid (And.intro h1 (And.intro h2 h3))
  obtain ⟨gf, of_, hAF⟩ : ∃ gf of_, AF = some ⟨gf, of_, none⟩ := by
    rcases (hS.row i3 h3).in_ with h0 | ⟨g, o, c, e, _⟩
    · omega
    · injection e with e; exact ⟨g, o, e⟩
  subst hAF
  clear hS hA hin hw hb h1 h2 h3 ht
  go_enter Try.func27, Try.ntmps27
  go_upto_region 1 with fail
  obtain ⟨gb, hgb⟩ : ∃ gb, gb = w.heap.size := ⟨_, rfl⟩
  obtain ⟨tb, htb⟩ : ∃ tb, tb = w.heap.size + 1 := ⟨_, rfl⟩
  obtain ⟨w0, hw0⟩ : ∃ w0, w0 = ((w.alloc (Obj.cells #[.int .i64 N, .slice A l.length cap] 45)).alloc (Obj.cells #[.slice (some ⟨fb, 0, none⟩) N N, .slice (some ⟨bb, 0, none⟩) N N] 50)) := ⟨_, rfl⟩
  rw [← hw0] at hS1 ⊢
  rw [← htb, ← hgb] at hS1 ⊢
  clear htb hgb hw0 w
  have c0 : w0.cell? ⟨tb, 0, none⟩ = some (.slice (some ⟨fb, 0, none⟩) N N) := hS1.cell 0 rfl 0 rfl
  have HRF := Lib.hid (hS1.readsBlk (i1 + 2) H123.out.1)
  have HRG := Lib.hid (hS1.reads (i3 + 2) H123.out.2.2)
  have HS1 := Lib.hid hS1
  clear hS1
  go_wp2_with (go_at_call 38; (with_reducible refine (equal_nums64 far far N _ _ _ cf _ (by omega) HRF.out HRG.out).mono ?_); rintro e w6 ⟨bq, rfl, hbb, hB6⟩
               obtain rfl : bq = true := hbb.2 fun _ _ => rfl
               have hS6 := HS1.out.call hB6
               have d0 : w6.cell? ⟨tb, 1, none⟩ = some (.slice (some ⟨bb, 0, none⟩) N N) := hS6.cell 0 rfl 1 rfl
               have d1 : w6.cell? ⟨gb, 0, none⟩ = some (.int .i64 N) := hS6.cell 1 rfl 0 rfl
               have d2 : w6.cell? ⟨bb, f, none⟩ = some (.int .i64 (-1)) := by rw [← HT.out.root]; exact hS6.cell (i2 + 2) H123.out.2.1 f (iarr_get _ _ _ hf)
               have HS6 := Lib.hid hS6
               have hn1 : ((N : Int) != (N : Int)) = false := by simp
               clear hbb hB6 hS6 c0 HS1 HRF HRG)
  clear d0 d1 d2
  go_loopw [37] (fun i wr => ∃ k : Nat, k ≤ N ∧ i = .int .i64 k ∧ SL W B (.blk tb #[.slice (some ⟨fb, 0, none⟩) N N, .slice (some ⟨bb, 0, none⟩) N N] 50 :: .blk gb #[.int .i64 N, .slice A l.length cap] 45 :: rs) wr) (fun i _ => N - (intOf i).toNat)
  case atStart => exact ⟨0, by omega, rfl, HS6.out⟩
  case round =>
    clear HS6
    obtain ⟨k, hk, rfl, hS⟩ := hrel
    by_cases hlt : k < N
    · have HS := Lib.hid hS
      have d0 : wr.cell? ⟨tb, 0, none⟩ = some (.slice (some ⟨fb, 0, none⟩) N N) := hS.cell 0 rfl 0 rfl
      have d1 : wr.cell? ⟨tb, 1, none⟩ = some (.slice (some ⟨bb, 0, none⟩) N N) := hS.cell 0 rfl 1 rfl
      have d2 : wr.cell? ⟨gb, 0, none⟩ = some (.int .i64 N) := hS.cell 1 rfl 0 rfl
      have d3 : wr.cell? ⟨gb, 1, none⟩ = some (.slice A l.length cap) := hS.cell 1 rfl 1 rfl
      have HWB : Hid (∀ ks, Back l by_ k ks → ks.length ≤ N → far k < FAR → Calls Try.prog 49 #[.agg #[.slice (some ⟨fb, 0, none⟩) N N, .slice (some ⟨bb, 0, none⟩) N N], .agg #[.int .i64 N, .slice A l.length cap], .int .i64 k] wr (WayPost W B (.blk tb #[.slice (some ⟨fb, 0, none⟩) N N, .slice (some ⟨bb, 0, none⟩) N N] 50 :: .blk gb #[.int .i64 N, .slice A l.length cap] 45 :: rs) ks)) :=
        Lib.hid fun ks h1 h2 h3 => way_any W B _ wr N A cap l far by_ N fb bb (i1 + 2) (i2 + 2) k ks hS H123.out.1 H123.out.2.1 (fun w' h => HA.out w' h.tail.tail) hl HIN.out hN hlt h3 h1 h2
      have HWN : Hid (far k = FAR → Calls Try.prog 49 #[.agg #[.slice (some ⟨fb, 0, none⟩) N N, .slice (some ⟨bb, 0, none⟩) N N], .agg #[.int .i64 N, .slice A l.length cap], .int .i64 k] wr (WayPost W B (.blk tb #[.slice (some ⟨fb, 0, none⟩) N N, .slice (some ⟨bb, 0, none⟩) N N] 50 :: .blk gb #[.int .i64 N, .slice A l.length cap] 45 :: rs) [])) :=
        Lib.hid fun h3 => way_none W B _ wr N A l.length cap far N fb bb (i1 + 2) k hS H123.out.1 hN (.inr (.inr (by rw [Int.toNat_natCast, h3]; exact Int.le_refl _)))
      have hbk := HBD.out k hlt
      clear hS
      by_cases hA1 : far k = FAR ∨ k = f
      · have HW0 : Hid (Calls Try.prog 49 #[.agg #[.slice (some ⟨fb, 0, none⟩) N N, .slice (some ⟨bb, 0, none⟩) N N], .agg #[.int .i64 N, .slice A l.length cap], .int .i64 k] wr (WayPost W B (.blk tb #[.slice (some ⟨fb, 0, none⟩) N N, .slice (some ⟨bb, 0, none⟩) N N] 50 :: .blk gb #[.int .i64 N, .slice A l.length cap] 45 :: rs) [])) := Lib.hid (by
          by_cases h0 : far k = FAR
          · exact HWN.out h0
          · rcases hA1 with h | h
            · exact absurd h h0
            · subst h; exact HWB.out [] (.stop HT.out.root) (Nat.zero_le _) (by rw [HT.out.zero]; unfold FAR; omega))
        have HBY : Hid (by_ k = -1) := Lib.hid (by
          rcases hA1 with h | h
          · exact HT.out.none_ k hlt h
          · subst h; exact HT.out.root)
        obtain ⟨Fk, hFk⟩ : ∃ Fk, far k = Fk := ⟨_, rfl⟩
        have HFK := Lib.hid hFk
        rw [hFk] at hA1 hbk
        clear hFk HWB HWN
        have hdec : (Fk = 1152921504606846976) ∨ (¬ Fk = 1152921504606846976 ∧ k = f) := by
          unfold FAR at hA1
          by_cases h : Fk = 1152921504606846976
          · exact .inl h
          · exact .inr ⟨h, hA1.resolve_left h⟩
        clear hA1
        have hm1 : ((-1 : Int) != (-1 : Int)) = false := rfl
        go_upto_region 7 with (go_at_call 49; (with_reducible refine HW0.out.mono ?_); rintro e w7 ⟨v7, rfl, hS7⟩
                               obtain ⟨A7, c7, rfl, _, _⟩ := (hS7.row 0 rfl).slice_
                               have HS7 := Lib.hid hS7
                               have y0 : w7.cell? ⟨gf, of_ + k, none⟩ = some (.int .i64 Fk) := by rw [← HFK.out]; exact hS7.rowCell (i3 + 3) H123.out.2.2 k (nums_get _ _ _ hlt)
                               have y1 : w7.cell? ⟨tb, 1, none⟩ = some (.slice (some ⟨bb, 0, none⟩) N N) := hS7.cell 1 rfl 1 rfl
                               have y2 : w7.cell? ⟨bb, k, none⟩ = some (.int .i64 (-1)) := by rw [← HBY.out]; exact hS7.cell (i2 + 3) H123.out.2.1 k (iarr_get _ _ _ hlt)
                               clear hS7 d0 d1 d2 d3)
        rcases hdec with hd | ⟨hd, hkf⟩
        · go_wp2_with fail
          go_roundw
          case rel => exact ⟨k + 1, by omega, by go_num, HS7.out.tail⟩
          case measure => simp [intOf]; omega
        · subst hkf
          go_wp2_with fail
          go_roundw
          case rel => exact ⟨k + 1, by omega, by go_num, HS7.out.tail⟩
          case measure => simp [intOf]; omega
      · have hnf : far k ≠ FAR := fun h => hA1 (.inl h)
        have hkf : k ≠ f := fun h => hA1 (.inr h)
        obtain ⟨j, hj, hby, hto, hsum⟩ := HT.out.some_ k hlt hnf hkf
        obtain ⟨ks, hb, hlen, hp⟩ := HT.out.way k hlt hnf
        have hlt3 : far k < FAR := by unfold FAR at hnf ⊢; omega
        obtain ⟨zs, hzs⟩ : ∃ zs, zs = ks.reverse := ⟨_, rfl⟩
        rw [← hzs] at hp
        have hzl : zs.length = ks.length := by rw [hzs]; simp
        obtain ⟨m, hm, hlast⟩ : ∃ m, zs.length = m + 1 ∧ zs[m]? = some (j : Int) := by
          cases hb with
          | stop h => omega
          | @step _ u k' kt hk h1 h2 h3 =>
            obtain rfl : k' = j := by omega
            refine ⟨kt.length, by rw [hzl]; rfl, ?_⟩
            rw [hzs, List.reverse_cons, List.getElem?_append_right (by simp)]
            simp
        have HWK : Hid (Calls Try.prog 49 #[.agg #[.slice (some ⟨fb, 0, none⟩) N N, .slice (some ⟨bb, 0, none⟩) N N], .agg #[.int .i64 N, .slice A l.length cap], .int .i64 k] wr fun e w' => ∃ g7 o7 c7, e = .returned (.slice (some ⟨g7, o7, none⟩) zs.length c7) ∧ SL W B (.row 3 1 (.slice (some ⟨g7, o7, none⟩) zs.length c7) zs.length (zs.map (.int .i64)) :: .blk tb #[.slice (some ⟨fb, 0, none⟩) N N, .slice (some ⟨bb, 0, none⟩) N N] 50 :: .blk gb #[.int .i64 N, .slice A l.length cap] 45 :: rs) w') := Lib.hid (by
          refine (HWB.out ks hb hlen hlt3).mono ?_
          rintro e w' ⟨v, rfl, h⟩
          rw [← hzs, ← hzl] at h
          rcases (h.row 0 rfl).in_ with h0 | ⟨g7, o7, c7, rfl, _⟩
          · omega
          · exact ⟨g7, o7, c7, rfl, h⟩)
        have hzN : zs.length ≤ N := by omega
        have HPT := Lib.hid hp
        have HZL := Lib.hid hlast
        have hin := HIN.out _ (List.getElem_mem hj)
        have hwt := HW.out _ (List.getElem_mem hj)
        obtain ⟨ab, ao, hAe, _⟩ := arcs_at (HA.out wr HS.out.tail.tail) hj
        subst hAe
        have hbf := HBD.out l[j].fr.toNat (by omega)
        have HCE : Hid (∀ (rs' : List Rs) w', SL W B (rs' ++ rs) w' → w'.cell? ⟨ab, ao + j * 3, none⟩ = some (.int .i64 l[j].fr) ∧ w'.cell? ⟨ab, ao + (j * 3) + 1, none⟩ = some (.int .i64 l[j].to) ∧ w'.cell? ⟨ab, ao + (j * 3) + 2, none⟩ = some (.int .i64 l[j].wt)) := Lib.hid (fun rs' w' h => (arcs_cells (HA.out w' (h.sub (List.sublist_append_right _ _))) hj).2)
        obtain ⟨a, ha⟩ : ∃ a, l[j] = a := ⟨_, rfl⟩
        rw [ha] at hto hsum hin hwt hbf HCE
        rw [hto] at HCE
        obtain ⟨Fk, hFk⟩ : ∃ Fk, far k = Fk := ⟨_, rfl⟩
        obtain ⟨Fr, hFr⟩ : ∃ Fr, far a.fr.toNat = Fr := ⟨_, rfl⟩
        rw [hFk] at hbk hnf hsum HPT
        rw [hFr] at hbf hsum
        have HFK := Lib.hid (And.intro hFk (And.intro hFr hby))
        have hkf2 : ¬ (k : Int) = (f : Int) := by omega
        have hnf2 : ¬ Fk = 1152921504606846976 := hnf
        have hj2 : (j : Int) < (l.length : Int) := by omega
        have hj3 : decide (l.length ≤ j) = false := decide_eq_false (by omega)
        have hj4 : decide ((j : Int) < 0) = false := decide_eq_false (by omega)
        have hnf3 : (Fk == (1152921504606846976 : Int)) = false := by simp [hnf2]
        have hkf3 : ((k : Int) == (f : Int)) = false := by simpa using hkf2
        obtain ⟨hin1, hin2⟩ := hin.1
        clear hFk hFr HWB HWN hA1 hnf hkf hb hp hzs hlast hlt3 hby hto ha hin hzl hlen ks
        go_upto_region 7 with (go_at_call 49; (with_reducible refine HWK.out.mono ?_); rintro e w7 ⟨g7, o7, c7, rfl, hS7⟩
                               have HS7 := Lib.hid hS7
                               have y0 : w7.cell? ⟨gf, of_ + k, none⟩ = some (.int .i64 Fk) := by rw [← HFK.out.1]; exact hS7.rowCell (i3 + 3) H123.out.2.2 k (nums_get _ _ _ hlt)
                               have y1 : w7.cell? ⟨tb, 1, none⟩ = some (.slice (some ⟨bb, 0, none⟩) N N) := hS7.cell 1 rfl 1 rfl
                               have y2 : w7.cell? ⟨bb, k, none⟩ = some (.int .i64 j) := by rw [← HFK.out.2.2]; exact hS7.cell (i2 + 3) H123.out.2.1 k (iarr_get _ _ _ hlt)
                               clear hS7 d0 d1 d2 d3)
        clear HWK
        go_upto_region 11 with fail
        clear y0 y1 y2
        have hS7 := HS7.out
        refine wp_region_sl (List.range 42) [] [] _ hS7 (List.Sublist.refl _) (by kernel_rfl) (by kernel_rfl) .nil (fun C cw _ hC => ?_)
        have q0 : ∀ c, (cw c).cell? ⟨gb, 1, none⟩ = some (.slice (some ⟨ab, ao, none⟩) l.length cap) := fun c => (hC c).cell 2 rfl 1 rfl
        have q1 : ∀ c, (cw c).cell? ⟨ab, ao + j * 3, none⟩ = some (.int .i64 a.fr) := fun c => (HCE.out [_, _, _] _ (hC c)).1
        have q2 : ∀ c, (cw c).cell? ⟨ab, ao + (j * 3) + 1, none⟩ = some (.int .i64 k) := fun c => (HCE.out [_, _, _] _ (hC c)).2.1
        have q3 : ∀ c, (cw c).cell? ⟨ab, ao + (j * 3) + 2, none⟩ = some (.int .i64 a.wt) := fun c => (HCE.out [_, _, _] _ (hC c)).2.2
        have q4 : ∀ c, (cw c).cell? ⟨gf, of_ + k, none⟩ = some (.int .i64 Fk) := fun c => by rw [← HFK.out.1]; exact (hC c).rowCell (i3 + 3) H123.out.2.2 k (nums_get _ _ _ hlt)
        have q5 : ∀ c, (cw c).cell? ⟨gf, of_ + a.fr.toNat, none⟩ = some (.int .i64 Fr) := fun c => by rw [← HFK.out.2.1]; exact (hC c).rowCell (i3 + 3) H123.out.2.2 _ (nums_get _ _ _ (by omega))
        have hk1 : ((k : Int) != (k : Int)) = false := by simp
        have hs1 : ((Fr + a.wt) != Fk) = false := by simp [hsum]
        clear hS7
        repeat (first | (refine pl_look rfl rfl rfl (fun Kv hK => ?_); go_big_quiet_op; refine hK _ ?_; clear hK Kv) | (refine pl_skip rfl rfl (fun Kv hK => ?_); go_simp; refine hK _ ?_; clear hK Kv) | (refine pl_len _ _ _ _ _ (by kernel_rfl) rfl rfl rfl rfl (fun Kv hK => ?_); go_simp; refine hK _ ?_; clear hK Kv))
        clear q0 q1 q2 q3 q4 q5 hC
        refine pl_end ?_
        intro w8 hS8
        refine pm_end ?_
        have HS8 := Lib.hid hS8
        have HJA : Hid (Arcs w8 w8.heap.size (some ⟨ab, ao, none⟩) l) := Lib.hid (HA.out w8 hS8.tail.tail.tail)
        have HJW := Lib.hid (hS8.reads 0 rfl)
        have d2 : w8.cell? ⟨gb, 0, none⟩ = some (.int .i64 N) := hS8.cell 2 rfl 0 rfl
        have d3 : w8.cell? ⟨gb, 1, none⟩ = some (.slice (some ⟨ab, ao, none⟩) l.length cap) := hS8.cell 2 rfl 1 rfl
        have HJ : Hid (Calls Try.prog 29 #[.agg #[.int .i64 N, .slice (some ⟨ab, ao, none⟩) l.length cap], .slice (some ⟨g7, o7, none⟩) (m + 1) c7, .int .i64 f, .int .i64 k] w8 fun e w' => e = .returned (.tuple #[.int .i64 Fk, .bool true]) ∧ Below w8.heap.size w8 w') := Lib.hid (by
          have h := joined_ok N _ _ cap c7 l zs f k Fk w8 HJA.out HJW.out HPT.out hl (by omega) HW.out
          rw [hm] at h
          exact h)
        clear hS8 hk1 hs1 HS7 HJA HJW
        go_upto_region 14 with (go_at_call 29; (with_reducible refine HJ.out.mono ?_); rintro e w9 ⟨rfl, hB9⟩
                                have hS9 := HS8.out.call hB9
                                have HS9 := Lib.hid hS9
                                have y0 : w9.cell? ⟨gf, of_ + k, none⟩ = some (.int .i64 Fk) := by rw [← HFK.out.1]; exact hS9.rowCell (i3 + 3) H123.out.2.2 k (nums_get _ _ _ hlt)
                                have y1 : w9.cell? ⟨g7, o7 + m, none⟩ = some (.int .i64 j) := hS9.rowCell 0 rfl m (by rw [List.getElem?_map, HZL.out]; rfl)
                                clear hS9 d2 d3 HJ HS8)
        have hq1 : (Fk != Fk) = false := by simp
        have hq2 : ((j : Int) != (j : Int)) = false := by simp
        go_wp2_with fail
        go_roundw
        case rel => exact ⟨k + 1, by omega, by go_num, HS9.out.tail⟩
        case measure => simp [intOf]; omega
    · obtain rfl : k = N := by omega
      go_wp2_with fail
      go_ret
      exact ⟨rfl, hS.tail.tail⟩
end Go.Proofs.Ytaaffahjlkfbgaa
