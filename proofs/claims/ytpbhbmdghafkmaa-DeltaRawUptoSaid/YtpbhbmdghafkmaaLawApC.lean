/- law23.Apply, part C. (printed by gen/lawapply.py) -/
import Derived.Test.YtpbhbmdghafkmaaLawApS
import Derived.Deep.CutBlock
import Derived.Deep.CutRange
import Derived.Deep.DeepCutAuto
namespace Go.Proofs.Ytpbhbmdghafkmaa
open Go.ChangeShapes Go.WideShapes Go.ChangeAt Go.RowKit
set_option linter.unusedVariables false
set_option linter.unusedSimpArgs false
set_option maxRecDepth 100000 in
set_option maxHeartbeats 8000000 in
theorem lapply_C (sats : Int) (A : Option Addr) (c : Nat) (bs : List BikeV) (kd a i b j : Int) (w : World) (hB : Bikes w w.heap.size A bs) (hl : bs.length ≤ 100000) (hs : (allStops bs).length ≤ 100000) (hk9 : ¬ kd = 0 ∧ ¬ kd = 4 ∧ ¬ kd = 1 ∧ ¬ kd = 2) :
 Calls Try.prog 16 #[.int .i64 sats, .slice A bs.length c, .agg #[.int .i64 kd, .int .i64 a, .int .i64 i, .int .i64 b, .int .i64 j]] w (LApplyPost w (applyM sats bs ⟨kd, a, i, b, j⟩)) := by
 have HB := Lib.hid hB
 have HK9 := Lib.hid hk9
 have HSL : Hid (∀ b ∈ bs, b.stops.length ≤ 100000) := Lib.hid (fun b hb => Nat.le_trans (stops_le_all hb) hs)
 obtain ⟨o, ho⟩ : ∃ o, rawM sats bs ⟨kd, a, i, b, j⟩ = o := ⟨_, rfl⟩
 have HO : Hid (applyM sats bs ⟨kd, a, i, b, j⟩ = o.map (·.filter keepB)) := Lib.hid (by unfold applyM; rw [ho])
 have HR := Lib.hid ho
 obtain ⟨n, hn⟩ : ∃ n, bs.length = n := ⟨_, rfl⟩
 have HN := Lib.hid hn
 obtain ⟨i0, hi0, hy1, hyz, hyb⟩ := info_parts info_intL
 have HI0 := Lib.hid (And.intro hi0 (And.intro hy1 (And.intro hyz hyb)))
 obtain ⟨i1, hi1, hz1, hzz, hzb⟩ := info_parts info_rowL
 have HI1 := Lib.hid (And.intro hi1 (And.intro hz1 (And.intro hzz hzb)))
 obtain ⟨mb, hmb⟩ : ∃ b, w.heap.size = b := ⟨_, rfl⟩
 obtain ⟨lb, hlb⟩ : ∃ b, w.heap.size + 1 = b := ⟨_, rfl⟩
 obtain ⟨w0, hw0⟩ : ∃ w0, (w.alloc (.cells #[.int .i64 kd, .int .i64 a, .int .i64 i, .int .i64 b, .int .i64 j] 33)).alloc (.cells #[.slice none 0 0] 81) = w0 := ⟨_, rfl⟩
 have HS0 : Hid (SL w w.heap.size (LRQ [] lb mb #[.int .i64 kd, .int .i64 a, .int .i64 i, .int .i64 b, .int .i64 j] (.slice none 0 0) (.slice none 0 0) [] []) w0) := Lib.hid (by
  have h := (((((SL.start (W := w) (Nat.le_refl w.heap.size)).alloc #[.int .i64 kd, .int .i64 a, .int .i64 i, .int .i64 b, .int .i64 j] 33).alloc #[.slice none 0 0] 81).nil 3 1).nil 42 1).pick (l' := [.blk lb #[.slice none 0 0] 81, .row 3 1 (.slice none 0 0) 0 [], .blk mb #[.int .i64 kd, .int .i64 a, .int .i64 i, .int .i64 b, .int .i64 j] 33, .row 42 1 (.slice none 0 0) 0 []]) [2, 1, 3, 0] (by decide) (by rw [← hlb, ← hmb]; simp)
  rw [hw0] at h
  exact h)
 have HW0 := Lib.hid (And.intro hmb (And.intro hlb hw0))
 rw [HO.out]
 rw [hn] at hl ⊢
 clear hk9 hB hs ho hn hi0 hy1 hyz hyb hi1 hz1 hzz hzb HO hmb hlb hw0
 go_enter Try.func16, Try.ntmps16
 go_upto_region 4 with fail
 rw [HW0.out.2.2, HW0.out.2.1, HW0.out.1]
 go_loopw [27, 8] (fun iv v8 wr => ∃ (k : Nat) (v : Value) (qs : List (BikeV × Value)), k ≤ n ∧ iv = .int .i64 k ∧ qs.length = k ∧ Hid (qs.map (·.1) = bs.take k) ∧ SL w w.heap.size (LRQ [] lb mb #[.int .i64 kd, .int .i64 a, .int .i64 i, .int .i64 b, .int .i64 j] v8 v qs []) wr) (fun iv _ _ => n - (intOf iv).toNat)
 case atStart => exact ⟨0, _, [], by omega, rfl, rfl, Lib.hid rfl, HS0.out⟩
 case round =>
  clear HS0 HW0
  obtain ⟨k, v, qs, hk, rfl, hql, HQ, hS⟩ := hrel
  by_cases hlt : k < n
  · have hkb : k < bs.length := by rw [HN.out]; exact hlt
    obtain ⟨b5, o5, a5, c5, hA, hb, d00, d01, hst⟩ := bikes_at HB.out hkb
    have d0 := (hS.below.cell (p := ⟨b5, o5 + k * 2, none⟩) hb).trans d00
    have d1 := (hS.below.cell (p := ⟨b5, o5 + k * 2 + 1, none⟩) hb).trans d01
    as_aux_lemma =>
     have HTL := Lib.hid (HSL.out _ (List.getElem_mem hkb))
     have HQ2 : Hid (bs.take (k + 1) = qs.map (·.1) ++ [bs[k]]) := Lib.hid (by rw [HQ.out, List.take_succ_eq_append_getElem hkb])
     obtain ⟨t, ht⟩ : ∃ t, bs[k] = t := ⟨_, rfl⟩
     rw [ht] at d0 d1 hst HQ2 HTL
     have HST : Hid (HdOk w t.stops (.slice a5 t.stops.length c5)) := Lib.hid (hd_ints hst)
     have hS2 := hS.alloc #[.int .i64 t.sat, .slice a5 t.stops.length c5] 44
     rw [lrq_open] at hS2
     have HS2 := Lib.hid hS2
     rw [hA]
     clear d00 d01 hst ht hS hA hS2
     go_upto_region 6 with fail
     obtain ⟨tb, htb⟩ : ∃ b, wr.heap.size = b := ⟨_, rfl⟩
     obtain ⟨w2, hw2⟩ : ∃ w2, wr.alloc (.cells #[.int .i64 t.sat, .slice a5 t.stops.length c5] 44) = w2 := ⟨_, rfl⟩
     obtain ⟨I, hI⟩ : ∃ I, innOf qs ++ [] = I := ⟨_, rfl⟩
     rw [htb, hw2, hI] at HS2
     rw [htb, hw2]
     rw [hql] at HS2
     have HI := Lib.hid hI
     have HQL := Lib.hid hql
     clear htb hw2 hI d0 d1 hb hql
     have HS2 : Hid (SL w w.heap.size ([.blk tb #[.int .i64 t.sat, .slice a5 t.stops.length c5] 44, .blk lb #[v] 81, .row 3 1 u8 k (satsOf qs), .blk mb #[.int .i64 kd, .int .i64 a, .int .i64 i, .int .i64 b, .int .i64 j] 33, .row 42 1 v k (qs.map (·.2))] ++ I) w2) := HS2
     refine wp_region_ph [0, 1, 2, 3, 4, 5, 6, 7, 8, 9, 10, 11] [12, 13] [.blk tb #[.int .i64 t.sat, .slice a5 t.stops.length c5] 44, .blk lb #[v] 81] HS2.out (.cons_cons _ (.cons_cons _ (List.nil_sublist _))) (by kernel_rfl) (by kernel_rfl) (.cons rfl (.cons rfl .nil)) (fun C cw _ hC w3 hS => ?_)
     have qt0 : ∀ d, (cw d).cell? ⟨tb, 0, none⟩ = some (.int .i64 t.sat) := fun d => (hC d).cell 0 rfl 0 rfl
     have qt1 : ∀ d, (cw d).cell? ⟨tb, 1, none⟩ = some (.slice a5 t.stops.length c5) := fun d => (hC d).cell 0 rfl 1 rfl
     have ql : ∀ d, (cw d).cell? ⟨lb, 0, none⟩ = some v := fun d => (hC d).cell 1 rfl 0 rfl
     refine ph_look 0 rfl (by kernel_rfl) rfl (by kernel_rfl) rfl rfl (fun Kv hK => ?_); go_big_quiet_op; refine hK _ ?_; clear hK Kv
     refine ph_look 1 rfl (by kernel_rfl) rfl (by kernel_rfl) rfl rfl (fun Kv hK => ?_); go_big_quiet_op; refine hK _ ?_; clear hK Kv
     refine ph_look 2 rfl (by kernel_rfl) rfl (by kernel_rfl) rfl rfl (fun Kv hK => ?_); go_big_quiet_op; refine hK _ ?_; clear hK Kv
     refine ph_look 5 rfl (by kernel_rfl) rfl (by kernel_rfl) rfl rfl (fun Kv hK => ?_); go_big_quiet_op; refine hK _ ?_; clear hK Kv
     refine ph_look 6 rfl (by kernel_rfl) rfl (by kernel_rfl) rfl rfl (fun Kv hK => ?_); go_big_quiet_op; refine hK _ ?_; clear hK Kv
     refine ph_look 7 rfl (by kernel_rfl) rfl (by kernel_rfl) rfl rfl (fun Kv hK => ?_); go_big_quiet_op; refine hK _ ?_; clear hK Kv
     clear qt0 qt1 ql hC
     have hS : SL w w.heap.size ([.blk tb #[.int .i64 t.sat, .slice a5 t.stops.length c5] 44, .blk lb #[v] 81, .row 3 1 u8 k (satsOf qs), .blk mb #[.int .i64 kd, .int .i64 a, .int .i64 i, .int .i64 b, .int .i64 j] 33, .row 42 1 v k (qs.map (·.2))] ++ I) w3 := hS
     refine ph_two 3 8 (by kernel_rfl) rfl rfl ?arm1A ?arm1B
     case arm1A =>
      as_aux_lemma =>
       refine ph_op rfl rfl (fun Kv hK => ?_)
       go_simp
       have hS := hS.alloc #[.int .i64 t.sat] 3
       obtain ⟨g1, hg1⟩ : ∃ b, w3.heap.size = b := ⟨_, rfl⟩
       obtain ⟨w3a, hw3a⟩ : ∃ x, w3.alloc (.cells #[.int .i64 t.sat] 3) = x := ⟨_, rfl⟩
       rw [hg1, hw3a] at hS
       rw [hg1, hw3a]
       clear hg1 hw3a
       have hS : SL w w.heap.size ([.blk g1 #[.int .i64 t.sat] 3, .blk tb #[.int .i64 t.sat, .slice a5 t.stops.length c5] 44, .blk lb #[v] 81, .row 3 1 u8 k (satsOf qs), .blk mb #[.int .i64 kd, .int .i64 a, .int .i64 i, .int .i64 b, .int .i64 j] 33, .row 42 1 v k (qs.map (·.2))] ++ I) w3a := hS
       have hk := hS.sub (l' := [.blk tb #[.int .i64 t.sat, .slice a5 t.stops.length c5] 44, .blk lb #[v] 81]) (.cons _ (.cons_cons _ (.cons_cons _ (List.nil_sublist _))))
       refine ⟨hk, hK _ _ ?_⟩
       clear hK Kv hk
       refine ph_two 4 8 (by kernel_rfl) rfl rfl ?arm2A ?arm2B
       case arm2A =>
        as_aux_lemma =>
         refine ph_op rfl rfl (fun Kv hK => ?_)
         obtain ⟨y8, w3b, hr, hS4⟩ := run_append_one (P := Try.prog) 42 42 hS 3 i0 (.int .i64 0) 8 Try.underlying42 HI0.out.1 HI0.out.2.1 HI0.out.2.2.1 HI0.out.2.2.2 rfl u8 k (satsOf qs) rfl g1 (.int .i64 t.sat) (hS.cell 0 rfl 0 rfl) rfl (by omega) (by decide)
         obtain ⟨y8A, y8c, rfl, _, _⟩ := (hS4.row 3 rfl).slice_
         have hS : SL w w.heap.size ([.blk g1 #[.int .i64 t.sat] 3, .blk tb #[.int .i64 t.sat, .slice a5 t.stops.length c5] 44, .blk lb #[v] 81, .row 3 1 (.slice y8A (k + 1) y8c) (k + 1) ((satsOf qs) ++ [.int .i64 t.sat]), .blk mb #[.int .i64 kd, .int .i64 a, .int .i64 i, .int .i64 b, .int .i64 j] 33, .row 42 1 v k (qs.map (·.2))] ++ I) w3b := hS4
         clear hS4
         have hk := hS.sub (l' := [.blk tb #[.int .i64 t.sat, .slice a5 t.stops.length c5] 44, .blk lb #[v] 81]) (.cons _ (.cons_cons _ (.cons_cons _ (List.nil_sublist _))))
         refine eff_append_run _ _ 42 rfl (u8) (.slice (some ⟨g1, 0, none⟩) 1 1) rfl rfl hr ?_
         refine ⟨hk, hK _ _ ?_⟩
         clear hK Kv hk hr
         refine ph_eff 8 rfl (by kernel_rfl) rfl rfl (fun Kv hK => ?_)
         go_simp
         have hS := hS.alloc #[.slice a5 t.stops.length c5] 42
         obtain ⟨g2, hg2⟩ : ∃ b, w3b.heap.size = b := ⟨_, rfl⟩
         obtain ⟨w3c, hw3c⟩ : ∃ x, w3b.alloc (.cells #[.slice a5 t.stops.length c5] 42) = x := ⟨_, rfl⟩
         rw [hg2, hw3c] at hS
         rw [hg2, hw3c]
         clear hg2 hw3c
         have hS : SL w w.heap.size ([.blk g2 #[.slice a5 t.stops.length c5] 42, .blk g1 #[.int .i64 t.sat] 3, .blk tb #[.int .i64 t.sat, .slice a5 t.stops.length c5] 44, .blk lb #[v] 81, .row 3 1 (.slice y8A (k + 1) y8c) (k + 1) ((satsOf qs) ++ [.int .i64 t.sat]), .blk mb #[.int .i64 kd, .int .i64 a, .int .i64 i, .int .i64 b, .int .i64 j] 33, .row 42 1 v k (qs.map (·.2))] ++ I) w3c := hS
         have hk := hS.sub (l' := [.blk tb #[.int .i64 t.sat, .slice a5 t.stops.length c5] 44, .blk lb #[v] 81]) (.cons _ (.cons _ (.cons_cons _ (.cons_cons _ (List.nil_sublist _)))))
         refine ⟨hk, hK _ _ ?_⟩
         clear hK Kv hk
         refine ph_eff 9 rfl (by kernel_rfl) rfl rfl (fun Kv hK => ?_)
         go_simp
         refine eff_call (all1_any g2 42 t.stops (.slice a5 t.stops.length c5) _ (hS.blk 0 rfl) (HST.out.to hS.below) (by have := HTL.out; omega)) (fun e w3d h => ?_)
         obtain ⟨yn, rfl, hq⟩ := h
         obtain ⟨ynA, ync, rfl, _, _⟩ := (hq.row 0 rfl).slice_
         have hS : SL w w.heap.size ([.row 3 1 (.slice ynA t.stops.length ync) t.stops.length (t.stops.map (.int .i64)), .blk g2 #[.slice a5 t.stops.length c5] 42, .blk g1 #[.int .i64 t.sat] 3, .blk tb #[.int .i64 t.sat, .slice a5 t.stops.length c5] 44, .blk lb #[v] 81, .row 3 1 (.slice y8A (k + 1) y8c) (k + 1) ((satsOf qs) ++ [.int .i64 t.sat]), .blk mb #[.int .i64 kd, .int .i64 a, .int .i64 i, .int .i64 b, .int .i64 j] 33, .row 42 1 v k (qs.map (·.2))] ++ I) w3d := hS.join hq
         have hk := hS.sub (l' := [.blk tb #[.int .i64 t.sat, .slice a5 t.stops.length c5] 44, .blk lb #[v] 81]) (.cons _ (.cons _ (.cons _ (.cons_cons _ (.cons_cons _ (List.nil_sublist _))))))
         refine .inl ⟨_, rfl, hk, hK _ _ ?_⟩
         clear hK Kv hk hq
         refine ph_eff 10 rfl (by kernel_rfl) rfl rfl (fun Kv hK => ?_)
         go_simp
         have hS := hS.alloc #[.slice ynA t.stops.length ync] 42
         obtain ⟨g3, hg3⟩ : ∃ b, w3d.heap.size = b := ⟨_, rfl⟩
         obtain ⟨w3e, hw3e⟩ : ∃ x, w3d.alloc (.cells #[.slice ynA t.stops.length ync] 42) = x := ⟨_, rfl⟩
         rw [hg3, hw3e] at hS
         rw [hg3, hw3e]
         clear hg3 hw3e
         have hS : SL w w.heap.size ([.blk g3 #[.slice ynA t.stops.length ync] 42, .row 3 1 (.slice ynA t.stops.length ync) t.stops.length (t.stops.map (.int .i64)), .blk g2 #[.slice a5 t.stops.length c5] 42, .blk g1 #[.int .i64 t.sat] 3, .blk tb #[.int .i64 t.sat, .slice a5 t.stops.length c5] 44, .blk lb #[v] 81, .row 3 1 (.slice y8A (k + 1) y8c) (k + 1) ((satsOf qs) ++ [.int .i64 t.sat]), .blk mb #[.int .i64 kd, .int .i64 a, .int .i64 i, .int .i64 b, .int .i64 j] 33, .row 42 1 v k (qs.map (·.2))] ++ I) w3e := hS
         have hk := hS.sub (l' := [.blk tb #[.int .i64 t.sat, .slice a5 t.stops.length c5] 44, .blk lb #[v] 81]) (.cons _ (.cons _ (.cons _ (.cons _ (.cons_cons _ (.cons_cons _ (List.nil_sublist _)))))))
         refine ⟨hk, hK _ _ ?_⟩
         clear hK Kv hk
         refine ph_eff 11 rfl (by kernel_rfl) rfl rfl (fun Kv hK => ?_)
         obtain ⟨yo, w3f, hr, hS4⟩ := run_append_one (P := Try.prog) 81 81 hS 8 i1 (.slice none 0 0) 24 Try.underlying81 HI1.out.1 HI1.out.2.1 HI1.out.2.2.1 HI1.out.2.2.2 rfl v k (qs.map (·.2)) rfl g3 (.slice ynA t.stops.length ync) (hS.cell 0 rfl 0 rfl) rfl (by omega) (by decide)
         obtain ⟨yoA, yoc, rfl, _, _⟩ := (hS4.row 8 rfl).slice_
         have hS : SL w w.heap.size ([.blk g3 #[.slice ynA t.stops.length ync] 42, .row 3 1 (.slice ynA t.stops.length ync) t.stops.length (t.stops.map (.int .i64)), .blk g2 #[.slice a5 t.stops.length c5] 42, .blk g1 #[.int .i64 t.sat] 3, .blk tb #[.int .i64 t.sat, .slice a5 t.stops.length c5] 44, .blk lb #[v] 81, .row 3 1 (.slice y8A (k + 1) y8c) (k + 1) ((satsOf qs) ++ [.int .i64 t.sat]), .blk mb #[.int .i64 kd, .int .i64 a, .int .i64 i, .int .i64 b, .int .i64 j] 33, .row 42 1 (.slice yoA (k + 1) yoc) (k + 1) ((qs.map (·.2)) ++ [.slice ynA t.stops.length ync])] ++ I) w3f := hS4
         clear hS4
         have hk := hS.sub (l' := [.blk tb #[.int .i64 t.sat, .slice a5 t.stops.length c5] 44, .blk lb #[v] 81]) (.cons _ (.cons _ (.cons _ (.cons _ (.cons_cons _ (.cons_cons _ (List.nil_sublist _)))))))
         refine eff_append_run _ _ 81 rfl (v) (.slice (some ⟨g3, 0, none⟩) 1 1) rfl rfl hr ?_
         refine ⟨hk, hK _ _ ?_⟩
         clear hK Kv hk hr
         refine ph_end (by kernel_rfl) ?_
         have hS := hS.sub (l' := [.row 3 1 (.slice ynA t.stops.length ync) t.stops.length (t.stops.map (.int .i64)), .blk lb #[v] 81, .row 3 1 (.slice y8A (k + 1) y8c) (k + 1) ((satsOf qs) ++ [.int .i64 t.sat]), .blk mb #[.int .i64 kd, .int .i64 a, .int .i64 i, .int .i64 b, .int .i64 j] 33, .row 42 1 (.slice yoA (k + 1) yoc) (k + 1) ((qs.map (·.2)) ++ [.slice ynA t.stops.length ync])] ++ I) (.cons _ (.cons_cons _ (.cons _ (.cons _ (.cons _ (.cons_cons _ (.cons_cons _ (.cons_cons _ (.cons_cons _ (List.Sublist.refl _))))))))))
         have z1 : w3f.cell? ⟨lb, 0, none⟩ = some v := hS.cell 1 rfl 0 rfl
         have z2 : w3f.frozen? ⟨lb, 0, none⟩ = false := hS.free 1 rfl 0
         rw [← HI.out, ← HQL.out] at hS
         have HS9 := Lib.hid (lrq_snoc (Q := []) hS)
         clear hS
         go_wp2_with fail
         go_roundw
         case rel => exact ⟨k + 1, _, qs ++ [(t, .slice ynA t.stops.length ync)], by omega, by go_num, by rw [List.length_append, HQL.out]; rfl, Lib.hid (by rw [HQ2.out, List.map_append]; rfl), by have h := HS9.out; rw [HQL.out] at h; exact h⟩
         case measure => simp [intOf]; omega
       case arm2B =>
        as_aux_lemma =>
         refine ph_op rfl rfl (fun Kv hK => ?_)
         go_simp
         have hS := hS.alloc #[.slice a5 t.stops.length c5] 42
         obtain ⟨g2, hg2⟩ : ∃ b, w3a.heap.size = b := ⟨_, rfl⟩
         obtain ⟨w3b, hw3b⟩ : ∃ x, w3a.alloc (.cells #[.slice a5 t.stops.length c5] 42) = x := ⟨_, rfl⟩
         rw [hg2, hw3b] at hS
         rw [hg2, hw3b]
         clear hg2 hw3b
         have hS : SL w w.heap.size ([.blk g2 #[.slice a5 t.stops.length c5] 42, .blk g1 #[.int .i64 t.sat] 3, .blk tb #[.int .i64 t.sat, .slice a5 t.stops.length c5] 44, .blk lb #[v] 81, .row 3 1 u8 k (satsOf qs), .blk mb #[.int .i64 kd, .int .i64 a, .int .i64 i, .int .i64 b, .int .i64 j] 33, .row 42 1 v k (qs.map (·.2))] ++ I) w3b := hS
         have hk := hS.sub (l' := [.blk tb #[.int .i64 t.sat, .slice a5 t.stops.length c5] 44, .blk lb #[v] 81]) (.cons _ (.cons _ (.cons_cons _ (.cons_cons _ (List.nil_sublist _)))))
         refine ⟨hk, hK _ _ ?_⟩
         clear hK Kv hk
         refine ph_eff 4 rfl (by kernel_rfl) rfl rfl (fun Kv hK => ?_)
         obtain ⟨y8, w3c, hr, hS4⟩ := run_append_one (P := Try.prog) 42 42 hS 4 i0 (.int .i64 0) 8 Try.underlying42 HI0.out.1 HI0.out.2.1 HI0.out.2.2.1 HI0.out.2.2.2 rfl u8 k (satsOf qs) rfl g1 (.int .i64 t.sat) (hS.cell 1 rfl 0 rfl) rfl (by omega) (by decide)
         obtain ⟨y8A, y8c, rfl, _, _⟩ := (hS4.row 4 rfl).slice_
         have hS : SL w w.heap.size ([.blk g2 #[.slice a5 t.stops.length c5] 42, .blk g1 #[.int .i64 t.sat] 3, .blk tb #[.int .i64 t.sat, .slice a5 t.stops.length c5] 44, .blk lb #[v] 81, .row 3 1 (.slice y8A (k + 1) y8c) (k + 1) ((satsOf qs) ++ [.int .i64 t.sat]), .blk mb #[.int .i64 kd, .int .i64 a, .int .i64 i, .int .i64 b, .int .i64 j] 33, .row 42 1 v k (qs.map (·.2))] ++ I) w3c := hS4
         clear hS4
         have hk := hS.sub (l' := [.blk tb #[.int .i64 t.sat, .slice a5 t.stops.length c5] 44, .blk lb #[v] 81]) (.cons _ (.cons _ (.cons_cons _ (.cons_cons _ (List.nil_sublist _)))))
         refine eff_append_run _ _ 42 rfl (u8) (.slice (some ⟨g1, 0, none⟩) 1 1) rfl rfl hr ?_
         refine ⟨hk, hK _ _ ?_⟩
         clear hK Kv hk hr
         refine ph_eff 9 rfl (by kernel_rfl) rfl rfl (fun Kv hK => ?_)
         go_simp
         refine eff_call (all1_any g2 42 t.stops (.slice a5 t.stops.length c5) _ (hS.blk 0 rfl) (HST.out.to hS.below) (by have := HTL.out; omega)) (fun e w3d h => ?_)
         obtain ⟨yn, rfl, hq⟩ := h
         obtain ⟨ynA, ync, rfl, _, _⟩ := (hq.row 0 rfl).slice_
         have hS : SL w w.heap.size ([.row 3 1 (.slice ynA t.stops.length ync) t.stops.length (t.stops.map (.int .i64)), .blk g2 #[.slice a5 t.stops.length c5] 42, .blk g1 #[.int .i64 t.sat] 3, .blk tb #[.int .i64 t.sat, .slice a5 t.stops.length c5] 44, .blk lb #[v] 81, .row 3 1 (.slice y8A (k + 1) y8c) (k + 1) ((satsOf qs) ++ [.int .i64 t.sat]), .blk mb #[.int .i64 kd, .int .i64 a, .int .i64 i, .int .i64 b, .int .i64 j] 33, .row 42 1 v k (qs.map (·.2))] ++ I) w3d := hS.join hq
         have hk := hS.sub (l' := [.blk tb #[.int .i64 t.sat, .slice a5 t.stops.length c5] 44, .blk lb #[v] 81]) (.cons _ (.cons _ (.cons _ (.cons_cons _ (.cons_cons _ (List.nil_sublist _))))))
         refine .inl ⟨_, rfl, hk, hK _ _ ?_⟩
         clear hK Kv hk hq
         refine ph_eff 10 rfl (by kernel_rfl) rfl rfl (fun Kv hK => ?_)
         go_simp
         have hS := hS.alloc #[.slice ynA t.stops.length ync] 42
         obtain ⟨g3, hg3⟩ : ∃ b, w3d.heap.size = b := ⟨_, rfl⟩
         obtain ⟨w3e, hw3e⟩ : ∃ x, w3d.alloc (.cells #[.slice ynA t.stops.length ync] 42) = x := ⟨_, rfl⟩
         rw [hg3, hw3e] at hS
         rw [hg3, hw3e]
         clear hg3 hw3e
         have hS : SL w w.heap.size ([.blk g3 #[.slice ynA t.stops.length ync] 42, .row 3 1 (.slice ynA t.stops.length ync) t.stops.length (t.stops.map (.int .i64)), .blk g2 #[.slice a5 t.stops.length c5] 42, .blk g1 #[.int .i64 t.sat] 3, .blk tb #[.int .i64 t.sat, .slice a5 t.stops.length c5] 44, .blk lb #[v] 81, .row 3 1 (.slice y8A (k + 1) y8c) (k + 1) ((satsOf qs) ++ [.int .i64 t.sat]), .blk mb #[.int .i64 kd, .int .i64 a, .int .i64 i, .int .i64 b, .int .i64 j] 33, .row 42 1 v k (qs.map (·.2))] ++ I) w3e := hS
         have hk := hS.sub (l' := [.blk tb #[.int .i64 t.sat, .slice a5 t.stops.length c5] 44, .blk lb #[v] 81]) (.cons _ (.cons _ (.cons _ (.cons _ (.cons_cons _ (.cons_cons _ (List.nil_sublist _)))))))
         refine ⟨hk, hK _ _ ?_⟩
         clear hK Kv hk
         refine ph_eff 11 rfl (by kernel_rfl) rfl rfl (fun Kv hK => ?_)
         obtain ⟨yo, w3f, hr, hS4⟩ := run_append_one (P := Try.prog) 81 81 hS 8 i1 (.slice none 0 0) 24 Try.underlying81 HI1.out.1 HI1.out.2.1 HI1.out.2.2.1 HI1.out.2.2.2 rfl v k (qs.map (·.2)) rfl g3 (.slice ynA t.stops.length ync) (hS.cell 0 rfl 0 rfl) rfl (by omega) (by decide)
         obtain ⟨yoA, yoc, rfl, _, _⟩ := (hS4.row 8 rfl).slice_
         have hS : SL w w.heap.size ([.blk g3 #[.slice ynA t.stops.length ync] 42, .row 3 1 (.slice ynA t.stops.length ync) t.stops.length (t.stops.map (.int .i64)), .blk g2 #[.slice a5 t.stops.length c5] 42, .blk g1 #[.int .i64 t.sat] 3, .blk tb #[.int .i64 t.sat, .slice a5 t.stops.length c5] 44, .blk lb #[v] 81, .row 3 1 (.slice y8A (k + 1) y8c) (k + 1) ((satsOf qs) ++ [.int .i64 t.sat]), .blk mb #[.int .i64 kd, .int .i64 a, .int .i64 i, .int .i64 b, .int .i64 j] 33, .row 42 1 (.slice yoA (k + 1) yoc) (k + 1) ((qs.map (·.2)) ++ [.slice ynA t.stops.length ync])] ++ I) w3f := hS4
         clear hS4
         have hk := hS.sub (l' := [.blk tb #[.int .i64 t.sat, .slice a5 t.stops.length c5] 44, .blk lb #[v] 81]) (.cons _ (.cons _ (.cons _ (.cons _ (.cons_cons _ (.cons_cons _ (List.nil_sublist _)))))))
         refine eff_append_run _ _ 81 rfl (v) (.slice (some ⟨g3, 0, none⟩) 1 1) rfl rfl hr ?_
         refine ⟨hk, hK _ _ ?_⟩
         clear hK Kv hk hr
         refine ph_end (by kernel_rfl) ?_
         have hS := hS.sub (l' := [.row 3 1 (.slice ynA t.stops.length ync) t.stops.length (t.stops.map (.int .i64)), .blk lb #[v] 81, .row 3 1 (.slice y8A (k + 1) y8c) (k + 1) ((satsOf qs) ++ [.int .i64 t.sat]), .blk mb #[.int .i64 kd, .int .i64 a, .int .i64 i, .int .i64 b, .int .i64 j] 33, .row 42 1 (.slice yoA (k + 1) yoc) (k + 1) ((qs.map (·.2)) ++ [.slice ynA t.stops.length ync])] ++ I) (.cons _ (.cons_cons _ (.cons _ (.cons _ (.cons _ (.cons_cons _ (.cons_cons _ (.cons_cons _ (.cons_cons _ (List.Sublist.refl _))))))))))
         have z1 : w3f.cell? ⟨lb, 0, none⟩ = some v := hS.cell 1 rfl 0 rfl
         have z2 : w3f.frozen? ⟨lb, 0, none⟩ = false := hS.free 1 rfl 0
         rw [← HI.out, ← HQL.out] at hS
         have HS9 := Lib.hid (lrq_snoc (Q := []) hS)
         clear hS
         go_wp2_with fail
         go_roundw
         case rel => exact ⟨k + 1, _, qs ++ [(t, .slice ynA t.stops.length ync)], by omega, by go_num, by rw [List.length_append, HQL.out]; rfl, Lib.hid (by rw [HQ2.out, List.map_append]; rfl), by have h := HS9.out; rw [HQL.out] at h; exact h⟩
         case measure => simp [intOf]; omega
     case arm1B =>
      as_aux_lemma =>
       refine ph_op rfl rfl (fun Kv hK => ?_)
       go_simp
       have hS := hS.alloc #[.slice a5 t.stops.length c5] 42
       obtain ⟨g2, hg2⟩ : ∃ b, w3.heap.size = b := ⟨_, rfl⟩
       obtain ⟨w3a, hw3a⟩ : ∃ x, w3.alloc (.cells #[.slice a5 t.stops.length c5] 42) = x := ⟨_, rfl⟩
       rw [hg2, hw3a] at hS
       rw [hg2, hw3a]
       clear hg2 hw3a
       have hS : SL w w.heap.size ([.blk g2 #[.slice a5 t.stops.length c5] 42, .blk tb #[.int .i64 t.sat, .slice a5 t.stops.length c5] 44, .blk lb #[v] 81, .row 3 1 u8 k (satsOf qs), .blk mb #[.int .i64 kd, .int .i64 a, .int .i64 i, .int .i64 b, .int .i64 j] 33, .row 42 1 v k (qs.map (·.2))] ++ I) w3a := hS
       have hk := hS.sub (l' := [.blk tb #[.int .i64 t.sat, .slice a5 t.stops.length c5] 44, .blk lb #[v] 81]) (.cons _ (.cons_cons _ (.cons_cons _ (List.nil_sublist _))))
       refine ⟨hk, hK _ _ ?_⟩
       clear hK Kv hk
       refine ph_eff 3 rfl (by kernel_rfl) rfl rfl (fun Kv hK => ?_)
       go_simp
       have hS := hS.alloc #[.int .i64 t.sat] 3
       obtain ⟨g1, hg1⟩ : ∃ b, w3a.heap.size = b := ⟨_, rfl⟩
       obtain ⟨w3b, hw3b⟩ : ∃ x, w3a.alloc (.cells #[.int .i64 t.sat] 3) = x := ⟨_, rfl⟩
       rw [hg1, hw3b] at hS
       rw [hg1, hw3b]
       clear hg1 hw3b
       have hS : SL w w.heap.size ([.blk g1 #[.int .i64 t.sat] 3, .blk g2 #[.slice a5 t.stops.length c5] 42, .blk tb #[.int .i64 t.sat, .slice a5 t.stops.length c5] 44, .blk lb #[v] 81, .row 3 1 u8 k (satsOf qs), .blk mb #[.int .i64 kd, .int .i64 a, .int .i64 i, .int .i64 b, .int .i64 j] 33, .row 42 1 v k (qs.map (·.2))] ++ I) w3b := hS
       have hk := hS.sub (l' := [.blk tb #[.int .i64 t.sat, .slice a5 t.stops.length c5] 44, .blk lb #[v] 81]) (.cons _ (.cons _ (.cons_cons _ (.cons_cons _ (List.nil_sublist _)))))
       refine ⟨hk, hK _ _ ?_⟩
       clear hK Kv hk
       refine ph_eff 4 rfl (by kernel_rfl) rfl rfl (fun Kv hK => ?_)
       obtain ⟨y8, w3c, hr, hS4⟩ := run_append_one (P := Try.prog) 42 42 hS 4 i0 (.int .i64 0) 8 Try.underlying42 HI0.out.1 HI0.out.2.1 HI0.out.2.2.1 HI0.out.2.2.2 rfl u8 k (satsOf qs) rfl g1 (.int .i64 t.sat) (hS.cell 0 rfl 0 rfl) rfl (by omega) (by decide)
       obtain ⟨y8A, y8c, rfl, _, _⟩ := (hS4.row 4 rfl).slice_
       have hS : SL w w.heap.size ([.blk g1 #[.int .i64 t.sat] 3, .blk g2 #[.slice a5 t.stops.length c5] 42, .blk tb #[.int .i64 t.sat, .slice a5 t.stops.length c5] 44, .blk lb #[v] 81, .row 3 1 (.slice y8A (k + 1) y8c) (k + 1) ((satsOf qs) ++ [.int .i64 t.sat]), .blk mb #[.int .i64 kd, .int .i64 a, .int .i64 i, .int .i64 b, .int .i64 j] 33, .row 42 1 v k (qs.map (·.2))] ++ I) w3c := hS4
       clear hS4
       have hk := hS.sub (l' := [.blk tb #[.int .i64 t.sat, .slice a5 t.stops.length c5] 44, .blk lb #[v] 81]) (.cons _ (.cons _ (.cons_cons _ (.cons_cons _ (List.nil_sublist _)))))
       refine eff_append_run _ _ 42 rfl (u8) (.slice (some ⟨g1, 0, none⟩) 1 1) rfl rfl hr ?_
       refine ⟨hk, hK _ _ ?_⟩
       clear hK Kv hk hr
       refine ph_eff 9 rfl (by kernel_rfl) rfl rfl (fun Kv hK => ?_)
       go_simp
       refine eff_call (all1_any g2 42 t.stops (.slice a5 t.stops.length c5) _ (hS.blk 1 rfl) (HST.out.to hS.below) (by have := HTL.out; omega)) (fun e w3d h => ?_)
       obtain ⟨yn, rfl, hq⟩ := h
       obtain ⟨ynA, ync, rfl, _, _⟩ := (hq.row 0 rfl).slice_
       have hS : SL w w.heap.size ([.row 3 1 (.slice ynA t.stops.length ync) t.stops.length (t.stops.map (.int .i64)), .blk g1 #[.int .i64 t.sat] 3, .blk g2 #[.slice a5 t.stops.length c5] 42, .blk tb #[.int .i64 t.sat, .slice a5 t.stops.length c5] 44, .blk lb #[v] 81, .row 3 1 (.slice y8A (k + 1) y8c) (k + 1) ((satsOf qs) ++ [.int .i64 t.sat]), .blk mb #[.int .i64 kd, .int .i64 a, .int .i64 i, .int .i64 b, .int .i64 j] 33, .row 42 1 v k (qs.map (·.2))] ++ I) w3d := hS.join hq
       have hk := hS.sub (l' := [.blk tb #[.int .i64 t.sat, .slice a5 t.stops.length c5] 44, .blk lb #[v] 81]) (.cons _ (.cons _ (.cons _ (.cons_cons _ (.cons_cons _ (List.nil_sublist _))))))
       refine .inl ⟨_, rfl, hk, hK _ _ ?_⟩
       clear hK Kv hk hq
       refine ph_eff 10 rfl (by kernel_rfl) rfl rfl (fun Kv hK => ?_)
       go_simp
       have hS := hS.alloc #[.slice ynA t.stops.length ync] 42
       obtain ⟨g3, hg3⟩ : ∃ b, w3d.heap.size = b := ⟨_, rfl⟩
       obtain ⟨w3e, hw3e⟩ : ∃ x, w3d.alloc (.cells #[.slice ynA t.stops.length ync] 42) = x := ⟨_, rfl⟩
       rw [hg3, hw3e] at hS
       rw [hg3, hw3e]
       clear hg3 hw3e
       have hS : SL w w.heap.size ([.blk g3 #[.slice ynA t.stops.length ync] 42, .row 3 1 (.slice ynA t.stops.length ync) t.stops.length (t.stops.map (.int .i64)), .blk g1 #[.int .i64 t.sat] 3, .blk g2 #[.slice a5 t.stops.length c5] 42, .blk tb #[.int .i64 t.sat, .slice a5 t.stops.length c5] 44, .blk lb #[v] 81, .row 3 1 (.slice y8A (k + 1) y8c) (k + 1) ((satsOf qs) ++ [.int .i64 t.sat]), .blk mb #[.int .i64 kd, .int .i64 a, .int .i64 i, .int .i64 b, .int .i64 j] 33, .row 42 1 v k (qs.map (·.2))] ++ I) w3e := hS
       have hk := hS.sub (l' := [.blk tb #[.int .i64 t.sat, .slice a5 t.stops.length c5] 44, .blk lb #[v] 81]) (.cons _ (.cons _ (.cons _ (.cons _ (.cons_cons _ (.cons_cons _ (List.nil_sublist _)))))))
       refine ⟨hk, hK _ _ ?_⟩
       clear hK Kv hk
       refine ph_eff 11 rfl (by kernel_rfl) rfl rfl (fun Kv hK => ?_)
       obtain ⟨yo, w3f, hr, hS4⟩ := run_append_one (P := Try.prog) 81 81 hS 8 i1 (.slice none 0 0) 24 Try.underlying81 HI1.out.1 HI1.out.2.1 HI1.out.2.2.1 HI1.out.2.2.2 rfl v k (qs.map (·.2)) rfl g3 (.slice ynA t.stops.length ync) (hS.cell 0 rfl 0 rfl) rfl (by omega) (by decide)
       obtain ⟨yoA, yoc, rfl, _, _⟩ := (hS4.row 8 rfl).slice_
       have hS : SL w w.heap.size ([.blk g3 #[.slice ynA t.stops.length ync] 42, .row 3 1 (.slice ynA t.stops.length ync) t.stops.length (t.stops.map (.int .i64)), .blk g1 #[.int .i64 t.sat] 3, .blk g2 #[.slice a5 t.stops.length c5] 42, .blk tb #[.int .i64 t.sat, .slice a5 t.stops.length c5] 44, .blk lb #[v] 81, .row 3 1 (.slice y8A (k + 1) y8c) (k + 1) ((satsOf qs) ++ [.int .i64 t.sat]), .blk mb #[.int .i64 kd, .int .i64 a, .int .i64 i, .int .i64 b, .int .i64 j] 33, .row 42 1 (.slice yoA (k + 1) yoc) (k + 1) ((qs.map (·.2)) ++ [.slice ynA t.stops.length ync])] ++ I) w3f := hS4
       clear hS4
       have hk := hS.sub (l' := [.blk tb #[.int .i64 t.sat, .slice a5 t.stops.length c5] 44, .blk lb #[v] 81]) (.cons _ (.cons _ (.cons _ (.cons _ (.cons_cons _ (.cons_cons _ (List.nil_sublist _)))))))
       refine eff_append_run _ _ 81 rfl (v) (.slice (some ⟨g3, 0, none⟩) 1 1) rfl rfl hr ?_
       refine ⟨hk, hK _ _ ?_⟩
       clear hK Kv hk hr
       refine ph_end (by kernel_rfl) ?_
       have hS := hS.sub (l' := [.row 3 1 (.slice ynA t.stops.length ync) t.stops.length (t.stops.map (.int .i64)), .blk lb #[v] 81, .row 3 1 (.slice y8A (k + 1) y8c) (k + 1) ((satsOf qs) ++ [.int .i64 t.sat]), .blk mb #[.int .i64 kd, .int .i64 a, .int .i64 i, .int .i64 b, .int .i64 j] 33, .row 42 1 (.slice yoA (k + 1) yoc) (k + 1) ((qs.map (·.2)) ++ [.slice ynA t.stops.length ync])] ++ I) (.cons _ (.cons_cons _ (.cons _ (.cons _ (.cons _ (.cons_cons _ (.cons_cons _ (.cons_cons _ (.cons_cons _ (List.Sublist.refl _))))))))))
       have z1 : w3f.cell? ⟨lb, 0, none⟩ = some v := hS.cell 1 rfl 0 rfl
       have z2 : w3f.frozen? ⟨lb, 0, none⟩ = false := hS.free 1 rfl 0
       rw [← HI.out, ← HQL.out] at hS
       have HS9 := Lib.hid (lrq_snoc (Q := []) hS)
       clear hS
       go_wp2_with fail
       go_roundw
       case rel => exact ⟨k + 1, _, qs ++ [(t, .slice ynA t.stops.length ync)], by omega, by go_num, by rw [List.length_append, HQL.out]; rfl, Lib.hid (by rw [HQ2.out, List.map_append]; rfl), by have h := HS9.out; rw [HQL.out] at h; exact h⟩
       case measure => simp [intOf]; omega
  · obtain rfl : n = k := by omega
    have HP : Hid (qs.map (·.1) = bs) := Lib.hid (by rw [HQ.out, List.take_of_length_le (by rw [HN.out]; exact Nat.le_refl _)])
    have HLP : Hid (∀ q ∈ qs, q.1.stops.length ≤ 100000) := Lib.hid (fun q hq => HSL.out q.1 (by rw [← HP.out]; exact List.mem_map_of_mem hq))
    have y0 : wr.cell? ⟨lb, 0, none⟩ = some v := hS.cell 0 rfl 0 rfl
    have hS2 : SL w w.heap.size (LR wr.heap.size lb mb n #[.int .i64 kd, .int .i64 a, .int .i64 i, .int .i64 b, .int .i64 j] u8 v qs []) (wr.alloc (.cells #[.int .i64 n] 3)) := hS.alloc #[.int .i64 n] 3
    obtain ⟨A1, c1, rfl, _⟩ := lr_open hS2
    have y1 : (wr.alloc (.cells #[.int .i64 n] 3)).cell? ⟨mb, 0, none⟩ = some (.int .i64 kd) := lk_m (lr_k hS2) 0 rfl
    have HS2 := Lib.hid hS2
    have HQL := Lib.hid hql
    rw [hql] at y0
    clear hS hS2 HQ hlt hql hk HB HSL
    go_upto_block 2 with fail
    obtain ⟨nb, hnb⟩ : ∃ b, wr.heap.size = b := ⟨_, rfl⟩
    obtain ⟨w2, hw2⟩ : ∃ w2, wr.alloc (.cells #[.int .i64 n] 3) = w2 := ⟨_, rfl⟩
    rw [hnb, hw2] at HS2
    rw [hw2]
    rw [hnb]
    clear hnb hw2 y0 y1
    go_cut [8] (fun v8 wx => ∃ (v : Value) (qs' : List (BikeV × Value)) (R : List Rs), Hid (o = some (qs'.map (·.1))) ∧ qs'.length ≤ n + 1 ∧ SL w w.heap.size (LR nb lb mb n #[.int .i64 kd, .int .i64 a, .int .i64 i, .int .i64 b, .int .i64 j] v8 v qs' R) wx)
    case first =>
     have HLG : Hid (∀ x wx, SL w w.heap.size (LR nb lb mb n #[.int .i64 kd, .int .i64 a, .int .i64 i, .int .i64 b, .int .i64 j] u8 (.slice A1 qs.length c1) qs []) wx → Calls Try.prog 38 #[.int .i64 x, .pointer (some ⟨nb, 0, none⟩), .pointer (some ⟨lb, 0, none⟩)] wx fun e w' => e = .returned (.int .i64 (longI (qs.map fun q => q.1.stops) x)) ∧ Below wx.heap.size wx w') := Lib.hid (fun x wx h => long_any nb lb n A1 c1 _ x wx (lk_n (lr_k h)) (by rw [lk_l (lr_k h), HQL.out]) (by rw [List.length_map, HQL.out]) (lr_mat h) (by omega))
     have HSA : Hid (∀ x : Nat, ∀ h : x < qs.length, stopsAt bs (x : Int) = qs[x].1.stops) := Lib.hid (fun x h => by
      have hx : x < bs.length := by rw [HN.out, ← HQL.out]; exact h
      rw [stopsAt_lt hx]
      have e := HP.out
      subst e
      simp)
     have HLV : Hid (∀ x, longI (qs.map fun q => q.1.stops) x = if 0 ≤ x ∧ x < (n : Int) then ((stopsAt bs x).length : Int) else -1) := Lib.hid (fun x => by
      unfold longI
      rw [List.length_map, HQL.out]
      by_cases h : 0 ≤ x ∧ x < (n : Int)
      · rw [if_pos h, if_pos h]
        obtain ⟨z, rfl⟩ : ∃ z : Nat, x = z := ⟨x.toNat, by omega⟩
        have hz : z < qs.length := by rw [HQL.out]; omega
        rw [HSA.out z hz]
        simp [hz]
      · rw [if_neg h, if_neg h])
     have HLR : Hid (∀ x, -1 ≤ longI (qs.map fun q => q.1.stops) x ∧ longI (qs.map fun q => q.1.stops) x ≤ 100000) := Lib.hid (fun x => by
      rw [HLV.out]
      by_cases h : 0 ≤ x ∧ x < (n : Int)
      · rw [if_pos h]
        obtain ⟨z, rfl⟩ : ∃ z : Nat, x = z := ⟨x.toNat, by omega⟩
        have hz : z < qs.length := by rw [HQL.out]; omega
        rw [HSA.out z hz]
        have := HLP.out _ (List.getElem_mem hz)
        omega
      · rw [if_neg h]; omega)
     have HLA := Lib.hid (HLG.out a)
     have HLB := Lib.hid (HLG.out b)
     have HLAV := Lib.hid (HLV.out a)
     have HLBV := Lib.hid (HLV.out b)
     have hLa := HLR.out a
     have hLb := HLR.out b
     obtain ⟨La, hla⟩ : ∃ x, longI (qs.map fun q => q.1.stops) a = x := ⟨_, rfl⟩
     obtain ⟨Lb, hlb⟩ : ∃ x, longI (qs.map fun q => q.1.stops) b = x := ⟨_, rfl⟩
     rw [hla] at HLA HLAV hLa
     rw [hlb] at HLB HLBV hLb
     clear hla hlb HLG HLV HLR
     obtain ⟨hLa1, hLa2⟩ := hLa
     obtain ⟨hLb1, hLb2⟩ := hLb
     obtain ⟨k0, k4, k1, k2⟩ := HK9.out
     by_cases k3 : kd = 3
     · subst k3
       clear k0 k4 k1 k2
       as_aux_lemma =>
        have HR2 : Hid (tailsM bs ⟨3, a, i, b, j⟩ = o) := Lib.hid (by rw [← HR.out]; rfl)
        have y0 : w2.cell? ⟨mb, 0, none⟩ = some (.int .i64 3) := lk_m (lr_k HS2.out) 0 rfl
        clear HR
        go_upto_region 39 with fail
        clear y0
        go_cut [353] from 307 to 353 (fun v wx => v = .bool (decide (a = b ∨ i < 0 ∨ La < i ∨ j < 0 ∨ Lb < j ∨ La < 0 ∨ Lb < 0)) ∧ SL w w.heap.size (LR nb lb mb n #[.int .i64 3, .int .i64 a, .int .i64 i, .int .i64 b, .int .i64 j] u8 (.slice A1 qs.length c1) qs []) wx)
        case first =>
         by_cases ck : a = b
         · have HV : Hid (decide (a = b ∨ i < 0 ∨ La < i ∨ j < 0 ∨ Lb < j ∨ La < 0 ∨ Lb < 0) = true) := Lib.hid (decide_eq_true (.inl ck))
           have t0 : (a == b) = true := by simpa using ck
           as_aux_lemma =>
            refine wp_region_sq _ HS2.out (by kernel_rfl) (by kernel_rfl) fun C cw _ hC hin => ?_
            have q1 : ∀ d, (cw d).cell? ⟨mb, 1, none⟩ = some (.int .i64 a) := fun d => lk_m (lr_k (hC d)) 1 rfl
            have q2 : ∀ d, (cw d).cell? ⟨mb, 2, none⟩ = some (.int .i64 i) := fun d => lk_m (lr_k (hC d)) 2 rfl
            have q3 : ∀ d, (cw d).cell? ⟨mb, 3, none⟩ = some (.int .i64 b) := fun d => lk_m (lr_k (hC d)) 3 rfl
            have q4 : ∀ d, (cw d).cell? ⟨mb, 4, none⟩ = some (.int .i64 j) := fun d => lk_m (lr_k (hC d)) 4 rfl
            have qn : ∀ d, (cw d).cell? ⟨nb, 0, none⟩ = some (.int .i64 n) := fun d => lk_n (lr_k (hC d))
            have hlc := Lib.hid (show ∀ d, Calls Try.prog 38 #[.int .i64 a, .pointer (some ⟨nb, 0, none⟩), .pointer (some ⟨lb, 0, none⟩)] (cw d) (fun e w' => e = .returned (.int .i64 La) ∧ ∃ c', w' = cw c') from fun d => sq_call (hC d) hin (HLA.out _ (hC d)))
            have hld := Lib.hid (show ∀ d, Calls Try.prog 38 #[.int .i64 b, .pointer (some ⟨nb, 0, none⟩), .pointer (some ⟨lb, 0, none⟩)] (cw d) (fun e w' => e = .returned (.int .i64 Lb) ∧ ∃ c', w' = cw c') from fun d => sq_call (hC d) hin (HLB.out _ (hC d)))
            clear hC hin HR2 HLA HLAV HLB HLBV HSA HLP HP HN HQL HI0 HI1 HS2
            repeat (go_big_quiet_step (first | (go_at_call 38; with_reducible exact hlc.out _) | (go_at_call 38; with_reducible exact hld.out _)))
            refine wpQuiet_nil ?_
            intro w3 hw3
            have Hw3 := Lib.hid hw3
            clear hw3 q1 q2 q3 q4 qn hlc hld
            clear ck t0
            go_wp2_with fail
            go_meet
            exact ⟨congrArg Value.bool HV.out.symm, Hw3.out⟩
         have t0 : (a == b) = false := by simpa using ck
         have n0 := ck
         clear ck
         by_cases ck : i < 0
         · have HV : Hid (decide (a = b ∨ i < 0 ∨ La < i ∨ j < 0 ∨ Lb < j ∨ La < 0 ∨ Lb < 0) = true) := Lib.hid (decide_eq_true (.inr (.inl ck)))
           have t1 : decide (i < 0) = true := decide_eq_true ck
           as_aux_lemma =>
            refine wp_region_sq _ HS2.out (by kernel_rfl) (by kernel_rfl) fun C cw _ hC hin => ?_
            have q1 : ∀ d, (cw d).cell? ⟨mb, 1, none⟩ = some (.int .i64 a) := fun d => lk_m (lr_k (hC d)) 1 rfl
            have q2 : ∀ d, (cw d).cell? ⟨mb, 2, none⟩ = some (.int .i64 i) := fun d => lk_m (lr_k (hC d)) 2 rfl
            have q3 : ∀ d, (cw d).cell? ⟨mb, 3, none⟩ = some (.int .i64 b) := fun d => lk_m (lr_k (hC d)) 3 rfl
            have q4 : ∀ d, (cw d).cell? ⟨mb, 4, none⟩ = some (.int .i64 j) := fun d => lk_m (lr_k (hC d)) 4 rfl
            have qn : ∀ d, (cw d).cell? ⟨nb, 0, none⟩ = some (.int .i64 n) := fun d => lk_n (lr_k (hC d))
            have hlc := Lib.hid (show ∀ d, Calls Try.prog 38 #[.int .i64 a, .pointer (some ⟨nb, 0, none⟩), .pointer (some ⟨lb, 0, none⟩)] (cw d) (fun e w' => e = .returned (.int .i64 La) ∧ ∃ c', w' = cw c') from fun d => sq_call (hC d) hin (HLA.out _ (hC d)))
            have hld := Lib.hid (show ∀ d, Calls Try.prog 38 #[.int .i64 b, .pointer (some ⟨nb, 0, none⟩), .pointer (some ⟨lb, 0, none⟩)] (cw d) (fun e w' => e = .returned (.int .i64 Lb) ∧ ∃ c', w' = cw c') from fun d => sq_call (hC d) hin (HLB.out _ (hC d)))
            clear hC hin HR2 HLA HLAV HLB HLBV HSA HLP HP HN HQL HI0 HI1 HS2
            repeat (go_big_quiet_step (first | (go_at_call 38; with_reducible exact hlc.out _) | (go_at_call 38; with_reducible exact hld.out _)))
            refine wpQuiet_nil ?_
            intro w3 hw3
            have Hw3 := Lib.hid hw3
            clear hw3 q1 q2 q3 q4 qn hlc hld
            clear ck t1
            go_wp2_with fail
            go_meet
            exact ⟨congrArg Value.bool HV.out.symm, Hw3.out⟩
         have t1 : decide (i < 0) = false := decide_eq_false ck
         have n1 := ck
         clear ck
         by_cases ck : La < i
         · have HV : Hid (decide (a = b ∨ i < 0 ∨ La < i ∨ j < 0 ∨ Lb < j ∨ La < 0 ∨ Lb < 0) = true) := Lib.hid (decide_eq_true (.inr (.inr (.inl ck))))
           have t2 : decide (La < i) = true := decide_eq_true ck
           as_aux_lemma =>
            refine wp_region_sq _ HS2.out (by kernel_rfl) (by kernel_rfl) fun C cw _ hC hin => ?_
            have q1 : ∀ d, (cw d).cell? ⟨mb, 1, none⟩ = some (.int .i64 a) := fun d => lk_m (lr_k (hC d)) 1 rfl
            have q2 : ∀ d, (cw d).cell? ⟨mb, 2, none⟩ = some (.int .i64 i) := fun d => lk_m (lr_k (hC d)) 2 rfl
            have q3 : ∀ d, (cw d).cell? ⟨mb, 3, none⟩ = some (.int .i64 b) := fun d => lk_m (lr_k (hC d)) 3 rfl
            have q4 : ∀ d, (cw d).cell? ⟨mb, 4, none⟩ = some (.int .i64 j) := fun d => lk_m (lr_k (hC d)) 4 rfl
            have qn : ∀ d, (cw d).cell? ⟨nb, 0, none⟩ = some (.int .i64 n) := fun d => lk_n (lr_k (hC d))
            have hlc := Lib.hid (show ∀ d, Calls Try.prog 38 #[.int .i64 a, .pointer (some ⟨nb, 0, none⟩), .pointer (some ⟨lb, 0, none⟩)] (cw d) (fun e w' => e = .returned (.int .i64 La) ∧ ∃ c', w' = cw c') from fun d => sq_call (hC d) hin (HLA.out _ (hC d)))
            have hld := Lib.hid (show ∀ d, Calls Try.prog 38 #[.int .i64 b, .pointer (some ⟨nb, 0, none⟩), .pointer (some ⟨lb, 0, none⟩)] (cw d) (fun e w' => e = .returned (.int .i64 Lb) ∧ ∃ c', w' = cw c') from fun d => sq_call (hC d) hin (HLB.out _ (hC d)))
            clear hC hin HR2 HLA HLAV HLB HLBV HSA HLP HP HN HQL HI0 HI1 HS2
            repeat (go_big_quiet_step (first | (go_at_call 38; with_reducible exact hlc.out _) | (go_at_call 38; with_reducible exact hld.out _)))
            refine wpQuiet_nil ?_
            intro w3 hw3
            have Hw3 := Lib.hid hw3
            clear hw3 q1 q2 q3 q4 qn hlc hld
            clear ck t2
            go_wp2_with fail
            go_meet
            exact ⟨congrArg Value.bool HV.out.symm, Hw3.out⟩
         have t2 : decide (La < i) = false := decide_eq_false ck
         have n2 := ck
         clear ck
         by_cases ck : j < 0
         · have HV : Hid (decide (a = b ∨ i < 0 ∨ La < i ∨ j < 0 ∨ Lb < j ∨ La < 0 ∨ Lb < 0) = true) := Lib.hid (decide_eq_true (.inr (.inr (.inr (.inl ck)))))
           have t3 : decide (j < 0) = true := decide_eq_true ck
           as_aux_lemma =>
            refine wp_region_sq _ HS2.out (by kernel_rfl) (by kernel_rfl) fun C cw _ hC hin => ?_
            have q1 : ∀ d, (cw d).cell? ⟨mb, 1, none⟩ = some (.int .i64 a) := fun d => lk_m (lr_k (hC d)) 1 rfl
            have q2 : ∀ d, (cw d).cell? ⟨mb, 2, none⟩ = some (.int .i64 i) := fun d => lk_m (lr_k (hC d)) 2 rfl
            have q3 : ∀ d, (cw d).cell? ⟨mb, 3, none⟩ = some (.int .i64 b) := fun d => lk_m (lr_k (hC d)) 3 rfl
            have q4 : ∀ d, (cw d).cell? ⟨mb, 4, none⟩ = some (.int .i64 j) := fun d => lk_m (lr_k (hC d)) 4 rfl
            have qn : ∀ d, (cw d).cell? ⟨nb, 0, none⟩ = some (.int .i64 n) := fun d => lk_n (lr_k (hC d))
            have hlc := Lib.hid (show ∀ d, Calls Try.prog 38 #[.int .i64 a, .pointer (some ⟨nb, 0, none⟩), .pointer (some ⟨lb, 0, none⟩)] (cw d) (fun e w' => e = .returned (.int .i64 La) ∧ ∃ c', w' = cw c') from fun d => sq_call (hC d) hin (HLA.out _ (hC d)))
            have hld := Lib.hid (show ∀ d, Calls Try.prog 38 #[.int .i64 b, .pointer (some ⟨nb, 0, none⟩), .pointer (some ⟨lb, 0, none⟩)] (cw d) (fun e w' => e = .returned (.int .i64 Lb) ∧ ∃ c', w' = cw c') from fun d => sq_call (hC d) hin (HLB.out _ (hC d)))
            clear hC hin HR2 HLA HLAV HLB HLBV HSA HLP HP HN HQL HI0 HI1 HS2
            repeat (go_big_quiet_step (first | (go_at_call 38; with_reducible exact hlc.out _) | (go_at_call 38; with_reducible exact hld.out _)))
            refine wpQuiet_nil ?_
            intro w3 hw3
            have Hw3 := Lib.hid hw3
            clear hw3 q1 q2 q3 q4 qn hlc hld
            clear ck t3
            go_wp2_with fail
            go_meet
            exact ⟨congrArg Value.bool HV.out.symm, Hw3.out⟩
         have t3 : decide (j < 0) = false := decide_eq_false ck
         have n3 := ck
         clear ck
         by_cases ck : Lb < j
         · have HV : Hid (decide (a = b ∨ i < 0 ∨ La < i ∨ j < 0 ∨ Lb < j ∨ La < 0 ∨ Lb < 0) = true) := Lib.hid (decide_eq_true (.inr (.inr (.inr (.inr (.inl ck))))))
           have t4 : decide (Lb < j) = true := decide_eq_true ck
           as_aux_lemma =>
            refine wp_region_sq _ HS2.out (by kernel_rfl) (by kernel_rfl) fun C cw _ hC hin => ?_
            have q1 : ∀ d, (cw d).cell? ⟨mb, 1, none⟩ = some (.int .i64 a) := fun d => lk_m (lr_k (hC d)) 1 rfl
            have q2 : ∀ d, (cw d).cell? ⟨mb, 2, none⟩ = some (.int .i64 i) := fun d => lk_m (lr_k (hC d)) 2 rfl
            have q3 : ∀ d, (cw d).cell? ⟨mb, 3, none⟩ = some (.int .i64 b) := fun d => lk_m (lr_k (hC d)) 3 rfl
            have q4 : ∀ d, (cw d).cell? ⟨mb, 4, none⟩ = some (.int .i64 j) := fun d => lk_m (lr_k (hC d)) 4 rfl
            have qn : ∀ d, (cw d).cell? ⟨nb, 0, none⟩ = some (.int .i64 n) := fun d => lk_n (lr_k (hC d))
            have hlc := Lib.hid (show ∀ d, Calls Try.prog 38 #[.int .i64 a, .pointer (some ⟨nb, 0, none⟩), .pointer (some ⟨lb, 0, none⟩)] (cw d) (fun e w' => e = .returned (.int .i64 La) ∧ ∃ c', w' = cw c') from fun d => sq_call (hC d) hin (HLA.out _ (hC d)))
            have hld := Lib.hid (show ∀ d, Calls Try.prog 38 #[.int .i64 b, .pointer (some ⟨nb, 0, none⟩), .pointer (some ⟨lb, 0, none⟩)] (cw d) (fun e w' => e = .returned (.int .i64 Lb) ∧ ∃ c', w' = cw c') from fun d => sq_call (hC d) hin (HLB.out _ (hC d)))
            clear hC hin HR2 HLA HLAV HLB HLBV HSA HLP HP HN HQL HI0 HI1 HS2
            repeat (go_big_quiet_step (first | (go_at_call 38; with_reducible exact hlc.out _) | (go_at_call 38; with_reducible exact hld.out _)))
            refine wpQuiet_nil ?_
            intro w3 hw3
            have Hw3 := Lib.hid hw3
            clear hw3 q1 q2 q3 q4 qn hlc hld
            clear ck t4
            go_wp2_with fail
            go_meet
            exact ⟨congrArg Value.bool HV.out.symm, Hw3.out⟩
         have t4 : decide (Lb < j) = false := decide_eq_false ck
         have n4 := ck
         clear ck
         by_cases ck : La < 0
         · exfalso; omega
         have t5 : decide (La < 0) = false := decide_eq_false ck
         have n5 := ck
         clear ck
         by_cases ck : Lb < 0
         · exfalso; omega
         have t6 : decide (Lb < 0) = false := decide_eq_false ck
         have n6 := ck
         clear ck
         have HV : Hid (decide (a = b ∨ i < 0 ∨ La < i ∨ j < 0 ∨ Lb < j ∨ La < 0 ∨ Lb < 0) = false) := Lib.hid (decide_eq_false (by simp only [not_or]; exact ⟨n0, n1, n2, n3, n4, n5, n6⟩))
         clear n0 n1 n2 n3 n4 n5 n6
         as_aux_lemma =>
          refine wp_region_sq _ HS2.out (by kernel_rfl) (by kernel_rfl) fun C cw _ hC hin => ?_
          have q1 : ∀ d, (cw d).cell? ⟨mb, 1, none⟩ = some (.int .i64 a) := fun d => lk_m (lr_k (hC d)) 1 rfl
          have q2 : ∀ d, (cw d).cell? ⟨mb, 2, none⟩ = some (.int .i64 i) := fun d => lk_m (lr_k (hC d)) 2 rfl
          have q3 : ∀ d, (cw d).cell? ⟨mb, 3, none⟩ = some (.int .i64 b) := fun d => lk_m (lr_k (hC d)) 3 rfl
          have q4 : ∀ d, (cw d).cell? ⟨mb, 4, none⟩ = some (.int .i64 j) := fun d => lk_m (lr_k (hC d)) 4 rfl
          have qn : ∀ d, (cw d).cell? ⟨nb, 0, none⟩ = some (.int .i64 n) := fun d => lk_n (lr_k (hC d))
          have hlc := Lib.hid (show ∀ d, Calls Try.prog 38 #[.int .i64 a, .pointer (some ⟨nb, 0, none⟩), .pointer (some ⟨lb, 0, none⟩)] (cw d) (fun e w' => e = .returned (.int .i64 La) ∧ ∃ c', w' = cw c') from fun d => sq_call (hC d) hin (HLA.out _ (hC d)))
          have hld := Lib.hid (show ∀ d, Calls Try.prog 38 #[.int .i64 b, .pointer (some ⟨nb, 0, none⟩), .pointer (some ⟨lb, 0, none⟩)] (cw d) (fun e w' => e = .returned (.int .i64 Lb) ∧ ∃ c', w' = cw c') from fun d => sq_call (hC d) hin (HLB.out _ (hC d)))
          clear hC hin HR2 HLA HLAV HLB HLBV HSA HLP HP HN HQL HI0 HI1 HS2
          repeat (go_big_quiet_step (first | (go_at_call 38; with_reducible exact hlc.out _) | (go_at_call 38; with_reducible exact hld.out _)))
          refine wpQuiet_nil ?_
          intro w3 hw3
          have Hw3 := Lib.hid hw3
          clear hw3 q1 q2 q3 q4 qn hlc hld
          clear t0 t1 t2 t3 t4 t5 t6
          go_wp2_with fail
          go_meet
          exact ⟨congrArg Value.bool HV.out.symm, Hw3.out⟩
        case rest =>
        as_aux_lemma =>
         obtain ⟨rfl, hS⟩ := hcut
         have HS := Lib.hid hS
         clear hS
         obtain ⟨bt, hbt⟩ : ∃ t, decide (a = b ∨ i < 0 ∨ La < i ∨ j < 0 ∨ Lb < j ∨ La < 0 ∨ Lb < 0) = t := ⟨_, rfl⟩
         have HBT := Lib.hid hbt
         rw [hbt]
         clear hbt
         cases bt with
         | true =>
           have HNO : Hid (o = none) := Lib.hid (by
            have hbad := of_decide_eq_true HBT.out
            rw [← HR2.out]
            unfold tailsM
            rw [if_pos]
            rw [Bool.eq_false_iff]
            intro h
            unfold behindB at h
            simp only [Bool.and_eq_true, Bool.not_eq_true', decide_eq_false_iff_not, decide_eq_true_eq, HN.out] at h
            obtain ⟨⟨g0, g1, g2⟩, g3, g4⟩ := h
            have e := HLAV.out
            rw [if_pos g1] at e
            have f := HLBV.out
            rw [if_pos g3] at f
            omega)
           go_wp2_with fail
           go_ret2
           rw [HNO.out]
           exact ⟨rfl, HS.out.below⟩
         | false =>
         have hbad := of_decide_eq_false HBT.out
         simp only [not_or] at hbad
         obtain ⟨h0, h1, h2, h3, h4, h5, h6⟩ := hbad
         have hra : 0 ≤ a ∧ a < (n : Int) := by
          by_cases h : 0 ≤ a ∧ a < (n : Int)
          · exact h
          · have e := HLAV.out
            rw [if_neg h] at e
            omega
         have hraL : La = ((stopsAt bs a).length : Int) := by rw [HLAV.out, if_pos hra]
         have hrb : 0 ≤ b ∧ b < (n : Int) := by
          by_cases h : 0 ≤ b ∧ b < (n : Int)
          · exact h
          · have e := HLBV.out
            rw [if_neg h] at e
            omega
         have hrbL : Lb = ((stopsAt bs b).length : Int) := by rw [HLBV.out, if_pos hrb]
         obtain ⟨a0, rfl⟩ : ∃ z : Nat, a = z := ⟨a.toNat, by omega⟩
         obtain ⟨p0, rfl⟩ : ∃ z : Nat, i = z := ⟨i.toNat, by omega⟩
         obtain ⟨b0, rfl⟩ : ∃ z : Nat, b = z := ⟨b.toNat, by omega⟩
         obtain ⟨j0, rfl⟩ : ∃ z : Nat, j = z := ⟨j.toNat, by omega⟩
         have hqn := HQL.out
         have ha0 : a0 < qs.length := by omega
         have hb0 : b0 < qs.length := by omega
         have hsa := HSA.out a0 ha0
         have hsb := HSA.out b0 hb0
         have hla := HLP.out _ (List.getElem_mem ha0)
         have hlb := HLP.out _ (List.getElem_mem hb0)
         obtain ⟨g, off, rfl⟩ := lr_addr HS.out (by omega)
         obtain ⟨aA, cA, hva, hca⟩ := lr_val HS.out ha0
         obtain ⟨bA, cB, hvb, hcb⟩ := lr_val HS.out hb0
         obtain ⟨s, hs⟩ : ∃ s, (qs[a0]'ha0).1.stops = s := ⟨_, rfl⟩
         obtain ⟨sb, hsB⟩ : ∃ s, (qs[b0]'hb0).1.stops = s := ⟨_, rfl⟩
         rw [hs] at hsa hla hva hca
         rw [hsB] at hsb hlb hvb hcb
         have hps : p0 ≤ s.length := by rw [← hsa]; omega
         have hjs : j0 ≤ sb.length := by rw [← hsb]; omega
         have HIA : Hid (∀ v8 R wx, SL w w.heap.size (LR nb lb mb n #[.int .i64 3, .int .i64 (a0 : Int), .int .i64 (p0 : Int), .int .i64 (b0 : Int), .int .i64 (j0 : Int)] v8 (.slice (some ⟨g, off, none⟩) qs.length c1) qs R) wx → IntsAt wx wx.heap.size aA s) := Lib.hid (fun v8 R wx h => by have := lr_ints h ha0 (by rw [hva]); rw [hs] at this; exact this)
         have HIB : Hid (∀ v8 R wx, SL w w.heap.size (LR nb lb mb n #[.int .i64 3, .int .i64 (a0 : Int), .int .i64 (p0 : Int), .int .i64 (b0 : Int), .int .i64 (j0 : Int)] v8 (.slice (some ⟨g, off, none⟩) qs.length c1) qs R) wx → IntsAt wx wx.heap.size bA sb) := Lib.hid (fun v8 R wx h => by have := lr_ints h hb0 (by rw [hvb]); rw [hsB] at this; exact this)
         have HOUT : Hid (o = some (putStops (putStops bs (a0 : Int) (s.take p0 ++ sb.drop j0)) (b0 : Int) (sb.take j0 ++ s.drop p0))) := Lib.hid (by
          have hok : (!decide ((a0 : Int) = (b0 : Int)) && behindB bs (a0 : Int) (p0 : Int) && behindB bs (b0 : Int) (j0 : Int)) = true := by
           unfold behindB
           simp only [Bool.and_eq_true, Bool.not_eq_true', decide_eq_false_iff_not, decide_eq_true_eq, HN.out, hsa, hsb]
           omega
          rw [← HR2.out]
          unfold tailsM
          rw [if_neg (by rw [hok]; simp)]
          simp only [Int.toNat_natCast, hsa, hsb])
         obtain ⟨x1, hx1⟩ : ∃ x, s.take p0 = x := ⟨_, rfl⟩
         obtain ⟨x2, hx2⟩ : ∃ x, s.drop p0 = x := ⟨_, rfl⟩
         obtain ⟨y1, hy1⟩ : ∃ x, sb.take j0 = x := ⟨_, rfl⟩
         obtain ⟨y2, hy2⟩ : ∃ x, sb.drop j0 = x := ⟨_, rfl⟩
         have hxy : x1.length + y2.length ≤ 1000000 ∧ y1.length + x2.length ≤ 1000000 := by rw [← hx1, ← hx2, ← hy1, ← hy2, List.length_take, List.length_drop, List.length_take, List.length_drop]; omega
         rw [hx1, hx2, hy1, hy2] at HOUT
         have HP1 : Hid (∀ wx, SL w w.heap.size (LR nb lb mb n #[.int .i64 3, .int .i64 (a0 : Int), .int .i64 (p0 : Int), .int .i64 (b0 : Int), .int .i64 (j0 : Int)] u8 (.slice (some ⟨g, off, none⟩) qs.length c1) qs []) wx → Calls Try.prog 39 #[.slice aA s.length cA, .int .i64 (0), .int .i64 ((p0 : Int))] wx (RowL wx x1)) := Lib.hid (fun wx h => by
          have h1 := part_any aA cA s 0 p0 wx (HIA.out _ _ _ h) (by omega) (by omega) (by omega)
          rw [Nat.sub_zero, List.drop_zero, hx1] at h1
          exact h1)
         have HP2 : Hid (∀ wx, SL w w.heap.size (LR nb lb mb n #[.int .i64 3, .int .i64 (a0 : Int), .int .i64 (p0 : Int), .int .i64 (b0 : Int), .int .i64 (j0 : Int)] u8 (.slice (some ⟨g, off, none⟩) qs.length c1) qs []) wx → Calls Try.prog 39 #[.slice bA sb.length cB, .int .i64 ((j0 : Int)), .int .i64 ((sb.length : Int))] wx (RowL wx y2)) := Lib.hid (fun wx h => by
          have h1 := part_any bA cB sb j0 sb.length wx (HIB.out _ _ _ h) (by omega) (by omega) (by omega)
          rw [List.take_of_length_le (by rw [List.length_drop]; exact Nat.le_refl _), hy2] at h1
          exact h1)
         have HP3 : Hid (∀ wx, SL w w.heap.size (LR nb lb mb n #[.int .i64 3, .int .i64 (a0 : Int), .int .i64 (p0 : Int), .int .i64 (b0 : Int), .int .i64 (j0 : Int)] u8 (.slice (some ⟨g, off, none⟩) qs.length c1) qs []) wx → Calls Try.prog 39 #[.slice bA sb.length cB, .int .i64 (0), .int .i64 ((j0 : Int))] wx (RowL wx y1)) := Lib.hid (fun wx h => by
          have h1 := part_any bA cB sb 0 j0 wx (HIB.out _ _ _ h) (by omega) (by omega) (by omega)
          rw [Nat.sub_zero, List.drop_zero, hy1] at h1
          exact h1)
         have HP4 : Hid (∀ wx, SL w w.heap.size (LR nb lb mb n #[.int .i64 3, .int .i64 (a0 : Int), .int .i64 (p0 : Int), .int .i64 (b0 : Int), .int .i64 (j0 : Int)] u8 (.slice (some ⟨g, off, none⟩) qs.length c1) qs []) wx → Calls Try.prog 39 #[.slice aA s.length cA, .int .i64 ((p0 : Int)), .int .i64 ((s.length : Int))] wx (RowL wx x2)) := Lib.hid (fun wx h => by
          have h1 := part_any aA cA s p0 s.length wx (HIA.out _ _ _ h) (by omega) (by omega) (by omega)
          rw [List.take_of_length_le (by rw [List.length_drop]; exact Nat.le_refl _), hx2] at h1
          exact h1)
         have HVA := Lib.hid hva
         have HVB := Lib.hid hvb
         have HA0 : Hid (a0 < qs.length) := Lib.hid ha0
         have HB0 : Hid (b0 < qs.length) := Lib.hid hb0
         have HPM : Hid (∀ l v, (qs.set a0 ((⟨(qs[a0]'HA0.out).1.sat, l⟩ : BikeV), v)).map (·.1) = putStops bs (a0 : Int) l) := Lib.hid (fun l v => by rw [put_map qs ha0 l v, HP.out])
         clear hsa hsb hva hvb hca hcb hx1 hx2 hy1 hy2 hs hsB HLA HLB HLAV HLBV HBT h0 h1 h2 h3 h4 h5 h6 hra hrb hraL hrbL hLa1 hLa2 hLb1 hLb2 hqn HSA HR2 HIA HIB
         go_upto_region 41 with fail
         refine wp_region_sq _ HS.out (by kernel_rfl) (by kernel_rfl) fun C cw _ hC hin => ?_
         have q1 : ∀ d, (cw d).cell? ⟨mb, 1, none⟩ = some (.int .i64 (a0 : Int)) := fun d => lk_m (lr_k (hC d)) 1 rfl
         have q3 : ∀ d, (cw d).cell? ⟨mb, 3, none⟩ = some (.int .i64 (b0 : Int)) := fun d => lk_m (lr_k (hC d)) 3 rfl
         have ql : ∀ d, (cw d).cell? ⟨lb, 0, none⟩ = some ((.slice (some ⟨g, off, none⟩) qs.length c1)) := fun d => lk_l (lr_k (hC d))
         have qra : ∀ d, (cw d).cell? ⟨g, off + a0, none⟩ = some (.slice aA s.length cA) := fun d => lk_row (lr_k (hC d)) HA0.out HVA.out
         have qrb : ∀ d, (cw d).cell? ⟨g, off + b0, none⟩ = some (.slice bA sb.length cB) := fun d => lk_row (lr_k (hC d)) HB0.out HVB.out
         clear hC hin
         repeat (go_big_quiet_step (first | fail))
         refine wpQuiet_nil ?_
         intro w4 hw4
         have Hw4 := Lib.hid hw4
         clear hw4 q1 q3 ql qra qrb 
         clear HS
         go_upto_region 42 with fail
         refine wp_region_sl [0,1,2,3,4,5,6,7,8,10,11,12,13,14,18,19,20,22,23,24,25,26] [9,15,16,17,21,27,28,29,30,31] [32,33] _ Hw4.out lr_sub2 (by kernel_rfl) (by kernel_rfl) (.cons rfl (.cons rfl .nil)) (fun C cw _ hC => ?_)
         have q1 : ∀ d, (cw d).cell? ⟨mb, 1, none⟩ = some (.int .i64 (a0 : Int)) := fun d => (hC d).cell 1 rfl 1 rfl
         have q2 : ∀ d, (cw d).cell? ⟨mb, 2, none⟩ = some (.int .i64 (p0 : Int)) := fun d => (hC d).cell 1 rfl 2 rfl
         have q3 : ∀ d, (cw d).cell? ⟨mb, 3, none⟩ = some (.int .i64 (b0 : Int)) := fun d => (hC d).cell 1 rfl 3 rfl
         have q4 : ∀ d, (cw d).cell? ⟨mb, 4, none⟩ = some (.int .i64 (j0 : Int)) := fun d => (hC d).cell 1 rfl 4 rfl
         have ql : ∀ d, (cw d).cell? ⟨lb, 0, none⟩ = some ((.slice (some ⟨g, off, none⟩) qs.length c1)) := fun d => (hC d).cell 0 rfl 0 rfl
         repeat (first | (refine pl_len _ _ _ _ _ (by kernel_rfl) rfl rfl rfl rfl (fun Kv hK => ?_); go_simp; refine hK _ ?_; clear hK Kv) | (refine pl_look rfl rfl rfl (fun Kv hK => ?_); go_big_quiet_op; refine hK _ ?_; clear hK Kv))
         clear q1 q2 q3 q4 ql hC Hw4
         refine pl_end ?_
         intro w6 hS
         refine pm_eff rfl rfl fun Kv hK => ?_
         go_simp
         refine eff_call (HP1.out w6 hS) (fun e w7 h => ?_)
         obtain ⟨v1, rfl, hq⟩ := h
         obtain ⟨v1A, v1c, rfl, _, _⟩ := (hq.row 0 rfl).slice_
         have hS := hS.join hq
         refine .inl ⟨_, rfl, hS.sub (.cons _ lr_sub2), hK _ _ ?_⟩
         clear hK Kv hq
         refine pm_eff rfl rfl fun Kv hK => ?_
         go_simp
         refine eff_call (HP2.out w7 hS.tail) (fun e w8 h => ?_)
         obtain ⟨v2, rfl, hq⟩ := h
         obtain ⟨v2A, v2c, rfl, _, _⟩ := (hq.row 0 rfl).slice_
         have hS := hS.join hq
         refine .inl ⟨_, rfl, hS.sub (.cons _ (.cons _ lr_sub2)), hK _ _ ?_⟩
         clear hK Kv hq
         refine pm_eff rfl rfl fun Kv hK => ?_
         go_simp
         have hS := hS.alloc #[.slice v1A x1.length v1c, .slice v2A y2.length v2c] 42
         obtain ⟨gb, hgb⟩ : ∃ b, w8.heap.size = b := ⟨_, rfl⟩
         obtain ⟨w9, hw9⟩ : ∃ x, w8.alloc (.cells #[.slice v1A x1.length v1c, .slice v2A y2.length v2c] 42) = x := ⟨_, rfl⟩
         rw [hgb, hw9] at hS
         rw [hgb, hw9]
         clear hgb hw9
         refine ⟨hS.sub (.cons _ (.cons _ (.cons _ lr_sub2))), hK _ _ ?_⟩
         clear hK Kv
         have HAL := all2_any gb 42 x1 y2 (.slice v1A x1.length v1c) (.slice v2A y2.length v2c) w9 (hS.blk 0 rfl) (hd_row hS 2 rfl) (hd_row hS 1 rfl) hxy.1
         refine pm_eff rfl rfl fun Kv hK => ?_
         go_simp
         refine eff_call (HAL) (fun e w10 h => ?_)
         obtain ⟨vl, rfl, hq⟩ := h
         obtain ⟨vlA, vlc, rfl, _, _⟩ := (hq.row 0 rfl).slice_
         have hS := hS.join hq
         refine .inl ⟨_, rfl, hS.sub (.cons _ (.cons _ (.cons _ (.cons _ lr_sub2)))), hK _ _ ?_⟩
         clear hK Kv hq
         clear HAL
         obtain ⟨lq, hlq⟩ : ∃ x, x1 ++ y2 = x := ⟨_, rfl⟩
         rw [hlq] at hS HOUT
         rw [hlq]
         have hS := hS.sub (.cons_cons _ (.cons _ (.cons _ (.cons _ (List.Sublist.refl _)))))
         refine pm_eff rfl rfl fun Kv hK => ?_
         go_simp
         refine eff_call (HP3.out w10 hS.tail) (fun e w11 h => ?_)
         obtain ⟨v3, rfl, hq⟩ := h
         obtain ⟨v3A, v3c, rfl, _, _⟩ := (hq.row 0 rfl).slice_
         have hS := hS.join hq
         refine .inl ⟨_, rfl, hS.sub (.cons _ (.cons _ lr_sub2)), hK _ _ ?_⟩
         clear hK Kv hq
         refine pm_eff rfl rfl fun Kv hK => ?_
         go_simp
         refine eff_call (HP4.out w11 hS.tail.tail) (fun e w12 h => ?_)
         obtain ⟨v4, rfl, hq⟩ := h
         obtain ⟨v4A, v4c, rfl, _, _⟩ := (hq.row 0 rfl).slice_
         have hS := hS.join hq
         refine .inl ⟨_, rfl, hS.sub (.cons _ (.cons _ (.cons _ lr_sub2))), hK _ _ ?_⟩
         clear hK Kv hq
         refine pm_eff rfl rfl fun Kv hK => ?_
         go_simp
         have hS := hS.alloc #[.slice v3A y1.length v3c, .slice v4A x2.length v4c] 42
         obtain ⟨gc, hgb⟩ : ∃ b, w12.heap.size = b := ⟨_, rfl⟩
         obtain ⟨w13, hw9⟩ : ∃ x, w12.alloc (.cells #[.slice v3A y1.length v3c, .slice v4A x2.length v4c] 42) = x := ⟨_, rfl⟩
         rw [hgb, hw9] at hS
         rw [hgb, hw9]
         clear hgb hw9
         refine ⟨hS.sub (.cons _ (.cons _ (.cons _ (.cons _ lr_sub2)))), hK _ _ ?_⟩
         clear hK Kv
         have HAL := all2_any gc 42 y1 x2 (.slice v3A y1.length v3c) (.slice v4A x2.length v4c) w13 (hS.blk 0 rfl) (hd_row hS 2 rfl) (hd_row hS 1 rfl) hxy.2
         refine pm_eff rfl rfl fun Kv hK => ?_
         go_simp
         refine eff_call (HAL) (fun e w14 h => ?_)
         obtain ⟨vm, rfl, hq⟩ := h
         obtain ⟨vmA, vmc, rfl, _, _⟩ := (hq.row 0 rfl).slice_
         have hS := hS.join hq
         refine .inl ⟨_, rfl, hS.sub (.cons _ (.cons _ (.cons _ (.cons _ (.cons _ lr_sub2))))), hK _ _ ?_⟩
         clear hK Kv hq
         clear HAL
         obtain ⟨lm, hlm⟩ : ∃ x, y1 ++ x2 = x := ⟨_, rfl⟩
         rw [hlm] at hS HOUT
         rw [hlm]
         have hS := hS.sub (.cons_cons _ (.cons _ (.cons _ (.cons _ (List.Sublist.refl _)))))
         clear hlq hlm HP1 HP2 HP3 HP4
         have hS := lr_bury2 hS
         refine pm_eff rfl rfl fun Kv hK => ?_
         go_simp
         refine ⟨hS.sub (.cons _ lr_sub2), hK _ _ ?_⟩
         clear hK Kv
         refine pm_eff rfl rfl fun Kv hK => ?_
         have z1 : w14.cell? ⟨g, off + a0, none⟩ = some (.slice aA s.length cA) := lk_row (lr_k hS.tail) HA0.out HVA.out
         have z2 : w14.frozen? ⟨g, off + a0, none⟩ = false := lk_free (lr_k hS.tail) (by omega) _
         go_simp
         have hS := lr_put hS HA0.out
         obtain ⟨w15, hw15⟩ : ∃ x, w14.setCell ⟨g, off + a0, none⟩ (.slice vlA lq.length vlc) = x := ⟨_, rfl⟩
         rw [hw15] at hS
         rw [hw15]
         clear hw15 z1 z2
         have HQ2 := Lib.hid (HPM.out lq (.slice vlA lq.length vlc))
         obtain ⟨q2, hq2⟩ : ∃ q, qs.set a0 ((⟨(qs[a0]'HA0.out).1.sat, lq⟩ : BikeV), .slice vlA lq.length vlc) = q := ⟨_, rfl⟩
         have hn2 : q2.length = qs.length := by rw [← hq2, List.length_set]
         rw [hq2] at hS HQ2
         refine ⟨by have h := hS.sub lr_sub2; rw [hn2] at h; exact h, hK _ _ ?_⟩
         clear hK Kv hq2 HPM HVA HVB
         refine pm_end ?_
         have hS := lr_raise hS
         have HB2 : Hid (b0 < q2.length) := Lib.hid (by rw [hn2]; exact hb0)
         obtain ⟨Z, hZ⟩ : ∃ z, (q2[b0]'HB2.out).2 = z := ⟨_, rfl⟩
         have z1 : w15.cell? ⟨g, off + b0, none⟩ = some Z := lk_row (lr_k hS.tail) HB2.out hZ
         have z2 : w15.frozen? ⟨g, off + b0, none⟩ = false := lk_free (lr_k hS.tail) (by have := HB2.out; omega) _
         have hS := lr_put hS HB2.out
         have HQ4 := Lib.hid (put_map q2 HB2.out lm (.slice vmA lm.length vmc))
         obtain ⟨q4, hq4⟩ : ∃ q, q2.set b0 ((⟨(q2[b0]'HB2.out).1.sat, lm⟩ : BikeV), .slice vmA lm.length vmc) = q := ⟨_, rfl⟩
         have hn4 : q4.length ≤ n + 1 := by rw [← hq4, List.length_set, hn2, HQL.out]; omega
         rw [hq4] at hS HQ4
         have HFIN : Hid (o = some (q4.map (·.1))) := Lib.hid (by rw [HOUT.out, HQ4.out, HQ2.out])
         have HS9 := Lib.hid hS
         clear hS hq4 hZ HB2 hn2 HQ2 HQ4 HOUT
         go_wp2_with fail
         go_meet
         exact ⟨_, q4, _, HFIN, hn4, HS9.out⟩
     by_cases k5 : kd = 5
     · subst k5
       clear k0 k4 k1 k2 k3
       as_aux_lemma =>
        have HR2 : Hid (baseM sats bs ⟨5, a, i, b, j⟩ = o) := Lib.hid (by rw [← HR.out]; rfl)
        have y0 : w2.cell? ⟨mb, 0, none⟩ = some (.int .i64 5) := lk_m (lr_k HS2.out) 0 rfl
        clear HR HLB HLBV
        go_upto_region 44 with fail
        clear y0
        go_cut [423] from 398 to 423 (fun v wx => v = .bool (decide (La < 0 ∨ i ≠ 0 ∨ j ≠ 0 ∨ b < 0 ∨ sats ≤ b)) ∧ SL w w.heap.size (LR nb lb mb n #[.int .i64 5, .int .i64 a, .int .i64 i, .int .i64 b, .int .i64 j] u8 (.slice A1 qs.length c1) qs []) wx)
        case first =>
         have HCL := Lib.hid (HLA.out _ HS2.out)
         have y1 : w2.cell? ⟨mb, 1, none⟩ = some (.int .i64 a) := lk_m (lr_k HS2.out) 1 rfl
         have HM : Hid (∀ wx, Below w2.heap.size w2 wx → SL w w.heap.size (LR nb lb mb n #[.int .i64 5, .int .i64 a, .int .i64 i, .int .i64 b, .int .i64 j] u8 (.slice A1 qs.length c1) qs []) wx) := Lib.hid (fun wx h => HS2.out.call h)
         have HMC : Hid (∀ wx, Below w2.heap.size w2 wx → wx.cell? ⟨mb, 2, none⟩ = some (.int .i64 i) ∧ wx.cell? ⟨mb, 3, none⟩ = some (.int .i64 b) ∧ wx.cell? ⟨mb, 4, none⟩ = some (.int .i64 j)) := Lib.hid (fun wx h => ⟨lk_m (lr_k (HM.out wx h)) 2 rfl, lk_m (lr_k (HM.out wx h)) 3 rfl, lk_m (lr_k (HM.out wx h)) 4 rfl⟩)
         clear HR2 HLA HLAV HSA HLP HP HN HQL HI0 HI1 HS2
         by_cases ck : La < 0
         · have HV : Hid (decide (La < 0 ∨ i ≠ 0 ∨ j ≠ 0 ∨ b < 0 ∨ sats ≤ b) = true) := Lib.hid (decide_eq_true (.inl ck))
           have t0 : decide (La < 0) = true := decide_eq_true ck
           clear ck
           as_aux_lemma =>
            go_wp2_with (go_at_call 38; (with_reducible refine HCL.out.mono ?_); rintro e w5 ⟨rfl, hb⟩; have HBE := Lib.hid hb; obtain ⟨y2, y3, y4⟩ := HMC.out w5 hb; clear hb)
            go_meet
            exact ⟨congrArg Value.bool HV.out.symm, HM.out _ HBE.out⟩
         have t0 : decide (La < 0) = false := decide_eq_false ck
         have n0 := ck
         clear ck
         by_cases ck : i ≠ 0
         · have HV : Hid (decide (La < 0 ∨ i ≠ 0 ∨ j ≠ 0 ∨ b < 0 ∨ sats ≤ b) = true) := Lib.hid (decide_eq_true (.inr (.inl ck)))
           have t1 : (i != 0) = true := by simpa using ck
           clear ck
           as_aux_lemma =>
            go_wp2_with (go_at_call 38; (with_reducible refine HCL.out.mono ?_); rintro e w5 ⟨rfl, hb⟩; have HBE := Lib.hid hb; obtain ⟨y2, y3, y4⟩ := HMC.out w5 hb; clear hb)
            go_meet
            exact ⟨congrArg Value.bool HV.out.symm, HM.out _ HBE.out⟩
         have t1 : (i != 0) = false := by simpa using ck
         have n1 := ck
         clear ck
         by_cases ck : j ≠ 0
         · have HV : Hid (decide (La < 0 ∨ i ≠ 0 ∨ j ≠ 0 ∨ b < 0 ∨ sats ≤ b) = true) := Lib.hid (decide_eq_true (.inr (.inr (.inl ck))))
           have t2 : (j != 0) = true := by simpa using ck
           clear ck
           as_aux_lemma =>
            go_wp2_with (go_at_call 38; (with_reducible refine HCL.out.mono ?_); rintro e w5 ⟨rfl, hb⟩; have HBE := Lib.hid hb; obtain ⟨y2, y3, y4⟩ := HMC.out w5 hb; clear hb)
            go_meet
            exact ⟨congrArg Value.bool HV.out.symm, HM.out _ HBE.out⟩
         have t2 : (j != 0) = false := by simpa using ck
         have n2 := ck
         clear ck
         by_cases ck : b < 0
         · have HV : Hid (decide (La < 0 ∨ i ≠ 0 ∨ j ≠ 0 ∨ b < 0 ∨ sats ≤ b) = true) := Lib.hid (decide_eq_true (.inr (.inr (.inr (.inl ck)))))
           have t3 : decide (b < 0) = true := decide_eq_true ck
           clear ck
           as_aux_lemma =>
            go_wp2_with (go_at_call 38; (with_reducible refine HCL.out.mono ?_); rintro e w5 ⟨rfl, hb⟩; have HBE := Lib.hid hb; obtain ⟨y2, y3, y4⟩ := HMC.out w5 hb; clear hb)
            go_meet
            exact ⟨congrArg Value.bool HV.out.symm, HM.out _ HBE.out⟩
         have t3 : decide (b < 0) = false := decide_eq_false ck
         have n3 := ck
         clear ck
         by_cases ck : sats ≤ b
         · have HV : Hid (decide (La < 0 ∨ i ≠ 0 ∨ j ≠ 0 ∨ b < 0 ∨ sats ≤ b) = true) := Lib.hid (decide_eq_true (.inr (.inr (.inr (.inr (ck))))))
           have t4 : decide (sats ≤ b) = true := decide_eq_true ck
           clear ck
           as_aux_lemma =>
            go_wp2_with (go_at_call 38; (with_reducible refine HCL.out.mono ?_); rintro e w5 ⟨rfl, hb⟩; have HBE := Lib.hid hb; obtain ⟨y2, y3, y4⟩ := HMC.out w5 hb; clear hb)
            go_meet
            exact ⟨congrArg Value.bool HV.out.symm, HM.out _ HBE.out⟩
         have t4 : decide (sats ≤ b) = false := decide_eq_false ck
         have n4 := ck
         clear ck
         have HV : Hid (decide (La < 0 ∨ i ≠ 0 ∨ j ≠ 0 ∨ b < 0 ∨ sats ≤ b) = false) := Lib.hid (decide_eq_false (by simp only [not_or]; exact ⟨n0, n1, n2, n3, n4⟩))
         clear n0 n1 n2 n3 n4
         as_aux_lemma =>
          go_wp2_with (go_at_call 38; (with_reducible refine HCL.out.mono ?_); rintro e w5 ⟨rfl, hb⟩; have HBE := Lib.hid hb; obtain ⟨y2, y3, y4⟩ := HMC.out w5 hb; clear hb)
          go_meet
          exact ⟨congrArg Value.bool HV.out.symm, HM.out _ HBE.out⟩
        case rest =>
        as_aux_lemma =>
         obtain ⟨rfl, hS⟩ := hcut
         have HS := Lib.hid hS
         clear hS
         obtain ⟨bt, hbt⟩ : ∃ t, decide (La < 0 ∨ i ≠ 0 ∨ j ≠ 0 ∨ b < 0 ∨ sats ≤ b) = t := ⟨_, rfl⟩
         have HBT := Lib.hid hbt
         rw [hbt]
         clear hbt
         cases bt with
         | true =>
           have HNO : Hid (o = none) := Lib.hid (by
            have hbad := of_decide_eq_true HBT.out
            rw [← HR2.out]
            unfold baseM
            rw [if_pos]
            rw [Bool.eq_false_iff]
            intro h
            unfold behindB at h
            simp only [Bool.and_eq_true, decide_eq_true_eq, HN.out] at h
            obtain ⟨⟨⟨⟨⟨g1, g2⟩, g3⟩, g4⟩, g5⟩, g6⟩ := h
            have e := HLAV.out
            rw [if_pos g1] at e
            omega)
           go_wp2_with fail
           go_ret2
           rw [HNO.out]
           exact ⟨rfl, HS.out.below⟩
         | false =>
         have hbad := of_decide_eq_false HBT.out
         simp only [not_or] at hbad
         obtain ⟨h1, h2, h3, h4, h5⟩ := hbad
         have hra : 0 ≤ a ∧ a < (n : Int) := by
          by_cases h : 0 ≤ a ∧ a < (n : Int)
          · exact h
          · have e := HLAV.out
            rw [if_neg h] at e
            omega
         obtain ⟨a0, rfl⟩ : ∃ z : Nat, a = z := ⟨a.toNat, by omega⟩
         have hqn := HQL.out
         have ha0 : a0 < qs.length := by omega
         have hsa := HSA.out a0 ha0
         obtain ⟨A8, c8, rfl, hc8⟩ := lr_sopen HS.out
         obtain ⟨gs, os, rfl⟩ := lr_saddr HS.out (by omega)
         have y1 : wc.cell? ⟨mb, 1, none⟩ = some (.int .i64 (a0 : Int)) := lk_m (lr_k HS.out) 1 rfl
         have y3 : wc.cell? ⟨mb, 3, none⟩ = some (.int .i64 b) := lk_m (lr_k HS.out) 3 rfl
         have z1 := lr_sat HS.out ha0
         have z2 : wc.frozen? ⟨gs, os + a0, none⟩ = false := lr_sfree HS.out (by omega) _
         have hS := lr_resat HS.out ha0 b
         obtain ⟨q4, hq4⟩ : ∃ q, qs.set a0 ((⟨b, (qs[a0]'ha0).1.stops⟩ : BikeV), (qs[a0]'ha0).2) = q := ⟨_, rfl⟩
         have hn4 : q4.length ≤ n + 1 := by rw [← hq4, List.length_set]; omega
         have HFIN : Hid (o = some (q4.map (·.1))) := Lib.hid (by
          have hok : (behindB bs (a0 : Int) 0 && decide (i = 0) && decide (j = 0) && decide (0 ≤ b) && decide (b < sats)) = true := by
           unfold behindB
           simp only [Bool.and_eq_true, decide_eq_true_eq, HN.out]
           omega
          rw [← HR2.out]
          unfold baseM
          rw [if_neg (by rw [hok]; simp), ← hq4, List.map_set, HP.out]
          simp only [Int.toNat_natCast, hsa])
         have hnq : q4.length = qs.length := by rw [← hq4, List.length_set]
         rw [hq4, show (.slice (some ⟨gs, os, none⟩) q4.length c8 : Value) = .slice (some ⟨gs, os, none⟩) qs.length c8 by rw [hnq]] at hS
         clear hnq
         obtain ⟨SA0, hSA0⟩ : ∃ x, (qs[a0]'ha0).1.sat = x := ⟨_, rfl⟩
         rw [hSA0] at z1
         have HS9 := Lib.hid hS
         clear hS hq4 hSA0 HS hsa h1 h2 h3 h4 h5 hra HBT HLA HLAV hLa1 hLa2 hLb1 hLb2 HR2 HSA
         go_wp2_with fail
         go_meet
         exact ⟨_, q4, _, HFIN, hn4, HS9.out⟩
     as_aux_lemma =>
      have kk0 : (kd == 0) = false := by rw [beq_eq_false_iff_ne]; exact k0
      have kk1 : (kd == 1) = false := by rw [beq_eq_false_iff_ne]; exact k1
      have kk2 : (kd == 2) = false := by rw [beq_eq_false_iff_ne]; exact k2
      have kk3 : (kd == 3) = false := by rw [beq_eq_false_iff_ne]; exact k3
      have kk4 : (kd == 4) = false := by rw [beq_eq_false_iff_ne]; exact k4
      have kk5 : (kd == 5) = false := by rw [beq_eq_false_iff_ne]; exact k5
      have HNO : Hid (o = none) := Lib.hid (by rw [← HR.out]; unfold rawM; simp [k0, k1, k2, k3, k4, k5])
      have HBE := Lib.hid HS2.out.below
      clear HR k0 k1 k2 k3 k4 k5 HS2 HLA HLB HLAV HLBV HSA
      go_wp2_with fail
      go_ret2
      rw [HNO.out]
      exact ⟨rfl, HBE.out⟩
    case rest =>
     as_aux_lemma =>
      obtain ⟨v, qs', R, HO2, hq9, hS⟩ := hcut
      obtain ⟨A2, c2, rfl, _⟩ := lr_open hS
      obtain ⟨A8, c8, rfl, _⟩ := lr_sopen hS
      obtain ⟨m, hm⟩ : ∃ m, qs'.length = m := ⟨_, rfl⟩
      have HM := Lib.hid hm
      have y0 : wc.cell? ⟨lb, 0, none⟩ = some (.slice A2 qs'.length c2) := lk_l (lr_k hS)
      rw [hm] at y0
      rw [hm] at hq9
      have HS := Lib.hid hS
      have HBK : Hid (∀ ps : List (BikeV × Value), ps = qs'.filter (fun q => keepB q.1) → ∀ wx A9 c9, SL w w.heap.size (.row 44 2 (.slice A9 ps.length c9) ps.length ((bikeN 44 3).heads ps) :: LR nb lb mb n #[.int .i64 kd, .int .i64 a, .int .i64 i, .int .i64 b, .int .i64 j] (.slice A8 qs'.length c8) (.slice A2 qs'.length c2) qs' R) wx → Bikes wx wx.heap.size A9 (ps.map (·.1))) := Lib.hid (fun ps hps wx A9 c9 h => bikes_heads (T := 44) (t := 3) (h.reads 0 rfl) (fun q hq => lr_heads h.tail q (by rw [hps] at hq; exact (List.mem_filter.1 hq).1)))
      have HFO : Hid (o.map (·.filter keepB) = some ((qs'.filter (fun q => keepB q.1)).map (·.1))) := Lib.hid (by rw [HO2.out]; show some ((qs'.map (·.1)).filter keepB) = _; rw [List.filter_map]; rfl)
      obtain ⟨i2, hi2, hx1, hxz, hxb⟩ := info_parts info_bikeE
      have HI2 := Lib.hid (And.intro hi2 (And.intro hx1 (And.intro hxz hxb)))
      clear hm hS HS2 HO2 hi2 hx1 hxz hxb
      rw [HM.out]
      go_upto_region 50 with fail
      clear y0
      go_loopw [432, 22] (fun iv v22 wr => ∃ (t : Nat) (ps : List (BikeV × Value)), t ≤ m ∧ iv = .int .i64 t ∧ Hid (ps = (qs'.take t).filter (fun q => keepB q.1)) ∧ ps.length ≤ t ∧ SL w w.heap.size (.row 44 2 v22 ps.length ((bikeN 44 3).heads ps) :: LR nb lb mb n #[.int .i64 kd, .int .i64 a, .int .i64 i, .int .i64 b, .int .i64 j] (.slice A8 qs'.length c8) (.slice A2 qs'.length c2) qs' R) wr) (fun iv _ _ => m - (intOf iv).toNat)
      case atStart => exact ⟨0, [], by omega, rfl, Lib.hid rfl, Nat.le_refl _, HS.out.nil _ _⟩
      case round =>
       clear HS
       obtain ⟨t, ps, ht, rfl, HPS, hpl, hS⟩ := hrel
       obtain ⟨A9, c9, rfl, _, _⟩ := (hS.row 0 rfl).slice_
       by_cases hlt : t < m
       · --AUX
         have hk : t < qs'.length := by rw [HM.out]; exact hlt
         obtain ⟨g2, o2, rfl⟩ := lr_addr hS.tail (by omega)
         obtain ⟨g8, o8, rfl⟩ := lr_saddr hS.tail (by omega)
         obtain ⟨a3, c3, hv, hr3⟩ := lr_val hS.tail hk
         have d0 := lk_row (lr_k hS.tail) hk hv
         have d1 := lr_sat hS.tail hk
         have HTK : Hid ((qs'.take (t + 1)).filter (fun q => keepB q.1) = ps ++ if keepB qs'[t].1 then [(qs'[t].1, .slice a3 qs'[t].1.stops.length c3)] else []) := Lib.hid (by
          rw [HPS.out, List.take_succ_eq_append_getElem hk, List.filter_append, List.filter_cons, ← hv]; rfl)
         obtain ⟨q, hq⟩ : ∃ q, qs'[t].1 = q := ⟨_, rfl⟩
         rw [hq] at d0 d1 HTK
         have HS := Lib.hid hS
         have HKB : Hid (keepB q = decide (0 < q.stops.length)) := Lib.hid rfl
         obtain ⟨P, hP⟩ : ∃ P, ps.length = P := ⟨_, rfl⟩
         have HPL := Lib.hid hP
         rw [hP] at hpl ⊢
         rw [hP] at HS
         obtain ⟨L, hL⟩ : ∃ L, q.stops.length = L := ⟨_, rfl⟩
         have HL := Lib.hid hL
         rw [hL] at d0 HTK HKB
         clear hS hv hq hP hr3 hk hL
         by_cases h0 : 0 < L
         · have t0 : ¬ (L : Int) ≤ 0 := by omega
           go_wp2_with (at_builtin; refine stopHere ?_)
           show wpList _ _ _ _ _ _
           refine wpList_append_sl rfl _ _ 27 rfl HS.out 0 i2 (.agg #[.int .i64 0, .slice none 0 0]) 2 32 Try.underlying27 HI2.out.1 HI2.out.2.1 HI2.out.2.2.1 HI2.out.2.2.2 rfl (by decide) _ _ 1 _ rfl rfl _ rfl rfl (by decide) rfl (by simp [Value.oneCell']) (by omega) (by decide) ?_
           intro v9 w9 hS9 hz9
           have HS9 := Lib.hid hS9
           have HT2 : Hid ((qs'.take (t + 1)).filter (fun q => keepB q.1) = ps ++ [(q, .slice a3 L c3)]) := Lib.hid (by rw [HTK.out, HKB.out, decide_eq_true h0, if_pos rfl])
           clear hS9 hz9 d0 d1
           go_wp2_with fail
           go_roundw
           case rel => exact ⟨t + 1, ps ++ [(q, .slice a3 L c3)], by omega, by go_num, Lib.hid HT2.out.symm, by rw [List.length_append, HPL.out]; simp; omega, by rw [List.length_append, heads_snoc', HPL.out]; exact HS9.out⟩
           case measure => simp [intOf]; omega
         · obtain rfl : L = 0 := by omega
           have HT2 : Hid ((qs'.take (t + 1)).filter (fun q => keepB q.1) = ps) := Lib.hid (by rw [HTK.out, HKB.out]; simp)
           go_wp2_with fail
           go_roundw
           case rel => exact ⟨t + 1, ps, by omega, by go_num, Lib.hid HT2.out.symm, by rw [HPL.out]; omega, by rw [HPL.out]; exact HS.out⟩
           case measure => simp [intOf]; omega
       · obtain rfl : t = m := by omega
         have HF : Hid (ps = qs'.filter (fun q => keepB q.1)) := Lib.hid (by rw [HPS.out, List.take_of_length_le (by rw [HM.out]; exact Nat.le_refl _)])
         have HBL := Lib.hid hS.below
         have HBI := Lib.hid (HBK.out ps HF.out wr A9 c9 hS)
         have HPL : Hid (ps.length = (ps.map (·.1)).length) := Lib.hid (by rw [List.length_map])
         rw [HPL.out]
         clear hS hlt HPS HBK hpl
         go_wp2_with fail
         go_ret2
         rw [HFO.out, ← HF.out]
         exact ⟨_, _, rfl, HBI.out, HBL.out⟩
end Go.Proofs.Ytpbhbmdghafkmaa
