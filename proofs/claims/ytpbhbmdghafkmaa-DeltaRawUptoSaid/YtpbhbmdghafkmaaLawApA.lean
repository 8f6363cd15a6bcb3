/- law23.Apply, part A. (printed by gen/lawapply.py) -/
import Derived.Test.YtpbhbmdghafkmaaLawApS
import Derived.Deep.CutBlock
import Derived.Deep.CutRange
import Derived.Deep.DeepCutAuto
namespace Go.Proofs.Ytpbhbmdghafkmaa
open Go.ChangeShapes Go.WideShapes Go.ChangeAt Go.RowKit
set_option linter.unusedVariables false
set_option linter.unusedSimpArgs false
set_option maxRecDepth 100000 in
set_option maxHeartbeats 8000000 in
theorem lapply_A (sats : Int) (A : Option Addr) (c : Nat) (bs : List BikeV) (kd a i b j : Int) (w : World) (hB : Bikes w w.heap.size A bs) (hl : bs.length ≤ 100000) (hs : (allStops bs).length ≤ 100000) (hk9 : kd = 0) :
 Calls Try.prog 16 #[.int .i64 sats, .slice A bs.length c, .agg #[.int .i64 kd, .int .i64 a, .int .i64 i, .int .i64 b, .int .i64 j]] w (LApplyPost w (applyM sats bs ⟨kd, a, i, b, j⟩)) := by
 have HB := Lib.hid hB
 have HK9 := Lib.hid hk9
 have HSL : Hid (∀ b ∈ bs, b.stops.length ≤ 100000) := Lib.hid (fun b hb => Nat.le_trans (stops_le_all hb) hs)
 obtain ⟨o, ho⟩ : ∃ o, rawM sats bs ⟨kd, a, i, b, j⟩ = o := ⟨_, rfl⟩
 have HO : Hid (applyM sats bs ⟨kd, a, i, b, j⟩ = o.map (·.filter keepB)) := Lib.hid (by unfold applyM; rw [ho])
 have HR := Lib.hid ho
 obtain ⟨n, hn⟩ : ∃ n, bs.length = n := ⟨_, rfl⟩
 have HN := Lib.hid hn
 obtain ⟨i0, hi0, hy1, hyz, hyb⟩ := info_parts info_intL
 have HI0 := Lib.hid (And.intro hi0 (And.intro hy1 (And.intro hyz hyb)))
 obtain ⟨i1, hi1, hz1, hzz, hzb⟩ := info_parts info_rowL
 have HI1 := Lib.hid (And.intro hi1 (And.intro hz1 (And.intro hzz hzb)))
 obtain ⟨mb, hmb⟩ : ∃ b, w.heap.size = b := ⟨_, rfl⟩
 obtain ⟨lb, hlb⟩ : ∃ b, w.heap.size + 1 = b := ⟨_, rfl⟩
 obtain ⟨w0, hw0⟩ : ∃ w0, (w.alloc (.cells #[.int .i64 kd, .int .i64 a, .int .i64 i, .int .i64 b, .int .i64 j] 33)).alloc (.cells #[.slice none 0 0] 81) = w0 := ⟨_, rfl⟩
 have HS0 : Hid (SL w w.heap.size (LRQ [] lb mb #[.int .i64 kd, .int .i64 a, .int .i64 i, .int .i64 b, .int .i64 j] (.slice none 0 0) (.slice none 0 0) [] []) w0) := Lib.hid (by
  have h := (((((SL.start (W := w) (Nat.le_refl w.heap.size)).alloc #[.int .i64 kd, .int .i64 a, .int .i64 i, .int .i64 b, .int .i64 j] 33).alloc #[.slice none 0 0] 81).nil 3 1).nil 42 1).pick (l' := [.blk lb #[.slice none 0 0] 81, .row 3 1 (.slice none 0 0) 0 [], .blk mb #[.int .i64 kd, .int .i64 a, .int .i64 i, .int .i64 b, .int .i64 j] 33, .row 42 1 (.slice none 0 0) 0 []]) [2, 1, 3, 0] (by decide) (by rw [← hlb, ← hmb]; simp)
  rw [hw0] at h
  exact h)
 have HW0 := Lib.hid (And.intro hmb (And.intro hlb hw0))
 rw [HO.out]
 rw [hn] at hl ⊢
 clear hk9 hB hs ho hn hi0 hy1 hyz hyb hi1 hz1 hzz hzb HO hmb hlb hw0
 go_enter Try.func16, Try.ntmps16
 go_upto_region 4 with fail
 rw [HW0.out.2.2, HW0.out.2.1, HW0.out.1]
 go_loopw [27, 8] (fun iv v8 wr => ∃ (k : Nat) (v : Value) (qs : List (BikeV × Value)), k ≤ n ∧ iv = .int .i64 k ∧ qs.length = k ∧ Hid (qs.map (·.1) = bs.take k) ∧ SL w w.heap.size (LRQ [] lb mb #[.int .i64 kd, .int .i64 a, .int .i64 i, .int .i64 b, .int .i64 j] v8 v qs []) wr) (fun iv _ _ => n - (intOf iv).toNat)
 case atStart => exact ⟨0, _, [], by omega, rfl, rfl, Lib.hid rfl, HS0.out⟩
 case round =>
  clear HS0 HW0
  obtain ⟨k, v, qs, hk, rfl, hql, HQ, hS⟩ := hrel
  by_cases hlt : k < n
  · have hkb : k < bs.length := by rw [HN.out]; exact hlt
    obtain ⟨b5, o5, a5, c5, hA, hb, d00, d01, hst⟩ := bikes_at HB.out hkb
    have d0 := (hS.below.cell (p := ⟨b5, o5 + k * 2, none⟩) hb).trans d00
    have d1 := (hS.below.cell (p := ⟨b5, o5 + k * 2 + 1, none⟩) hb).trans d01
    as_aux_lemma =>
     have HTL := Lib.hid (HSL.out _ (List.getElem_mem hkb))
     have HQ2 : Hid (bs.take (k + 1) = qs.map (·.1) ++ [bs[k]]) := Lib.hid (by rw [HQ.out, List.take_succ_eq_append_getElem hkb])
     obtain ⟨t, ht⟩ : ∃ t, bs[k] = t := ⟨_, rfl⟩
     rw [ht] at d0 d1 hst HQ2 HTL
     have HST : Hid (HdOk w t.stops (.slice a5 t.stops.length c5)) := Lib.hid (hd_ints hst)
     have hS2 := hS.alloc #[.int .i64 t.sat, .slice a5 t.stops.length c5] 44
     rw [lrq_open] at hS2
     have HS2 := Lib.hid hS2
     rw [hA]
     clear d00 d01 hst ht hS hA hS2
     go_upto_region 6 with fail
     obtain ⟨tb, htb⟩ : ∃ b, wr.heap.size = b := ⟨_, rfl⟩
     obtain ⟨w2, hw2⟩ : ∃ w2, wr.alloc (.cells #[.int .i64 t.sat, .slice a5 t.stops.length c5] 44) = w2 := ⟨_, rfl⟩
     obtain ⟨I, hI⟩ : ∃ I, innOf qs ++ [] = I := ⟨_, rfl⟩
     rw [htb, hw2, hI] at HS2
     rw [htb, hw2]
     rw [hql] at HS2
     have HI := Lib.hid hI
     have HQL := Lib.hid hql
     clear htb hw2 hI d0 d1 hb hql
     have HS2 : Hid (SL w w.heap.size ([.blk tb #[.int .i64 t.sat, .slice a5 t.stops.length c5] 44, .blk lb #[v] 81, .row 3 1 u8 k (satsOf qs), .blk mb #[.int .i64 kd, .int .i64 a, .int .i64 i, .int .i64 b, .int .i64 j] 33, .row 42 1 v k (qs.map (·.2))] ++ I) w2) := HS2
     refine wp_region_ph [0, 1, 2, 3, 4, 5, 6, 7, 8, 9, 10, 11] [12, 13] [.blk tb #[.int .i64 t.sat, .slice a5 t.stops.length c5] 44, .blk lb #[v] 81] HS2.out (.cons_cons _ (.cons_cons _ (List.nil_sublist _))) (by kernel_rfl) (by kernel_rfl) (.cons rfl (.cons rfl .nil)) (fun C cw _ hC w3 hS => ?_)
     have qt0 : ∀ d, (cw d).cell? ⟨tb, 0, none⟩ = some (.int .i64 t.sat) := fun d => (hC d).cell 0 rfl 0 rfl
     have qt1 : ∀ d, (cw d).cell? ⟨tb, 1, none⟩ = some (.slice a5 t.stops.length c5) := fun d => (hC d).cell 0 rfl 1 rfl
     have ql : ∀ d, (cw d).cell? ⟨lb, 0, none⟩ = some v := fun d => (hC d).cell 1 rfl 0 rfl
     refine ph_look 0 rfl (by kernel_rfl) rfl (by kernel_rfl) rfl rfl (fun Kv hK => ?_); go_big_quiet_op; refine hK _ ?_; clear hK Kv
     refine ph_look 1 rfl (by kernel_rfl) rfl (by kernel_rfl) rfl rfl (fun Kv hK => ?_); go_big_quiet_op; refine hK _ ?_; clear hK Kv
     refine ph_look 2 rfl (by kernel_rfl) rfl (by kernel_rfl) rfl rfl (fun Kv hK => ?_); go_big_quiet_op; refine hK _ ?_; clear hK Kv
     refine ph_look 5 rfl (by kernel_rfl) rfl (by kernel_rfl) rfl rfl (fun Kv hK => ?_); go_big_quiet_op; refine hK _ ?_; clear hK Kv
     refine ph_look 6 rfl (by kernel_rfl) rfl (by kernel_rfl) rfl rfl (fun Kv hK => ?_); go_big_quiet_op; refine hK _ ?_; clear hK Kv
     refine ph_look 7 rfl (by kernel_rfl) rfl (by kernel_rfl) rfl rfl (fun Kv hK => ?_); go_big_quiet_op; refine hK _ ?_; clear hK Kv
     clear qt0 qt1 ql hC
     have hS : SL w w.heap.size ([.blk tb #[.int .i64 t.sat, .slice a5 t.stops.length c5] 44, .blk lb #[v] 81, .row 3 1 u8 k (satsOf qs), .blk mb #[.int .i64 kd, .int .i64 a, .int .i64 i, .int .i64 b, .int .i64 j] 33, .row 42 1 v k (qs.map (·.2))] ++ I) w3 := hS
     refine ph_two 3 8 (by kernel_rfl) rfl rfl ?arm1A ?arm1B
     case arm1A =>
      as_aux_lemma =>
       refine ph_op rfl rfl (fun Kv hK => ?_)
       go_simp
       have hS := hS.alloc #[.int .i64 t.sat] 3
       obtain ⟨g1, hg1⟩ : ∃ b, w3.heap.size = b := ⟨_, rfl⟩
       obtain ⟨w3a, hw3a⟩ : ∃ x, w3.alloc (.cells #[.int .i64 t.sat] 3) = x := ⟨_, rfl⟩
       rw [hg1, hw3a] at hS
       rw [hg1, hw3a]
       clear hg1 hw3a
       have hS : SL w w.heap.size ([.blk g1 #[.int .i64 t.sat] 3, .blk tb #[.int .i64 t.sat, .slice a5 t.stops.length c5] 44, .blk lb #[v] 81, .row 3 1 u8 k (satsOf qs), .blk mb #[.int .i64 kd, .int .i64 a, .int .i64 i, .int .i64 b, .int .i64 j] 33, .row 42 1 v k (qs.map (·.2))] ++ I) w3a := hS
       have hk := hS.sub (l' := [.blk tb #[.int .i64 t.sat, .slice a5 t.stops.length c5] 44, .blk lb #[v] 81]) (.cons _ (.cons_cons _ (.cons_cons _ (List.nil_sublist _))))
       refine ⟨hk, hK _ _ ?_⟩
       clear hK Kv hk
       refine ph_two 4 8 (by kernel_rfl) rfl rfl ?arm2A ?arm2B
       case arm2A =>
        as_aux_lemma =>
         refine ph_op rfl rfl (fun Kv hK => ?_)
         obtain ⟨y8, w3b, hr, hS4⟩ := run_append_one (P := Try.prog) 42 42 hS 3 i0 (.int .i64 0) 8 Try.underlying42 HI0.out.1 HI0.out.2.1 HI0.out.2.2.1 HI0.out.2.2.2 rfl u8 k (satsOf qs) rfl g1 (.int .i64 t.sat) (hS.cell 0 rfl 0 rfl) rfl (by omega) (by decide)
         obtain ⟨y8A, y8c, rfl, _, _⟩ := (hS4.row 3 rfl).slice_
         have hS : SL w w.heap.size ([.blk g1 #[.int .i64 t.sat] 3, .blk tb #[.int .i64 t.sat, .slice a5 t.stops.length c5] 44, .blk lb #[v] 81, .row 3 1 (.slice y8A (k + 1) y8c) (k + 1) ((satsOf qs) ++ [.int .i64 t.sat]), .blk mb #[.int .i64 kd, .int .i64 a, .int .i64 i, .int .i64 b, .int .i64 j] 33, .row 42 1 v k (qs.map (·.2))] ++ I) w3b := hS4
         clear hS4
         have hk := hS.sub (l' := [.blk tb #[.int .i64 t.sat, .slice a5 t.stops.length c5] 44, .blk lb #[v] 81]) (.cons _ (.cons_cons _ (.cons_cons _ (List.nil_sublist _))))
         refine eff_append_run _ _ 42 rfl (u8) (.slice (some ⟨g1, 0, none⟩) 1 1) rfl rfl hr ?_
         refine ⟨hk, hK _ _ ?_⟩
         clear hK Kv hk hr
         refine ph_eff 8 rfl (by kernel_rfl) rfl rfl (fun Kv hK => ?_)
         go_simp
         have hS := hS.alloc #[.slice a5 t.stops.length c5] 42
         obtain ⟨g2, hg2⟩ : ∃ b, w3b.heap.size = b := ⟨_, rfl⟩
         obtain ⟨w3c, hw3c⟩ : ∃ x, w3b.alloc (.cells #[.slice a5 t.stops.length c5] 42) = x := ⟨_, rfl⟩
         rw [hg2, hw3c] at hS
         rw [hg2, hw3c]
         clear hg2 hw3c
         have hS : SL w w.heap.size ([.blk g2 #[.slice a5 t.stops.length c5] 42, .blk g1 #[.int .i64 t.sat] 3, .blk tb #[.int .i64 t.sat, .slice a5 t.stops.length c5] 44, .blk lb #[v] 81, .row 3 1 (.slice y8A (k + 1) y8c) (k + 1) ((satsOf qs) ++ [.int .i64 t.sat]), .blk mb #[.int .i64 kd, .int .i64 a, .int .i64 i, .int .i64 b, .int .i64 j] 33, .row 42 1 v k (qs.map (·.2))] ++ I) w3c := hS
         have hk := hS.sub (l' := [.blk tb #[.int .i64 t.sat, .slice a5 t.stops.length c5] 44, .blk lb #[v] 81]) (.cons _ (.cons _ (.cons_cons _ (.cons_cons _ (List.nil_sublist _)))))
         refine ⟨hk, hK _ _ ?_⟩
         clear hK Kv hk
         refine ph_eff 9 rfl (by kernel_rfl) rfl rfl (fun Kv hK => ?_)
         go_simp
         refine eff_call (all1_any g2 42 t.stops (.slice a5 t.stops.length c5) _ (hS.blk 0 rfl) (HST.out.to hS.below) (by have := HTL.out; omega)) (fun e w3d h => ?_)
         obtain ⟨yn, rfl, hq⟩ := h
         obtain ⟨ynA, ync, rfl, _, _⟩ := (hq.row 0 rfl).slice_
         have hS : SL w w.heap.size ([.row 3 1 (.slice ynA t.stops.length ync) t.stops.length (t.stops.map (.int .i64)), .blk g2 #[.slice a5 t.stops.length c5] 42, .blk g1 #[.int .i64 t.sat] 3, .blk tb #[.int .i64 t.sat, .slice a5 t.stops.length c5] 44, .blk lb #[v] 81, .row 3 1 (.slice y8A (k + 1) y8c) (k + 1) ((satsOf qs) ++ [.int .i64 t.sat]), .blk mb #[.int .i64 kd, .int .i64 a, .int .i64 i, .int .i64 b, .int .i64 j] 33, .row 42 1 v k (qs.map (·.2))] ++ I) w3d := hS.join hq
         have hk := hS.sub (l' := [.blk tb #[.int .i64 t.sat, .slice a5 t.stops.length c5] 44, .blk lb #[v] 81]) (.cons _ (.cons _ (.cons _ (.cons_cons _ (.cons_cons _ (List.nil_sublist _))))))
         refine .inl ⟨_, rfl, hk, hK _ _ ?_⟩
         clear hK Kv hk hq
         refine ph_eff 10 rfl (by kernel_rfl) rfl rfl (fun Kv hK => ?_)
         go_simp
         have hS := hS.alloc #[.slice ynA t.stops.length ync] 42
         obtain ⟨g3, hg3⟩ : ∃ b, w3d.heap.size = b := ⟨_, rfl⟩
         obtain ⟨w3e, hw3e⟩ : ∃ x, w3d.alloc (.cells #[.slice ynA t.stops.length ync] 42) = x := ⟨_, rfl⟩
         rw [hg3, hw3e] at hS
         rw [hg3, hw3e]
         clear hg3 hw3e
         have hS : SL w w.heap.size ([.blk g3 #[.slice ynA t.stops.length ync] 42, .row 3 1 (.slice ynA t.stops.length ync) t.stops.length (t.stops.map (.int .i64)), .blk g2 #[.slice a5 t.stops.length c5] 42, .blk g1 #[.int .i64 t.sat] 3, .blk tb #[.int .i64 t.sat, .slice a5 t.stops.length c5] 44, .blk lb #[v] 81, .row 3 1 (.slice y8A (k + 1) y8c) (k + 1) ((satsOf qs) ++ [.int .i64 t.sat]), .blk mb #[.int .i64 kd, .int .i64 a, .int .i64 i, .int .i64 b, .int .i64 j] 33, .row 42 1 v k (qs.map (·.2))] ++ I) w3e := hS
         have hk := hS.sub (l' := [.blk tb #[.int .i64 t.sat, .slice a5 t.stops.length c5] 44, .blk lb #[v] 81]) (.cons _ (.cons _ (.cons _ (.cons _ (.cons_cons _ (.cons_cons _ (List.nil_sublist _)))))))
         refine ⟨hk, hK _ _ ?_⟩
         clear hK Kv hk
         refine ph_eff 11 rfl (by kernel_rfl) rfl rfl (fun Kv hK => ?_)
         obtain ⟨yo, w3f, hr, hS4⟩ := run_append_one (P := Try.prog) 81 81 hS 8 i1 (.slice none 0 0) 24 Try.underlying81 HI1.out.1 HI1.out.2.1 HI1.out.2.2.1 HI1.out.2.2.2 rfl v k (qs.map (·.2)) rfl g3 (.slice ynA t.stops.length ync) (hS.cell 0 rfl 0 rfl) rfl (by omega) (by decide)
         obtain ⟨yoA, yoc, rfl, _, _⟩ := (hS4.row 8 rfl).slice_
         have hS : SL w w.heap.size ([.blk g3 #[.slice ynA t.stops.length ync] 42, .row 3 1 (.slice ynA t.stops.length ync) t.stops.length (t.stops.map (.int .i64)), .blk g2 #[.slice a5 t.stops.length c5] 42, .blk g1 #[.int .i64 t.sat] 3, .blk tb #[.int .i64 t.sat, .slice a5 t.stops.length c5] 44, .blk lb #[v] 81, .row 3 1 (.slice y8A (k + 1) y8c) (k + 1) ((satsOf qs) ++ [.int .i64 t.sat]), .blk mb #[.int .i64 kd, .int .i64 a, .int .i64 i, .int .i64 b, .int .i64 j] 33, .row 42 1 (.slice yoA (k + 1) yoc) (k + 1) ((qs.map (·.2)) ++ [.slice ynA t.stops.length ync])] ++ I) w3f := hS4
         clear hS4
         have hk := hS.sub (l' := [.blk tb #[.int .i64 t.sat, .slice a5 t.stops.length c5] 44, .blk lb #[v] 81]) (.cons _ (.cons _ (.cons _ (.cons _ (.cons_cons _ (.cons_cons _ (List.nil_sublist _)))))))
         refine eff_append_run _ _ 81 rfl (v) (.slice (some ⟨g3, 0, none⟩) 1 1) rfl rfl hr ?_
         refine ⟨hk, hK _ _ ?_⟩
         clear hK Kv hk hr
         refine ph_end (by kernel_rfl) ?_
         have hS := hS.sub (l' := [.row 3 1 (.slice ynA t.stops.length ync) t.stops.length (t.stops.map (.int .i64)), .blk lb #[v] 81, .row 3 1 (.slice y8A (k + 1) y8c) (k + 1) ((satsOf qs) ++ [.int .i64 t.sat]), .blk mb #[.int .i64 kd, .int .i64 a, .int .i64 i, .int .i64 b, .int .i64 j] 33, .row 42 1 (.slice yoA (k + 1) yoc) (k + 1) ((qs.map (·.2)) ++ [.slice ynA t.stops.length ync])] ++ I) (.cons _ (.cons_cons _ (.cons _ (.cons _ (.cons _ (.cons_cons _ (.cons_cons _ (.cons_cons _ (.cons_cons _ (List.Sublist.refl _))))))))))
         have z1 : w3f.cell? ⟨lb, 0, none⟩ = some v := hS.cell 1 rfl 0 rfl
         have z2 : w3f.frozen? ⟨lb, 0, none⟩ = false := hS.free 1 rfl 0
         rw [← HI.out, ← HQL.out] at hS
         have HS9 := Lib.hid (lrq_snoc (Q := []) hS)
         clear hS
         go_wp2_with fail
         go_roundw
         case rel => exact ⟨k + 1, _, qs ++ [(t, .slice ynA t.stops.length ync)], by omega, by go_num, by rw [List.length_append, HQL.out]; rfl, Lib.hid (by rw [HQ2.out, List.map_append]; rfl), by have h := HS9.out; rw [HQL.out] at h; exact h⟩
         case measure => simp [intOf]; omega
       case arm2B =>
        as_aux_lemma =>
         refine ph_op rfl rfl (fun Kv hK => ?_)
         go_simp
         have hS := hS.alloc #[.slice a5 t.stops.length c5] 42
         obtain ⟨g2, hg2⟩ : ∃ b, w3a.heap.size = b := ⟨_, rfl⟩
         obtain ⟨w3b, hw3b⟩ : ∃ x, w3a.alloc (.cells #[.slice a5 t.stops.length c5] 42) = x := ⟨_, rfl⟩
         rw [hg2, hw3b] at hS
         rw [hg2, hw3b]
         clear hg2 hw3b
         have hS : SL w w.heap.size ([.blk g2 #[.slice a5 t.stops.length c5] 42, .blk g1 #[.int .i64 t.sat] 3, .blk tb #[.int .i64 t.sat, .slice a5 t.stops.length c5] 44, .blk lb #[v] 81, .row 3 1 u8 k (satsOf qs), .blk mb #[.int .i64 kd, .int .i64 a, .int .i64 i, .int .i64 b, .int .i64 j] 33, .row 42 1 v k (qs.map (·.2))] ++ I) w3b := hS
         have hk := hS.sub (l' := [.blk tb #[.int .i64 t.sat, .slice a5 t.stops.length c5] 44, .blk lb #[v] 81]) (.cons _ (.cons _ (.cons_cons _ (.cons_cons _ (List.nil_sublist _)))))
         refine ⟨hk, hK _ _ ?_⟩
         clear hK Kv hk
         refine ph_eff 4 rfl (by kernel_rfl) rfl rfl (fun Kv hK => ?_)
         obtain ⟨y8, w3c, hr, hS4⟩ := run_append_one (P := Try.prog) 42 42 hS 4 i0 (.int .i64 0) 8 Try.underlying42 HI0.out.1 HI0.out.2.1 HI0.out.2.2.1 HI0.out.2.2.2 rfl u8 k (satsOf qs) rfl g1 (.int .i64 t.sat) (hS.cell 1 rfl 0 rfl) rfl (by omega) (by decide)
         obtain ⟨y8A, y8c, rfl, _, _⟩ := (hS4.row 4 rfl).slice_
         have hS : SL w w.heap.size ([.blk g2 #[.slice a5 t.stops.length c5] 42, .blk g1 #[.int .i64 t.sat] 3, .blk tb #[.int .i64 t.sat, .slice a5 t.stops.length c5] 44, .blk lb #[v] 81, .row 3 1 (.slice y8A (k + 1) y8c) (k + 1) ((satsOf qs) ++ [.int .i64 t.sat]), .blk mb #[.int .i64 kd, .int .i64 a, .int .i64 i, .int .i64 b, .int .i64 j] 33, .row 42 1 v k (qs.map (·.2))] ++ I) w3c := hS4
         clear hS4
         have hk := hS.sub (l' := [.blk tb #[.int .i64 t.sat, .slice a5 t.stops.length c5] 44, .blk lb #[v] 81]) (.cons _ (.cons _ (.cons_cons _ (.cons_cons _ (List.nil_sublist _)))))
         refine eff_append_run _ _ 42 rfl (u8) (.slice (some ⟨g1, 0, none⟩) 1 1) rfl rfl hr ?_
         refine ⟨hk, hK _ _ ?_⟩
         clear hK Kv hk hr
         refine ph_eff 9 rfl (by kernel_rfl) rfl rfl (fun Kv hK => ?_)
         go_simp
         refine eff_call (all1_any g2 42 t.stops (.slice a5 t.stops.length c5) _ (hS.blk 0 rfl) (HST.out.to hS.below) (by have := HTL.out; omega)) (fun e w3d h => ?_)
         obtain ⟨yn, rfl, hq⟩ := h
         obtain ⟨ynA, ync, rfl, _, _⟩ := (hq.row 0 rfl).slice_
         have hS : SL w w.heap.size ([.row 3 1 (.slice ynA t.stops.length ync) t.stops.length (t.stops.map (.int .i64)), .blk g2 #[.slice a5 t.stops.length c5] 42, .blk g1 #[.int .i64 t.sat] 3, .blk tb #[.int .i64 t.sat, .slice a5 t.stops.length c5] 44, .blk lb #[v] 81, .row 3 1 (.slice y8A (k + 1) y8c) (k + 1) ((satsOf qs) ++ [.int .i64 t.sat]), .blk mb #[.int .i64 kd, .int .i64 a, .int .i64 i, .int .i64 b, .int .i64 j] 33, .row 42 1 v k (qs.map (·.2))] ++ I) w3d := hS.join hq
         have hk := hS.sub (l' := [.blk tb #[.int .i64 t.sat, .slice a5 t.stops.length c5] 44, .blk lb #[v] 81]) (.cons _ (.cons _ (.cons _ (.cons_cons _ (.cons_cons _ (List.nil_sublist _))))))
         refine .inl ⟨_, rfl, hk, hK _ _ ?_⟩
         clear hK Kv hk hq
         refine ph_eff 10 rfl (by kernel_rfl) rfl rfl (fun Kv hK => ?_)
         go_simp
         have hS := hS.alloc #[.slice ynA t.stops.length ync] 42
         obtain ⟨g3, hg3⟩ : ∃ b, w3d.heap.size = b := ⟨_, rfl⟩
         obtain ⟨w3e, hw3e⟩ : ∃ x, w3d.alloc (.cells #[.slice ynA t.stops.length ync] 42) = x := ⟨_, rfl⟩
         rw [hg3, hw3e] at hS
         rw [hg3, hw3e]
         clear hg3 hw3e
         have hS : SL w w.heap.size ([.blk g3 #[.slice ynA t.stops.length ync] 42, .row 3 1 (.slice ynA t.stops.length ync) t.stops.length (t.stops.map (.int .i64)), .blk g2 #[.slice a5 t.stops.length c5] 42, .blk g1 #[.int .i64 t.sat] 3, .blk tb #[.int .i64 t.sat, .slice a5 t.stops.length c5] 44, .blk lb #[v] 81, .row 3 1 (.slice y8A (k + 1) y8c) (k + 1) ((satsOf qs) ++ [.int .i64 t.sat]), .blk mb #[.int .i64 kd, .int .i64 a, .int .i64 i, .int .i64 b, .int .i64 j] 33, .row 42 1 v k (qs.map (·.2))] ++ I) w3e := hS
         have hk := hS.sub (l' := [.blk tb #[.int .i64 t.sat, .slice a5 t.stops.length c5] 44, .blk lb #[v] 81]) (.cons _ (.cons _ (.cons _ (.cons _ (.cons_cons _ (.cons_cons _ (List.nil_sublist _)))))))
         refine ⟨hk, hK _ _ ?_⟩
         clear hK Kv hk
         refine ph_eff 11 rfl (by kernel_rfl) rfl rfl (fun Kv hK => ?_)
         obtain ⟨yo, w3f, hr, hS4⟩ := run_append_one (P := Try.prog) 81 81 hS 8 i1 (.slice none 0 0) 24 Try.underlying81 HI1.out.1 HI1.out.2.1 HI1.out.2.2.1 HI1.out.2.2.2 rfl v k (qs.map (·.2)) rfl g3 (.slice ynA t.stops.length ync) (hS.cell 0 rfl 0 rfl) rfl (by omega) (by decide)
         obtain ⟨yoA, yoc, rfl, _, _⟩ := (hS4.row 8 rfl).slice_
         have hS : SL w w.heap.size ([.blk g3 #[.slice ynA t.stops.length ync] 42, .row 3 1 (.slice ynA t.stops.length ync) t.stops.length (t.stops.map (.int .i64)), .blk g2 #[.slice a5 t.stops.length c5] 42, .blk g1 #[.int .i64 t.sat] 3, .blk tb #[.int .i64 t.sat, .slice a5 t.stops.length c5] 44, .blk lb #[v] 81, .row 3 1 (.slice y8A (k + 1) y8c) (k + 1) ((satsOf qs) ++ [.int .i64 t.sat]), .blk mb #[.int .i64 kd, .int .i64 a, .int .i64 i, .int .i64 b, .int .i64 j] 33, .row 42 1 (.slice yoA (k + 1) yoc) (k + 1) ((qs.map (·.2)) ++ [.slice ynA t.stops.length ync])] ++ I) w3f := hS4
         clear hS4
         have hk := hS.sub (l' := [.blk tb #[.int .i64 t.sat, .slice a5 t.stops.length c5] 44, .blk lb #[v] 81]) (.cons _ (.cons _ (.cons _ (.cons _ (.cons_cons _ (.cons_cons _ (List.nil_sublist _)))))))
         refine eff_append_run _ _ 81 rfl (v) (.slice (some ⟨g3, 0, none⟩) 1 1) rfl rfl hr ?_
         refine ⟨hk, hK _ _ ?_⟩
         clear hK Kv hk hr
         refine ph_end (by kernel_rfl) ?_
         have hS := hS.sub (l' := [.row 3 1 (.slice ynA t.stops.length ync) t.stops.length (t.stops.map (.int .i64)), .blk lb #[v] 81, .row 3 1 (.slice y8A (k + 1) y8c) (k + 1) ((satsOf qs) ++ [.int .i64 t.sat]), .blk mb #[.int .i64 kd, .int .i64 a, .int .i64 i, .int .i64 b, .int .i64 j] 33, .row 42 1 (.slice yoA (k + 1) yoc) (k + 1) ((qs.map (·.2)) ++ [.slice ynA t.stops.length ync])] ++ I) (.cons _ (.cons_cons _ (.cons _ (.cons _ (.cons _ (.cons_cons _ (.cons_cons _ (.cons_cons _ (.cons_cons _ (List.Sublist.refl _))))))))))
         have z1 : w3f.cell? ⟨lb, 0, none⟩ = some v := hS.cell 1 rfl 0 rfl
         have z2 : w3f.frozen? ⟨lb, 0, none⟩ = false := hS.free 1 rfl 0
         rw [← HI.out, ← HQL.out] at hS
         have HS9 := Lib.hid (lrq_snoc (Q := []) hS)
         clear hS
         go_wp2_with fail
         go_roundw
         case rel => exact ⟨k + 1, _, qs ++ [(t, .slice ynA t.stops.length ync)], by omega, by go_num, by rw [List.length_append, HQL.out]; rfl, Lib.hid (by rw [HQ2.out, List.map_append]; rfl), by have h := HS9.out; rw [HQL.out] at h; exact h⟩
         case measure => simp [intOf]; omega
     case arm1B =>
      as_aux_lemma =>
       refine ph_op rfl rfl (fun Kv hK => ?_)
       go_simp
       have hS := hS.alloc #[.slice a5 t.stops.length c5] 42
       obtain ⟨g2, hg2⟩ : ∃ b, w3.heap.size = b := ⟨_, rfl⟩
       obtain ⟨w3a, hw3a⟩ : ∃ x, w3.alloc (.cells #[.slice a5 t.stops.length c5] 42) = x := ⟨_, rfl⟩
       rw [hg2, hw3a] at hS
       rw [hg2, hw3a]
       clear hg2 hw3a
       have hS : SL w w.heap.size ([.blk g2 #[.slice a5 t.stops.length c5] 42, .blk tb #[.int .i64 t.sat, .slice a5 t.stops.length c5] 44, .blk lb #[v] 81, .row 3 1 u8 k (satsOf qs), .blk mb #[.int .i64 kd, .int .i64 a, .int .i64 i, .int .i64 b, .int .i64 j] 33, .row 42 1 v k (qs.map (·.2))] ++ I) w3a := hS
       have hk := hS.sub (l' := [.blk tb #[.int .i64 t.sat, .slice a5 t.stops.length c5] 44, .blk lb #[v] 81]) (.cons _ (.cons_cons _ (.cons_cons _ (List.nil_sublist _))))
       refine ⟨hk, hK _ _ ?_⟩
       clear hK Kv hk
       refine ph_eff 3 rfl (by kernel_rfl) rfl rfl (fun Kv hK => ?_)
       go_simp
       have hS := hS.alloc #[.int .i64 t.sat] 3
       obtain ⟨g1, hg1⟩ : ∃ b, w3a.heap.size = b := ⟨_, rfl⟩
       obtain ⟨w3b, hw3b⟩ : ∃ x, w3a.alloc (.cells #[.int .i64 t.sat] 3) = x := ⟨_, rfl⟩
       rw [hg1, hw3b] at hS
       rw [hg1, hw3b]
       clear hg1 hw3b
       have hS : SL w w.heap.size ([.blk g1 #[.int .i64 t.sat] 3, .blk g2 #[.slice a5 t.stops.length c5] 42, .blk tb #[.int .i64 t.sat, .slice a5 t.stops.length c5] 44, .blk lb #[v] 81, .row 3 1 u8 k (satsOf qs), .blk mb #[.int .i64 kd, .int .i64 a, .int .i64 i, .int .i64 b, .int .i64 j] 33, .row 42 1 v k (qs.map (·.2))] ++ I) w3b := hS
       have hk := hS.sub (l' := [.blk tb #[.int .i64 t.sat, .slice a5 t.stops.length c5] 44, .blk lb #[v] 81]) (.cons _ (.cons _ (.cons_cons _ (.cons_cons _ (List.nil_sublist _)))))
       refine ⟨hk, hK _ _ ?_⟩
       clear hK Kv hk
       refine ph_eff 4 rfl (by kernel_rfl) rfl rfl (fun Kv hK => ?_)
       obtain ⟨y8, w3c, hr, hS4⟩ := run_append_one (P := Try.prog) 42 42 hS 4 i0 (.int .i64 0) 8 Try.underlying42 HI0.out.1 HI0.out.2.1 HI0.out.2.2.1 HI0.out.2.2.2 rfl u8 k (satsOf qs) rfl g1 (.int .i64 t.sat) (hS.cell 0 rfl 0 rfl) rfl (by omega) (by decide)
       obtain ⟨y8A, y8c, rfl, _, _⟩ := (hS4.row 4 rfl).slice_
       have hS : SL w w.heap.size ([.blk g1 #[.int .i64 t.sat] 3, .blk g2 #[.slice a5 t.stops.length c5] 42, .blk tb #[.int .i64 t.sat, .slice a5 t.stops.length c5] 44, .blk lb #[v] 81, .row 3 1 (.slice y8A (k + 1) y8c) (k + 1) ((satsOf qs) ++ [.int .i64 t.sat]), .blk mb #[.int .i64 kd, .int .i64 a, .int .i64 i, .int .i64 b, .int .i64 j] 33, .row 42 1 v k (qs.map (·.2))] ++ I) w3c := hS4
       clear hS4
       have hk := hS.sub (l' := [.blk tb #[.int .i64 t.sat, .slice a5 t.stops.length c5] 44, .blk lb #[v] 81]) (.cons _ (.cons _ (.cons_cons _ (.cons_cons _ (List.nil_sublist _)))))
       refine eff_append_run _ _ 42 rfl (u8) (.slice (some ⟨g1, 0, none⟩) 1 1) rfl rfl hr ?_
       refine ⟨hk, hK _ _ ?_⟩
       clear hK Kv hk hr
       refine ph_eff 9 rfl (by kernel_rfl) rfl rfl (fun Kv hK => ?_)
       go_simp
       refine eff_call (all1_any g2 42 t.stops (.slice a5 t.stops.length c5) _ (hS.blk 1 rfl) (HST.out.to hS.below) (by have := HTL.out; omega)) (fun e w3d h => ?_)
       obtain ⟨yn, rfl, hq⟩ := h
       obtain ⟨ynA, ync, rfl, _, _⟩ := (hq.row 0 rfl).slice_
       have hS : SL w w.heap.size ([.row 3 1 (.slice ynA t.stops.length ync) t.stops.length (t.stops.map (.int .i64)), .blk g1 #[.int .i64 t.sat] 3, .blk g2 #[.slice a5 t.stops.length c5] 42, .blk tb #[.int .i64 t.sat, .slice a5 t.stops.length c5] 44, .blk lb #[v] 81, .row 3 1 (.slice y8A (k + 1) y8c) (k + 1) ((satsOf qs) ++ [.int .i64 t.sat]), .blk mb #[.int .i64 kd, .int .i64 a, .int .i64 i, .int .i64 b, .int .i64 j] 33, .row 42 1 v k (qs.map (·.2))] ++ I) w3d := hS.join hq
       have hk := hS.sub (l' := [.blk tb #[.int .i64 t.sat, .slice a5 t.stops.length c5] 44, .blk lb #[v] 81]) (.cons _ (.cons _ (.cons _ (.cons_cons _ (.cons_cons _ (List.nil_sublist _))))))
       refine .inl ⟨_, rfl, hk, hK _ _ ?_⟩
       clear hK Kv hk hq
       refine ph_eff 10 rfl (by kernel_rfl) rfl rfl (fun Kv hK => ?_)
       go_simp
       have hS := hS.alloc #[.slice ynA t.stops.length ync] 42
       obtain ⟨g3, hg3⟩ : ∃ b, w3d.heap.size = b := ⟨_, rfl⟩
       obtain ⟨w3e, hw3e⟩ : ∃ x, w3d.alloc (.cells #[.slice ynA t.stops.length ync] 42) = x := ⟨_, rfl⟩
       rw [hg3, hw3e] at hS
       rw [hg3, hw3e]
       clear hg3 hw3e
       have hS : SL w w.heap.size ([.blk g3 #[.slice ynA t.stops.length ync] 42, .row 3 1 (.slice ynA t.stops.length ync) t.stops.length (t.stops.map (.int .i64)), .blk g1 #[.int .i64 t.sat] 3, .blk g2 #[.slice a5 t.stops.length c5] 42, .blk tb #[.int .i64 t.sat, .slice a5 t.stops.length c5] 44, .blk lb #[v] 81, .row 3 1 (.slice y8A (k + 1) y8c) (k + 1) ((satsOf qs) ++ [.int .i64 t.sat]), .blk mb #[.int .i64 kd, .int .i64 a, .int .i64 i, .int .i64 b, .int .i64 j] 33, .row 42 1 v k (qs.map (·.2))] ++ I) w3e := hS
       have hk := hS.sub (l' := [.blk tb #[.int .i64 t.sat, .slice a5 t.stops.length c5] 44, .blk lb #[v] 81]) (.cons _ (.cons _ (.cons _ (.cons _ (.cons_cons _ (.cons_cons _ (List.nil_sublist _)))))))
       refine ⟨hk, hK _ _ ?_⟩
       clear hK Kv hk
       refine ph_eff 11 rfl (by kernel_rfl) rfl rfl (fun Kv hK => ?_)
       obtain ⟨yo, w3f, hr, hS4⟩ := run_append_one (P := Try.prog) 81 81 hS 8 i1 (.slice none 0 0) 24 Try.underlying81 HI1.out.1 HI1.out.2.1 HI1.out.2.2.1 HI1.out.2.2.2 rfl v k (qs.map (·.2)) rfl g3 (.slice ynA t.stops.length ync) (hS.cell 0 rfl 0 rfl) rfl (by omega) (by decide)
       obtain ⟨yoA, yoc, rfl, _, _⟩ := (hS4.row 8 rfl).slice_
       have hS : SL w w.heap.size ([.blk g3 #[.slice ynA t.stops.length ync] 42, .row 3 1 (.slice ynA t.stops.length ync) t.stops.length (t.stops.map (.int .i64)), .blk g1 #[.int .i64 t.sat] 3, .blk g2 #[.slice a5 t.stops.length c5] 42, .blk tb #[.int .i64 t.sat, .slice a5 t.stops.length c5] 44, .blk lb #[v] 81, .row 3 1 (.slice y8A (k + 1) y8c) (k + 1) ((satsOf qs) ++ [.int .i64 t.sat]), .blk mb #[.int .i64 kd, .int .i64 a, .int .i64 i, .int .i64 b, .int .i64 j] 33, .row 42 1 (.slice yoA (k + 1) yoc) (k + 1) ((qs.map (·.2)) ++ [.slice ynA t.stops.length ync])] ++ I) w3f := hS4
       clear hS4
       have hk := hS.sub (l' := [.blk tb #[.int .i64 t.sat, .slice a5 t.stops.length c5] 44, .blk lb #[v] 81]) (.cons _ (.cons _ (.cons _ (.cons _ (.cons_cons _ (.cons_cons _ (List.nil_sublist _)))))))
       refine eff_append_run _ _ 81 rfl (v) (.slice (some ⟨g3, 0, none⟩) 1 1) rfl rfl hr ?_
       refine ⟨hk, hK _ _ ?_⟩
       clear hK Kv hk hr
       refine ph_end (by kernel_rfl) ?_
       have hS := hS.sub (l' := [.row 3 1 (.slice ynA t.stops.length ync) t.stops.length (t.stops.map (.int .i64)), .blk lb #[v] 81, .row 3 1 (.slice y8A (k + 1) y8c) (k + 1) ((satsOf qs) ++ [.int .i64 t.sat]), .blk mb #[.int .i64 kd, .int .i64 a, .int .i64 i, .int .i64 b, .int .i64 j] 33, .row 42 1 (.slice yoA (k + 1) yoc) (k + 1) ((qs.map (·.2)) ++ [.slice ynA t.stops.length ync])] ++ I) (.cons _ (.cons_cons _ (.cons _ (.cons _ (.cons _ (.cons_cons _ (.cons_cons _ (.cons_cons _ (.cons_cons _ (List.Sublist.refl _))))))))))
       have z1 : w3f.cell? ⟨lb, 0, none⟩ = some v := hS.cell 1 rfl 0 rfl
       have z2 : w3f.frozen? ⟨lb, 0, none⟩ = false := hS.free 1 rfl 0
       rw [← HI.out, ← HQL.out] at hS
       have HS9 := Lib.hid (lrq_snoc (Q := []) hS)
       clear hS
       go_wp2_with fail
       go_roundw
       case rel => exact ⟨k + 1, _, qs ++ [(t, .slice ynA t.stops.length ync)], by omega, by go_num, by rw [List.length_append, HQL.out]; rfl, Lib.hid (by rw [HQ2.out, List.map_append]; rfl), by have h := HS9.out; rw [HQL.out] at h; exact h⟩
       case measure => simp [intOf]; omega
  · obtain rfl : n = k := by omega
    have HP : Hid (qs.map (·.1) = bs) := Lib.hid (by rw [HQ.out, List.take_of_length_le (by rw [HN.out]; exact Nat.le_refl _)])
    have HLP : Hid (∀ q ∈ qs, q.1.stops.length ≤ 100000) := Lib.hid (fun q hq => HSL.out q.1 (by rw [← HP.out]; exact List.mem_map_of_mem hq))
    have y0 : wr.cell? ⟨lb, 0, none⟩ = some v := hS.cell 0 rfl 0 rfl
    have hS2 : SL w w.heap.size (LR wr.heap.size lb mb n #[.int .i64 kd, .int .i64 a, .int .i64 i, .int .i64 b, .int .i64 j] u8 v qs []) (wr.alloc (.cells #[.int .i64 n] 3)) := hS.alloc #[.int .i64 n] 3
    obtain ⟨A1, c1, rfl, _⟩ := lr_open hS2
    have y1 : (wr.alloc (.cells #[.int .i64 n] 3)).cell? ⟨mb, 0, none⟩ = some (.int .i64 kd) := lk_m (lr_k hS2) 0 rfl
    have HS2 := Lib.hid hS2
    have HQL := Lib.hid hql
    rw [hql] at y0
    clear hS hS2 HQ hlt hql hk HB HSL
    go_upto_block 2 with fail
    obtain ⟨nb, hnb⟩ : ∃ b, wr.heap.size = b := ⟨_, rfl⟩
    obtain ⟨w2, hw2⟩ : ∃ w2, wr.alloc (.cells #[.int .i64 n] 3) = w2 := ⟨_, rfl⟩
    rw [hnb, hw2] at HS2
    rw [hw2]
    rw [hnb]
    clear hnb hw2 y0 y1
    go_cut [8] (fun v8 wx => ∃ (v : Value) (qs' : List (BikeV × Value)) (R : List Rs), Hid (o = some (qs'.map (·.1))) ∧ qs'.length ≤ n + 1 ∧ SL w w.heap.size (LR nb lb mb n #[.int .i64 kd, .int .i64 a, .int .i64 i, .int .i64 b, .int .i64 j] v8 v qs' R) wx)
    case first =>
     have HLG : Hid (∀ x wx, SL w w.heap.size (LR nb lb mb n #[.int .i64 kd, .int .i64 a, .int .i64 i, .int .i64 b, .int .i64 j] u8 (.slice A1 qs.length c1) qs []) wx → Calls Try.prog 38 #[.int .i64 x, .pointer (some ⟨nb, 0, none⟩), .pointer (some ⟨lb, 0, none⟩)] wx fun e w' => e = .returned (.int .i64 (longI (qs.map fun q => q.1.stops) x)) ∧ Below wx.heap.size wx w') := Lib.hid (fun x wx h => long_any nb lb n A1 c1 _ x wx (lk_n (lr_k h)) (by rw [lk_l (lr_k h), HQL.out]) (by rw [List.length_map, HQL.out]) (lr_mat h) (by omega))
     have HSA : Hid (∀ x : Nat, ∀ h : x < qs.length, stopsAt bs (x : Int) = qs[x].1.stops) := Lib.hid (fun x h => by
      have hx : x < bs.length := by rw [HN.out, ← HQL.out]; exact h
      rw [stopsAt_lt hx]
      have e := HP.out
      subst e
      simp)
     have HLV : Hid (∀ x, longI (qs.map fun q => q.1.stops) x = if 0 ≤ x ∧ x < (n : Int) then ((stopsAt bs x).length : Int) else -1) := Lib.hid (fun x => by
      unfold longI
      rw [List.length_map, HQL.out]
      by_cases h : 0 ≤ x ∧ x < (n : Int)
      · rw [if_pos h, if_pos h]
        obtain ⟨z, rfl⟩ : ∃ z : Nat, x = z := ⟨x.toNat, by omega⟩
        have hz : z < qs.length := by rw [HQL.out]; omega
        rw [HSA.out z hz]
        simp [hz]
      · rw [if_neg h, if_neg h])
     have HLR : Hid (∀ x, -1 ≤ longI (qs.map fun q => q.1.stops) x ∧ longI (qs.map fun q => q.1.stops) x ≤ 100000) := Lib.hid (fun x => by
      rw [HLV.out]
      by_cases h : 0 ≤ x ∧ x < (n : Int)
      · rw [if_pos h]
        obtain ⟨z, rfl⟩ : ∃ z : Nat, x = z := ⟨x.toNat, by omega⟩
        have hz : z < qs.length := by rw [HQL.out]; omega
        rw [HSA.out z hz]
        have := HLP.out _ (List.getElem_mem hz)
        omega
      · rw [if_neg h]; omega)
     have HLA := Lib.hid (HLG.out a)
     have HLB := Lib.hid (HLG.out b)
     have HLAV := Lib.hid (HLV.out a)
     have HLBV := Lib.hid (HLV.out b)
     have hLa := HLR.out a
     have hLb := HLR.out b
     obtain ⟨La, hla⟩ : ∃ x, longI (qs.map fun q => q.1.stops) a = x := ⟨_, rfl⟩
     obtain ⟨Lb, hlb⟩ : ∃ x, longI (qs.map fun q => q.1.stops) b = x := ⟨_, rfl⟩
     rw [hla] at HLA HLAV hLa
     rw [hlb] at HLB HLBV hLb
     clear hla hlb HLG HLV HLR
     obtain ⟨hLa1, hLa2⟩ := hLa
     obtain ⟨hLb1, hLb2⟩ := hLb
     have k0 := HK9.out
     subst k0
     as_aux_lemma =>
      have HR2 : Hid (elseM bs ⟨0, a, i, b, j⟩ 1 = o) := Lib.hid (by rw [← HR.out]; rfl)
      have y0 : w2.cell? ⟨mb, 0, none⟩ = some (.int .i64 0) := lk_m (lr_k HS2.out) 0 rfl
      clear HR HLB HLBV
      go_upto_region 15 with fail
      clear y0
      go_cut [85] from 56 to 85 (fun v wx => v = .bool (decide (i < 0 ∨ La - 1 < i ∨ b < 0 ∨ (n : Int) < b ∨ j < 0)) ∧ SL w w.heap.size (LR nb lb mb n #[.int .i64 0, .int .i64 a, .int .i64 i, .int .i64 b, .int .i64 j] u8 (.slice A1 qs.length c1) qs []) wx)
      case first =>
       by_cases ck : i < 0
       · have HV : Hid (decide (i < 0 ∨ La - 1 < i ∨ b < 0 ∨ (n : Int) < b ∨ j < 0) = true) := Lib.hid (decide_eq_true (.inl ck))
         have t0 : decide (i < 0) = true := decide_eq_true ck
         as_aux_lemma =>
          refine wp_region_sq _ HS2.out (by kernel_rfl) (by kernel_rfl) fun C cw _ hC hin => ?_
          have q1 : ∀ d, (cw d).cell? ⟨mb, 1, none⟩ = some (.int .i64 a) := fun d => lk_m (lr_k (hC d)) 1 rfl
          have q2 : ∀ d, (cw d).cell? ⟨mb, 2, none⟩ = some (.int .i64 i) := fun d => lk_m (lr_k (hC d)) 2 rfl
          have q3 : ∀ d, (cw d).cell? ⟨mb, 3, none⟩ = some (.int .i64 b) := fun d => lk_m (lr_k (hC d)) 3 rfl
          have q4 : ∀ d, (cw d).cell? ⟨mb, 4, none⟩ = some (.int .i64 j) := fun d => lk_m (lr_k (hC d)) 4 rfl
          have qn : ∀ d, (cw d).cell? ⟨nb, 0, none⟩ = some (.int .i64 n) := fun d => lk_n (lr_k (hC d))
          have hlc := Lib.hid (show ∀ d, Calls Try.prog 38 #[.int .i64 a, .pointer (some ⟨nb, 0, none⟩), .pointer (some ⟨lb, 0, none⟩)] (cw d) (fun e w' => e = .returned (.int .i64 La) ∧ ∃ c', w' = cw c') from fun d => sq_call (hC d) hin (HLA.out _ (hC d)))
          clear hC hin HR2 HLA HLAV HSA HLP HP HN HQL HI0 HI1 HS2
          repeat (go_big_quiet_step (first | (go_at_call 38; with_reducible exact hlc.out _)))
          refine wpQuiet_nil ?_
          intro w3 hw3
          have Hw3 := Lib.hid hw3
          clear hw3 q1 q2 q3 q4 qn hlc
          clear ck t0
          go_wp2_with fail
          go_meet
          exact ⟨congrArg Value.bool (by first | exact HV.out.symm | (rw [Bool.eq_iff_iff]; simp; done) | (rw [Bool.eq_iff_iff]; simp; omega)), Hw3.out⟩
       have t0 : decide (i < 0) = false := decide_eq_false ck
       have n0 := ck
       clear ck
       by_cases ck : La - 1 < i
       · have HV : Hid (decide (i < 0 ∨ La - 1 < i ∨ b < 0 ∨ (n : Int) < b ∨ j < 0) = true) := Lib.hid (decide_eq_true (.inr (.inl ck)))
         have t1 : decide (La - 1 < i) = true := decide_eq_true ck
         as_aux_lemma =>
          refine wp_region_sq _ HS2.out (by kernel_rfl) (by kernel_rfl) fun C cw _ hC hin => ?_
          have q1 : ∀ d, (cw d).cell? ⟨mb, 1, none⟩ = some (.int .i64 a) := fun d => lk_m (lr_k (hC d)) 1 rfl
          have q2 : ∀ d, (cw d).cell? ⟨mb, 2, none⟩ = some (.int .i64 i) := fun d => lk_m (lr_k (hC d)) 2 rfl
          have q3 : ∀ d, (cw d).cell? ⟨mb, 3, none⟩ = some (.int .i64 b) := fun d => lk_m (lr_k (hC d)) 3 rfl
          have q4 : ∀ d, (cw d).cell? ⟨mb, 4, none⟩ = some (.int .i64 j) := fun d => lk_m (lr_k (hC d)) 4 rfl
          have qn : ∀ d, (cw d).cell? ⟨nb, 0, none⟩ = some (.int .i64 n) := fun d => lk_n (lr_k (hC d))
          have hlc := Lib.hid (show ∀ d, Calls Try.prog 38 #[.int .i64 a, .pointer (some ⟨nb, 0, none⟩), .pointer (some ⟨lb, 0, none⟩)] (cw d) (fun e w' => e = .returned (.int .i64 La) ∧ ∃ c', w' = cw c') from fun d => sq_call (hC d) hin (HLA.out _ (hC d)))
          clear hC hin HR2 HLA HLAV HSA HLP HP HN HQL HI0 HI1 HS2
          repeat (go_big_quiet_step (first | (go_at_call 38; with_reducible exact hlc.out _)))
          refine wpQuiet_nil ?_
          intro w3 hw3
          have Hw3 := Lib.hid hw3
          clear hw3 q1 q2 q3 q4 qn hlc
          clear ck t1
          go_wp2_with fail
          go_meet
          exact ⟨congrArg Value.bool (by first | exact HV.out.symm | (rw [Bool.eq_iff_iff]; simp; done) | (rw [Bool.eq_iff_iff]; simp; omega)), Hw3.out⟩
       have t1 : decide (La - 1 < i) = false := decide_eq_false ck
       have n1 := ck
       clear ck
       by_cases ck : b < 0
       · have HV : Hid (decide (i < 0 ∨ La - 1 < i ∨ b < 0 ∨ (n : Int) < b ∨ j < 0) = true) := Lib.hid (decide_eq_true (.inr (.inr (.inl ck))))
         have t2 : decide (b < 0) = true := decide_eq_true ck
         as_aux_lemma =>
          refine wp_region_sq _ HS2.out (by kernel_rfl) (by kernel_rfl) fun C cw _ hC hin => ?_
          have q1 : ∀ d, (cw d).cell? ⟨mb, 1, none⟩ = some (.int .i64 a) := fun d => lk_m (lr_k (hC d)) 1 rfl
          have q2 : ∀ d, (cw d).cell? ⟨mb, 2, none⟩ = some (.int .i64 i) := fun d => lk_m (lr_k (hC d)) 2 rfl
          have q3 : ∀ d, (cw d).cell? ⟨mb, 3, none⟩ = some (.int .i64 b) := fun d => lk_m (lr_k (hC d)) 3 rfl
          have q4 : ∀ d, (cw d).cell? ⟨mb, 4, none⟩ = some (.int .i64 j) := fun d => lk_m (lr_k (hC d)) 4 rfl
          have qn : ∀ d, (cw d).cell? ⟨nb, 0, none⟩ = some (.int .i64 n) := fun d => lk_n (lr_k (hC d))
          have hlc := Lib.hid (show ∀ d, Calls Try.prog 38 #[.int .i64 a, .pointer (some ⟨nb, 0, none⟩), .pointer (some ⟨lb, 0, none⟩)] (cw d) (fun e w' => e = .returned (.int .i64 La) ∧ ∃ c', w' = cw c') from fun d => sq_call (hC d) hin (HLA.out _ (hC d)))
          clear hC hin HR2 HLA HLAV HSA HLP HP HN HQL HI0 HI1 HS2
          repeat (go_big_quiet_step (first | (go_at_call 38; with_reducible exact hlc.out _)))
          refine wpQuiet_nil ?_
          intro w3 hw3
          have Hw3 := Lib.hid hw3
          clear hw3 q1 q2 q3 q4 qn hlc
          clear ck t2
          go_wp2_with fail
          go_meet
          exact ⟨congrArg Value.bool (by first | exact HV.out.symm | (rw [Bool.eq_iff_iff]; simp; done) | (rw [Bool.eq_iff_iff]; simp; omega)), Hw3.out⟩
       have t2 : decide (b < 0) = false := decide_eq_false ck
       have n2 := ck
       clear ck
       by_cases ck : (n : Int) < b
       · have HV : Hid (decide (i < 0 ∨ La - 1 < i ∨ b < 0 ∨ (n : Int) < b ∨ j < 0) = true) := Lib.hid (decide_eq_true (.inr (.inr (.inr (.inl ck)))))
         have t3 : decide ((n : Int) < b) = true := decide_eq_true ck
         as_aux_lemma =>
          refine wp_region_sq _ HS2.out (by kernel_rfl) (by kernel_rfl) fun C cw _ hC hin => ?_
          have q1 : ∀ d, (cw d).cell? ⟨mb, 1, none⟩ = some (.int .i64 a) := fun d => lk_m (lr_k (hC d)) 1 rfl
          have q2 : ∀ d, (cw d).cell? ⟨mb, 2, none⟩ = some (.int .i64 i) := fun d => lk_m (lr_k (hC d)) 2 rfl
          have q3 : ∀ d, (cw d).cell? ⟨mb, 3, none⟩ = some (.int .i64 b) := fun d => lk_m (lr_k (hC d)) 3 rfl
          have q4 : ∀ d, (cw d).cell? ⟨mb, 4, none⟩ = some (.int .i64 j) := fun d => lk_m (lr_k (hC d)) 4 rfl
          have qn : ∀ d, (cw d).cell? ⟨nb, 0, none⟩ = some (.int .i64 n) := fun d => lk_n (lr_k (hC d))
          have hlc := Lib.hid (show ∀ d, Calls Try.prog 38 #[.int .i64 a, .pointer (some ⟨nb, 0, none⟩), .pointer (some ⟨lb, 0, none⟩)] (cw d) (fun e w' => e = .returned (.int .i64 La) ∧ ∃ c', w' = cw c') from fun d => sq_call (hC d) hin (HLA.out _ (hC d)))
          clear hC hin HR2 HLA HLAV HSA HLP HP HN HQL HI0 HI1 HS2
          repeat (go_big_quiet_step (first | (go_at_call 38; with_reducible exact hlc.out _)))
          refine wpQuiet_nil ?_
          intro w3 hw3
          have Hw3 := Lib.hid hw3
          clear hw3 q1 q2 q3 q4 qn hlc
          clear ck t3
          go_wp2_with fail
          go_meet
          exact ⟨congrArg Value.bool (by first | exact HV.out.symm | (rw [Bool.eq_iff_iff]; simp; done) | (rw [Bool.eq_iff_iff]; simp; omega)), Hw3.out⟩
       have t3 : decide ((n : Int) < b) = false := decide_eq_false ck
       have n3 := ck
       clear ck
       by_cases ck : j < 0
       · have HV : Hid (decide (i < 0 ∨ La - 1 < i ∨ b < 0 ∨ (n : Int) < b ∨ j < 0) = true) := Lib.hid (decide_eq_true (.inr (.inr (.inr (.inr (ck))))))
         have t4 : decide (j < 0) = true := decide_eq_true ck
         as_aux_lemma =>
          refine wp_region_sq _ HS2.out (by kernel_rfl) (by kernel_rfl) fun C cw _ hC hin => ?_
          have q1 : ∀ d, (cw d).cell? ⟨mb, 1, none⟩ = some (.int .i64 a) := fun d => lk_m (lr_k (hC d)) 1 rfl
          have q2 : ∀ d, (cw d).cell? ⟨mb, 2, none⟩ = some (.int .i64 i) := fun d => lk_m (lr_k (hC d)) 2 rfl
          have q3 : ∀ d, (cw d).cell? ⟨mb, 3, none⟩ = some (.int .i64 b) := fun d => lk_m (lr_k (hC d)) 3 rfl
          have q4 : ∀ d, (cw d).cell? ⟨mb, 4, none⟩ = some (.int .i64 j) := fun d => lk_m (lr_k (hC d)) 4 rfl
          have qn : ∀ d, (cw d).cell? ⟨nb, 0, none⟩ = some (.int .i64 n) := fun d => lk_n (lr_k (hC d))
          have hlc := Lib.hid (show ∀ d, Calls Try.prog 38 #[.int .i64 a, .pointer (some ⟨nb, 0, none⟩), .pointer (some ⟨lb, 0, none⟩)] (cw d) (fun e w' => e = .returned (.int .i64 La) ∧ ∃ c', w' = cw c') from fun d => sq_call (hC d) hin (HLA.out _ (hC d)))
          clear hC hin HR2 HLA HLAV HSA HLP HP HN HQL HI0 HI1 HS2
          repeat (go_big_quiet_step (first | (go_at_call 38; with_reducible exact hlc.out _)))
          refine wpQuiet_nil ?_
          intro w3 hw3
          have Hw3 := Lib.hid hw3
          clear hw3 q1 q2 q3 q4 qn hlc
          clear ck t4
          go_wp2_with fail
          go_meet
          exact ⟨congrArg Value.bool (by first | exact HV.out.symm | (rw [Bool.eq_iff_iff]; simp; done) | (rw [Bool.eq_iff_iff]; simp; omega)), Hw3.out⟩
       have t4 : decide (j < 0) = false := decide_eq_false ck
       have n4 := ck
       clear ck
       have HV : Hid (decide (i < 0 ∨ La - 1 < i ∨ b < 0 ∨ (n : Int) < b ∨ j < 0) = false) := Lib.hid (decide_eq_false (by simp only [not_or]; exact ⟨n0, n1, n2, n3, n4⟩))
       clear n0 n1 n2 n3 n4
       as_aux_lemma =>
        refine wp_region_sq _ HS2.out (by kernel_rfl) (by kernel_rfl) fun C cw _ hC hin => ?_
        have q1 : ∀ d, (cw d).cell? ⟨mb, 1, none⟩ = some (.int .i64 a) := fun d => lk_m (lr_k (hC d)) 1 rfl
        have q2 : ∀ d, (cw d).cell? ⟨mb, 2, none⟩ = some (.int .i64 i) := fun d => lk_m (lr_k (hC d)) 2 rfl
        have q3 : ∀ d, (cw d).cell? ⟨mb, 3, none⟩ = some (.int .i64 b) := fun d => lk_m (lr_k (hC d)) 3 rfl
        have q4 : ∀ d, (cw d).cell? ⟨mb, 4, none⟩ = some (.int .i64 j) := fun d => lk_m (lr_k (hC d)) 4 rfl
        have qn : ∀ d, (cw d).cell? ⟨nb, 0, none⟩ = some (.int .i64 n) := fun d => lk_n (lr_k (hC d))
        have hlc := Lib.hid (show ∀ d, Calls Try.prog 38 #[.int .i64 a, .pointer (some ⟨nb, 0, none⟩), .pointer (some ⟨lb, 0, none⟩)] (cw d) (fun e w' => e = .returned (.int .i64 La) ∧ ∃ c', w' = cw c') from fun d => sq_call (hC d) hin (HLA.out _ (hC d)))
        clear hC hin HR2 HLA HLAV HSA HLP HP HN HQL HI0 HI1 HS2
        repeat (go_big_quiet_step (first | (go_at_call 38; with_reducible exact hlc.out _)))
        refine wpQuiet_nil ?_
        intro w3 hw3
        have Hw3 := Lib.hid hw3
        clear hw3 q1 q2 q3 q4 qn hlc
        clear t0 t1 t2 t3 t4
        go_wp2_with fail
        go_meet
        exact ⟨congrArg Value.bool (by first | exact HV.out.symm | (rw [Bool.eq_iff_iff]; simp; done) | (rw [Bool.eq_iff_iff]; simp; omega)), Hw3.out⟩
      case rest =>
      as_aux_lemma =>
       obtain ⟨rfl, hS⟩ := hcut
       have HS := Lib.hid hS
       clear hS
       obtain ⟨bt, hbt⟩ : ∃ t, decide (i < 0 ∨ La - 1 < i ∨ b < 0 ∨ (n : Int) < b ∨ j < 0) = t := ⟨_, rfl⟩
       have HBT := Lib.hid hbt
       rw [hbt]
       clear hbt
       cases bt with
       | true =>
         have HNO : Hid (o = none) := Lib.hid (by
          have hbad := of_decide_eq_true HBT.out
          rw [← HR2.out]
          unfold elseM
          by_cases h1 : elseOk bs ⟨0, a, i, b, j⟩ 1 = false
          · rw [if_pos h1]
          · rw [if_neg h1, if_pos]
            have h2 : elseOk bs ⟨0, a, i, b, j⟩ 1 = true := by simpa using h1
            unfold elseOk atB at h2
            simp only [Bool.and_eq_true, decide_eq_true_eq, HN.out] at h2
            obtain ⟨⟨⟨g1, g2, g3⟩, g4⟩, g5⟩ := h2
            have e := HLAV.out
            rw [if_pos g1] at e
            have hj : j < 0 := by omega
            unfold behindB
            rw [decide_eq_false (p := 0 ≤ j ∧ _) (by omega), Bool.and_false])
         go_wp2_with fail
         go_ret2
         rw [HNO.out]
         exact ⟨rfl, HS.out.below⟩
       | false =>
       have hbad := of_decide_eq_false HBT.out
       simp only [not_or] at hbad
       obtain ⟨h1, h2, h3, h4, h5⟩ := hbad
       have hra : 0 ≤ a ∧ a < (n : Int) := by
        by_cases h : 0 ≤ a ∧ a < (n : Int)
        · exact h
        · have e := HLAV.out
          rw [if_neg h] at e
          omega
       have HLE : Hid (La = ((stopsAt bs a).length : Int)) := Lib.hid (by rw [HLAV.out, if_pos hra])
       obtain ⟨a0, rfl⟩ : ∃ z : Nat, a = z := ⟨a.toNat, by omega⟩
       obtain ⟨p0, rfl⟩ : ∃ z : Nat, i = z := ⟨i.toNat, by omega⟩
       obtain ⟨b0, rfl⟩ : ∃ z : Nat, b = z := ⟨b.toNat, by omega⟩
       obtain ⟨j0, rfl⟩ : ∃ z : Nat, j = z := ⟨j.toNat, by omega⟩
       have hqn := HQL.out
       have ha0 : a0 < qs.length := by omega
       have hb0 : b0 ≤ qs.length := by omega
       have hsa := HSA.out a0 ha0
       obtain ⟨g, off, rfl⟩ := lr_addr HS.out (by omega)
       obtain ⟨aA, cA, hva, hca⟩ := lr_val HS.out ha0
       have hsl := HLP.out _ (List.getElem_mem ha0)
       obtain ⟨s, hs⟩ : ∃ s, qs[a0].1.stops = s := ⟨_, rfl⟩
       rw [hs] at hsa hva hca hsl
       obtain rfl : La = (s.length : Int) := by rw [HLE.out, hsa]
       have hps : p0 + 1 ≤ s.length := by omega
       have HIA : Hid (∀ v8 R wx, SL w w.heap.size (LR nb lb mb n #[.int .i64 0, .int .i64 (a0 : Int), .int .i64 (p0 : Int), .int .i64 (b0 : Int), .int .i64 (j0 : Int)] v8 (.slice (some ⟨g, off, none⟩) qs.length c1) qs R) wx → IntsAt wx wx.heap.size aA s) := Lib.hid (fun v8 R wx h => by have := lr_ints h ha0 (by rw [hva]); rw [hs] at this; exact this)
       obtain ⟨gn, hgn⟩ : ∃ x, (s.drop p0).take 1 = x := ⟨_, rfl⟩
       have hgl : gn.length = 1 := by rw [← hgn, List.length_take, List.length_drop]; omega
       have HPT : Hid (∀ wx, SL w w.heap.size (LR nb lb mb n #[.int .i64 0, .int .i64 (a0 : Int), .int .i64 (p0 : Int), .int .i64 (b0 : Int), .int .i64 (j0 : Int)] u8 (.slice (some ⟨g, off, none⟩) qs.length c1) qs []) wx → Calls Try.prog 39 #[.slice aA s.length cA, .int .i64 (p0 : Int), .int .i64 ((p0 : Int) + 1)] wx (RowL wx gn)) := Lib.hid (fun wx h => by
        have h1 := part_any aA cA s p0 (p0 + 1) wx (HIA.out _ _ _ h) (by omega) hps (by omega)
        rw [Nat.add_sub_cancel_left, hgn, show ((p0 + 1 : Nat) : Int) = (p0 : Int) + 1 by omega] at h1
        exact h1)
       have HGN := Lib.hid (And.intro hgn hgl)
       have HVA := Lib.hid hva
       have HSS := Lib.hid hs
       have HSA0 := Lib.hid hsa
       have H00 : Hid (a0 < qs.length) := Lib.hid ha0
       have HOK : Hid (elseOk bs ⟨0, (a0 : Int), (p0 : Int), (b0 : Int), (j0 : Int)⟩ 1 = true) := Lib.hid (by
        unfold elseOk atB
        simp only [hsa, HN.out, Bool.and_eq_true, decide_eq_true_eq]
        omega)
       clear hgn hgl hs hsa hva hca HLA HLAV HLE HBT h1 h2 h3 h4 h5 hra hLa1 hLa2 hqn HSA
       go_upto_region 17 with fail
       refine wp_region_sl [0,1,2,3,4,5,6,7,8,9,10] [11] [12] _ HS.out lk_sub (by kernel_rfl) (by kernel_rfl) (.cons rfl .nil) (fun C cw _ hC => ?_)
       have q1 : ∀ d, (cw d).cell? ⟨mb, 1, none⟩ = some (.int .i64 (a0 : Int)) := fun d => lk_m (hC d) 1 rfl
       have q2 : ∀ d, (cw d).cell? ⟨mb, 2, none⟩ = some (.int .i64 (p0 : Int)) := fun d => lk_m (hC d) 2 rfl
       have q3 : ∀ d, (cw d).cell? ⟨mb, 3, none⟩ = some (.int .i64 (b0 : Int)) := fun d => lk_m (hC d) 3 rfl
       have q4 : ∀ d, (cw d).cell? ⟨mb, 4, none⟩ = some (.int .i64 (j0 : Int)) := fun d => lk_m (hC d) 4 rfl
       have ql : ∀ d, (cw d).cell? ⟨lb, 0, none⟩ = some ((.slice (some ⟨g, off, none⟩) qs.length c1)) := fun d => lk_l (hC d)
       have qr : ∀ d, (cw d).cell? ⟨g, off + a0, none⟩ = some (.slice aA s.length cA) := fun d => lk_row (hC d) H00.out HVA.out
       repeat (first | (refine pl_len _ _ _ _ _ (by kernel_rfl) rfl rfl rfl rfl (fun Kv hK => ?_); go_simp; refine hK _ ?_; clear hK Kv) | (refine pl_look rfl rfl rfl (fun Kv hK => ?_); go_big_quiet_op; refine hK _ ?_; clear hK Kv))
       clear q1 q2 q3 q4 ql qr hC HS
       refine pl_end ?_
       intro w4 hS
       refine pm_eff rfl rfl fun Kv hK => ?_
       go_simp
       refine eff_call (HPT.out w4 hS) (fun e w5 h => ?_)
       obtain ⟨vg, rfl, hq⟩ := h
       obtain ⟨gA, gc, rfl, _, _⟩ := (hq.row 0 rfl).slice_
       have hS := hS.join hq
       refine .inl ⟨_, rfl, hS.sub (.cons _ lk_sub), hK _ _ ?_⟩
       have HS : Hid (SL w w.heap.size (LR nb lb mb n #[.int .i64 0, .int .i64 (a0 : Int), .int .i64 (p0 : Int), .int .i64 (b0 : Int), .int .i64 (j0 : Int)] u8 (.slice (some ⟨g, off, none⟩) qs.length c1) qs [.row 3 1 (.slice gA gn.length gc) gn.length (gn.map (.int .i64))]) w5) := Lib.hid (lr_bury hS)
       clear hK Kv hS hq HPT
       refine pm_end ?_
       go_upto_region 18 with fail
       obtain ⟨x1, hx1⟩ : ∃ x, s.take p0 = x := ⟨_, rfl⟩
       obtain ⟨x2, hx2⟩ : ∃ x, s.drop (p0 + 1) = x := ⟨_, rfl⟩
       have hxl : x1.length + x2.length ≤ 100000 := by rw [← hx1, ← hx2, List.length_take, List.length_drop]; omega
       have HP1 : Hid (∀ wx, SL w w.heap.size (LR nb lb mb n #[.int .i64 0, .int .i64 (a0 : Int), .int .i64 (p0 : Int), .int .i64 (b0 : Int), .int .i64 (j0 : Int)] u8 (.slice (some ⟨g, off, none⟩) qs.length c1) qs [.row 3 1 (.slice gA gn.length gc) gn.length (gn.map (.int .i64))]) wx → Calls Try.prog 39 #[.slice aA s.length cA, .int .i64 (0), .int .i64 ((p0 : Int))] wx (RowL wx x1)) := Lib.hid (fun wx h => by
        have h1 := part_any aA cA s 0 p0 wx (HIA.out _ _ _ h) (by omega) (by omega) (by omega)
        rw [Nat.sub_zero, List.drop_zero, hx1] at h1
        exact h1)
       have HP2 : Hid (∀ wx, SL w w.heap.size (LR nb lb mb n #[.int .i64 0, .int .i64 (a0 : Int), .int .i64 (p0 : Int), .int .i64 (b0 : Int), .int .i64 (j0 : Int)] u8 (.slice (some ⟨g, off, none⟩) qs.length c1) qs [.row 3 1 (.slice gA gn.length gc) gn.length (gn.map (.int .i64))]) wx → Calls Try.prog 39 #[.slice aA s.length cA, .int .i64 ((p0 : Int) + 1), .int .i64 ((s.length : Int))] wx (RowL wx x2)) := Lib.hid (fun wx h => by
        have h1 := part_any aA cA s (p0 + 1) s.length wx (HIA.out _ _ _ h) (by omega) (by omega) (by omega)
        rw [List.take_of_length_le (by rw [List.length_drop]; exact Nat.le_refl _), hx2, show ((p0 + 1 : Nat) : Int) = (p0 : Int) + 1 by omega] at h1
        exact h1)
       have HXX := Lib.hid (And.intro hx1 hx2)
       clear hx1 hx2
       refine wp_region_sl [0,1,2,3,4,5,6,7,8,9,11,12,13,14,15,16,17,18,19,20,21,22,23,24,25] [10,26,27,28] [29,30] _ HS.out lk_sub (by kernel_rfl) (by kernel_rfl) (.cons rfl (.cons rfl .nil)) (fun C cw _ hC => ?_)
       have q1 : ∀ d, (cw d).cell? ⟨mb, 1, none⟩ = some (.int .i64 (a0 : Int)) := fun d => lk_m (hC d) 1 rfl
       have q2 : ∀ d, (cw d).cell? ⟨mb, 2, none⟩ = some (.int .i64 (p0 : Int)) := fun d => lk_m (hC d) 2 rfl
       have q3 : ∀ d, (cw d).cell? ⟨mb, 3, none⟩ = some (.int .i64 (b0 : Int)) := fun d => lk_m (hC d) 3 rfl
       have q4 : ∀ d, (cw d).cell? ⟨mb, 4, none⟩ = some (.int .i64 (j0 : Int)) := fun d => lk_m (hC d) 4 rfl
       have ql : ∀ d, (cw d).cell? ⟨lb, 0, none⟩ = some ((.slice (some ⟨g, off, none⟩) qs.length c1)) := fun d => lk_l (hC d)
       have qr : ∀ d, (cw d).cell? ⟨g, off + a0, none⟩ = some (.slice aA s.length cA) := fun d => lk_row (hC d) H00.out HVA.out
       repeat (first | (refine pl_len _ _ _ _ _ (by kernel_rfl) rfl rfl rfl rfl (fun Kv hK => ?_); go_simp; refine hK _ ?_; clear hK Kv) | (refine pl_look rfl rfl rfl (fun Kv hK => ?_); go_big_quiet_op; refine hK _ ?_; clear hK Kv))
       clear q1 q2 q3 q4 ql qr hC HS
       refine pl_end ?_
       intro w6 hS
       refine pm_eff rfl rfl fun Kv hK => ?_
       go_simp
       refine eff_call (HP1.out w6 hS) (fun e w7 h => ?_)
       obtain ⟨v1, rfl, hq⟩ := h
       obtain ⟨v1A, v1c, rfl, _, _⟩ := (hq.row 0 rfl).slice_
       have hS := hS.join hq
       refine .inl ⟨_, rfl, hS.sub (.cons _ lk_sub), hK _ _ ?_⟩
       clear hK Kv hq
       refine pm_eff rfl rfl fun Kv hK => ?_
       go_simp
       refine eff_call (HP2.out w7 hS.tail) (fun e w8 h => ?_)
       obtain ⟨v2, rfl, hq⟩ := h
       obtain ⟨v2A, v2c, rfl, _, _⟩ := (hq.row 0 rfl).slice_
       have hS := hS.join hq
       refine .inl ⟨_, rfl, hS.sub (.cons _ (.cons _ lk_sub)), hK _ _ ?_⟩
       clear hK Kv hq
       refine pm_eff rfl rfl fun Kv hK => ?_
       go_simp
       have hS := hS.alloc #[.slice v1A x1.length v1c, .slice v2A x2.length v2c] 42
       obtain ⟨gb, hgb⟩ : ∃ b, w8.heap.size = b := ⟨_, rfl⟩
       obtain ⟨w9, hw9⟩ : ∃ x, w8.alloc (.cells #[.slice v1A x1.length v1c, .slice v2A x2.length v2c] 42) = x := ⟨_, rfl⟩
       rw [hgb, hw9] at hS
       rw [hgb, hw9]
       clear hgb hw9
       refine ⟨hS.sub (.cons _ (.cons _ (.cons _ lk_sub))), hK _ _ ?_⟩
       clear hK Kv
       have HAL := all2_any gb 42 x1 x2 (.slice v1A x1.length v1c) (.slice v2A x2.length v2c) w9 (hS.blk 0 rfl) (hd_row hS 2 rfl) (hd_row hS 1 rfl) (by omega)
       refine pm_eff rfl rfl fun Kv hK => ?_
       go_simp
       refine eff_call (HAL) (fun e w10 h => ?_)
       obtain ⟨vl, rfl, hq⟩ := h
       obtain ⟨vlA, vlc, rfl, _, _⟩ := (hq.row 0 rfl).slice_
       have hS := hS.join hq
       refine .inl ⟨_, rfl, hS.sub (.cons _ (.cons _ (.cons _ (.cons _ lk_sub)))), hK _ _ ?_⟩
       clear hK Kv hq
       clear HAL
       refine pm_end ?_
       obtain ⟨lq, hlq⟩ : ∃ x, x1 ++ x2 = x := ⟨_, rfl⟩
       rw [hlq] at hS
       rw [hlq]
       have hS := hS.sub (.cons_cons _ (.cons _ (.cons _ (.cons _ (List.Sublist.refl _)))))
       have z1 : w10.cell? ⟨g, off + a0, none⟩ = some (.slice aA s.length cA) := lk_row (lr_k hS.tail) H00.out HVA.out
       have z2 : w10.frozen? ⟨g, off + a0, none⟩ = false := lk_free (lr_k hS.tail) (by omega) _
       have hS := lr_put hS H00.out
       have HLQ : Hid (lq = s.take p0 ++ s.drop (p0 + 1)) := Lib.hid (by rw [← hlq, HXX.out.1, HXX.out.2])
       have HQ2 := Lib.hid (put_map qs H00.out lq (.slice vlA lq.length vlc))
       obtain ⟨q2, hq2⟩ : ∃ q, qs.set a0 ((⟨(qs[a0]'H00.out).1.sat, lq⟩ : BikeV), .slice vlA lq.length vlc) = q := ⟨_, rfl⟩
       have hn2 : q2.length = qs.length := by rw [← hq2, List.length_set]
       have HL2 : Hid (∀ q ∈ q2, q.1.stops.length ≤ 100000) := Lib.hid (fun q hq => by
        rw [← hq2] at hq
        rcases List.mem_or_eq_of_mem_set hq with h | rfl
        · exact HLP.out q h
        · show lq.length ≤ 100000
          rw [← hlq, List.length_append]; omega)
       rw [hq2] at hS HQ2
       have HS := Lib.hid hS
       clear hS hlq hq2 HP1 HP2 HXX HIA hxl hps
       go_upto_region 19 with fail
       clear z1 z2
       generalize (w10.setCell ⟨g, off + a0, none⟩ (.slice vlA lq.length vlc)) = w11 at *
       have y3 : w11.cell? ⟨mb, 3, none⟩ = some (.int .i64 (b0 : Int)) := lk_m (lr_k HS.out) 3 rfl
       have yn : w11.cell? ⟨nb, 0, none⟩ = some (.int .i64 (n : Int)) := lk_n (lr_k HS.out)
       have ha2 : a0 < q2.length := by omega
       have hqn := HQL.out
       have HSAT : Hid ((q2[a0]'ha2).1.sat = satAt bs (a0 : Int)) := Lib.hid (by
        have h1 : (q2[a0]'ha2).1 = (q2.map (·.1))[a0]'(by simpa using ha2) := by simp
        rw [h1]
        simp only [HQ2.out, HP.out]
        unfold putStops
        simp)
       have HLS : Hid (q2.map (·.1) = putStops bs (a0 : Int) lq) := Lib.hid (by rw [HQ2.out, HP.out])
       have HAB : Hid (a0 < bs.length ∧ stopsAt bs (a0 : Int) = s) := Lib.hid ⟨by rw [HN.out]; omega, HSA0.out⟩
       go_cut [131] from 86 to 131 (fun v wx => v = .bool (decide (b0 = n)) ∧ wx = w11)
       case first =>
        go_wp2_with fail
        go_meet
        exact ⟨congrArg Value.bool (by rw [Bool.eq_iff_iff]; simp; try omega), rfl⟩
       case rest =>
       obtain ⟨hv, hw⟩ := hcut
       subst hv
       obtain rfl : w11 = wc := hw.symm
       obtain ⟨tb, htb⟩ : ∃ t, decide (b0 = n) = t := ⟨_, rfl⟩
       have HTB := Lib.hid htb
       rw [htb]
       clear y3 yn HQ2 htb
       go_upto_if 131 with fail
       go_cut [8] from 132 to 142 (fun v8 wx => ∃ (q3 : List (BikeV × Value)) (v : Value), Hid (q3.map (·.1) = less bs ⟨0, (a0 : Int), (p0 : Int), (b0 : Int), (j0 : Int)⟩ 1) ∧ b0 < q3.length ∧ q3.length ≤ n + 1 ∧ Hid (∀ q ∈ q3, q.1.stops.length ≤ 100000) ∧ SL w w.heap.size (LR nb lb mb n #[.int .i64 0, .int .i64 (a0 : Int), .int .i64 (p0 : Int), .int .i64 (b0 : Int), .int .i64 (j0 : Int)] v8 v q3 [.row 3 1 (.slice gA gn.length gc) gn.length (gn.map (.int .i64))]) wx)
       case first =>
        cases tb with
        | false =>
          as_aux_lemma =>
           have hbn := of_decide_eq_false HTB.out
           have HLE : Hid (q2.map (·.1) = less bs ⟨0, (a0 : Int), (p0 : Int), (b0 : Int), (j0 : Int)⟩ 1) := Lib.hid (by
            rw [HLS.out, HLQ.out]
            unfold less more
            simp only [HAB.out.2, HN.out, Int.toNat_natCast]
            rw [if_neg (by omega)])
           have hb3 : b0 < q2.length := by omega
           have hb4 : q2.length ≤ n + 1 := by omega
           clear hbn
           go_wp2_with fail
           go_meet
           exact ⟨q2, _, HLE, hb3, hb4, HL2, HS.out⟩
        | true =>
          as_aux_lemma =>
           have hbn := of_decide_eq_true HTB.out
           obtain ⟨A8, c8, rfl, hc8⟩ := lr_sopen HS.out
           obtain ⟨gs, os, rfl⟩ := lr_saddr HS.out (by omega)
           have HSS2 : Hid ((satsOf q2)[a0]? = some (.int .i64 (q2[a0]'ha2).1.sat)) := Lib.hid (by unfold satsOf; simp [ha2])
           obtain ⟨sat, hsat⟩ : ∃ x, (q2[a0]'ha2).1.sat = x := ⟨_, rfl⟩
           rw [hsat] at HSAT HSS2
           have hS := HS.out
           rw [lr_q, lrq_open] at hS
           obtain ⟨m2, hm2⟩ : ∃ x, q2.length = x := ⟨_, rfl⟩
           obtain ⟨X, hX⟩ : ∃ X, innOf q2 ++ [.row 3 1 (.slice gA gn.length gc) gn.length (gn.map (.int .i64))] = X := ⟨_, rfl⟩
           rw [hm2, hX] at hS
           rw [hm2]
           have HX := Lib.hid hX
           have HM2 := Lib.hid hm2
           have HLE : Hid (∀ v, ((q2 ++ [((⟨sat, []⟩ : BikeV), v)] : List (BikeV × Value)).map (·.1)) = less bs ⟨0, (a0 : Int), (p0 : Int), (b0 : Int), (j0 : Int)⟩ 1) := Lib.hid (fun v => by
            rw [List.map_append, HLS.out, HLQ.out]
            unfold less more
            simp only [HAB.out.2, HN.out, Int.toNat_natCast]
            rw [if_pos (by omega), HSAT.out]
            have h1 := HAB.out.1
            have e1 : satAt (bs ++ [⟨satAt bs (a0 : Int), []⟩]) (a0 : Int) = satAt bs (a0 : Int) := by rw [satAt_lt (k := a0) (by simp; omega), satAt_lt h1, List.getElem_append_left h1]
            unfold putStops
            rw [e1, Int.toNat_natCast, List.set_append_left _ _ h1]
            rfl)
           have ham : a0 < m2 := by omega
           have hmn : m2 ≤ n := by omega
           have hb5 : b0 < m2 + 1 := by omega
           clear hsat hX hm2 ha2 hn2 HS hbn
           have HS : Hid (SL w w.heap.size ([.blk nb #[.int .i64 n] 3, .blk lb #[.slice (some ⟨g, off, none⟩) m2 c1] 81, .row 3 1 (.slice (some ⟨gs, os, none⟩) m2 c8) m2 (satsOf q2), .blk mb #[.int .i64 0, .int .i64 (a0 : Int), .int .i64 (p0 : Int), .int .i64 (b0 : Int), .int .i64 (j0 : Int)] 33, .row 42 1 (.slice (some ⟨g, off, none⟩) m2 c1) m2 (q2.map (·.2))] ++ X) w11) := Lib.hid hS
           clear hS
           go_upto_region 20 with fail
           refine wp_region_ph [0, 1, 2, 3, 4, 5, 6, 7, 8, 9, 10] [11, 12] [.blk lb #[.slice (some ⟨g, off, none⟩) m2 c1] 81, .blk mb #[.int .i64 0, .int .i64 (a0 : Int), .int .i64 (p0 : Int), .int .i64 (b0 : Int), .int .i64 (j0 : Int)] 33] HS.out (.cons _ (.cons_cons _ (.cons _ (.cons_cons _ (List.nil_sublist _))))) (by kernel_rfl) (by kernel_rfl) (.cons rfl (.cons rfl .nil)) (fun C cw _ hC w12 hS => ?_)
           have hS : SL w w.heap.size ([.blk nb #[.int .i64 n] 3, .blk lb #[.slice (some ⟨g, off, none⟩) m2 c1] 81, .row 3 1 (.slice (some ⟨gs, os, none⟩) m2 c8) m2 (satsOf q2), .blk mb #[.int .i64 0, .int .i64 (a0 : Int), .int .i64 (p0 : Int), .int .i64 (b0 : Int), .int .i64 (j0 : Int)] 33, .row 42 1 (.slice (some ⟨g, off, none⟩) m2 c1) m2 (q2.map (·.2))] ++ X) w12 := hS
           have q1 : ∀ d, (cw d).cell? ⟨mb, 1, none⟩ = some (.int .i64 (a0 : Int)) := fun d => (hC d).cell 1 rfl 1 rfl
           have ql : ∀ d, (cw d).cell? ⟨lb, 0, none⟩ = some (.slice (some ⟨g, off, none⟩) m2 c1) := fun d => (hC d).cell 0 rfl 0 rfl
           clear HS
           refine ph_look 0 rfl (by kernel_rfl) rfl (by kernel_rfl) rfl rfl (fun Kv hK => ?_); go_big_quiet_op; refine hK _ ?_; clear hK Kv
           refine ph_look 1 rfl (by kernel_rfl) rfl (by kernel_rfl) rfl rfl (fun Kv hK => ?_); go_big_quiet_op; refine hK _ ?_; clear hK Kv
           refine ph_look 2 rfl (by kernel_rfl) rfl (by kernel_rfl) rfl rfl (fun Kv hK => ?_); go_big_quiet_op; refine hK _ ?_; clear hK Kv
           refine ph_look 3 rfl (by kernel_rfl) rfl (by kernel_rfl) rfl rfl (fun Kv hK => ?_); go_big_quiet_op; refine hK _ ?_; clear hK Kv
           refine ph_look 4 rfl (by kernel_rfl) rfl (by kernel_rfl) rfl rfl (fun Kv hK => ?_); go_big_quiet_op; refine hK _ ?_; clear hK Kv
           refine ph_look 8 rfl (by kernel_rfl) rfl (by kernel_rfl) rfl rfl (fun Kv hK => ?_); go_big_quiet_op; refine hK _ ?_; clear hK Kv
           clear q1 ql hC
           refine ph_two 5 9 (by kernel_rfl) rfl rfl ?arm3A ?arm3B
           case arm3A =>
            as_aux_lemma =>
             refine ph_op rfl rfl (fun Kv hK => ?_)
             have y5 : w12.cell? ⟨gs, os + a0, none⟩ = some (.int .i64 sat) := hS.rowCell 2 rfl a0 HSS2.out
             go_simp
             have hk := hS.sub (l' := [.blk lb #[.slice (some ⟨g, off, none⟩) m2 c1] 81, .blk mb #[.int .i64 0, .int .i64 (a0 : Int), .int .i64 (p0 : Int), .int .i64 (b0 : Int), .int .i64 (j0 : Int)] 33]) (.cons _ (.cons_cons _ (.cons _ (.cons_cons _ (List.nil_sublist _)))))
             refine ⟨hk, hK _ _ ?_⟩
             clear hK Kv hk y5
             refine ph_two 6 9 (by kernel_rfl) rfl rfl ?arm4A ?arm4B
             case arm4A =>
              as_aux_lemma =>
               refine ph_op rfl rfl (fun Kv hK => ?_)
               go_simp
               have hS := hS.alloc #[.int .i64 sat] 3
               obtain ⟨g1, hg1⟩ : ∃ b, w12.heap.size = b := ⟨_, rfl⟩
               obtain ⟨w12a, hw12a⟩ : ∃ x, w12.alloc (.cells #[.int .i64 sat] 3) = x := ⟨_, rfl⟩
               rw [hg1, hw12a] at hS
               rw [hg1, hw12a]
               clear hg1 hw12a
               have hS : SL w w.heap.size ([.blk g1 #[.int .i64 sat] 3, .blk nb #[.int .i64 n] 3, .blk lb #[.slice (some ⟨g, off, none⟩) m2 c1] 81, .row 3 1 (.slice (some ⟨gs, os, none⟩) m2 c8) m2 (satsOf q2), .blk mb #[.int .i64 0, .int .i64 (a0 : Int), .int .i64 (p0 : Int), .int .i64 (b0 : Int), .int .i64 (j0 : Int)] 33, .row 42 1 (.slice (some ⟨g, off, none⟩) m2 c1) m2 (q2.map (·.2))] ++ X) w12a := hS
               have hk := hS.sub (l' := [.blk lb #[.slice (some ⟨g, off, none⟩) m2 c1] 81, .blk mb #[.int .i64 0, .int .i64 (a0 : Int), .int .i64 (p0 : Int), .int .i64 (b0 : Int), .int .i64 (j0 : Int)] 33]) (.cons _ (.cons _ (.cons_cons _ (.cons _ (.cons_cons _ (List.nil_sublist _))))))
               refine ⟨hk, hK _ _ ?_⟩
               clear hK Kv hk
               refine ph_two 7 9 (by kernel_rfl) rfl rfl ?arm5A ?arm5B
               case arm5A =>
                as_aux_lemma =>
                 refine ph_op rfl rfl (fun Kv hK => ?_)
                 obtain ⟨y8, w12b, hr, hS4⟩ := run_append_one (P := Try.prog) 42 42 hS 3 i0 (.int .i64 0) 8 Try.underlying42 HI0.out.1 HI0.out.2.1 HI0.out.2.2.1 HI0.out.2.2.2 rfl (.slice (some ⟨gs, os, none⟩) m2 c8) m2 (satsOf q2) rfl g1 (.int .i64 sat) (hS.cell 0 rfl 0 rfl) rfl (by omega) (by decide)
                 obtain ⟨y8A, y8c, rfl, _, _⟩ := (hS4.row 3 rfl).slice_
                 have hS : SL w w.heap.size ([.blk g1 #[.int .i64 sat] 3, .blk nb #[.int .i64 n] 3, .blk lb #[.slice (some ⟨g, off, none⟩) m2 c1] 81, .row 3 1 (.slice y8A (m2 + 1) y8c) (m2 + 1) ((satsOf q2) ++ [.int .i64 sat]), .blk mb #[.int .i64 0, .int .i64 (a0 : Int), .int .i64 (p0 : Int), .int .i64 (b0 : Int), .int .i64 (j0 : Int)] 33, .row 42 1 (.slice (some ⟨g, off, none⟩) m2 c1) m2 (q2.map (·.2))] ++ X) w12b := hS4
                 clear hS4
                 have hk := hS.sub (l' := [.blk lb #[.slice (some ⟨g, off, none⟩) m2 c1] 81, .blk mb #[.int .i64 0, .int .i64 (a0 : Int), .int .i64 (p0 : Int), .int .i64 (b0 : Int), .int .i64 (j0 : Int)] 33]) (.cons _ (.cons _ (.cons_cons _ (.cons _ (.cons_cons _ (List.nil_sublist _))))))
                 refine eff_append_run _ _ 42 rfl ((.slice (some ⟨gs, os, none⟩) m2 c8)) (.slice (some ⟨g1, 0, none⟩) 1 1) rfl rfl hr ?_
                 refine ⟨hk, hK _ _ ?_⟩
                 clear hK Kv hk hr
                 refine ph_eff 9 rfl (by kernel_rfl) rfl rfl (fun Kv hK => ?_)
                 go_simp
                 have hS := hS.alloc #[.slice none 0 0] 42
                 obtain ⟨g2, hg2⟩ : ∃ b, w12b.heap.size = b := ⟨_, rfl⟩
                 obtain ⟨w12c, hw12c⟩ : ∃ x, w12b.alloc (.cells #[.slice none 0 0] 42) = x := ⟨_, rfl⟩
                 rw [hg2, hw12c] at hS
                 rw [hg2, hw12c]
                 clear hg2 hw12c
                 have hS : SL w w.heap.size ([.blk g2 #[.slice none 0 0] 42, .blk g1 #[.int .i64 sat] 3, .blk nb #[.int .i64 n] 3, .blk lb #[.slice (some ⟨g, off, none⟩) m2 c1] 81, .row 3 1 (.slice y8A (m2 + 1) y8c) (m2 + 1) ((satsOf q2) ++ [.int .i64 sat]), .blk mb #[.int .i64 0, .int .i64 (a0 : Int), .int .i64 (p0 : Int), .int .i64 (b0 : Int), .int .i64 (j0 : Int)] 33, .row 42 1 (.slice (some ⟨g, off, none⟩) m2 c1) m2 (q2.map (·.2))] ++ X) w12c := hS
                 have hk := hS.sub (l' := [.blk lb #[.slice (some ⟨g, off, none⟩) m2 c1] 81, .blk mb #[.int .i64 0, .int .i64 (a0 : Int), .int .i64 (p0 : Int), .int .i64 (b0 : Int), .int .i64 (j0 : Int)] 33]) (.cons _ (.cons _ (.cons _ (.cons_cons _ (.cons _ (.cons_cons _ (List.nil_sublist _)))))))
                 refine ⟨hk, hK _ _ ?_⟩
                 clear hK Kv hk
                 refine ph_eff 10 rfl (by kernel_rfl) rfl rfl (fun Kv hK => ?_)
                 obtain ⟨yo, w12d, hr, hS4⟩ := run_append_one (P := Try.prog) 81 81 hS 6 i1 (.slice none 0 0) 24 Try.underlying81 HI1.out.1 HI1.out.2.1 HI1.out.2.2.1 HI1.out.2.2.2 rfl (.slice (some ⟨g, off, none⟩) m2 c1) m2 (q2.map (·.2)) rfl g2 (.slice none 0 0) (hS.cell 0 rfl 0 rfl) rfl (by omega) (by decide)
                 obtain ⟨yoA, yoc, rfl, _, _⟩ := (hS4.row 6 rfl).slice_
                 have hS : SL w w.heap.size ([.blk g2 #[.slice none 0 0] 42, .blk g1 #[.int .i64 sat] 3, .blk nb #[.int .i64 n] 3, .blk lb #[.slice (some ⟨g, off, none⟩) m2 c1] 81, .row 3 1 (.slice y8A (m2 + 1) y8c) (m2 + 1) ((satsOf q2) ++ [.int .i64 sat]), .blk mb #[.int .i64 0, .int .i64 (a0 : Int), .int .i64 (p0 : Int), .int .i64 (b0 : Int), .int .i64 (j0 : Int)] 33, .row 42 1 (.slice yoA (m2 + 1) yoc) (m2 + 1) ((q2.map (·.2)) ++ [.slice none 0 0])] ++ X) w12d := hS4
                 clear hS4
                 have hk := hS.sub (l' := [.blk lb #[.slice (some ⟨g, off, none⟩) m2 c1] 81, .blk mb #[.int .i64 0, .int .i64 (a0 : Int), .int .i64 (p0 : Int), .int .i64 (b0 : Int), .int .i64 (j0 : Int)] 33]) (.cons _ (.cons _ (.cons _ (.cons_cons _ (.cons _ (.cons_cons _ (List.nil_sublist _)))))))
                 refine eff_append_run _ _ 81 rfl ((.slice (some ⟨g, off, none⟩) m2 c1)) (.slice (some ⟨g2, 0, none⟩) 1 1) rfl rfl hr ?_
                 refine ⟨hk, hK _ _ ?_⟩
                 clear hK Kv hk hr
                 refine ph_end (by kernel_rfl) ?_
                 have hS := hS.sub (l' := [.blk nb #[.int .i64 n] 3, .blk lb #[.slice (some ⟨g, off, none⟩) m2 c1] 81, .row 3 1 (.slice y8A (m2 + 1) y8c) (m2 + 1) ((satsOf q2) ++ [.int .i64 sat]), .blk mb #[.int .i64 0, .int .i64 (a0 : Int), .int .i64 (p0 : Int), .int .i64 (b0 : Int), .int .i64 (j0 : Int)] 33, .row 42 1 (.slice yoA (m2 + 1) yoc) (m2 + 1) ((q2.map (·.2)) ++ [.slice none 0 0])] ++ X) (.cons _ (.cons _ (.cons_cons _ (.cons_cons _ (.cons_cons _ (.cons_cons _ (.cons_cons _ (List.Sublist.refl _))))))))
                 have z1 : w12d.cell? ⟨lb, 0, none⟩ = some (.slice (some ⟨g, off, none⟩) m2 c1) := hS.cell 1 rfl 0 rfl
                 have z2 : w12d.frozen? ⟨lb, 0, none⟩ = false := hS.free 1 rfl 0
                 rw [← HX.out, ← HM2.out] at hS
                 have hS := lrq_snoc (l := []) (sat := sat) (v' := .slice none 0 0) (Q := [.blk nb #[.int .i64 n] 3]) (hS.nil 3 1)
                 rw [HM2.out, ← lr_q] at hS
                 have HS9 := Lib.hid hS
                 clear hS
                 go_wp2_with fail
                 go_meet
                 exact ⟨q2 ++ [(⟨sat, []⟩, .slice none 0 0)], _, Lib.hid (HLE.out _), by rw [List.length_append, HM2.out]; exact hb5, by rw [List.length_append, HM2.out]; simp; omega, Lib.hid (fun q hq => by
                  rcases List.mem_append.1 hq with h | h
                  · exact HL2.out q h
                  · obtain rfl := List.mem_singleton.1 h
                    show 0 ≤ 100000; omega), HS9.out⟩
               case arm5B =>
                as_aux_lemma =>
                 refine ph_op rfl rfl (fun Kv hK => ?_)
                 go_simp
                 have hS := hS.alloc #[.slice none 0 0] 42
                 obtain ⟨g2, hg2⟩ : ∃ b, w12a.heap.size = b := ⟨_, rfl⟩
                 obtain ⟨w12b, hw12b⟩ : ∃ x, w12a.alloc (.cells #[.slice none 0 0] 42) = x := ⟨_, rfl⟩
                 rw [hg2, hw12b] at hS
                 rw [hg2, hw12b]
                 clear hg2 hw12b
                 have hS : SL w w.heap.size ([.blk g2 #[.slice none 0 0] 42, .blk g1 #[.int .i64 sat] 3, .blk nb #[.int .i64 n] 3, .blk lb #[.slice (some ⟨g, off, none⟩) m2 c1] 81, .row 3 1 (.slice (some ⟨gs, os, none⟩) m2 c8) m2 (satsOf q2), .blk mb #[.int .i64 0, .int .i64 (a0 : Int), .int .i64 (p0 : Int), .int .i64 (b0 : Int), .int .i64 (j0 : Int)] 33, .row 42 1 (.slice (some ⟨g, off, none⟩) m2 c1) m2 (q2.map (·.2))] ++ X) w12b := hS
                 have hk := hS.sub (l' := [.blk lb #[.slice (some ⟨g, off, none⟩) m2 c1] 81, .blk mb #[.int .i64 0, .int .i64 (a0 : Int), .int .i64 (p0 : Int), .int .i64 (b0 : Int), .int .i64 (j0 : Int)] 33]) (.cons _ (.cons _ (.cons _ (.cons_cons _ (.cons _ (.cons_cons _ (List.nil_sublist _)))))))
                 refine ⟨hk, hK _ _ ?_⟩
                 clear hK Kv hk
                 refine ph_eff 7 rfl (by kernel_rfl) rfl rfl (fun Kv hK => ?_)
                 obtain ⟨y8, w12c, hr, hS4⟩ := run_append_one (P := Try.prog) 42 42 hS 4 i0 (.int .i64 0) 8 Try.underlying42 HI0.out.1 HI0.out.2.1 HI0.out.2.2.1 HI0.out.2.2.2 rfl (.slice (some ⟨gs, os, none⟩) m2 c8) m2 (satsOf q2) rfl g1 (.int .i64 sat) (hS.cell 1 rfl 0 rfl) rfl (by omega) (by decide)
                 obtain ⟨y8A, y8c, rfl, _, _⟩ := (hS4.row 4 rfl).slice_
                 have hS : SL w w.heap.size ([.blk g2 #[.slice none 0 0] 42, .blk g1 #[.int .i64 sat] 3, .blk nb #[.int .i64 n] 3, .blk lb #[.slice (some ⟨g, off, none⟩) m2 c1] 81, .row 3 1 (.slice y8A (m2 + 1) y8c) (m2 + 1) ((satsOf q2) ++ [.int .i64 sat]), .blk mb #[.int .i64 0, .int .i64 (a0 : Int), .int .i64 (p0 : Int), .int .i64 (b0 : Int), .int .i64 (j0 : Int)] 33, .row 42 1 (.slice (some ⟨g, off, none⟩) m2 c1) m2 (q2.map (·.2))] ++ X) w12c := hS4
                 clear hS4
                 have hk := hS.sub (l' := [.blk lb #[.slice (some ⟨g, off, none⟩) m2 c1] 81, .blk mb #[.int .i64 0, .int .i64 (a0 : Int), .int .i64 (p0 : Int), .int .i64 (b0 : Int), .int .i64 (j0 : Int)] 33]) (.cons _ (.cons _ (.cons _ (.cons_cons _ (.cons _ (.cons_cons _ (List.nil_sublist _)))))))
                 refine eff_append_run _ _ 42 rfl ((.slice (some ⟨gs, os, none⟩) m2 c8)) (.slice (some ⟨g1, 0, none⟩) 1 1) rfl rfl hr ?_
                 refine ⟨hk, hK _ _ ?_⟩
                 clear hK Kv hk hr
                 refine ph_eff 10 rfl (by kernel_rfl) rfl rfl (fun Kv hK => ?_)
                 obtain ⟨yo, w12d, hr, hS4⟩ := run_append_one (P := Try.prog) 81 81 hS 6 i1 (.slice none 0 0) 24 Try.underlying81 HI1.out.1 HI1.out.2.1 HI1.out.2.2.1 HI1.out.2.2.2 rfl (.slice (some ⟨g, off, none⟩) m2 c1) m2 (q2.map (·.2)) rfl g2 (.slice none 0 0) (hS.cell 0 rfl 0 rfl) rfl (by omega) (by decide)
                 obtain ⟨yoA, yoc, rfl, _, _⟩ := (hS4.row 6 rfl).slice_
                 have hS : SL w w.heap.size ([.blk g2 #[.slice none 0 0] 42, .blk g1 #[.int .i64 sat] 3, .blk nb #[.int .i64 n] 3, .blk lb #[.slice (some ⟨g, off, none⟩) m2 c1] 81, .row 3 1 (.slice y8A (m2 + 1) y8c) (m2 + 1) ((satsOf q2) ++ [.int .i64 sat]), .blk mb #[.int .i64 0, .int .i64 (a0 : Int), .int .i64 (p0 : Int), .int .i64 (b0 : Int), .int .i64 (j0 : Int)] 33, .row 42 1 (.slice yoA (m2 + 1) yoc) (m2 + 1) ((q2.map (·.2)) ++ [.slice none 0 0])] ++ X) w12d := hS4
                 clear hS4
                 have hk := hS.sub (l' := [.blk lb #[.slice (some ⟨g, off, none⟩) m2 c1] 81, .blk mb #[.int .i64 0, .int .i64 (a0 : Int), .int .i64 (p0 : Int), .int .i64 (b0 : Int), .int .i64 (j0 : Int)] 33]) (.cons _ (.cons _ (.cons _ (.cons_cons _ (.cons _ (.cons_cons _ (List.nil_sublist _)))))))
                 refine eff_append_run _ _ 81 rfl ((.slice (some ⟨g, off, none⟩) m2 c1)) (.slice (some ⟨g2, 0, none⟩) 1 1) rfl rfl hr ?_
                 refine ⟨hk, hK _ _ ?_⟩
                 clear hK Kv hk hr
                 refine ph_end (by kernel_rfl) ?_
                 have hS := hS.sub (l' := [.blk nb #[.int .i64 n] 3, .blk lb #[.slice (some ⟨g, off, none⟩) m2 c1] 81, .row 3 1 (.slice y8A (m2 + 1) y8c) (m2 + 1) ((satsOf q2) ++ [.int .i64 sat]), .blk mb #[.int .i64 0, .int .i64 (a0 : Int), .int .i64 (p0 : Int), .int .i64 (b0 : Int), .int .i64 (j0 : Int)] 33, .row 42 1 (.slice yoA (m2 + 1) yoc) (m2 + 1) ((q2.map (·.2)) ++ [.slice none 0 0])] ++ X) (.cons _ (.cons _ (.cons_cons _ (.cons_cons _ (.cons_cons _ (.cons_cons _ (.cons_cons _ (List.Sublist.refl _))))))))
                 have z1 : w12d.cell? ⟨lb, 0, none⟩ = some (.slice (some ⟨g, off, none⟩) m2 c1) := hS.cell 1 rfl 0 rfl
                 have z2 : w12d.frozen? ⟨lb, 0, none⟩ = false := hS.free 1 rfl 0
                 rw [← HX.out, ← HM2.out] at hS
                 have hS := lrq_snoc (l := []) (sat := sat) (v' := .slice none 0 0) (Q := [.blk nb #[.int .i64 n] 3]) (hS.nil 3 1)
                 rw [HM2.out, ← lr_q] at hS
                 have HS9 := Lib.hid hS
                 clear hS
                 go_wp2_with fail
                 go_meet
                 exact ⟨q2 ++ [(⟨sat, []⟩, .slice none 0 0)], _, Lib.hid (HLE.out _), by rw [List.length_append, HM2.out]; exact hb5, by rw [List.length_append, HM2.out]; simp; omega, Lib.hid (fun q hq => by
                  rcases List.mem_append.1 hq with h | h
                  · exact HL2.out q h
                  · obtain rfl := List.mem_singleton.1 h
                    show 0 ≤ 100000; omega), HS9.out⟩
             case arm4B =>
              as_aux_lemma =>
               refine ph_op rfl rfl (fun Kv hK => ?_)
               go_simp
               have hS := hS.alloc #[.slice none 0 0] 42
               obtain ⟨g2, hg2⟩ : ∃ b, w12.heap.size = b := ⟨_, rfl⟩
               obtain ⟨w12a, hw12a⟩ : ∃ x, w12.alloc (.cells #[.slice none 0 0] 42) = x := ⟨_, rfl⟩
               rw [hg2, hw12a] at hS
               rw [hg2, hw12a]
               clear hg2 hw12a
               have hS : SL w w.heap.size ([.blk g2 #[.slice none 0 0] 42, .blk nb #[.int .i64 n] 3, .blk lb #[.slice (some ⟨g, off, none⟩) m2 c1] 81, .row 3 1 (.slice (some ⟨gs, os, none⟩) m2 c8) m2 (satsOf q2), .blk mb #[.int .i64 0, .int .i64 (a0 : Int), .int .i64 (p0 : Int), .int .i64 (b0 : Int), .int .i64 (j0 : Int)] 33, .row 42 1 (.slice (some ⟨g, off, none⟩) m2 c1) m2 (q2.map (·.2))] ++ X) w12a := hS
               have hk := hS.sub (l' := [.blk lb #[.slice (some ⟨g, off, none⟩) m2 c1] 81, .blk mb #[.int .i64 0, .int .i64 (a0 : Int), .int .i64 (p0 : Int), .int .i64 (b0 : Int), .int .i64 (j0 : Int)] 33]) (.cons _ (.cons _ (.cons_cons _ (.cons _ (.cons_cons _ (List.nil_sublist _))))))
               refine ⟨hk, hK _ _ ?_⟩
               clear hK Kv hk
               refine ph_eff 6 rfl (by kernel_rfl) rfl rfl (fun Kv hK => ?_)
               go_simp
               have hS := hS.alloc #[.int .i64 sat] 3
               obtain ⟨g1, hg1⟩ : ∃ b, w12a.heap.size = b := ⟨_, rfl⟩
               obtain ⟨w12b, hw12b⟩ : ∃ x, w12a.alloc (.cells #[.int .i64 sat] 3) = x := ⟨_, rfl⟩
               rw [hg1, hw12b] at hS
               rw [hg1, hw12b]
               clear hg1 hw12b
               have hS : SL w w.heap.size ([.blk g1 #[.int .i64 sat] 3, .blk g2 #[.slice none 0 0] 42, .blk nb #[.int .i64 n] 3, .blk lb #[.slice (some ⟨g, off, none⟩) m2 c1] 81, .row 3 1 (.slice (some ⟨gs, os, none⟩) m2 c8) m2 (satsOf q2), .blk mb #[.int .i64 0, .int .i64 (a0 : Int), .int .i64 (p0 : Int), .int .i64 (b0 : Int), .int .i64 (j0 : Int)] 33, .row 42 1 (.slice (some ⟨g, off, none⟩) m2 c1) m2 (q2.map (·.2))] ++ X) w12b := hS
               have hk := hS.sub (l' := [.blk lb #[.slice (some ⟨g, off, none⟩) m2 c1] 81, .blk mb #[.int .i64 0, .int .i64 (a0 : Int), .int .i64 (p0 : Int), .int .i64 (b0 : Int), .int .i64 (j0 : Int)] 33]) (.cons _ (.cons _ (.cons _ (.cons_cons _ (.cons _ (.cons_cons _ (List.nil_sublist _)))))))
               refine ⟨hk, hK _ _ ?_⟩
               clear hK Kv hk
               refine ph_eff 7 rfl (by kernel_rfl) rfl rfl (fun Kv hK => ?_)
               obtain ⟨y8, w12c, hr, hS4⟩ := run_append_one (P := Try.prog) 42 42 hS 4 i0 (.int .i64 0) 8 Try.underlying42 HI0.out.1 HI0.out.2.1 HI0.out.2.2.1 HI0.out.2.2.2 rfl (.slice (some ⟨gs, os, none⟩) m2 c8) m2 (satsOf q2) rfl g1 (.int .i64 sat) (hS.cell 0 rfl 0 rfl) rfl (by omega) (by decide)
               obtain ⟨y8A, y8c, rfl, _, _⟩ := (hS4.row 4 rfl).slice_
               have hS : SL w w.heap.size ([.blk g1 #[.int .i64 sat] 3, .blk g2 #[.slice none 0 0] 42, .blk nb #[.int .i64 n] 3, .blk lb #[.slice (some ⟨g, off, none⟩) m2 c1] 81, .row 3 1 (.slice y8A (m2 + 1) y8c) (m2 + 1) ((satsOf q2) ++ [.int .i64 sat]), .blk mb #[.int .i64 0, .int .i64 (a0 : Int), .int .i64 (p0 : Int), .int .i64 (b0 : Int), .int .i64 (j0 : Int)] 33, .row 42 1 (.slice (some ⟨g, off, none⟩) m2 c1) m2 (q2.map (·.2))] ++ X) w12c := hS4
               clear hS4
               have hk := hS.sub (l' := [.blk lb #[.slice (some ⟨g, off, none⟩) m2 c1] 81, .blk mb #[.int .i64 0, .int .i64 (a0 : Int), .int .i64 (p0 : Int), .int .i64 (b0 : Int), .int .i64 (j0 : Int)] 33]) (.cons _ (.cons _ (.cons _ (.cons_cons _ (.cons _ (.cons_cons _ (List.nil_sublist _)))))))
               refine eff_append_run _ _ 42 rfl ((.slice (some ⟨gs, os, none⟩) m2 c8)) (.slice (some ⟨g1, 0, none⟩) 1 1) rfl rfl hr ?_
               refine ⟨hk, hK _ _ ?_⟩
               clear hK Kv hk hr
               refine ph_eff 10 rfl (by kernel_rfl) rfl rfl (fun Kv hK => ?_)
               obtain ⟨yo, w12d, hr, hS4⟩ := run_append_one (P := Try.prog) 81 81 hS 6 i1 (.slice none 0 0) 24 Try.underlying81 HI1.out.1 HI1.out.2.1 HI1.out.2.2.1 HI1.out.2.2.2 rfl (.slice (some ⟨g, off, none⟩) m2 c1) m2 (q2.map (·.2)) rfl g2 (.slice none 0 0) (hS.cell 1 rfl 0 rfl) rfl (by omega) (by decide)
               obtain ⟨yoA, yoc, rfl, _, _⟩ := (hS4.row 6 rfl).slice_
               have hS : SL w w.heap.size ([.blk g1 #[.int .i64 sat] 3, .blk g2 #[.slice none 0 0] 42, .blk nb #[.int .i64 n] 3, .blk lb #[.slice (some ⟨g, off, none⟩) m2 c1] 81, .row 3 1 (.slice y8A (m2 + 1) y8c) (m2 + 1) ((satsOf q2) ++ [.int .i64 sat]), .blk mb #[.int .i64 0, .int .i64 (a0 : Int), .int .i64 (p0 : Int), .int .i64 (b0 : Int), .int .i64 (j0 : Int)] 33, .row 42 1 (.slice yoA (m2 + 1) yoc) (m2 + 1) ((q2.map (·.2)) ++ [.slice none 0 0])] ++ X) w12d := hS4
               clear hS4
               have hk := hS.sub (l' := [.blk lb #[.slice (some ⟨g, off, none⟩) m2 c1] 81, .blk mb #[.int .i64 0, .int .i64 (a0 : Int), .int .i64 (p0 : Int), .int .i64 (b0 : Int), .int .i64 (j0 : Int)] 33]) (.cons _ (.cons _ (.cons _ (.cons_cons _ (.cons _ (.cons_cons _ (List.nil_sublist _)))))))
               refine eff_append_run _ _ 81 rfl ((.slice (some ⟨g, off, none⟩) m2 c1)) (.slice (some ⟨g2, 0, none⟩) 1 1) rfl rfl hr ?_
               refine ⟨hk, hK _ _ ?_⟩
               clear hK Kv hk hr
               refine ph_end (by kernel_rfl) ?_
               have hS := hS.sub (l' := [.blk nb #[.int .i64 n] 3, .blk lb #[.slice (some ⟨g, off, none⟩) m2 c1] 81, .row 3 1 (.slice y8A (m2 + 1) y8c) (m2 + 1) ((satsOf q2) ++ [.int .i64 sat]), .blk mb #[.int .i64 0, .int .i64 (a0 : Int), .int .i64 (p0 : Int), .int .i64 (b0 : Int), .int .i64 (j0 : Int)] 33, .row 42 1 (.slice yoA (m2 + 1) yoc) (m2 + 1) ((q2.map (·.2)) ++ [.slice none 0 0])] ++ X) (.cons _ (.cons _ (.cons_cons _ (.cons_cons _ (.cons_cons _ (.cons_cons _ (.cons_cons _ (List.Sublist.refl _))))))))
               have z1 : w12d.cell? ⟨lb, 0, none⟩ = some (.slice (some ⟨g, off, none⟩) m2 c1) := hS.cell 1 rfl 0 rfl
               have z2 : w12d.frozen? ⟨lb, 0, none⟩ = false := hS.free 1 rfl 0
               rw [← HX.out, ← HM2.out] at hS
               have hS := lrq_snoc (l := []) (sat := sat) (v' := .slice none 0 0) (Q := [.blk nb #[.int .i64 n] 3]) (hS.nil 3 1)
               rw [HM2.out, ← lr_q] at hS
               have HS9 := Lib.hid hS
               clear hS
               go_wp2_with fail
               go_meet
               exact ⟨q2 ++ [(⟨sat, []⟩, .slice none 0 0)], _, Lib.hid (HLE.out _), by rw [List.length_append, HM2.out]; exact hb5, by rw [List.length_append, HM2.out]; simp; omega, Lib.hid (fun q hq => by
                rcases List.mem_append.1 hq with h | h
                · exact HL2.out q h
                · obtain rfl := List.mem_singleton.1 h
                  show 0 ≤ 100000; omega), HS9.out⟩
           case arm3B =>
            as_aux_lemma =>
             refine ph_op rfl rfl (fun Kv hK => ?_)
             go_simp
             have hS := hS.alloc #[.slice none 0 0] 42
             obtain ⟨g2, hg2⟩ : ∃ b, w12.heap.size = b := ⟨_, rfl⟩
             obtain ⟨w12a, hw12a⟩ : ∃ x, w12.alloc (.cells #[.slice none 0 0] 42) = x := ⟨_, rfl⟩
             rw [hg2, hw12a] at hS
             rw [hg2, hw12a]
             clear hg2 hw12a
             have hS : SL w w.heap.size ([.blk g2 #[.slice none 0 0] 42, .blk nb #[.int .i64 n] 3, .blk lb #[.slice (some ⟨g, off, none⟩) m2 c1] 81, .row 3 1 (.slice (some ⟨gs, os, none⟩) m2 c8) m2 (satsOf q2), .blk mb #[.int .i64 0, .int .i64 (a0 : Int), .int .i64 (p0 : Int), .int .i64 (b0 : Int), .int .i64 (j0 : Int)] 33, .row 42 1 (.slice (some ⟨g, off, none⟩) m2 c1) m2 (q2.map (·.2))] ++ X) w12a := hS
             have hk := hS.sub (l' := [.blk lb #[.slice (some ⟨g, off, none⟩) m2 c1] 81, .blk mb #[.int .i64 0, .int .i64 (a0 : Int), .int .i64 (p0 : Int), .int .i64 (b0 : Int), .int .i64 (j0 : Int)] 33]) (.cons _ (.cons _ (.cons_cons _ (.cons _ (.cons_cons _ (List.nil_sublist _))))))
             refine ⟨hk, hK _ _ ?_⟩
             clear hK Kv hk
             refine ph_eff 5 rfl (by kernel_rfl) rfl rfl (fun Kv hK => ?_)
             have y5 : w12a.cell? ⟨gs, os + a0, none⟩ = some (.int .i64 sat) := hS.rowCell 3 rfl a0 HSS2.out
             go_simp
             have hk := hS.sub (l' := [.blk lb #[.slice (some ⟨g, off, none⟩) m2 c1] 81, .blk mb #[.int .i64 0, .int .i64 (a0 : Int), .int .i64 (p0 : Int), .int .i64 (b0 : Int), .int .i64 (j0 : Int)] 33]) (.cons _ (.cons _ (.cons_cons _ (.cons _ (.cons_cons _ (List.nil_sublist _))))))
             refine ⟨hk, hK _ _ ?_⟩
             clear hK Kv hk y5
             refine ph_eff 6 rfl (by kernel_rfl) rfl rfl (fun Kv hK => ?_)
             go_simp
             have hS := hS.alloc #[.int .i64 sat] 3
             obtain ⟨g1, hg1⟩ : ∃ b, w12a.heap.size = b := ⟨_, rfl⟩
             obtain ⟨w12b, hw12b⟩ : ∃ x, w12a.alloc (.cells #[.int .i64 sat] 3) = x := ⟨_, rfl⟩
             rw [hg1, hw12b] at hS
             rw [hg1, hw12b]
             clear hg1 hw12b
             have hS : SL w w.heap.size ([.blk g1 #[.int .i64 sat] 3, .blk g2 #[.slice none 0 0] 42, .blk nb #[.int .i64 n] 3, .blk lb #[.slice (some ⟨g, off, none⟩) m2 c1] 81, .row 3 1 (.slice (some ⟨gs, os, none⟩) m2 c8) m2 (satsOf q2), .blk mb #[.int .i64 0, .int .i64 (a0 : Int), .int .i64 (p0 : Int), .int .i64 (b0 : Int), .int .i64 (j0 : Int)] 33, .row 42 1 (.slice (some ⟨g, off, none⟩) m2 c1) m2 (q2.map (·.2))] ++ X) w12b := hS
             have hk := hS.sub (l' := [.blk lb #[.slice (some ⟨g, off, none⟩) m2 c1] 81, .blk mb #[.int .i64 0, .int .i64 (a0 : Int), .int .i64 (p0 : Int), .int .i64 (b0 : Int), .int .i64 (j0 : Int)] 33]) (.cons _ (.cons _ (.cons _ (.cons_cons _ (.cons _ (.cons_cons _ (List.nil_sublist _)))))))
             refine ⟨hk, hK _ _ ?_⟩
             clear hK Kv hk
             refine ph_eff 7 rfl (by kernel_rfl) rfl rfl (fun Kv hK => ?_)
             obtain ⟨y8, w12c, hr, hS4⟩ := run_append_one (P := Try.prog) 42 42 hS 4 i0 (.int .i64 0) 8 Try.underlying42 HI0.out.1 HI0.out.2.1 HI0.out.2.2.1 HI0.out.2.2.2 rfl (.slice (some ⟨gs, os, none⟩) m2 c8) m2 (satsOf q2) rfl g1 (.int .i64 sat) (hS.cell 0 rfl 0 rfl) rfl (by omega) (by decide)
             obtain ⟨y8A, y8c, rfl, _, _⟩ := (hS4.row 4 rfl).slice_
             have hS : SL w w.heap.size ([.blk g1 #[.int .i64 sat] 3, .blk g2 #[.slice none 0 0] 42, .blk nb #[.int .i64 n] 3, .blk lb #[.slice (some ⟨g, off, none⟩) m2 c1] 81, .row 3 1 (.slice y8A (m2 + 1) y8c) (m2 + 1) ((satsOf q2) ++ [.int .i64 sat]), .blk mb #[.int .i64 0, .int .i64 (a0 : Int), .int .i64 (p0 : Int), .int .i64 (b0 : Int), .int .i64 (j0 : Int)] 33, .row 42 1 (.slice (some ⟨g, off, none⟩) m2 c1) m2 (q2.map (·.2))] ++ X) w12c := hS4
             clear hS4
             have hk := hS.sub (l' := [.blk lb #[.slice (some ⟨g, off, none⟩) m2 c1] 81, .blk mb #[.int .i64 0, .int .i64 (a0 : Int), .int .i64 (p0 : Int), .int .i64 (b0 : Int), .int .i64 (j0 : Int)] 33]) (.cons _ (.cons _ (.cons _ (.cons_cons _ (.cons _ (.cons_cons _ (List.nil_sublist _)))))))
             refine eff_append_run _ _ 42 rfl ((.slice (some ⟨gs, os, none⟩) m2 c8)) (.slice (some ⟨g1, 0, none⟩) 1 1) rfl rfl hr ?_
             refine ⟨hk, hK _ _ ?_⟩
             clear hK Kv hk hr
             refine ph_eff 10 rfl (by kernel_rfl) rfl rfl (fun Kv hK => ?_)
             obtain ⟨yo, w12d, hr, hS4⟩ := run_append_one (P := Try.prog) 81 81 hS 6 i1 (.slice none 0 0) 24 Try.underlying81 HI1.out.1 HI1.out.2.1 HI1.out.2.2.1 HI1.out.2.2.2 rfl (.slice (some ⟨g, off, none⟩) m2 c1) m2 (q2.map (·.2)) rfl g2 (.slice none 0 0) (hS.cell 1 rfl 0 rfl) rfl (by omega) (by decide)
             obtain ⟨yoA, yoc, rfl, _, _⟩ := (hS4.row 6 rfl).slice_
             have hS : SL w w.heap.size ([.blk g1 #[.int .i64 sat] 3, .blk g2 #[.slice none 0 0] 42, .blk nb #[.int .i64 n] 3, .blk lb #[.slice (some ⟨g, off, none⟩) m2 c1] 81, .row 3 1 (.slice y8A (m2 + 1) y8c) (m2 + 1) ((satsOf q2) ++ [.int .i64 sat]), .blk mb #[.int .i64 0, .int .i64 (a0 : Int), .int .i64 (p0 : Int), .int .i64 (b0 : Int), .int .i64 (j0 : Int)] 33, .row 42 1 (.slice yoA (m2 + 1) yoc) (m2 + 1) ((q2.map (·.2)) ++ [.slice none 0 0])] ++ X) w12d := hS4
             clear hS4
             have hk := hS.sub (l' := [.blk lb #[.slice (some ⟨g, off, none⟩) m2 c1] 81, .blk mb #[.int .i64 0, .int .i64 (a0 : Int), .int .i64 (p0 : Int), .int .i64 (b0 : Int), .int .i64 (j0 : Int)] 33]) (.cons _ (.cons _ (.cons _ (.cons_cons _ (.cons _ (.cons_cons _ (List.nil_sublist _)))))))
             refine eff_append_run _ _ 81 rfl ((.slice (some ⟨g, off, none⟩) m2 c1)) (.slice (some ⟨g2, 0, none⟩) 1 1) rfl rfl hr ?_
             refine ⟨hk, hK _ _ ?_⟩
             clear hK Kv hk hr
             refine ph_end (by kernel_rfl) ?_
             have hS := hS.sub (l' := [.blk nb #[.int .i64 n] 3, .blk lb #[.slice (some ⟨g, off, none⟩) m2 c1] 81, .row 3 1 (.slice y8A (m2 + 1) y8c) (m2 + 1) ((satsOf q2) ++ [.int .i64 sat]), .blk mb #[.int .i64 0, .int .i64 (a0 : Int), .int .i64 (p0 : Int), .int .i64 (b0 : Int), .int .i64 (j0 : Int)] 33, .row 42 1 (.slice yoA (m2 + 1) yoc) (m2 + 1) ((q2.map (·.2)) ++ [.slice none 0 0])] ++ X) (.cons _ (.cons _ (.cons_cons _ (.cons_cons _ (.cons_cons _ (.cons_cons _ (.cons_cons _ (List.Sublist.refl _))))))))
             have z1 : w12d.cell? ⟨lb, 0, none⟩ = some (.slice (some ⟨g, off, none⟩) m2 c1) := hS.cell 1 rfl 0 rfl
             have z2 : w12d.frozen? ⟨lb, 0, none⟩ = false := hS.free 1 rfl 0
             rw [← HX.out, ← HM2.out] at hS
             have hS := lrq_snoc (l := []) (sat := sat) (v' := .slice none 0 0) (Q := [.blk nb #[.int .i64 n] 3]) (hS.nil 3 1)
             rw [HM2.out, ← lr_q] at hS
             have HS9 := Lib.hid hS
             clear hS
             go_wp2_with fail
             go_meet
             exact ⟨q2 ++ [(⟨sat, []⟩, .slice none 0 0)], _, Lib.hid (HLE.out _), by rw [List.length_append, HM2.out]; exact hb5, by rw [List.length_append, HM2.out]; simp; omega, Lib.hid (fun q hq => by
              rcases List.mem_append.1 hq with h | h
              · exact HL2.out q h
              · obtain rfl := List.mem_singleton.1 h
                show 0 ≤ 100000; omega), HS9.out⟩
       case rest =>
       as_aux_lemma =>
        obtain ⟨q3, v, HLE, hb3, hq3, HL3, hS⟩ := hcut
        obtain ⟨A3, c3, rfl, hc3⟩ := lr_open hS
        obtain ⟨g3, o3, rfl⟩ := lr_addr hS (by omega)
        obtain ⟨bA, cB, hvb, hcb⟩ := lr_val hS hb3
        have hsl3 := HL3.out _ (List.getElem_mem hb3)
        have HSB : Hid (stopsAt (q3.map (·.1)) (b0 : Int) = (q3[b0]'hb3).1.stops) := Lib.hid (by rw [stopsAt_lt (by simpa using hb3)]; simp)
        have HPM := Lib.hid (fun l v => put_map q3 hb3 l v)
        have HIB : Hid (∀ v8 R wx, SL w w.heap.size (LR nb lb mb n #[.int .i64 0, .int .i64 (a0 : Int), .int .i64 (p0 : Int), .int .i64 (b0 : Int), .int .i64 (j0 : Int)] v8 (.slice (some ⟨g3, o3, none⟩) q3.length c3) q3 R) wx → IntsAt wx wx.heap.size bA (q3[b0]'hb3).1.stops) := Lib.hid (fun v8 R wx h => lr_ints h hb3 hvb)
        obtain ⟨sb, hsb⟩ : ∃ x, (q3[b0]'hb3).1.stops = x := ⟨_, rfl⟩
        rw [hsb] at hvb hcb hsl3 HSB HIB
        have HVB := Lib.hid hvb
        have HB3 : Hid (b0 < q3.length) := Lib.hid hb3
        have HS := Lib.hid hS
        clear hS hvb hcb hsb hc3
        go_upto_region 21 with fail
        go_cut [151] from 143 to 151 (fun v wx => v = .bool (decide ((sb.length : Int) < (j0 : Int))) ∧ SL w w.heap.size (LR nb lb mb n #[.int .i64 0, .int .i64 (a0 : Int), .int .i64 (p0 : Int), .int .i64 (b0 : Int), .int .i64 (j0 : Int)] u8 (.slice (some ⟨g3, o3, none⟩) q3.length c3) q3 [.row 3 1 (.slice gA gn.length gc) gn.length (gn.map (.int .i64))]) wx)
        case first =>
         by_cases ck : (sb.length : Int) < (j0 : Int)
         · have HV : Hid (decide ((sb.length : Int) < (j0 : Int)) = true) := Lib.hid (decide_eq_true (ck))
           have t0 : decide ((sb.length : Int) < (j0 : Int)) = true := decide_eq_true ck
           as_aux_lemma =>
            refine wp_region_sq _ HS.out (by kernel_rfl) (by kernel_rfl) fun C cw _ hC hin => ?_
            have qm3 : ∀ d, (cw d).cell? ⟨mb, 3, none⟩ = some (.int .i64 (b0 : Int)) := fun d => lk_m (lr_k (hC d)) 3 rfl
            have qm4 : ∀ d, (cw d).cell? ⟨mb, 4, none⟩ = some (.int .i64 (j0 : Int)) := fun d => lk_m (lr_k (hC d)) 4 rfl
            have ql : ∀ d, (cw d).cell? ⟨lb, 0, none⟩ = some ((.slice (some ⟨g3, o3, none⟩) q3.length c3)) := fun d => lk_l (lr_k (hC d))
            have qr : ∀ d, (cw d).cell? ⟨g3, o3 + b0, none⟩ = some (.slice bA sb.length cB) := fun d => lk_row (lr_k (hC d)) HB3.out HVB.out
            clear hC hin HS HIB HPM HSB
            repeat (go_big_quiet_step (first | fail))
            refine wpQuiet_nil ?_
            intro w13 hw13
            have Hw13 := Lib.hid hw13
            clear hw13 qm3 qm4 ql qr 
            clear ck t0
            go_wp2_with fail
            go_meet
            exact ⟨congrArg Value.bool (by first | exact HV.out.symm | (rw [Bool.eq_iff_iff]; simp; done) | (rw [Bool.eq_iff_iff]; simp; omega)), Hw13.out⟩
         have t0 : decide ((sb.length : Int) < (j0 : Int)) = false := decide_eq_false ck
         have n0 := ck
         clear ck
         have HV : Hid (decide ((sb.length : Int) < (j0 : Int)) = false) := Lib.hid (decide_eq_false (n0))
         clear n0
         as_aux_lemma =>
          refine wp_region_sq _ HS.out (by kernel_rfl) (by kernel_rfl) fun C cw _ hC hin => ?_
          have qm3 : ∀ d, (cw d).cell? ⟨mb, 3, none⟩ = some (.int .i64 (b0 : Int)) := fun d => lk_m (lr_k (hC d)) 3 rfl
          have qm4 : ∀ d, (cw d).cell? ⟨mb, 4, none⟩ = some (.int .i64 (j0 : Int)) := fun d => lk_m (lr_k (hC d)) 4 rfl
          have ql : ∀ d, (cw d).cell? ⟨lb, 0, none⟩ = some ((.slice (some ⟨g3, o3, none⟩) q3.length c3)) := fun d => lk_l (lr_k (hC d))
          have qr : ∀ d, (cw d).cell? ⟨g3, o3 + b0, none⟩ = some (.slice bA sb.length cB) := fun d => lk_row (lr_k (hC d)) HB3.out HVB.out
          clear hC hin HS HIB HPM HSB
          repeat (go_big_quiet_step (first | fail))
          refine wpQuiet_nil ?_
          intro w13 hw13
          have Hw13 := Lib.hid hw13
          clear hw13 qm3 qm4 ql qr 
          clear t0
          go_wp2_with fail
          go_meet
          exact ⟨congrArg Value.bool (by first | exact HV.out.symm | (rw [Bool.eq_iff_iff]; simp; done) | (rw [Bool.eq_iff_iff]; simp; omega)), Hw13.out⟩
        case rest =>
        as_aux_lemma =>
         obtain ⟨rfl, hS⟩ := hcut
         have HS := Lib.hid hS
         clear hS
         obtain ⟨bu, hbu⟩ : ∃ t, decide ((sb.length : Int) < (j0 : Int)) = t := ⟨_, rfl⟩
         have HBU := Lib.hid hbu
         rw [hbu]
         clear hbu
         cases bu with
         | true =>
           have HNO : Hid (o = none) := Lib.hid (by
            have hbad := of_decide_eq_true HBU.out
            rw [← HR2.out]
            unfold elseM
            rw [if_neg (by rw [HOK.out]; simp), if_pos]
            rw [← HLE.out]
            unfold behindB
            rw [HSB.out, decide_eq_false (p := 0 ≤ (j0 : Int) ∧ (j0 : Int) ≤ (sb.length : Int)) (by omega), Bool.and_false])
           go_wp2_with fail
           go_ret2
           rw [HNO.out]
           exact ⟨rfl, HS.out.below⟩
         | false =>
         have hbad := of_decide_eq_false HBU.out
         have hjs : j0 ≤ sb.length := by omega
         have HSO : Hid (o = some (putStops (q3.map (·.1)) (b0 : Int) (sb.take j0 ++ gn ++ sb.drop j0))) := Lib.hid (by
          rw [← HR2.out]
          unfold elseM
          rw [if_neg (by rw [HOK.out]; simp), ← HLE.out, if_neg]
          · simp only [HSB.out, HSA0.out, Int.toNat_natCast, HGN.out.1]
          · unfold behindB
            rw [HSB.out, decide_eq_true (p := 0 ≤ (j0 : Int) ∧ (j0 : Int) ≤ (sb.length : Int)) (by omega), decide_eq_true (p := 0 ≤ (b0 : Int) ∧ (b0 : Int) < ((q3.map (·.1)).length : Int)) (by rw [List.length_map]; omega)]
            simp)
         obtain ⟨x1, hx1⟩ : ∃ x, sb.take j0 = x := ⟨_, rfl⟩
         obtain ⟨x2, hx2⟩ : ∃ x, sb.drop j0 = x := ⟨_, rfl⟩
         have hxl : x1.length + x2.length ≤ 100000 := by rw [← hx1, ← hx2, List.length_take, List.length_drop]; omega
         rw [hx1, hx2] at HSO
         have HP1 : Hid (∀ wx, SL w w.heap.size (LR nb lb mb n #[.int .i64 0, .int .i64 (a0 : Int), .int .i64 (p0 : Int), .int .i64 (b0 : Int), .int .i64 (j0 : Int)] u8 (.slice (some ⟨g3, o3, none⟩) q3.length c3) q3 [.row 3 1 (.slice gA gn.length gc) gn.length (gn.map (.int .i64))]) wx → Calls Try.prog 39 #[.slice bA sb.length cB, .int .i64 (0), .int .i64 ((j0 : Int))] wx (RowL wx x1)) := Lib.hid (fun wx h => by
          have h1 := part_any bA cB sb 0 j0 wx (HIB.out _ _ _ h) (by omega) (by omega) (by omega)
          rw [Nat.sub_zero, List.drop_zero, hx1] at h1
          exact h1)
         have HP2 : Hid (∀ wx, SL w w.heap.size (LR nb lb mb n #[.int .i64 0, .int .i64 (a0 : Int), .int .i64 (p0 : Int), .int .i64 (b0 : Int), .int .i64 (j0 : Int)] u8 (.slice (some ⟨g3, o3, none⟩) q3.length c3) q3 [.row 3 1 (.slice gA gn.length gc) gn.length (gn.map (.int .i64))]) wx → Calls Try.prog 39 #[.slice bA sb.length cB, .int .i64 ((j0 : Int)), .int .i64 ((sb.length : Int))] wx (RowL wx x2)) := Lib.hid (fun wx h => by
          have h1 := part_any bA cB sb j0 sb.length wx (HIB.out _ _ _ h) (by omega) (by omega) (by omega)
          rw [List.take_of_length_le (by rw [List.length_drop]; exact Nat.le_refl _), hx2] at h1
          exact h1)
         clear hx1 hx2 HBU hbad HSB HR2 HOK HLE
         go_upto_region 23 with fail
         refine wp_region_sl [0,1,2,3,4,5,6,7,8,9,11,12,13,14,15,16,17,18,19,20,21,22,23,24] [10,25,26,27] [28,29] _ HS.out lk_sub (by kernel_rfl) (by kernel_rfl) (.cons rfl (.cons rfl .nil)) (fun C cw _ hC => ?_)
         have q3_ : ∀ d, (cw d).cell? ⟨mb, 3, none⟩ = some (.int .i64 (b0 : Int)) := fun d => lk_m (hC d) 3 rfl
         have q4_ : ∀ d, (cw d).cell? ⟨mb, 4, none⟩ = some (.int .i64 (j0 : Int)) := fun d => lk_m (hC d) 4 rfl
         have ql : ∀ d, (cw d).cell? ⟨lb, 0, none⟩ = some ((.slice (some ⟨g3, o3, none⟩) q3.length c3)) := fun d => lk_l (hC d)
         have qr : ∀ d, (cw d).cell? ⟨g3, o3 + b0, none⟩ = some (.slice bA sb.length cB) := fun d => lk_row (hC d) HB3.out HVB.out
         repeat (first | (refine pl_len _ _ _ _ _ (by kernel_rfl) rfl rfl rfl rfl (fun Kv hK => ?_); go_simp; refine hK _ ?_; clear hK Kv) | (refine pl_look rfl rfl rfl (fun Kv hK => ?_); go_big_quiet_op; refine hK _ ?_; clear hK Kv))
         clear q3_ q4_ ql qr hC HS
         refine pl_end ?_
         intro w6 hS
         refine pm_eff rfl rfl fun Kv hK => ?_
         go_simp
         refine eff_call (HP1.out w6 hS) (fun e w7 h => ?_)
         obtain ⟨v1, rfl, hq⟩ := h
         obtain ⟨v1A, v1c, rfl, _, _⟩ := (hq.row 0 rfl).slice_
         have hS := hS.join hq
         refine .inl ⟨_, rfl, hS.sub (.cons _ lk_sub), hK _ _ ?_⟩
         clear hK Kv hq
         refine pm_eff rfl rfl fun Kv hK => ?_
         go_simp
         refine eff_call (HP2.out w7 hS.tail) (fun e w8 h => ?_)
         obtain ⟨v2, rfl, hq⟩ := h
         obtain ⟨v2A, v2c, rfl, _, _⟩ := (hq.row 0 rfl).slice_
         have hS := hS.join hq
         refine .inl ⟨_, rfl, hS.sub (.cons _ (.cons _ lk_sub)), hK _ _ ?_⟩
         clear hK Kv hq
         refine pm_eff rfl rfl fun Kv hK => ?_
         go_simp
         have hS := hS.alloc #[.slice v1A x1.length v1c, .slice gA gn.length gc, .slice v2A x2.length v2c] 42
         obtain ⟨gb, hgb⟩ : ∃ b, w8.heap.size = b := ⟨_, rfl⟩
         obtain ⟨w9, hw9⟩ : ∃ x, w8.alloc (.cells #[.slice v1A x1.length v1c, .slice gA gn.length gc, .slice v2A x2.length v2c] 42) = x := ⟨_, rfl⟩
         rw [hgb, hw9] at hS
         rw [hgb, hw9]
         clear hgb hw9
         refine ⟨hS.sub (.cons _ (.cons _ (.cons _ lk_sub))), hK _ _ ?_⟩
         clear hK Kv
         have HAL := all3_any gb 42 x1 gn x2 (.slice v1A x1.length v1c) (.slice gA gn.length gc) (.slice v2A x2.length v2c) w9 (hS.blk 0 rfl) (hd_row hS 2 rfl) (hd_row (lr_raise hS.tail.tail.tail) 0 rfl) (hd_row hS 1 rfl) (by have := HGN.out.2; omega)
         refine pm_eff rfl rfl fun Kv hK => ?_
         go_simp
         refine eff_call (HAL) (fun e w10 h => ?_)
         obtain ⟨vl, rfl, hq⟩ := h
         obtain ⟨vlA, vlc, rfl, _, _⟩ := (hq.row 0 rfl).slice_
         have hS := hS.join hq
         refine .inl ⟨_, rfl, hS.sub (.cons _ (.cons _ (.cons _ (.cons _ lk_sub)))), hK _ _ ?_⟩
         clear hK Kv hq
         clear HAL
         refine pm_end ?_
         obtain ⟨lq, hlq⟩ : ∃ x, x1 ++ gn ++ x2 = x := ⟨_, rfl⟩
         rw [hlq] at hS HSO
         rw [hlq]
         have hS := hS.sub (.cons_cons _ (.cons _ (.cons _ (.cons _ (List.Sublist.refl _)))))
         have z1 : w10.cell? ⟨g3, o3 + b0, none⟩ = some (.slice bA sb.length cB) := lk_row (lr_k hS.tail) HB3.out HVB.out
         have z2 : w10.frozen? ⟨g3, o3 + b0, none⟩ = false := lk_free (lr_k hS.tail) (by omega) _
         have hS := lr_put hS HB3.out
         have HQ4 := Lib.hid (HPM.out lq (.slice vlA lq.length vlc))
         obtain ⟨q4, hq4⟩ : ∃ q, q3.set b0 ((⟨(q3[b0]'HB3.out).1.sat, lq⟩ : BikeV), .slice vlA lq.length vlc) = q := ⟨_, rfl⟩
         have hn4 : q4.length ≤ n + 1 := by rw [← hq4, List.length_set]; exact hq3
         rw [hq4] at hS HQ4
         have HS := Lib.hid hS
         have HFIN : Hid (o = some (q4.map (·.1))) := Lib.hid (by rw [HSO.out, HQ4.out])
         clear hS hlq hq4 HP1 HP2 HIB hxl hjs hq3
         go_wp2_with fail
         go_meet
         exact ⟨_, q4, _, HFIN, hn4, HS.out⟩
    case rest =>
     as_aux_lemma =>
      obtain ⟨v, qs', R, HO2, hq9, hS⟩ := hcut
      obtain ⟨A2, c2, rfl, _⟩ := lr_open hS
      obtain ⟨A8, c8, rfl, _⟩ := lr_sopen hS
      obtain ⟨m, hm⟩ : ∃ m, qs'.length = m := ⟨_, rfl⟩
      have HM := Lib.hid hm
      have y0 : wc.cell? ⟨lb, 0, none⟩ = some (.slice A2 qs'.length c2) := lk_l (lr_k hS)
      rw [hm] at y0
      rw [hm] at hq9
      have HS := Lib.hid hS
      have HBK : Hid (∀ ps : List (BikeV × Value), ps = qs'.filter (fun q => keepB q.1) → ∀ wx A9 c9, SL w w.heap.size (.row 44 2 (.slice A9 ps.length c9) ps.length ((bikeN 44 3).heads ps) :: LR nb lb mb n #[.int .i64 kd, .int .i64 a, .int .i64 i, .int .i64 b, .int .i64 j] (.slice A8 qs'.length c8) (.slice A2 qs'.length c2) qs' R) wx → Bikes wx wx.heap.size A9 (ps.map (·.1))) := Lib.hid (fun ps hps wx A9 c9 h => bikes_heads (T := 44) (t := 3) (h.reads 0 rfl) (fun q hq => lr_heads h.tail q (by rw [hps] at hq; exact (List.mem_filter.1 hq).1)))
      have HFO : Hid (o.map (·.filter keepB) = some ((qs'.filter (fun q => keepB q.1)).map (·.1))) := Lib.hid (by rw [HO2.out]; show some ((qs'.map (·.1)).filter keepB) = _; rw [List.filter_map]; rfl)
      obtain ⟨i2, hi2, hx1, hxz, hxb⟩ := info_parts info_bikeE
      have HI2 := Lib.hid (And.intro hi2 (And.intro hx1 (And.intro hxz hxb)))
      clear hm hS HS2 HO2 hi2 hx1 hxz hxb
      rw [HM.out]
      go_upto_region 50 with fail
      clear y0
      go_loopw [432, 22] (fun iv v22 wr => ∃ (t : Nat) (ps : List (BikeV × Value)), t ≤ m ∧ iv = .int .i64 t ∧ Hid (ps = (qs'.take t).filter (fun q => keepB q.1)) ∧ ps.length ≤ t ∧ SL w w.heap.size (.row 44 2 v22 ps.length ((bikeN 44 3).heads ps) :: LR nb lb mb n #[.int .i64 kd, .int .i64 a, .int .i64 i, .int .i64 b, .int .i64 j] (.slice A8 qs'.length c8) (.slice A2 qs'.length c2) qs' R) wr) (fun iv _ _ => m - (intOf iv).toNat)
      case atStart => exact ⟨0, [], by omega, rfl, Lib.hid rfl, Nat.le_refl _, HS.out.nil _ _⟩
      case round =>
       clear HS
       obtain ⟨t, ps, ht, rfl, HPS, hpl, hS⟩ := hrel
       obtain ⟨A9, c9, rfl, _, _⟩ := (hS.row 0 rfl).slice_
       by_cases hlt : t < m
       · --AUX
         have hk : t < qs'.length := by rw [HM.out]; exact hlt
         obtain ⟨g2, o2, rfl⟩ := lr_addr hS.tail (by omega)
         obtain ⟨g8, o8, rfl⟩ := lr_saddr hS.tail (by omega)
         obtain ⟨a3, c3, hv, hr3⟩ := lr_val hS.tail hk
         have d0 := lk_row (lr_k hS.tail) hk hv
         have d1 := lr_sat hS.tail hk
         have HTK : Hid ((qs'.take (t + 1)).filter (fun q => keepB q.1) = ps ++ if keepB qs'[t].1 then [(qs'[t].1, .slice a3 qs'[t].1.stops.length c3)] else []) := Lib.hid (by
          rw [HPS.out, List.take_succ_eq_append_getElem hk, List.filter_append, List.filter_cons, ← hv]; rfl)
         obtain ⟨q, hq⟩ : ∃ q, qs'[t].1 = q := ⟨_, rfl⟩
         rw [hq] at d0 d1 HTK
         have HS := Lib.hid hS
         have HKB : Hid (keepB q = decide (0 < q.stops.length)) := Lib.hid rfl
         obtain ⟨P, hP⟩ : ∃ P, ps.length = P := ⟨_, rfl⟩
         have HPL := Lib.hid hP
         rw [hP] at hpl ⊢
         rw [hP] at HS
         obtain ⟨L, hL⟩ : ∃ L, q.stops.length = L := ⟨_, rfl⟩
         have HL := Lib.hid hL
         rw [hL] at d0 HTK HKB
         clear hS hv hq hP hr3 hk hL
         by_cases h0 : 0 < L
         · have t0 : ¬ (L : Int) ≤ 0 := by omega
           go_wp2_with (at_builtin; refine stopHere ?_)
           show wpList _ _ _ _ _ _
           refine wpList_append_sl rfl _ _ 27 rfl HS.out 0 i2 (.agg #[.int .i64 0, .slice none 0 0]) 2 32 Try.underlying27 HI2.out.1 HI2.out.2.1 HI2.out.2.2.1 HI2.out.2.2.2 rfl (by decide) _ _ 1 _ rfl rfl _ rfl rfl (by decide) rfl (by simp [Value.oneCell']) (by omega) (by decide) ?_
           intro v9 w9 hS9 hz9
           have HS9 := Lib.hid hS9
           have HT2 : Hid ((qs'.take (t + 1)).filter (fun q => keepB q.1) = ps ++ [(q, .slice a3 L c3)]) := Lib.hid (by rw [HTK.out, HKB.out, decide_eq_true h0, if_pos rfl])
           clear hS9 hz9 d0 d1
           go_wp2_with fail
           go_roundw
           case rel => exact ⟨t + 1, ps ++ [(q, .slice a3 L c3)], by omega, by go_num, Lib.hid HT2.out.symm, by rw [List.length_append, HPL.out]; simp; omega, by rw [List.length_append, heads_snoc', HPL.out]; exact HS9.out⟩
           case measure => simp [intOf]; omega
         · obtain rfl : L = 0 := by omega
           have HT2 : Hid ((qs'.take (t + 1)).filter (fun q => keepB q.1) = ps) := Lib.hid (by rw [HTK.out, HKB.out]; simp)
           go_wp2_with fail
           go_roundw
           case rel => exact ⟨t + 1, ps, by omega, by go_num, Lib.hid HT2.out.symm, by rw [HPL.out]; omega, by rw [HPL.out]; exact HS.out⟩
           case measure => simp [intOf]; omega
       · obtain rfl : t = m := by omega
         have HF : Hid (ps = qs'.filter (fun q => keepB q.1)) := Lib.hid (by rw [HPS.out, List.take_of_length_le (by rw [HM.out]; exact Nat.le_refl _)])
         have HBL := Lib.hid hS.below
         have HBI := Lib.hid (HBK.out ps HF.out wr A9 c9 hS)
         have HPL : Hid (ps.length = (ps.map (·.1)).length) := Lib.hid (by rw [List.length_map])
         rw [HPL.out]
         clear hS hlt HPS HBK hpl
         go_wp2_with fail
         go_ret2
         rw [HFO.out, ← HF.out]
         exact ⟨_, _, rfl, HBI.out, HBL.out⟩
end Go.Proofs.Ytpbhbmdghafkmaa
