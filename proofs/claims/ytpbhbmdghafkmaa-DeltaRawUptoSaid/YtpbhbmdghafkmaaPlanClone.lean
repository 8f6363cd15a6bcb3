/- plan.Clone: trucks and bikes of one's own. (printed by gen/planclone.py) -/
import Derived.Test.YtpbhbmdghafkmaaNest
import Derived.Test.YtpbhbmdghafkmaaCloneInt
import Derived.Test.YtpbhbmdghafkmaaCloneStop
import Derived.Test.YtpbhbmdghafkmaaPlanPJ
import Derived.Test.YtpbhbmdghafkmaaRowRun
import Derived.Deep.CutBlock
import Derived.Deep.CutRange
import Derived.Deep.DeepCutAuto
namespace Go.Proofs.Ytpbhbmdghafkmaa
open Go.ChangeShapes Go.WideShapes Go.ChangeAt Go.RowKit
set_option linter.unusedVariables false
def ClonePost (w : World) (q : PlanV) (e : Ending) (w' : World) : Prop :=
 ∃ (vt vb : Value) (ts : List (List StopV × Value)) (bs : List (BikeV × Value)), e = .returned (.agg #[vt, vb]) ∧ ts.map (·.1) = q.trucks ∧ bs.map (·.1) = q.bikes ∧ SL w w.heap.size ((truckN 88 105).own vt ts ++ (bikeN 44 3).own vb bs) w'
theorem stops_cells (l : List StopV) : ∀ u ∈ l.flatMap StopV.cells, u.oneCell' = true := by
 intro u hu
 obtain ⟨s, _, hs⟩ := List.mem_flatMap.1 hu
 simp [StopV.cells] at hs
 rcases hs with rfl | rfl <;> rfl
theorem ints_cells (l : List Int) : ∀ u ∈ l.map (Value.int .i64), u.oneCell' = true := by
 intro u hu
 obtain ⟨n, _, rfl⟩ := List.mem_map.1 hu
 rfl
theorem info_truckC : (Try.prog.info? 88).map (fun i => (i.zero, i.size, i.bytes)) = some (some (.agg #[.slice none 0 0]), 1, 24) := by kernel_rfl
theorem info_bikeC : (Try.prog.info? 44).map (fun i => (i.zero, i.size, i.bytes)) = some (some (.agg #[.int .i64 0, .slice none 0 0]), 2, 32) := by kernel_rfl
set_option maxRecDepth 100000 in
set_option maxHeartbeats 4000000 in
theorem planClone_any (TA BA : Option Addr) (tc bc : Nat) (q : PlanV) (w : World) (hP : PlanIn w w.heap.size TA BA q) (hL : PlanL q) :
 Calls Try.prog 44 #[.agg #[.slice TA q.trucks.length tc, .slice BA q.bikes.length bc]] w (ClonePost w q) := by
 have HP := Lib.hid hP
 have HL := Lib.hid hL
 have hlt := hL.trucks
 have hlb := hL.bikes
 obtain ⟨i0, hi0, hz0, hz1, hz2⟩ := info_parts info_truckC
 have HTI := Lib.hid (And.intro hi0 (And.intro hz0 (And.intro hz1 hz2)))
 obtain ⟨j0, hj0, hy0, hy1, hy2⟩ := info_parts info_bikeC
 have HBI := Lib.hid (And.intro hj0 (And.intro hy0 (And.intro hy1 hy2)))
 have HS0 := Lib.hid ((((SL.start (Nat.le_refl w.heap.size)).alloc #[.slice TA q.trucks.length tc, .slice BA q.bikes.length bc] 39).alloc #[.slice none 0 0, .slice none 0 0] 39).alloc #[.slice none 0 0, .slice none 0 0] 39)
 clear hP hL hi0 hz0 hz1 hz2 hj0 hy0 hy1 hy2
 go_enter Try.func44, Try.ntmps44
 go_upto_region 2 with fail
 obtain ⟨pb, hpb⟩ : ∃ pb, pb = w.heap.size := ⟨_, rfl⟩
 obtain ⟨rb, hrb⟩ : ∃ rb, rb = w.heap.size + 1 := ⟨_, rfl⟩
 obtain ⟨ob, hob⟩ : ∃ ob, ob = w.heap.size + 1 + 1 := ⟨_, rfl⟩
 obtain ⟨pc, hpc⟩ : ∃ pc : Array Value, pc = #[.slice TA q.trucks.length tc, .slice BA q.bikes.length bc] := ⟨_, rfl⟩
 have HPC := Lib.hid hpc
 have HS1 : Hid (SL w w.heap.size [.blk ob #[.slice none 0 0, .slice none 0 0] 39, .blk rb #[.slice none 0 0, .slice none 0 0] 39, .blk pb pc 39] (((w.alloc (.cells #[.slice TA q.trucks.length tc, .slice BA q.bikes.length bc] 39)).alloc (.cells #[.slice none 0 0, .slice none 0 0] 39)).alloc (.cells #[.slice none 0 0, .slice none 0 0] 39))) := Lib.hid (by
  rw [hpb, hrb, hob, hpc]
  simpa using HS0.out)
 rw [← hob, ← hrb, ← hpb]
 clear hob hrb hpb hpc HS0
 generalize (((w.alloc (.cells #[.slice TA q.trucks.length tc, .slice BA q.bikes.length bc] 39)).alloc (.cells #[.slice none 0 0, .slice none 0 0] 39)).alloc (.cells #[.slice none 0 0, .slice none 0 0] 39)) = w1 at *
 have c0 : w1.cell? ⟨pb, 0, none⟩ = some (.slice TA q.trucks.length tc) := HS1.out.cell 2 rfl 0 (by rw [HPC.out]; rfl)
 go_upto_region 3 with fail
 clear c0
 have HS2 : Hid (SL w w.heap.size ([.blk ob #[.slice none 0 0, .slice none 0 0] 39, .blk rb #[.slice none 0 0, .slice none 0 0] 39, .blk pb pc 39] ++ ((truckN 88 105).own (.slice none 0 0) [] ++ [])) w1) := Lib.hid (by
  have h := (HS1.out.nil 88 1).perm (l' := [.blk ob #[.slice none 0 0, .slice none 0 0] 39, .blk rb #[.slice none 0 0, .slice none 0 0] 39, .blk pb pc 39] ++ ((truckN 88 105).own (.slice none 0 0) [] ++ [])) (by
   simp only [Nest.own, Nest.heads, List.map_nil, List.append_nil, List.length_nil, List.flatMap_nil]
   exact (List.perm_append_singleton _ _).symm)
  exact h)
 clear HS1
 go_loopw [11] (fun i wr => ∃ (k : Nat) (v : Value) (ts : List (List StopV × Value)), k ≤ q.trucks.length ∧ i = .int .i64 k ∧ Hid (ts.map (·.1) = q.trucks.take k) ∧ SL w w.heap.size ([.blk ob #[v, .slice none 0 0] 39, .blk rb #[.slice none 0 0, .slice none 0 0] 39, .blk pb pc 39] ++ ((truckN 88 105).own v ts ++ [])) wr) (fun i _ => q.trucks.length - (intOf i).toNat)
 case atStart => exact ⟨0, _, [], by omega, rfl, Lib.hid rfl, by simpa [Nest.own, Nest.heads] using HS2.out⟩
 case round =>
  clear HS2
  obtain ⟨k, v, ts, hk, rfl, HM, hS⟩ := hrel
  by_cases hlt : k < q.trucks.length
  · as_aux_lemma =>
    obtain ⟨b, o, a, c, hA, hb, d00, hst⟩ := trucks_at HP.out.trucks hlt
    have d0 := (hS.below.cell (p := ⟨b, o + k, none⟩) hb).trans d00
    have htl : q.trucks[k].length ≤ 100000 := by have := flatten_le hlt; have := HL.out.stops; omega
    have HTK := Lib.hid (List.take_succ_eq_append_getElem hlt)
    obtain ⟨t, ht⟩ : ∃ t, q.trucks[k] = t := ⟨_, rfl⟩
    rw [ht] at d0 hst htl HTK
    have HNL : Hid (ts.length = k) := Lib.hid (by have := congrArg List.length HM.out; simpa [Nat.min_eq_left hk] using this)
    have HST := Lib.hid hst
    have HS3 := Lib.hid (hS.alloc #[.slice a t.length c] 88)
    rw [hA]
    clear ht hst hS hA d00
    go_upto_region 5 with fail
    obtain ⟨tb, htb⟩ : ∃ tb, tb = wr.heap.size := ⟨_, rfl⟩
    generalize (wr.alloc (.cells #[.slice a t.length c] 88)) = w5 at *
    rw [← htb] at HS3 ⊢
    clear htb d0 hb
    refine wp_region_sl [0,1,2,3] [4,5,6,7] [8,9] [.blk tb #[.slice a t.length c] 88, .blk ob #[v, .slice none 0 0] 39] HS3.out (.cons_cons _ (.cons_cons _ (List.nil_sublist _))) (by kernel_rfl) (by kernel_rfl) (.cons rfl (.cons rfl .nil)) (fun C cw _ hC => ?_)
    have q0 : ∀ c, (cw c).cell? ⟨ob, 0, none⟩ = some v := fun c => (hC c).cell 1 rfl 0 rfl
    have q1 : ∀ d, (cw d).cell? ⟨tb, 0, none⟩ = some (.slice a t.length c) := fun d => (hC d).cell 0 rfl 0 rfl
    repeat (refine pl_look rfl rfl rfl (fun Kv hK => ?_); go_big_quiet_op; refine hK _ ?_; clear hK Kv)
    clear q0 q1 hC HS3
    refine pl_end ?_
    intro w6 hS6
    refine pm_eff rfl rfl fun Kv hK => ?_
    go_simp
    refine eff_call (cloneStop a t.length c (t.flatMap StopV.cells) w6 (reads_more (Reads.below HST.out hS6.below) hS6.below.size) (stops_cells t) (by omega)) (fun e w7 h => ?_)
    obtain ⟨h', rfl, hq⟩ := h
    obtain ⟨Ah, ch, rfl, _, _⟩ := (hq.row 0 rfl).slice_
    have hS7 := hS6.join hq
    clear hq hS6
    refine .inl ⟨_, rfl, hS7.sub (.cons _ (.cons_cons _ (.cons_cons _ (List.nil_sublist _)))), hK _ _ ?_⟩
    clear hK Kv
    refine pm_eff rfl rfl fun Kv hK => ?_
    go_simp
    refine ⟨hS7.sub (.cons _ (.cons_cons _ (.cons_cons _ (List.nil_sublist _)))), hK _ _ ?_⟩
    clear hK Kv
    refine pm_eff rfl rfl fun Kv hK => ?_
    go_simp
    refine ⟨(hS7.alloc _ _).sub (.cons _ (.cons _ (.cons_cons _ (.cons_cons _ (List.nil_sublist _))))), hK _ _ ?_⟩
    clear hK Kv
    refine pm_append rfl rfl (.tmp 16) (.tmp 21) 37 rfl hS7 5 i0 _ 1 24 Try.underlying37 HTI.out.1 HTI.out.2.1 HTI.out.2.2.1 HTI.out.2.2.2 rfl (by decide) v _ 1 _ rfl rfl _ rfl rfl (by decide) rfl (by simp [Value.oneCell']) (by have := HNL.out; omega) (by decide) ?_
    intro v' w8 hS8 hz8
    refine ⟨hS8.sub (.cons _ (.cons_cons _ (.cons_cons _ (List.nil_sublist _)))), fun Kv hK => hK _ _ ?_⟩
    refine pm_end ?_
    obtain ⟨A', c', rfl, _, _⟩ := (hS8.row 5 rfl).slice_
    have e1 : w8.cell? ⟨ob, 0, none⟩ = some v := hS8.cell 2 rfl 0 rfl
    have e2 := hS8.free 2 rfl 0
    have HS9 := Lib.hid (hS8.setCell 2 rfl 0 (.slice A' (ts.length + 1) c'))
    clear hS7 hS8 hz8
    go_wp2_with fail
    go_roundw
    case rel =>
     refine ⟨k + 1, .slice A' (ts.length + 1) c', ts ++ [(t, .slice Ah t.length ch)], by omega, by go_num, Lib.hid (by rw [List.map_append, HM.out, HTK.out]; rfl), ?_⟩
     have h := HS9.out.sub (l' := (truckN 88 105).inner (t, .slice Ah t.length ch) :: ([.blk ob #[(.slice A' (ts.length + 1) c'), .slice none 0 0] 39, .blk rb #[.slice none 0 0, .slice none 0 0] 39, .blk pb pc 39] ++ (.row 88 1 (.slice A' (ts.length + 1) c') (ts.length + 1) ((truckN 88 105).heads ts ++ (truckN 88 105).head (t, .slice Ah t.length ch)) :: (ts.map (truckN 88 105).inner ++ [])))) (.cons_cons _ (.cons _ (List.Sublist.refl _)))
     exact h.nestSnoc
    case measure => simp [intOf]; omega
  · obtain rfl : k = q.trucks.length := by omega
    have HM1 : Hid (ts.map (·.1) = q.trucks) := Lib.hid (by rw [HM.out, List.take_length])
    obtain ⟨vt, rfl⟩ : ∃ vt, vt = v := ⟨_, rfl⟩
    have c1 : wr.cell? ⟨pb, 1, none⟩ = some (.slice BA q.bikes.length bc) := hS.cell 2 rfl 1 (by rw [HPC.out]; rfl)
    have HS2 : Hid (SL w w.heap.size ([.blk ob #[vt, .slice none 0 0] 39, .blk rb #[.slice none 0 0, .slice none 0 0] 39, .blk pb pc 39] ++ ((bikeN 44 3).own (.slice none 0 0) [] ++ ((truckN 88 105).own vt ts))) wr) := Lib.hid (by
     have h := (hS.nil 44 2).perm (l' := [.blk ob #[vt, .slice none 0 0] 39, .blk rb #[.slice none 0 0, .slice none 0 0] 39, .blk pb pc 39] ++ ((bikeN 44 3).own (.slice none 0 0) [] ++ ((truckN 88 105).own vt ts))) (by
      simp only [Nest.own, Nest.heads, List.map_nil, List.append_nil, List.length_nil, List.flatMap_nil]
      exact List.perm_middle.symm)
     exact h)
    clear hS hlt HM
    go_upto_region 8 with fail
    clear c1
    go_loopw [28] (fun i wr => ∃ (k : Nat) (v : Value) (bs : List (BikeV × Value)), k ≤ q.bikes.length ∧ i = .int .i64 k ∧ Hid (bs.map (·.1) = q.bikes.take k) ∧ SL w w.heap.size ([.blk ob #[vt, v] 39, .blk rb #[.slice none 0 0, .slice none 0 0] 39, .blk pb pc 39] ++ ((bikeN 44 3).own v bs ++ ((truckN 88 105).own vt ts))) wr) (fun i _ => q.bikes.length - (intOf i).toNat)
    case atStart => exact ⟨0, _, [], by omega, rfl, Lib.hid rfl, HS2.out⟩
    case round =>
     clear HS2
     obtain ⟨k, v, bs, hk, rfl, HM, hS⟩ := hrel
     by_cases hlt : k < q.bikes.length
     · as_aux_lemma =>
       obtain ⟨b, o, a, c, hA, hb, d00, d01, hst⟩ := bikes_at HP.out.bikes hlt
       have d0 := (hS.below.cell (p := ⟨b, o + k * 2, none⟩) hb).trans d00
       have d1 := (hS.below.cell (p := ⟨b, o + k * 2 + 1, none⟩) hb).trans d01
       have htl : q.bikes[k].stops.length ≤ 100000 := by have := stops_le hlt; have := HL.out.custs; omega
       have HTK := Lib.hid (List.take_succ_eq_append_getElem hlt)
       obtain ⟨t, ht⟩ : ∃ t, q.bikes[k] = t := ⟨_, rfl⟩
       rw [ht] at d0 d1 hst htl HTK
       clear d01
       have HNL : Hid (bs.length = k) := Lib.hid (by have := congrArg List.length HM.out; simpa [Nat.min_eq_left hk] using this)
       have HST := Lib.hid hst
       have HS3 := Lib.hid (hS.alloc #[.int .i64 t.sat, .slice a t.stops.length c] 44)
       rw [hA]
       clear ht hst hS hA d00
       go_upto_region 10 with fail
       obtain ⟨tb, htb⟩ : ∃ tb, tb = wr.heap.size := ⟨_, rfl⟩
       generalize (wr.alloc (.cells #[.int .i64 t.sat, .slice a t.stops.length c] 44)) = w5 at *
       rw [← htb] at HS3 ⊢
       clear htb d0 hb d1
       refine wp_region_sl [0,1,2,3,4,5] [6,7,8,9] [10,11] [.blk tb #[.int .i64 t.sat, .slice a t.stops.length c] 44, .blk ob #[vt, v] 39] HS3.out (.cons_cons _ (.cons_cons _ (List.nil_sublist _))) (by kernel_rfl) (by kernel_rfl) (.cons rfl (.cons rfl .nil)) (fun C cw _ hC => ?_)
       have q0 : ∀ c, (cw c).cell? ⟨ob, 1, none⟩ = some v := fun c => (hC c).cell 1 rfl 1 rfl
       have q1 : ∀ d, (cw d).cell? ⟨tb, 1, none⟩ = some (.slice a t.stops.length c) := fun d => (hC d).cell 0 rfl 1 rfl
       have q2 : ∀ d, (cw d).cell? ⟨tb, 0, none⟩ = some (.int .i64 t.sat) := fun d => (hC d).cell 0 rfl 0 rfl
       repeat (refine pl_look rfl rfl rfl (fun Kv hK => ?_); go_big_quiet_op; refine hK _ ?_; clear hK Kv)
       clear q0 q1 q2 hC HS3
       refine pl_end ?_
       intro w6 hS6
       refine pm_eff rfl rfl fun Kv hK => ?_
       go_simp
       refine eff_call (cloneInt a t.stops.length c (t.stops.map (.int .i64)) w6 (reads_more (Reads.below HST.out hS6.below) hS6.below.size) (ints_cells t.stops) (by omega)) (fun e w7 h => ?_)
       obtain ⟨h', rfl, hq⟩ := h
       obtain ⟨Ah, ch, rfl, _, _⟩ := (hq.row 0 rfl).slice_
       have hS7 := hS6.join hq
       clear hq hS6
       refine .inl ⟨_, rfl, hS7.sub (.cons _ (.cons_cons _ (.cons_cons _ (List.nil_sublist _)))), hK _ _ ?_⟩
       clear hK Kv
       refine pm_eff rfl rfl fun Kv hK => ?_
       go_simp
       refine ⟨hS7.sub (.cons _ (.cons_cons _ (.cons_cons _ (List.nil_sublist _)))), hK _ _ ?_⟩
       clear hK Kv
       refine pm_eff rfl rfl fun Kv hK => ?_
       go_simp
       refine ⟨(hS7.alloc _ _).sub (.cons _ (.cons _ (.cons_cons _ (.cons_cons _ (List.nil_sublist _))))), hK _ _ ?_⟩
       clear hK Kv
       refine pm_append rfl rfl (.tmp 33) (.tmp 40) 27 rfl hS7 5 j0 _ 2 32 Try.underlying27 HBI.out.1 HBI.out.2.1 HBI.out.2.2.1 HBI.out.2.2.2 rfl (by decide) v _ 1 _ rfl rfl _ rfl rfl (by decide) rfl (by simp [Value.oneCell']) (by have := HNL.out; omega) (by decide) ?_
       intro v' w8 hS8 hz8
       refine ⟨hS8.sub (.cons _ (.cons_cons _ (.cons_cons _ (List.nil_sublist _)))), fun Kv hK => hK _ _ ?_⟩
       refine pm_end ?_
       obtain ⟨A', c', rfl, _, _⟩ := (hS8.row 5 rfl).slice_
       have e1 : w8.cell? ⟨ob, 1, none⟩ = some v := hS8.cell 2 rfl 1 rfl
       have e2 := hS8.free 2 rfl 1
       have HS9 := Lib.hid (hS8.setCell 2 rfl 1 (.slice A' (bs.length + 1) c'))
       clear hS7 hS8 hz8
       go_wp2_with fail
       go_roundw
       case rel =>
        refine ⟨k + 1, .slice A' (bs.length + 1) c', bs ++ [(t, .slice Ah t.stops.length ch)], by omega, by go_num, Lib.hid (by rw [List.map_append, HM.out, HTK.out]; rfl), ?_⟩
        have h := HS9.out.sub (l' := (bikeN 44 3).inner (t, .slice Ah t.stops.length ch) :: ([.blk ob #[vt, (.slice A' (bs.length + 1) c')] 39, .blk rb #[.slice none 0 0, .slice none 0 0] 39, .blk pb pc 39] ++ (.row 44 2 (.slice A' (bs.length + 1) c') (bs.length + 1) ((bikeN 44 3).heads bs ++ (bikeN 44 3).head (t, .slice Ah t.stops.length ch)) :: (bs.map (bikeN 44 3).inner ++ ((truckN 88 105).own vt ts))))) (.cons_cons _ (.cons _ (List.Sublist.refl _)))
        exact h.nestSnoc
       case measure => simp [intOf]; omega
     · obtain rfl : k = q.bikes.length := by omega
       have HM2 : Hid (bs.map (·.1) = q.bikes) := Lib.hid (by rw [HM.out, List.take_length])
       obtain ⟨At, ct, rfl, _, _⟩ := (show OwnsQ wr 0 88 1 vt ts.length ((truckN 88 105).heads ts) from own_outer hS (fun r hr => by simp [hr])).slice_
       obtain ⟨Ab, cb, rfl, _, _⟩ := (hS.row 3 rfl).slice_
       have e0 : wr.cell? ⟨ob, 0, none⟩ = some (.slice At ts.length ct) := hS.cell 0 rfl 0 rfl
       have e1 : wr.cell? ⟨ob, 1, none⟩ = some (.slice Ab bs.length cb) := hS.cell 0 rfl 1 rfl
       have HS := Lib.hid hS
       clear hS hlt HM
       go_wp2_with (refine wpList_store_abs rfl 39 (.tmp 2) (.tmp 44) rfl rfl rb #[.slice At ts.length ct, .slice Ab bs.length cb] rfl rfl _ _ (HS.out.blk 1 rfl) (by kernel_rfl) rfl (by simp [Value.oneCell']) (fun w10 ho10 hg10 => ?_))
       refine retArr rfl _ _ rb 39 #[.slice At ts.length ct, .slice Ab bs.length cb] _ rfl hg10 Try.underlying39 rfl (by kernel_rfl) ?_
       refine ⟨_, _, ts, bs, rfl, HM1.out, HM2.out, ?_⟩
       have h := (HS.out.only 1 rfl ho10 hg10).sub (.cons _ (.cons _ (.cons _ (List.Sublist.refl ((bikeN 44 3).own (.slice Ab bs.length cb) bs ++ (truckN 88 105).own (.slice At ts.length ct) ts)))))
       exact h.perm List.perm_append_comm
end Go.Proofs.Ytpbhbmdghafkmaa
