/- law17.Spoilt. (printed by gen/spoilt.py) -/
import Derived.Test.YtpbhbmdghafkmaaDraft
import Derived.Test.YtpbhbmdghafkmaaDelInt
namespace Go.Proofs.Ytpbhbmdghafkmaa
open Go.ChangeShapes Go.WideShapes Go.ChangeAt Go.RowKit
set_option linter.unusedVariables false
set_option linter.unusedSimpArgs false
structure PlanT (q : PlanV) : Prop where
 trucks : q.trucks.length ≤ 90000
 bikes : q.bikes.length ≤ 90000
 stops : q.trucks.flatten.length ≤ 90000
 custs : (allStops q.bikes).length ≤ 90000
def SpoilPost (W : World) (e : Ending) (w' : World) : Prop := ∃ vt vb ts ps, e = .returned (.agg #[vt, vb]) ∧ PlanT ⟨ts.map (·.1), ps.map (·.1)⟩ ∧ SL W W.heap.size ((truckN 88 105).own vt ts ++ (bikeN 44 3).own vb ps) w'
structure PlanS (q : PlanV) : Prop where
 trucks : q.trucks.length ≤ 1000
 bikes : q.bikes.length ≤ 1000
 stops : q.trucks.flatten.length ≤ 1000
 custs : (allStops q.bikes).length ≤ 1000
theorem PlanS.T {q : PlanV} (h : PlanS q) : PlanT q := ⟨by have := h.trucks; omega, by have := h.bikes; omega, by have := h.stops; omega, by have := h.custs; omega⟩
theorem PlanS.L {q : PlanV} (h : PlanS q) : PlanL q := ⟨by have := h.trucks; omega, by have := h.bikes; omega, by have := h.stops; omega, by have := h.custs; omega⟩
theorem all_set_le : ∀ (bs : List BikeV) (k : Nat) (b : BikeV), (allStops (bs.set k b)).length ≤ (allStops bs).length + b.stops.length
 | [], k, b => by simp [allStops]
 | x :: bs, 0, b => by
   have e : ∀ (b : BikeV) (bs : List BikeV), allStops (b :: bs) = b.stops ++ allStops bs := fun _ _ => rfl
   simp only [List.set_cons_zero, e, List.length_append]; omega
 | x :: bs, k + 1, b => by
   have e : ∀ (b : BikeV) (bs : List BikeV), allStops (b :: bs) = b.stops ++ allStops bs := fun _ _ => rfl
   have ih := all_set_le bs k b
   simp only [List.set_cons_succ, e, List.length_append]; omega
theorem flat_set_le : ∀ (ts : List (List StopV)) (k : Nat) (t : List StopV), (ts.set k t).flatten.length ≤ ts.flatten.length + t.length
 | [], k, t => by simp
 | x :: ts, 0, t => by simp only [List.set_cons_zero, List.flatten_cons, List.length_append]; omega
 | x :: ts, k + 1, t => by
   have ih := flat_set_le ts k t
   simp only [List.set_cons_succ, List.flatten_cons, List.length_append]; omega
theorem flat_mem_le {t : List StopV} {ts : List (List StopV)} (h : t ∈ ts) : t.length ≤ ts.flatten.length := by
 rw [List.length_flatten]; exact mem_le_sum (List.mem_map_of_mem h)
theorem PlanS.setBike {ts : List (List StopV)} {bs : List BikeV} (h : PlanS ⟨ts, bs⟩) (k : Nat) (b : BikeV) (hb : b.stops.length ≤ 2000) : PlanT ⟨ts, bs.set k b⟩ :=
 ⟨by have := h.trucks; simp only at *; omega, by have := h.bikes; simp only [List.length_set] at *; omega, by have := h.stops; simp only at *; omega, by have := h.custs; have := all_set_le bs k b; simp only at *; omega⟩
theorem PlanS.setTruck {ts : List (List StopV)} {bs : List BikeV} (h : PlanS ⟨ts, bs⟩) (k : Nat) (t : List StopV) (ht : t.length ≤ 2000) : PlanT ⟨ts.set k t, bs⟩ :=
 ⟨by have := h.trucks; simp only [List.length_set] at *; omega, by have := h.bikes; simp only at *; omega, by have := h.stops; have := flat_set_le ts k t; simp only at *; omega, by have := h.custs; simp only at *; omega⟩
theorem PlanS.snocBike {ts : List (List StopV)} {bs : List BikeV} (h : PlanS ⟨ts, bs⟩) (s : Int) : PlanT ⟨ts, bs ++ [⟨s, []⟩]⟩ :=
 ⟨by have := h.trucks; simp only at *; omega, by have := h.bikes; simp only [List.length_append, List.length_cons, List.length_nil] at *; omega, by have := h.stops; simp only at *; omega, by have := h.custs; unfold allStops at *; simp only [List.flatMap_append, List.length_append, List.flatMap_cons, List.flatMap_nil, List.append_nil, List.length_nil] at *; omega⟩
theorem PlanS.snocTruck {ts : List (List StopV)} {bs : List BikeV} (h : PlanS ⟨ts, bs⟩) : PlanT ⟨ts ++ [[]], bs⟩ :=
 ⟨by have := h.trucks; simp only [List.length_append, List.length_cons, List.length_nil] at *; omega, by have := h.bikes; simp only at *; omega, by have := h.stops; simp only [List.flatten_append, List.flatten_cons, List.flatten_nil, List.append_nil, List.length_append, List.length_nil] at *; omega, by have := h.custs; simp only at *; omega⟩
set_option maxRecDepth 100000 in
set_option maxHeartbeats 16000000 in
theorem spoilt_any (TA BA : Option Addr) (tc bc : Nat) (q : PlanV) (what at_ by_ : Int) (w : World) (hP : PlanIn w w.heap.size TA BA q) (hL : PlanS q) (hw : 0 ≤ what ∧ what ≤ 255) (ha : 0 ≤ at_ ∧ at_ ≤ 255) (hb : -128 ≤ by_ ∧ by_ ≤ 127) :
 Calls Try.prog 21 #[.agg #[.slice TA q.trucks.length tc, .slice BA q.bikes.length bc], .int .u8 what, .int .u8 at_, .int .i8 by_] w (SpoilPost w) := by
 have HL := Lib.hid hL
 have HP := Lib.hid hP
 have HPS : Hid ((Try.prog.info? 39).map (·.size) = some 2) := Lib.hid (by kernel_rfl)
 obtain ⟨hw0, hw1⟩ := hw
 obtain ⟨ha0, ha1⟩ := ha
 obtain ⟨hb0, hb1⟩ := hb
 obtain ⟨nt, hnt⟩ : ∃ n, q.trucks.length = n := ⟨_, rfl⟩
 obtain ⟨nb, hnb⟩ : ∃ n, q.bikes.length = n := ⟨_, rfl⟩
 have HNT := Lib.hid (And.intro hnt hnb)
 rw [hnt, hnb]
 obtain ⟨PC, hPC⟩ : ∃ PC : Array Value, #[.slice TA nt tc, .slice BA nb bc] = PC := ⟨_, rfl⟩
 have hS := ((SL.start (W := w) (Nat.le_refl w.heap.size)).alloc PC 39).alloc #[.slice none 0 0, .slice none 0 0] 39
 simp only [size_alloc'] at hS
 obtain ⟨cb, hcb⟩ : ∃ cb, w.heap.size = cb := ⟨_, rfl⟩
 obtain ⟨rb, hrb⟩ : ∃ rb, cb + 1 = rb := ⟨_, rfl⟩
 obtain ⟨w1, hw1'⟩ : ∃ w1, ((w.alloc (.cells PC 39)).alloc (.cells #[.slice none 0 0, .slice none 0 0] 39)) = w1 := ⟨_, rfl⟩
 have HS1 : Hid (SL w w.heap.size [.blk rb #[.slice none 0 0, .slice none 0 0] 39, .blk cb PC 39] w1) := Lib.hid (by
  rw [← hrb, ← hcb, ← hw1']; exact hS)
 have HBL := Lib.hid (And.intro hcb (And.intro hrb hw1'))
 have HPC := Lib.hid hPC
 have HPCS : Hid (PC.size = 2) := Lib.hid (by rw [← hPC]; rfl)
 have HPSC : Hid ((Try.prog.info? 39).map (·.size) = some PC.size) := Lib.hid (by rw [HPCS.out]; exact HPS.out)
 have HCL : Hid (Calls Try.prog 44 #[.agg PC] w1 (ClonePost w1 q)) := Lib.hid (by
  have h := planClone_any TA BA tc bc q w1 ((hP.below HS1.out.below).more HS1.out.size) hL.L
  rw [hnt, hnb, hPC] at h; exact h)
 clear hP hL hnt hnb hS hcb hrb hw1'
 rw [hPC]
 clear hPC
 go_enter Try.func21, Try.ntmps21
 go_upto_region 1 with fail
 rw [HBL.out.2.2, HBL.out.1, HBL.out.2.1]
 go_upto_region 2 with first
  | (refine wpList_load_row rfl 39 _ rfl cb rfl _ PC _ _ (HS1.out.blk 1 rfl) Try.underlying39 rfl HPSC.out ?_)
  | (go_at_call 44; (with_reducible refine HCL.out.mono ?_); rintro e w2 ⟨vt, vb, ts, ps, rfl, hts, hps, hS2⟩
     have HJ := Lib.hid (HS1.out.join hS2)
     have HTS := Lib.hid (And.intro hts hps)
     obtain ⟨TA1, c1, rfl, _, _⟩ := (own_outer hS2 (fun r hr => List.mem_append_left _ hr)).slice_
     obtain ⟨BA1, c2, rfl, _, _⟩ := (own_outer hS2 (fun r hr => List.mem_append_right _ hr)).slice_
     have HJB : Hid ((((truckN 88 105).own (.slice TA1 ts.length c1) ts ++ (bikeN 44 3).own (.slice BA1 ps.length c2) ps) ++ [.blk rb #[.slice none 0 0, .slice none 0 0] 39, .blk cb PC 39])[(((truckN 88 105).own (.slice TA1 ts.length c1) ts ++ (bikeN 44 3).own (.slice BA1 ps.length c2) ps)).length + 1]? = some (.blk cb PC 39)) := Lib.hid (by rw [List.getElem?_append_right (by omega), Nat.add_sub_cancel_left]; rfl)
     clear hts hps hS2 HCL)
  | (refine wpList_store_abs rfl 39 _ _ rfl rfl cb #[.slice TA1 ts.length c1, .slice BA1 ps.length c2] rfl rfl _ _ (HJ.out.blk _ HJB.out) HPS.out HPCS.out (by simp [Value.oneCell']) ?_
     intro w3 ho3 hh3)
 have HLT : Hid (ts.length = nt ∧ ps.length = nb) := Lib.hid ⟨by rw [← HNT.out.1, ← HTS.out.1, List.length_map], by rw [← HNT.out.2, ← HTS.out.2, List.length_map]⟩
 rw [HLT.out.1, HLT.out.2] at hh3 HJ ⊢
 clear HJB
 have HS3 : Hid (SL w w.heap.size ([.blk rb #[.slice none 0 0, .slice none 0 0] 39, .blk cb #[.slice TA1 nt c1, .slice BA1 nb c2] 39] ++ ((truckN 88 105).own (.slice TA1 nt c1) ts ++ ((bikeN 44 3).own (.slice BA1 nb c2) ps ++ []))) w3) := Lib.hid (by
  have h := HJ.out.perm (l' := [.blk rb #[.slice none 0 0, .slice none 0 0] 39, .blk cb PC 39] ++ ((truckN 88 105).own (.slice TA1 nt c1) ts ++ ((bikeN 44 3).own (.slice BA1 nb c2) ps ++ []))) (by rw [List.append_nil]; exact List.perm_append_comm)
  exact h.only 1 rfl ho3 hh3)
 clear HJ ho3 hh3
 have HSM : Hid (PlanS ⟨ts.map (·.1), ps.map (·.1)⟩) := Lib.hid (by rw [HTS.out.1, HTS.out.2]; exact HL.out)
 have hnt1 : nt ≤ 1000 := by have h := HL.out.trucks; rw [HNT.out.1] at h; exact h
 have hnb1 : nb ≤ 1000 := by have h := HL.out.bikes; rw [HNT.out.2] at h; exact h
 have y0 : w3.cell? ⟨cb, 0, none⟩ = some (.slice TA1 nt c1) := HS3.out.cell 1 rfl 0 rfl
 have y1 : w3.cell? ⟨cb, 1, none⟩ = some (.slice BA1 nb c2) := HS3.out.cell 1 rfl 1 rfl
 have HLF := Lib.hid HSM.out.T
 clear HL HP HNT HTS HBL HPC HPCS HPSC HS1
 by_cases hb00 : nb = 0
 · as_aux_lemma =>
   subst hb00
   have HSF := Lib.hid (HS3.out)
   go_wp2_with first
    | (refine wpList_load_row rfl 39 _ rfl cb rfl _ #[.slice TA1 nt c1, .slice BA1 0 c2] _ _ (HSF.out.blk 1 rfl) Try.underlying39 rfl HPS.out ?_)
    | (refine wpList_store_abs rfl 39 _ _ rfl rfl rb #[.slice TA1 nt c1, .slice BA1 0 c2] rfl rfl _ _ (HSF.out.blk 0 rfl) HPS.out rfl (by simp [Value.oneCell']) ?_
       intro w9 ho9 hh9)
   refine retArr rfl _ _ rb 39 #[.slice TA1 nt c1, .slice BA1 0 c2] _ rfl hh9 Try.underlying39 rfl HPS.out ?_
   refine ⟨.slice TA1 nt c1, .slice BA1 0 c2, ts, ps, rfl, HLF.out, ?_⟩
   have h := HSF.out.only 0 rfl ho9 hh9
   rw [List.append_nil] at h
   exact h.sub (.cons _ (.cons _ (List.Sublist.refl _)))
 by_cases ht00 : nt = 0
 · as_aux_lemma =>
   subst ht00
   have hb01 : ((nb : Int) == 0) = false := by rw [beq_eq_false_iff_ne]; omega
   have HSF := Lib.hid (HS3.out)
   go_wp2_with first
    | (refine wpList_load_row rfl 39 _ rfl cb rfl _ #[.slice TA1 0 c1, .slice BA1 nb c2] _ _ (HSF.out.blk 1 rfl) Try.underlying39 rfl HPS.out ?_)
    | (refine wpList_store_abs rfl 39 _ _ rfl rfl rb #[.slice TA1 0 c1, .slice BA1 nb c2] rfl rfl _ _ (HSF.out.blk 0 rfl) HPS.out rfl (by simp [Value.oneCell']) ?_
       intro w9 ho9 hh9)
   refine retArr rfl _ _ rb 39 #[.slice TA1 0 c1, .slice BA1 nb c2] _ rfl hh9 Try.underlying39 rfl HPS.out ?_
   refine ⟨.slice TA1 0 c1, .slice BA1 nb c2, ts, ps, rfl, HLF.out, ?_⟩
   have h := HSF.out.only 0 rfl ho9 hh9
   rw [List.append_nil] at h
   exact h.sub (.cons _ (.cons _ (List.Sublist.refl _)))
 have hb01 : ((nb : Int) == 0) = false := by rw [beq_eq_false_iff_ne]; omega
 have ht01 : ((nt : Int) == 0) = false := by rw [beq_eq_false_iff_ne]; omega
 obtain ⟨gb, ob, rfl⟩ := gn_addr (P := [.blk rb #[.slice none 0 0, .slice none 0 0] 39, .blk cb #[.slice TA1 nt c1, .slice BA1 nb c2] 39] ++ (truckN 88 105).own (.slice TA1 nt c1) ts) (R := []) (by rw [List.append_assoc]; exact HS3.out) HLT.out.2 (by omega)
 obtain ⟨gt, ot, rfl⟩ := gn_addr HS3.out HLT.out.1 (by omega)
 have hkb0 : at_ % (nb : Int) < nb := Int.emod_lt_of_pos _ (by omega)
 have hkb1 : 0 ≤ at_ % (nb : Int) := Int.emod_nonneg _ (by omega)
 have hkt0 : at_ % (nt : Int) < nt := Int.emod_lt_of_pos _ (by omega)
 have hkt1 : 0 ≤ at_ % (nt : Int) := Int.emod_nonneg _ (by omega)
 obtain ⟨kb, hkb⟩ : ∃ kb : Nat, at_ % (nb : Int) = kb := ⟨(at_ % (nb : Int)).toNat, by omega⟩
 obtain ⟨kt, hkt⟩ : ∃ kt : Nat, at_ % (nt : Int) = kt := ⟨(at_ % (nt : Int)).toNat, by omega⟩
 rw [hkb] at hkb0 hkb1
 rw [hkt] at hkt0 hkt1
 have hkb2 : kb < nb := by omega
 have hkt2 : kt < nt := by omega
 have hnb0 : 1 ≤ (nb : Int) := by omega
 have hnt0 : 1 ≤ (nt : Int) := by omega
 have hkbp : kb < ps.length := by rw [HLT.out.2]; exact hkb2
 have hktp : kt < ts.length := by rw [HLT.out.1]; exact hkt2
 go_upto_region 4 with fail
 clear y0 y1
 refine wp_region_sq _ HS3.out (by kernel_rfl) (by kernel_rfl) fun C cw _ hC hin => ?_
 have q0 : ∀ d, (cw d).cell? ⟨cb, 0, none⟩ = some (.slice (some ⟨gt, ot, none⟩) nt c1) := fun d => (hC d).cell 1 rfl 0 rfl
 have q1 : ∀ d, (cw d).cell? ⟨cb, 1, none⟩ = some (.slice (some ⟨gb, ob, none⟩) nb c2) := fun d => (hC d).cell 1 rfl 1 rfl
 clear hC hin HS3
 repeat (go_big_quiet_step (fail))
 refine wpQuiet_nil ?_
 intro w4 hS4
 have HS4 := Lib.hid hS4
 clear q0 q1 hS4
 go_upto_region 5 with fail
 have HPB : Hid (∀ wx, SL w w.heap.size ([.blk rb #[.slice none 0 0, .slice none 0 0] 39, .blk cb #[.slice (some ⟨gt, ot, none⟩) nt c1, .slice (some ⟨gb, ob, none⟩) nb c2] 39] ++ ((truckN 88 105).own (.slice (some ⟨gt, ot, none⟩) nt c1) ts ++ ((bikeN 44 3).own (.slice (some ⟨gb, ob, none⟩) nb c2) ps ++ []))) wx → SL w w.heap.size ([.blk rb #[.slice none 0 0, .slice none 0 0] 39, .blk cb #[.slice (some ⟨gt, ot, none⟩) nt c1, .slice (some ⟨gb, ob, none⟩) nb c2] 39] ++ ((bikeN 44 3).own (.slice (some ⟨gb, ob, none⟩) nb c2) ps ++ ((truckN 88 105).own (.slice (some ⟨gt, ot, none⟩) nt c1) ts ++ []))) wx) := Lib.hid (fun wx h => h.perm (List.Perm.append_left _ (by rw [List.append_nil, List.append_nil]; exact List.perm_append_comm)))
 obtain ⟨va, vc, hva, hvc⟩ := gn_val hkbp (HPB.out _ HS4.out)
 obtain ⟨ua, uc, hua, huc⟩ := gn_val hktp HS4.out
 have hva' : ps[kb].2 = .slice va ps[kb].1.stops.length vc := hva
 have hvc' : ps[kb].1.stops.length ≤ vc := hvc
 have hua' : ts[kt].2 = .slice ua ts[kt].1.length uc := hua
 have huc' : ts[kt].1.length ≤ uc := huc
 have d1 : w4.cell? ⟨gb, ob + kb * 2 + 1, none⟩ = some ps[kb].2 := gn_sl (bikeN_ok _ _) HLT.out.2 hkbp (HPB.out _ HS4.out)
 have d2 : w4.cell? ⟨gt, ot + kt, none⟩ = some ts[kt].2 := by
  have h := gn_sl (truckN_ok _ _) HLT.out.1 hktp HS4.out
  rw [show ot + (kt * (truckN 88 105).S + ((truckN 88 105).S - 1)) = ot + kt by show ot + (kt * 1 + (1 - 1)) = _; omega] at h
  exact h
 have hLb9 : ps[kb].1.stops.length ≤ 1000 := Nat.le_trans (all_mem_le (List.mem_map_of_mem (List.getElem_mem hkbp))) HSM.out.custs
 have hLt9 : ts[kt].1.length ≤ 1000 := Nat.le_trans (flat_mem_le (List.mem_map_of_mem (List.getElem_mem hktp))) HSM.out.stops
 obtain ⟨Lb, hLb⟩ : ∃ n, ps[kb].1.stops.length = n := ⟨_, rfl⟩
 obtain ⟨Lt, hLt⟩ : ∃ n, ts[kt].1.length = n := ⟨_, rfl⟩
 have HLB := Lib.hid (And.intro hLb hLt)
 rw [hva'] at d1
 rw [hua'] at d2
 rw [hLb] at d1 hva' hvc' hLb9
 rw [hLt] at d2 hua' huc' hLt9
 have HVA := Lib.hid (And.intro hva' hua')
 clear hva hvc hua huc hva' hua' hLb hLt
 by_cases hb1 : Lb = 0
 · as_aux_lemma =>
   have hbz : ((Lb : Int) == 0) = true := by rw [beq_iff_eq]; omega
   subst hb1
   have HSF := Lib.hid (HS4.out)
   go_wp2_with first
    | (refine wpList_load_row rfl 39 _ rfl cb rfl _ #[.slice (some ⟨gt, ot, none⟩) nt c1, .slice (some ⟨gb, ob, none⟩) nb c2] _ _ (HSF.out.blk 1 rfl) Try.underlying39 rfl HPS.out ?_)
    | (refine wpList_store_abs rfl 39 _ _ rfl rfl rb #[.slice (some ⟨gt, ot, none⟩) nt c1, .slice (some ⟨gb, ob, none⟩) nb c2] rfl rfl _ _ (HSF.out.blk 0 rfl) HPS.out rfl (by simp [Value.oneCell']) ?_
       intro w9 ho9 hh9)
   refine retArr rfl _ _ rb 39 #[.slice (some ⟨gt, ot, none⟩) nt c1, .slice (some ⟨gb, ob, none⟩) nb c2] _ rfl hh9 Try.underlying39 rfl HPS.out ?_
   refine ⟨.slice (some ⟨gt, ot, none⟩) nt c1, .slice (some ⟨gb, ob, none⟩) nb c2, ts, ps, rfl, HLF.out, ?_⟩
   have h := HSF.out.only 0 rfl ho9 hh9
   rw [List.append_nil] at h
   exact h.sub (.cons _ (.cons _ (List.Sublist.refl _)))
 have hbz : ((Lb : Int) == 0) = false := by rw [beq_eq_false_iff_ne]; omega
 by_cases ht1 : Lt = 0
 · as_aux_lemma =>
   have htz : ((Lt : Int) == 0) = true := by rw [beq_iff_eq]; omega
   subst ht1
   have HSF := Lib.hid (HS4.out)
   go_wp2_with first
    | (refine wpList_load_row rfl 39 _ rfl cb rfl _ #[.slice (some ⟨gt, ot, none⟩) nt c1, .slice (some ⟨gb, ob, none⟩) nb c2] _ _ (HSF.out.blk 1 rfl) Try.underlying39 rfl HPS.out ?_)
    | (refine wpList_store_abs rfl 39 _ _ rfl rfl rb #[.slice (some ⟨gt, ot, none⟩) nt c1, .slice (some ⟨gb, ob, none⟩) nb c2] rfl rfl _ _ (HSF.out.blk 0 rfl) HPS.out rfl (by simp [Value.oneCell']) ?_
       intro w9 ho9 hh9)
   refine retArr rfl _ _ rb 39 #[.slice (some ⟨gt, ot, none⟩) nt c1, .slice (some ⟨gb, ob, none⟩) nb c2] _ rfl hh9 Try.underlying39 rfl HPS.out ?_
   refine ⟨.slice (some ⟨gt, ot, none⟩) nt c1, .slice (some ⟨gb, ob, none⟩) nb c2, ts, ps, rfl, HLF.out, ?_⟩
   have h := HSF.out.only 0 rfl ho9 hh9
   rw [List.append_nil] at h
   exact h.sub (.cons _ (.cons _ (List.Sublist.refl _)))
 have htz : ((Lt : Int) == 0) = false := by rw [beq_eq_false_iff_ne]; omega
 obtain ⟨gv, ov, rfl⟩ := gn_vaddr hkbp (HPB.out _ HS4.out) HVA.out.1 (by show 0 < ps[kb].1.stops.length; rw [HLB.out.1]; omega)
 obtain ⟨gu, ou, rfl⟩ := gn_vaddr hktp HS4.out HVA.out.2 (by show 0 < ts[kt].1.length; rw [HLB.out.2]; omega)
 have hi0 : at_ / 3 % (Lb : Int) < Lb := Int.emod_lt_of_pos _ (by omega)
 have hi1 : 0 ≤ at_ / 3 % (Lb : Int) := Int.emod_nonneg _ (by omega)
 have hk0 : at_ / 3 % (Lt : Int) < Lt := Int.emod_lt_of_pos _ (by omega)
 have hk1 : 0 ≤ at_ / 3 % (Lt : Int) := Int.emod_nonneg _ (by omega)
 obtain ⟨i0, hi⟩ : ∃ i : Nat, at_ / 3 % (Lb : Int) = i := ⟨(at_ / 3 % (Lb : Int)).toNat, by omega⟩
 obtain ⟨k0, hk⟩ : ∃ k : Nat, at_ / 3 % (Lt : Int) = k := ⟨(at_ / 3 % (Lt : Int)).toNat, by omega⟩
 rw [hi] at hi0 hi1
 rw [hk] at hk0 hk1
 have hi2 : i0 < Lb := by omega
 have hk2 : k0 < Lt := by omega
 have hLb0 : 1 ≤ (Lb : Int) := by omega
 have hLt0 : 1 ≤ (Lt : Int) := by omega
 have ha3 : 0 ≤ at_ / 3 := by omega
 go_upto_region 7 with fail
 clear d1 d2
 refine wp_region_sq _ HS4.out (by kernel_rfl) (by kernel_rfl) fun C cw _ hC hin => ?_
 have q0 : ∀ d, (cw d).cell? ⟨gt, ot + kt, none⟩ = some (.slice (some ⟨gu, ou, none⟩) Lt uc) := fun d => by
  have h := gn_sl (truckN_ok _ _) HLT.out.1 hktp (hC d)
  rw [show ot + (kt * (truckN 88 105).S + ((truckN 88 105).S - 1)) = ot + kt by show ot + (kt * 1 + (1 - 1)) = _; omega, HVA.out.2] at h
  exact h
 have q1 : ∀ d, (cw d).cell? ⟨gb, ob + kb * 2 + 1, none⟩ = some (.slice (some ⟨gv, ov, none⟩) Lb vc) := fun d => by
  have h := gn_sl (bikeN_ok _ _) HLT.out.2 hkbp (HPB.out _ (hC d))
  rw [HVA.out.1] at h
  exact h
 clear hC hin HS4
 repeat (go_big_quiet_step (fail))
 refine wpQuiet_nil ?_
 intro w5 hS5
 have HS5 := Lib.hid hS5
 clear q0 q1 hS5
 have hm0 : 0 ≤ what % 12 := Int.emod_nonneg _ (by omega)
 have hm1 : what % 12 < 12 := Int.emod_lt_of_pos _ (by omega)
 go_upto_region 9 with fail
 obtain ⟨m, hm⟩ : ∃ m, what % 12 = m := ⟨_, rfl⟩
 first | rw [hm] at hm0 hm1 ⊢ | rw [hm] at hm0 hm1
 rw [hi, hk]
 clear hi hk
 have hmm : m = 0 ∨ m = 1 ∨ m = 2 ∨ m = 3 ∨ m = 4 ∨ m = 5 ∨ m = 6 ∨ m = 7 ∨ m = 8 ∨ m = 9 ∨ m = 10 ∨ m = 11 := by omega
 have HSB := Lib.hid (HPB.out _ HS5.out)
 have HROWB : Hid (([.blk rb #[.slice none 0 0, .slice none 0 0] 39, .blk cb #[.slice (some ⟨gt, ot, none⟩) nt c1, .slice (some ⟨gb, ob, none⟩) nb c2] 39] ++ ((bikeN 44 3).own (.slice (some ⟨gb, ob, none⟩) nb c2) ps ++ ((truckN 88 105).own (.slice (some ⟨gt, ot, none⟩) nt c1) ts ++ [])))[2 + (kb + 1)]? = some (.row 3 1 (.slice (some ⟨gv, ov, none⟩) Lb vc) Lb (ps[kb].1.stops.map (.int .i64)))) := Lib.hid (by
  have h := gn_row hkbp (v := .slice (some ⟨gb, ob, none⟩) nb c2) [.blk rb #[.slice none 0 0, .slice none 0 0] 39, .blk cb #[.slice (some ⟨gt, ot, none⟩) nt c1, .slice (some ⟨gb, ob, none⟩) nb c2] 39] ((truckN 88 105).own (.slice (some ⟨gt, ot, none⟩) nt c1) ts ++ []) HVA.out.1 (N := (bikeN 44 3))
  change _ = some (Rs.row _ 1 _ ps[kb].1.stops.length (ps[kb].1.stops.map (.int .i64))) at h
  rw [HLB.out.1] at h
  exact h)
 have HROWT : Hid (([.blk rb #[.slice none 0 0, .slice none 0 0] 39, .blk cb #[.slice (some ⟨gt, ot, none⟩) nt c1, .slice (some ⟨gb, ob, none⟩) nb c2] 39] ++ ((truckN 88 105).own (.slice (some ⟨gt, ot, none⟩) nt c1) ts ++ ((bikeN 44 3).own (.slice (some ⟨gb, ob, none⟩) nb c2) ps ++ [])))[2 + (kt + 1)]? = some (.row 105 2 (.slice (some ⟨gu, ou, none⟩) Lt uc) Lt (ts[kt].1.flatMap StopV.cells))) := Lib.hid (by
  have h := gn_row hktp (v := .slice (some ⟨gt, ot, none⟩) nt c1) [.blk rb #[.slice none 0 0, .slice none 0 0] 39, .blk cb #[.slice (some ⟨gt, ot, none⟩) nt c1, .slice (some ⟨gb, ob, none⟩) nb c2] 39] ((bikeN 44 3).own (.slice (some ⟨gb, ob, none⟩) nb c2) ps ++ []) HVA.out.2 (N := (truckN 88 105))
  change _ = some (Rs.row _ 2 _ ts[kt].1.length (ts[kt].1.flatMap StopV.cells)) at h
  rw [HLB.out.2] at h
  exact h)
 have HD1 : Hid (∀ wx, SL w w.heap.size ([.blk rb #[.slice none 0 0, .slice none 0 0] 39, .blk cb #[.slice (some ⟨gt, ot, none⟩) nt c1, .slice (some ⟨gb, ob, none⟩) nb c2] 39] ++ ((bikeN 44 3).own (.slice (some ⟨gb, ob, none⟩) nb c2) ps ++ ((truckN 88 105).own (.slice (some ⟨gt, ot, none⟩) nt c1) ts ++ []))) wx → wx.cell? ⟨gb, ob + kb * 2 + 1, none⟩ = some (.slice (some ⟨gv, ov, none⟩) Lb vc) ∧ wx.cell? ⟨gb, ob + kb * 2, none⟩ = some (.int .i64 ps[kb].1.sat) ∧ wx.cell? ⟨gv, ov + i0, none⟩ = some (.int .i64 (ps[kb].1.stops.getD i0 0)) ∧ (∀ j, wx.frozen? ⟨gb, j, none⟩ = false) ∧ ∀ j, wx.frozen? ⟨gv, j, none⟩ = false) := Lib.hid (fun wx h => by
  have h1 := gn_sl (bikeN_ok _ _) HLT.out.2 hkbp h
  rw [HVA.out.1] at h1
  exact ⟨h1, gn_head (j := 0) (bikeN_ok _ _) HLT.out.2 hkbp (Nat.zero_lt_two) rfl h, h.rowCell _ HROWB.out i0 (by have := HLB.out.1; simp [show i0 < ps[kb].1.stops.length by omega]), gn_free (bikeN_ok _ _) HLT.out.2 (by omega) h, fun j => h.rowFree _ HROWB.out j (by omega)⟩)
 have HD2 : Hid (∀ wx, SL w w.heap.size ([.blk rb #[.slice none 0 0, .slice none 0 0] 39, .blk cb #[.slice (some ⟨gt, ot, none⟩) nt c1, .slice (some ⟨gb, ob, none⟩) nb c2] 39] ++ ((truckN 88 105).own (.slice (some ⟨gt, ot, none⟩) nt c1) ts ++ ((bikeN 44 3).own (.slice (some ⟨gb, ob, none⟩) nb c2) ps ++ []))) wx → wx.cell? ⟨gt, ot + kt, none⟩ = some (.slice (some ⟨gu, ou, none⟩) Lt uc) ∧ wx.cell? ⟨gu, ou + k0 * 2, none⟩ = some (.int .i64 (ts[kt].1.getD k0 ⟨0, 0⟩).sat) ∧ wx.cell? ⟨gu, ou + k0 * 2 + 1, none⟩ = some (.int .i64 (ts[kt].1.getD k0 ⟨0, 0⟩).load) ∧ (∀ j, wx.frozen? ⟨gt, j, none⟩ = false) ∧ ∀ j, wx.frozen? ⟨gu, j, none⟩ = false) := Lib.hid (fun wx h => by
  have h1 := gn_sl (truckN_ok _ _) HLT.out.1 hktp h
  rw [show ot + (kt * (truckN 88 105).S + ((truckN 88 105).S - 1)) = ot + kt by show ot + (kt * 1 + (1 - 1)) = _; omega, HVA.out.2] at h1
  have hkl : k0 < ts[kt].1.length := by have := HLB.out.2; omega
  have e0 := flat_get StopV.cells 2 StopV.cells_len ts[kt].1 k0 0 hkl (by decide)
  have e1 := flat_get StopV.cells 2 StopV.cells_len ts[kt].1 k0 1 hkl (by decide)
  refine ⟨h1, ?_, ?_, gn_free (truckN_ok _ _) HLT.out.1 (by omega) h, fun j => h.rowFree _ HROWT.out j (by omega)⟩
  · exact h.rowCell _ HROWT.out (k0 * 2) (by rw [show k0 * 2 = k0 * 2 + 0 from rfl, e0]; simp [StopV.cells, hkl])
  · exact h.rowCell _ HROWT.out (k0 * 2 + 1) (by rw [e1]; simp [StopV.cells, hkl]))
 have HB4 : Hid (∀ r wx, SL w w.heap.size (([.blk rb #[.slice none 0 0, .slice none 0 0] 39, .blk cb #[.slice (some ⟨gt, ot, none⟩) nt c1, .slice (some ⟨gb, ob, none⟩) nb c2] 39] ++ ((bikeN 44 3).own (.slice (some ⟨gb, ob, none⟩) nb c2) ps ++ ((truckN 88 105).own (.slice (some ⟨gt, ot, none⟩) nt c1) ts ++ [])) : List Rs).set (2 + (kb + 1)) r) wx → wx.frozen? ⟨gb, ob + kb * 2 + 1, none⟩ = false ∧ wx.cell? ⟨gb, ob + kb * 2 + 1, none⟩ = some (.slice (some ⟨gv, ov, none⟩) Lb vc)) := Lib.hid (fun r wx h => by
  have h2 := h.sub (gn_subset (N := (bikeN 44 3)) HLT.out.2 (.slice (some ⟨gb, ob, none⟩) nb c2) [.blk cb #[.slice (some ⟨gt, ot, none⟩) nt c1, .slice (some ⟨gb, ob, none⟩) nb c2] 39] [.blk rb #[.slice none 0 0, .slice none 0 0] 39, .blk cb #[.slice (some ⟨gt, ot, none⟩) nt c1, .slice (some ⟨gb, ob, none⟩) nb c2] 39] ((truckN 88 105).own (.slice (some ⟨gt, ot, none⟩) nt c1) ts ++ []) (.cons _ (.cons_cons _ (List.nil_sublist _))) kb _)
  exact ⟨h2.rowFree 1 rfl _ (by omega), h2.rowCell 1 rfl (kb * 2 + 1) (by
   have h := gn_heads (bikeN_ok 44 3) ps kb 1 hkbp Nat.one_lt_two
   rw [← HVA.out.1]; exact h)⟩)
 have HT4 : Hid (∀ r wx, SL w w.heap.size (([.blk rb #[.slice none 0 0, .slice none 0 0] 39, .blk cb #[.slice (some ⟨gt, ot, none⟩) nt c1, .slice (some ⟨gb, ob, none⟩) nb c2] 39] ++ ((truckN 88 105).own (.slice (some ⟨gt, ot, none⟩) nt c1) ts ++ ((bikeN 44 3).own (.slice (some ⟨gb, ob, none⟩) nb c2) ps ++ [])) : List Rs).set (2 + (kt + 1)) r) wx → wx.frozen? ⟨gt, ot + kt, none⟩ = false ∧ wx.cell? ⟨gt, ot + kt, none⟩ = some (.slice (some ⟨gu, ou, none⟩) Lt uc)) := Lib.hid (fun r wx h => by
  have h2 := h.sub (gn_subset (N := (truckN 88 105)) HLT.out.1 (.slice (some ⟨gt, ot, none⟩) nt c1) [.blk cb #[.slice (some ⟨gt, ot, none⟩) nt c1, .slice (some ⟨gb, ob, none⟩) nb c2] 39] [.blk rb #[.slice none 0 0, .slice none 0 0] 39, .blk cb #[.slice (some ⟨gt, ot, none⟩) nt c1, .slice (some ⟨gb, ob, none⟩) nb c2] 39] ((bikeN 44 3).own (.slice (some ⟨gb, ob, none⟩) nb c2) ps ++ []) (.cons _ (.cons_cons _ (List.nil_sublist _))) kt _)
  have h3 := h2.rowCell 1 rfl (kt * 1 + 0) (gn_heads (truckN_ok 88 105) ts kt 0 hktp Nat.zero_lt_one)
  rw [show ot + (kt * 1 + 0) = ot + kt by omega] at h3
  exact ⟨h2.rowFree 1 rfl _ (by omega), by rw [← HVA.out.2]; exact h3⟩)
 have HTB : Hid (∀ (st : List Int) (v' : Value) (wx : World), SL w w.heap.size (([.blk rb #[.slice none 0 0, .slice none 0 0] 39, .blk cb #[.slice (some ⟨gt, ot, none⟩) nt c1, .slice (some ⟨gb, ob, none⟩) nb c2] 39] ++ ((bikeN 44 3).own (.slice (some ⟨gb, ob, none⟩) nb c2) ps ++ ((truckN 88 105).own (.slice (some ⟨gt, ot, none⟩) nt c1) ts ++ [])) : List Rs).set (2 + (kb + 1)) (.row 3 1 v' st.length (st.map (.int .i64)))) wx → SL w w.heap.size ([.blk rb #[.slice none 0 0, .slice none 0 0] 39, .blk cb #[.slice (some ⟨gt, ot, none⟩) nt c1, .slice (some ⟨gb, ob, none⟩) nb c2] 39] ++ ((bikeN 44 3).own (.slice (some ⟨gb, ob, none⟩) nb c2) (ps.set kb (⟨ps[kb].1.sat, st⟩, v')) ++ ((truckN 88 105).own (.slice (some ⟨gt, ot, none⟩) nt c1) ts ++ []))) (wx.setCell ⟨gb, ob + kb * 2 + 1, none⟩ v')) := Lib.hid (fun st v' wx h => gn_turn (bikeN_ok 44 3) HLT.out.2 hkbp (⟨ps[kb].1.sat, st⟩ : BikeV) v' rfl (P := [.blk rb #[.slice none 0 0, .slice none 0 0] 39, .blk cb #[.slice (some ⟨gt, ot, none⟩) nt c1, .slice (some ⟨gb, ob, none⟩) nb c2] 39]) (R := ((truckN 88 105).own (.slice (some ⟨gt, ot, none⟩) nt c1) ts ++ [])) h)
 have HTT : Hid (∀ (st : List StopV) (v' : Value) (wx : World), SL w w.heap.size (([.blk rb #[.slice none 0 0, .slice none 0 0] 39, .blk cb #[.slice (some ⟨gt, ot, none⟩) nt c1, .slice (some ⟨gb, ob, none⟩) nb c2] 39] ++ ((truckN 88 105).own (.slice (some ⟨gt, ot, none⟩) nt c1) ts ++ ((bikeN 44 3).own (.slice (some ⟨gb, ob, none⟩) nb c2) ps ++ [])) : List Rs).set (2 + (kt + 1)) (.row 105 2 v' st.length (st.flatMap StopV.cells))) wx → SL w w.heap.size ([.blk rb #[.slice none 0 0, .slice none 0 0] 39, .blk cb #[.slice (some ⟨gt, ot, none⟩) nt c1, .slice (some ⟨gb, ob, none⟩) nb c2] 39] ++ ((truckN 88 105).own (.slice (some ⟨gt, ot, none⟩) nt c1) (ts.set kt (st, v')) ++ ((bikeN 44 3).own (.slice (some ⟨gb, ob, none⟩) nb c2) ps ++ []))) (wx.setCell ⟨gt, ot + kt, none⟩ v')) := Lib.hid (fun st v' wx h => by
  have h2 := gn_turn (truckN_ok 88 105) HLT.out.1 hktp st v' rfl (P := [.blk rb #[.slice none 0 0, .slice none 0 0] 39, .blk cb #[.slice (some ⟨gt, ot, none⟩) nt c1, .slice (some ⟨gb, ob, none⟩) nb c2] 39]) (R := ((bikeN 44 3).own (.slice (some ⟨gb, ob, none⟩) nb c2) ps ++ [])) h
  rw [show ot + (kt * (truckN 88 105).S + ((truckN 88 105).S - 1)) = ot + kt by show ot + (kt * 1 + (1 - 1)) = _; omega] at h2
  exact h2)
 have HSB3 : Hid (∀ (st : List Int) (wx : World), st.length = Lb → SL w w.heap.size (([.blk rb #[.slice none 0 0, .slice none 0 0] 39, .blk cb #[.slice (some ⟨gt, ot, none⟩) nt c1, .slice (some ⟨gb, ob, none⟩) nb c2] 39] ++ ((bikeN 44 3).own (.slice (some ⟨gb, ob, none⟩) nb c2) ps ++ ((truckN 88 105).own (.slice (some ⟨gt, ot, none⟩) nt c1) ts ++ [])) : List Rs).set (2 + (kb + 1)) (.row 3 1 (.slice (some ⟨gv, ov, none⟩) Lb vc) Lb (st.map (Value.int .i64)))) wx → SL w w.heap.size ([.blk rb #[.slice none 0 0, .slice none 0 0] 39, .blk cb #[.slice (some ⟨gt, ot, none⟩) nt c1, .slice (some ⟨gb, ob, none⟩) nb c2] 39] ++ ((bikeN 44 3).own (.slice (some ⟨gb, ob, none⟩) nb c2) (ps.set kb (⟨ps[kb].1.sat, st⟩, .slice (some ⟨gv, ov, none⟩) Lb vc)) ++ ((truckN 88 105).own (.slice (some ⟨gt, ot, none⟩) nt c1) ts ++ []))) wx) := Lib.hid (fun st wx hst h => by
  have e := gn_same (bikeN_ok 44 3) hkbp (.slice (some ⟨gb, ob, none⟩) nb c2) (⟨ps[kb].1.sat, st⟩ : BikeV) rfl [.blk rb #[.slice none 0 0, .slice none 0 0] 39, .blk cb #[.slice (some ⟨gt, ot, none⟩) nt c1, .slice (some ⟨gb, ob, none⟩) nb c2] 39] ((truckN 88 105).own (.slice (some ⟨gt, ot, none⟩) nt c1) ts ++ [])
  rw [HVA.out.1] at e
  rw [← e, show (bikeN 44 3).len (⟨ps[kb].1.sat, st⟩ : BikeV) = Lb from hst]
  exact h)
 have HST3 : Hid (∀ (st : List StopV) (wx : World), st.length = Lt → SL w w.heap.size (([.blk rb #[.slice none 0 0, .slice none 0 0] 39, .blk cb #[.slice (some ⟨gt, ot, none⟩) nt c1, .slice (some ⟨gb, ob, none⟩) nb c2] 39] ++ ((truckN 88 105).own (.slice (some ⟨gt, ot, none⟩) nt c1) ts ++ ((bikeN 44 3).own (.slice (some ⟨gb, ob, none⟩) nb c2) ps ++ [])) : List Rs).set (2 + (kt + 1)) (.row 105 2 (.slice (some ⟨gu, ou, none⟩) Lt uc) Lt (st.flatMap StopV.cells))) wx → SL w w.heap.size ([.blk rb #[.slice none 0 0, .slice none 0 0] 39, .blk cb #[.slice (some ⟨gt, ot, none⟩) nt c1, .slice (some ⟨gb, ob, none⟩) nb c2] 39] ++ ((truckN 88 105).own (.slice (some ⟨gt, ot, none⟩) nt c1) (ts.set kt (st, .slice (some ⟨gu, ou, none⟩) Lt uc)) ++ ((bikeN 44 3).own (.slice (some ⟨gb, ob, none⟩) nb c2) ps ++ []))) wx) := Lib.hid (fun st wx hst h => by
  have e := gn_same (truckN_ok 88 105) hktp (.slice (some ⟨gt, ot, none⟩) nt c1) st rfl [.blk rb #[.slice none 0 0, .slice none 0 0] 39, .blk cb #[.slice (some ⟨gt, ot, none⟩) nt c1, .slice (some ⟨gb, ob, none⟩) nb c2] 39] ((bikeN 44 3).own (.slice (some ⟨gb, ob, none⟩) nb c2) ps ++ [])
  rw [HVA.out.2] at e
  rw [← e, show (truckN 88 105).len st = Lt from hst]
  exact h)
 have HLB2 : Hid (∀ (b : BikeV) (v' : Value), b.stops.length ≤ 2000 → PlanT ⟨ts.map (·.1), (ps.set kb (b, v')).map (·.1)⟩) := Lib.hid (fun b v' hb => by rw [List.map_set]; exact HSM.out.setBike kb b hb)
 have HLT2 : Hid (∀ (t : List StopV) (v' : Value), t.length ≤ 2000 → PlanT ⟨(ts.set kt (t, v')).map (·.1), ps.map (·.1)⟩) := Lib.hid (fun t v' ht => by rw [List.map_set]; exact HSM.out.setTruck kt t ht)
 rcases hmm with rfl | rfl | rfl | rfl | rfl | rfl | rfl | rfl | rfl | rfl | rfl | rfl
 · as_aux_lemma =>   -- 0
   have HSF := Lib.hid (HS5.out)
   go_wp2_with first
    | (refine wpList_load_row rfl 39 _ rfl cb rfl _ #[.slice (some ⟨gt, ot, none⟩) nt c1, .slice (some ⟨gb, ob, none⟩) nb c2] _ _ (HSF.out.blk 1 rfl) Try.underlying39 rfl HPS.out ?_)
    | (refine wpList_store_abs rfl 39 _ _ rfl rfl rb #[.slice (some ⟨gt, ot, none⟩) nt c1, .slice (some ⟨gb, ob, none⟩) nb c2] rfl rfl _ _ (HSF.out.blk 0 rfl) HPS.out rfl (by simp [Value.oneCell']) ?_
       intro w9 ho9 hh9)
   refine retArr rfl _ _ rb 39 #[.slice (some ⟨gt, ot, none⟩) nt c1, .slice (some ⟨gb, ob, none⟩) nb c2] _ rfl hh9 Try.underlying39 rfl HPS.out ?_
   refine ⟨.slice (some ⟨gt, ot, none⟩) nt c1, .slice (some ⟨gb, ob, none⟩) nb c2, ts, ps, rfl, HLF.out, ?_⟩
   have h := HSF.out.only 0 rfl ho9 hh9
   rw [List.append_nil] at h
   exact h.sub (.cons _ (.cons _ (List.Sublist.refl _)))
 · as_aux_lemma =>   -- 1
   have d1 := (HD1.out _ HSB.out).1
   have HDL : Hid (Calls Try.prog 45 #[.slice (some ⟨gv, ov, none⟩) Lb vc, .int .i64 (i0 : Int), .int .i64 ((i0 : Int) + 1)] w5 fun e w' => e = .returned (.slice (some ⟨gv, ov, none⟩) (Lb - 1) vc) ∧ SL w w.heap.size (([.blk rb #[.slice none 0 0, .slice none 0 0] 39, .blk cb #[.slice (some ⟨gt, ot, none⟩) nt c1, .slice (some ⟨gb, ob, none⟩) nb c2] 39] ++ ((bikeN 44 3).own (.slice (some ⟨gb, ob, none⟩) nb c2) ps ++ ((truckN 88 105).own (.slice (some ⟨gt, ot, none⟩) nt c1) ts ++ [])) : List Rs).set (2 + (kb + 1)) (.row 3 1 (.slice (some ⟨gv, ov, none⟩) (Lb - 1) vc) (Lb - 1) ((ps[kb].1.stops.map (Value.int .i64)).take i0 ++ (ps[kb].1.stops.map (Value.int .i64)).drop (i0 + 1)))) w') := Lib.hid (delete_cells w w.heap.size _ w5 _ Lb vc gv ov i0 1 (ps[kb].1.stops.map (.int .i64)) HSB.out HROWB.out (int_cells _) (by omega) (by decide) (by omega))
   go_upto_region 29 with first
    | (go_at_call 45; (with_reducible refine HDL.out.mono ?_); rintro e w6 ⟨rfl, hS6⟩
       have HS6 := Lib.hid hS6
       obtain ⟨hq3, hq4⟩ := HB4.out _ _ hS6
       clear hS6 HDL d1)
   have HSX := Lib.hid (HTB.out (ps[kb].1.stops.take i0 ++ ps[kb].1.stops.drop (i0 + 1)) (.slice (some ⟨gv, ov, none⟩) (Lb - 1) vc) w6 (by
    have h := HS6.out
    have e1 : (ps[kb].1.stops.take i0 ++ ps[kb].1.stops.drop (i0 + 1)).length = Lb - 1 := by rw [List.length_append, List.length_take, List.length_drop, HLB.out.1]; omega
    rw [e1, List.map_append, List.map_take, List.map_drop]
    exact h))
   have HLF := Lib.hid (HLB2.out (⟨ps[kb].1.sat, ps[kb].1.stops.take i0 ++ ps[kb].1.stops.drop (i0 + 1)⟩ : BikeV) (.slice (some ⟨gv, ov, none⟩) (Lb - 1) vc) (by show (ps[kb].1.stops.take i0 ++ ps[kb].1.stops.drop (i0 + 1)).length ≤ 2000; rw [List.length_append, List.length_take, List.length_drop, HLB.out.1]; omega))
   clear HS6
   have HSF := Lib.hid (HSX.out)
   go_wp2_with first
    | (refine wpList_load_row rfl 39 _ rfl cb rfl _ #[.slice (some ⟨gt, ot, none⟩) nt c1, .slice (some ⟨gb, ob, none⟩) nb c2] _ _ (HSF.out.blk 1 rfl) Try.underlying39 rfl HPS.out ?_)
    | (refine wpList_store_abs rfl 39 _ _ rfl rfl rb #[.slice (some ⟨gt, ot, none⟩) nt c1, .slice (some ⟨gb, ob, none⟩) nb c2] rfl rfl _ _ (HSF.out.blk 0 rfl) HPS.out rfl (by simp [Value.oneCell']) ?_
       intro w9 ho9 hh9)
   refine retArr rfl _ _ rb 39 #[.slice (some ⟨gt, ot, none⟩) nt c1, .slice (some ⟨gb, ob, none⟩) nb c2] _ rfl hh9 Try.underlying39 rfl HPS.out ?_
   refine ⟨.slice (some ⟨gt, ot, none⟩) nt c1, .slice (some ⟨gb, ob, none⟩) nb c2, ts, _, rfl, HLF.out, ?_⟩
   have h := HSF.out.only 0 rfl ho9 hh9
   rw [List.append_nil] at h
   have h2 := h.sub (.cons _ (.cons _ (List.Sublist.refl _)))
   exact SL.perm (l := (bikeN 44 3).own (.slice (some ⟨gb, ob, none⟩) nb c2) _ ++ (truckN 88 105).own (.slice (some ⟨gt, ot, none⟩) nt c1) ts) h2 List.perm_append_comm
 · as_aux_lemma =>   -- 2
   go_upto_region 12 with fail
   obtain ⟨i9, hi9, hy1, hyz, hyb⟩ := info_parts intE_info
   have HI9 := Lib.hid (And.intro hi9 (And.intro hy1 (And.intro hyz hyb)))
   obtain ⟨xx, hxx⟩ : ∃ xx, ps[kb].1.stops.getD i0 0 = xx := ⟨_, rfl⟩
   have HXX := Lib.hid hxx
   have hsb := gn_sub (N := (bikeN 44 3)) HLT.out.2 (.slice (some ⟨gb, ob, none⟩) nb c2) [.blk cb #[.slice (some ⟨gt, ot, none⟩) nt c1, .slice (some ⟨gb, ob, none⟩) nb c2] 39] [.blk rb #[.slice none 0 0, .slice none 0 0] 39, .blk cb #[.slice (some ⟨gt, ot, none⟩) nt c1, .slice (some ⟨gb, ob, none⟩) nb c2] 39] ((truckN 88 105).own (.slice (some ⟨gt, ot, none⟩) nt c1) ts ++ []) (.cons _ (.cons_cons _ (List.nil_sublist _)))
   have HSUB := Lib.hid hsb
   clear hi9 hy1 hyz hyb hxx
   refine wp_region_sl [0,1,2,3,4,5,6,7,8,9,10] [11,12,13] [14,15,16] _ HSB.out hsb (by kernel_rfl) (by kernel_rfl) (.cons rfl (.cons rfl (.cons rfl .nil))) (fun C cw _ hC => ?_)
   have q1 : ∀ d, (cw d).cell? ⟨gb, ob + kb * 2 + 1, none⟩ = some (.slice (some ⟨gv, ov, none⟩) Lb vc) := fun d => (hC d).rowCell 1 rfl (kb * 2 + 1) (by
    have h := gn_heads (bikeN_ok 44 3) ps kb 1 hkbp Nat.one_lt_two
    rw [← HVA.out.1]; exact h)
   clear hsb
   repeat (first | (refine pl_nil' _ _ rfl rfl rfl rfl (fun Kv hK => ?_); go_simp; refine hK _ ?_; clear hK Kv) | (refine pl_look rfl rfl rfl (fun Kv hK => ?_); go_big_quiet_op; refine hK _ ?_; clear hK Kv))
   clear q1 hC
   refine pl_end ?_
   intro w6 hS6
   obtain ⟨d1, d2, d3, d4, d5⟩ := HD1.out _ hS6
   rw [HXX.out] at d3
   refine pm_eff rfl rfl fun Kv hK => ?_
   go_simp
   refine ⟨hS6.sub HSUB.out, hK _ _ ?_⟩
   clear hK Kv d1 d2 d3 d4 d5
   refine pm_eff rfl rfl fun Kv hK => ?_
   go_simp
   refine ⟨(hS6.alloc _ _).tail.sub HSUB.out, hK _ _ ?_⟩
   clear hK Kv
   refine pm_append rfl rfl (.tmp 98) (.tmp 106) 42 rfl hS6 (2 + (kb + 1)) i9 (.int .i64 0) 1 8 Try.underlying42 HI9.out.1 HI9.out.2.1 HI9.out.2.2.1 HI9.out.2.2.2 rfl (by decide) _ Lb 1 _ HROWB.out rfl _ rfl rfl (by decide) rfl (by simp [Value.oneCell']) (by omega) (by decide) ?_
   intro v7 w7 hS7 hz7
   refine ⟨hS7.sub (gn_subset (N := (bikeN 44 3)) HLT.out.2 (.slice (some ⟨gb, ob, none⟩) nb c2) [.blk cb #[.slice (some ⟨gt, ot, none⟩) nt c1, .slice (some ⟨gb, ob, none⟩) nb c2] 39] [.blk rb #[.slice none 0 0, .slice none 0 0] 39, .blk cb #[.slice (some ⟨gt, ot, none⟩) nt c1, .slice (some ⟨gb, ob, none⟩) nb c2] 39] ((truckN 88 105).own (.slice (some ⟨gt, ot, none⟩) nt c1) ts ++ []) (.cons _ (.cons_cons _ (List.nil_sublist _))) kb _), fun Kv hK => hK _ _ ?_⟩
   refine pm_end ?_
   obtain ⟨A7, c7, rfl, _, _⟩ := (hS7.row (2 + (kb + 1)) (List.getElem?_set_self (List.getElem?_eq_some_iff.1 HROWB.out).1)).slice_
   obtain ⟨hq3, hq4⟩ := HB4.out _ _ hS7
   have HSX := Lib.hid (HTB.out (ps[kb].1.stops ++ [xx]) (.slice A7 (Lb + 1) c7) w7 (by
    have h := hS7
    have e1 : (ps[kb].1.stops ++ [xx]).length = Lb + 1 := by rw [List.length_append, HLB.out.1]; rfl
    rw [e1, List.map_append]
    exact h))
   have HLF := Lib.hid (HLB2.out (⟨ps[kb].1.sat, ps[kb].1.stops ++ [xx]⟩ : BikeV) (.slice A7 (Lb + 1) c7) (by show (ps[kb].1.stops ++ [xx]).length ≤ 2000; rw [List.length_append, HLB.out.1]; simp; omega))
   clear hS6 hS7 hz7
   go_upto_region 29 with fail
   have HSF := Lib.hid (HSX.out)
   go_wp2_with first
    | (refine wpList_load_row rfl 39 _ rfl cb rfl _ #[.slice (some ⟨gt, ot, none⟩) nt c1, .slice (some ⟨gb, ob, none⟩) nb c2] _ _ (HSF.out.blk 1 rfl) Try.underlying39 rfl HPS.out ?_)
    | (refine wpList_store_abs rfl 39 _ _ rfl rfl rb #[.slice (some ⟨gt, ot, none⟩) nt c1, .slice (some ⟨gb, ob, none⟩) nb c2] rfl rfl _ _ (HSF.out.blk 0 rfl) HPS.out rfl (by simp [Value.oneCell']) ?_
       intro w9 ho9 hh9)
   refine retArr rfl _ _ rb 39 #[.slice (some ⟨gt, ot, none⟩) nt c1, .slice (some ⟨gb, ob, none⟩) nb c2] _ rfl hh9 Try.underlying39 rfl HPS.out ?_
   refine ⟨.slice (some ⟨gt, ot, none⟩) nt c1, .slice (some ⟨gb, ob, none⟩) nb c2, ts, _, rfl, HLF.out, ?_⟩
   have h := HSF.out.only 0 rfl ho9 hh9
   rw [List.append_nil] at h
   have h2 := h.sub (.cons _ (.cons _ (List.Sublist.refl _)))
   exact SL.perm (l := (bikeN 44 3).own (.slice (some ⟨gb, ob, none⟩) nb c2) _ ++ (truckN 88 105).own (.slice (some ⟨gt, ot, none⟩) nt c1) ts) h2 List.perm_append_comm
 · as_aux_lemma =>   -- 3
   obtain ⟨d1, d2, d3, d4, d5⟩ := HD1.out _ HSB.out
   obtain ⟨xx, hxx⟩ : ∃ xx, ps[kb].1.stops.getD i0 0 = xx := ⟨_, rfl⟩
   rw [hxx] at d3
   clear hxx
   go_upto_region 29 with fail
   obtain ⟨y, hy⟩ : ∃ y, wrap64 (xx + by_) = y := ⟨_, rfl⟩
   rw [hy]
   have HSX := Lib.hid (HSB3.out (ps[kb].1.stops.set i0 y) (w5.setCell ⟨gv, ov + i0, none⟩ (.int .i64 y)) (by rw [List.length_set]; exact HLB.out.1) (by
    have h := HSB.out.setRowCell _ HROWB.out i0 (by omega) (.int .i64 y)
    rw [List.map_set]; exact h))
   have HLF := Lib.hid (HLB2.out (⟨ps[kb].1.sat, ps[kb].1.stops.set i0 y⟩ : BikeV) (.slice (some ⟨gv, ov, none⟩) Lb vc) (by show (ps[kb].1.stops.set i0 y).length ≤ 2000; rw [List.length_set, HLB.out.1]; omega))
   clear hy d1 d2 d3 d4 d5
   have HSF := Lib.hid (HSX.out)
   go_wp2_with first
    | (refine wpList_load_row rfl 39 _ rfl cb rfl _ #[.slice (some ⟨gt, ot, none⟩) nt c1, .slice (some ⟨gb, ob, none⟩) nb c2] _ _ (HSF.out.blk 1 rfl) Try.underlying39 rfl HPS.out ?_)
    | (refine wpList_store_abs rfl 39 _ _ rfl rfl rb #[.slice (some ⟨gt, ot, none⟩) nt c1, .slice (some ⟨gb, ob, none⟩) nb c2] rfl rfl _ _ (HSF.out.blk 0 rfl) HPS.out rfl (by simp [Value.oneCell']) ?_
       intro w9 ho9 hh9)
   refine retArr rfl _ _ rb 39 #[.slice (some ⟨gt, ot, none⟩) nt c1, .slice (some ⟨gb, ob, none⟩) nb c2] _ rfl hh9 Try.underlying39 rfl HPS.out ?_
   refine ⟨.slice (some ⟨gt, ot, none⟩) nt c1, .slice (some ⟨gb, ob, none⟩) nb c2, ts, _, rfl, HLF.out, ?_⟩
   have h := HSF.out.only 0 rfl ho9 hh9
   rw [List.append_nil] at h
   have h2 := h.sub (.cons _ (.cons _ (List.Sublist.refl _)))
   exact SL.perm (l := (bikeN 44 3).own (.slice (some ⟨gb, ob, none⟩) nb c2) _ ++ (truckN 88 105).own (.slice (some ⟨gt, ot, none⟩) nt c1) ts) h2 List.perm_append_comm
 · as_aux_lemma =>   -- 4
   obtain ⟨d1, d2, d3, d4, d5⟩ := HD1.out _ HSB.out
   obtain ⟨xx, hxx⟩ : ∃ xx, ps[kb].1.sat = xx := ⟨_, rfl⟩
   rw [hxx] at d2
   clear hxx
   go_upto_region 29 with fail
   obtain ⟨y, hy⟩ : ∃ y, wrap64 (xx + by_) = y := ⟨_, rfl⟩
   rw [hy]
   have HSX : Hid (SL w w.heap.size ([.blk rb #[.slice none 0 0, .slice none 0 0] 39, .blk cb #[.slice (some ⟨gt, ot, none⟩) nt c1, .slice (some ⟨gb, ob, none⟩) nb c2] 39] ++ ((bikeN 44 3).own (.slice (some ⟨gb, ob, none⟩) nb c2) (ps.set kb (⟨y, ps[kb].1.stops⟩, ps[kb].2)) ++ ((truckN 88 105).own (.slice (some ⟨gt, ot, none⟩) nt c1) ts ++ []))) (w5.setCell ⟨gb, ob + kb * 2, none⟩ (.int .i64 y))) := Lib.hid (gn_repre (bikeN_ok 44 3) HLT.out.2 hkbp (j := 0) Nat.one_lt_two (⟨y, ps[kb].1.stops⟩ : BikeV) (.int .i64 y) rfl rfl rfl HSB.out)
   have HLF := Lib.hid (HLB2.out (⟨y, ps[kb].1.stops⟩ : BikeV) ps[kb].2 (by show ps[kb].1.stops.length ≤ 2000; rw [HLB.out.1]; omega))
   clear hy d1 d2 d3 d4 d5
   have HSF := Lib.hid (HSX.out)
   go_wp2_with first
    | (refine wpList_load_row rfl 39 _ rfl cb rfl _ #[.slice (some ⟨gt, ot, none⟩) nt c1, .slice (some ⟨gb, ob, none⟩) nb c2] _ _ (HSF.out.blk 1 rfl) Try.underlying39 rfl HPS.out ?_)
    | (refine wpList_store_abs rfl 39 _ _ rfl rfl rb #[.slice (some ⟨gt, ot, none⟩) nt c1, .slice (some ⟨gb, ob, none⟩) nb c2] rfl rfl _ _ (HSF.out.blk 0 rfl) HPS.out rfl (by simp [Value.oneCell']) ?_
       intro w9 ho9 hh9)
   refine retArr rfl _ _ rb 39 #[.slice (some ⟨gt, ot, none⟩) nt c1, .slice (some ⟨gb, ob, none⟩) nb c2] _ rfl hh9 Try.underlying39 rfl HPS.out ?_
   refine ⟨.slice (some ⟨gt, ot, none⟩) nt c1, .slice (some ⟨gb, ob, none⟩) nb c2, ts, _, rfl, HLF.out, ?_⟩
   have h := HSF.out.only 0 rfl ho9 hh9
   rw [List.append_nil] at h
   have h2 := h.sub (.cons _ (.cons _ (List.Sublist.refl _)))
   exact SL.perm (l := (bikeN 44 3).own (.slice (some ⟨gb, ob, none⟩) nb c2) _ ++ (truckN 88 105).own (.slice (some ⟨gt, ot, none⟩) nt c1) ts) h2 List.perm_append_comm
 · as_aux_lemma =>   -- 5
   obtain ⟨d1, d2, d3, d4, d5⟩ := HD2.out _ HS5.out
   obtain ⟨xx, hxx⟩ : ∃ xx, (ts[kt].1.getD k0 ⟨0, 0⟩).load = xx := ⟨_, rfl⟩
   rw [hxx] at d3
   clear hxx
   go_upto_region 29 with fail
   obtain ⟨y, hy⟩ : ∃ y, wrap64 (xx + by_) = y := ⟨_, rfl⟩
   rw [hy]
   have hkl : k0 < ts[kt].1.length := by have := HLB.out.2; omega
   have HSX := Lib.hid (HST3.out (ts[kt].1.set k0 ⟨ts[kt].1[k0].sat, y⟩) (w5.setCell ⟨gu, ou + k0 * 2 + 1, none⟩ (.int .i64 y)) (by rw [List.length_set]; exact HLB.out.2) (by
    have h := HS5.out.setRowCell _ HROWT.out (k0 * 2 + 1) (by omega) (.int .i64 y)
    rw [flat_set StopV.cells 2 StopV.cells_len ts[kt].1 k0 1 hkl ⟨ts[kt].1[k0].sat, y⟩ (.int .i64 y) (by decide) rfl]; exact h))
   have HLF := Lib.hid (HLT2.out (ts[kt].1.set k0 ⟨ts[kt].1[k0].sat, y⟩) (.slice (some ⟨gu, ou, none⟩) Lt uc) (by rw [List.length_set, HLB.out.2]; omega))
   clear hy d1 d2 d3 d4 d5
   have HSF := Lib.hid (HSX.out)
   go_wp2_with first
    | (refine wpList_load_row rfl 39 _ rfl cb rfl _ #[.slice (some ⟨gt, ot, none⟩) nt c1, .slice (some ⟨gb, ob, none⟩) nb c2] _ _ (HSF.out.blk 1 rfl) Try.underlying39 rfl HPS.out ?_)
    | (refine wpList_store_abs rfl 39 _ _ rfl rfl rb #[.slice (some ⟨gt, ot, none⟩) nt c1, .slice (some ⟨gb, ob, none⟩) nb c2] rfl rfl _ _ (HSF.out.blk 0 rfl) HPS.out rfl (by simp [Value.oneCell']) ?_
       intro w9 ho9 hh9)
   refine retArr rfl _ _ rb 39 #[.slice (some ⟨gt, ot, none⟩) nt c1, .slice (some ⟨gb, ob, none⟩) nb c2] _ rfl hh9 Try.underlying39 rfl HPS.out ?_
   refine ⟨.slice (some ⟨gt, ot, none⟩) nt c1, .slice (some ⟨gb, ob, none⟩) nb c2, _, ps, rfl, HLF.out, ?_⟩
   have h := HSF.out.only 0 rfl ho9 hh9
   rw [List.append_nil] at h
   exact h.sub (.cons _ (.cons _ (List.Sublist.refl _)))
 · as_aux_lemma =>   -- 6
   obtain ⟨d1, d2, d3, d4, d5⟩ := HD2.out _ HS5.out
   obtain ⟨xx, hxx⟩ : ∃ xx, (ts[kt].1.getD k0 ⟨0, 0⟩).sat = xx := ⟨_, rfl⟩
   rw [hxx] at d2
   clear hxx
   go_upto_region 29 with fail
   obtain ⟨y, hy⟩ : ∃ y, wrap64 (xx + by_) = y := ⟨_, rfl⟩
   rw [hy]
   have hkl : k0 < ts[kt].1.length := by have := HLB.out.2; omega
   have HSX := Lib.hid (HST3.out (ts[kt].1.set k0 ⟨y, ts[kt].1[k0].load⟩) (w5.setCell ⟨gu, ou + k0 * 2, none⟩ (.int .i64 y)) (by rw [List.length_set]; exact HLB.out.2) (by
    have h := HS5.out.setRowCell _ HROWT.out (k0 * 2) (by omega) (.int .i64 y)
    rw [flat_set StopV.cells 2 StopV.cells_len ts[kt].1 k0 0 hkl ⟨y, ts[kt].1[k0].load⟩ (.int .i64 y) (by decide) rfl]; exact h))
   have HLF := Lib.hid (HLT2.out (ts[kt].1.set k0 ⟨y, ts[kt].1[k0].load⟩) (.slice (some ⟨gu, ou, none⟩) Lt uc) (by rw [List.length_set, HLB.out.2]; omega))
   clear hy d1 d2 d3 d4 d5
   have HSF := Lib.hid (HSX.out)
   go_wp2_with first
    | (refine wpList_load_row rfl 39 _ rfl cb rfl _ #[.slice (some ⟨gt, ot, none⟩) nt c1, .slice (some ⟨gb, ob, none⟩) nb c2] _ _ (HSF.out.blk 1 rfl) Try.underlying39 rfl HPS.out ?_)
    | (refine wpList_store_abs rfl 39 _ _ rfl rfl rb #[.slice (some ⟨gt, ot, none⟩) nt c1, .slice (some ⟨gb, ob, none⟩) nb c2] rfl rfl _ _ (HSF.out.blk 0 rfl) HPS.out rfl (by simp [Value.oneCell']) ?_
       intro w9 ho9 hh9)
   refine retArr rfl _ _ rb 39 #[.slice (some ⟨gt, ot, none⟩) nt c1, .slice (some ⟨gb, ob, none⟩) nb c2] _ rfl hh9 Try.underlying39 rfl HPS.out ?_
   refine ⟨.slice (some ⟨gt, ot, none⟩) nt c1, .slice (some ⟨gb, ob, none⟩) nb c2, _, ps, rfl, HLF.out, ?_⟩
   have h := HSF.out.only 0 rfl ho9 hh9
   rw [List.append_nil] at h
   exact h.sub (.cons _ (.cons _ (List.Sublist.refl _)))
 · as_aux_lemma =>   -- 7
   go_upto_region 22 with fail
   obtain ⟨i9, hi9, hy1, hyz, hyb⟩ := info_parts stopE_info
   have HI9 := Lib.hid (And.intro hi9 (And.intro hy1 (And.intro hyz hyb)))
   clear hi9 hy1 hyz hyb
   obtain ⟨xx, hxx⟩ : ∃ xx, (ts[kt].1.getD k0 ⟨0, 0⟩).sat = xx := ⟨_, rfl⟩
   have HXX := Lib.hid hxx
   have hsb := gn_sub (N := (truckN 88 105)) HLT.out.1 (.slice (some ⟨gt, ot, none⟩) nt c1) [.blk cb #[.slice (some ⟨gt, ot, none⟩) nt c1, .slice (some ⟨gb, ob, none⟩) nb c2] 39] [.blk rb #[.slice none 0 0, .slice none 0 0] 39, .blk cb #[.slice (some ⟨gt, ot, none⟩) nt c1, .slice (some ⟨gb, ob, none⟩) nb c2] 39] ((bikeN 44 3).own (.slice (some ⟨gb, ob, none⟩) nb c2) ps ++ []) (.cons _ (.cons_cons _ (List.nil_sublist _)))
   have HSUB := Lib.hid hsb
   clear hxx
   refine wp_region_sl [0,1,2,3,4,5,6,7,8,9,10,11] [12,13,14,15] [16,17,18] _ HS5.out hsb (by kernel_rfl) (by kernel_rfl) (.cons rfl (.cons rfl (.cons rfl .nil))) (fun C cw _ hC => ?_)
   have q1 : ∀ d, (cw d).cell? ⟨gt, ot + kt, none⟩ = some (.slice (some ⟨gu, ou, none⟩) Lt uc) := fun d => by
    have h3 := (hC d).rowCell 1 rfl (kt * 1 + 0) (gn_heads (truckN_ok 88 105) ts kt 0 hktp Nat.zero_lt_one)
    rw [show ot + (kt * 1 + 0) = ot + kt by omega] at h3
    rw [← HVA.out.2]; exact h3
   clear hsb
   repeat (first | (refine pl_nil' _ _ rfl rfl rfl rfl (fun Kv hK => ?_); go_simp; refine hK _ ?_; clear hK Kv) | (refine pl_look rfl rfl rfl (fun Kv hK => ?_); go_big_quiet_op; refine hK _ ?_; clear hK Kv))
   clear q1 hC
   refine pl_end ?_
   intro w6 hS6
   obtain ⟨d1, d2, d3, d4, d5⟩ := HD2.out _ hS6
   rw [HXX.out] at d2
   refine pm_eff rfl rfl fun Kv hK => ?_
   go_simp
   refine ⟨hS6.sub HSUB.out, hK _ _ ?_⟩
   clear hK Kv d1 d2 d3 d4 d5
   refine pm_eff rfl rfl fun Kv hK => ?_
   go_simp
   refine ⟨hS6.sub HSUB.out, hK _ _ ?_⟩
   clear hK Kv
   refine pm_eff rfl rfl fun Kv hK => ?_
   go_simp
   refine ⟨(hS6.alloc _ _).tail.sub HSUB.out, hK _ _ ?_⟩
   clear hK Kv
   refine pm_append rfl rfl (.tmp 170) (.tmp 180) 86 rfl hS6 (2 + (kt + 1)) i9 (.agg #[.int .i64 0, .int .i64 0]) 2 16 Try.underlying86 HI9.out.1 HI9.out.2.1 HI9.out.2.2.1 HI9.out.2.2.2 rfl (by decide) _ Lt 1 _ HROWT.out rfl _ rfl rfl (by decide) rfl (by simp [Value.oneCell']) (by omega) (by decide) ?_
   intro v7 w7 hS7 hz7
   refine ⟨hS7.sub (gn_subset (N := (truckN 88 105)) HLT.out.1 (.slice (some ⟨gt, ot, none⟩) nt c1) [.blk cb #[.slice (some ⟨gt, ot, none⟩) nt c1, .slice (some ⟨gb, ob, none⟩) nb c2] 39] [.blk rb #[.slice none 0 0, .slice none 0 0] 39, .blk cb #[.slice (some ⟨gt, ot, none⟩) nt c1, .slice (some ⟨gb, ob, none⟩) nb c2] 39] ((bikeN 44 3).own (.slice (some ⟨gb, ob, none⟩) nb c2) ps ++ []) (.cons _ (.cons_cons _ (List.nil_sublist _))) kt _), fun Kv hK => hK _ _ ?_⟩
   refine pm_end ?_
   obtain ⟨A7, c7, rfl, _, _⟩ := (hS7.row (2 + (kt + 1)) (List.getElem?_set_self (List.getElem?_eq_some_iff.1 HROWT.out).1)).slice_
   obtain ⟨hq3, hq4⟩ := HT4.out _ _ hS7
   have HSX := Lib.hid (HTT.out (ts[kt].1 ++ [⟨xx, 1⟩]) (.slice A7 (Lt + 1) c7) w7 (by
    have h := hS7
    have e1 : (ts[kt].1 ++ [(⟨xx, 1⟩ : StopV)]).length = Lt + 1 := by rw [List.length_append, HLB.out.2]; rfl
    rw [e1, List.flatMap_append]
    exact h))
   have HLF := Lib.hid (HLT2.out (ts[kt].1 ++ [⟨xx, 1⟩]) (.slice A7 (Lt + 1) c7) (by rw [List.length_append, HLB.out.2]; simp; omega))
   clear hS6 hS7 hz7
   go_upto_region 29 with fail
   have HSF := Lib.hid (HSX.out)
   go_wp2_with first
    | (refine wpList_load_row rfl 39 _ rfl cb rfl _ #[.slice (some ⟨gt, ot, none⟩) nt c1, .slice (some ⟨gb, ob, none⟩) nb c2] _ _ (HSF.out.blk 1 rfl) Try.underlying39 rfl HPS.out ?_)
    | (refine wpList_store_abs rfl 39 _ _ rfl rfl rb #[.slice (some ⟨gt, ot, none⟩) nt c1, .slice (some ⟨gb, ob, none⟩) nb c2] rfl rfl _ _ (HSF.out.blk 0 rfl) HPS.out rfl (by simp [Value.oneCell']) ?_
       intro w9 ho9 hh9)
   refine retArr rfl _ _ rb 39 #[.slice (some ⟨gt, ot, none⟩) nt c1, .slice (some ⟨gb, ob, none⟩) nb c2] _ rfl hh9 Try.underlying39 rfl HPS.out ?_
   refine ⟨.slice (some ⟨gt, ot, none⟩) nt c1, .slice (some ⟨gb, ob, none⟩) nb c2, _, ps, rfl, HLF.out, ?_⟩
   have h := HSF.out.only 0 rfl ho9 hh9
   rw [List.append_nil] at h
   exact h.sub (.cons _ (.cons _ (List.Sublist.refl _)))
 · as_aux_lemma =>   -- 8
   go_upto_region 24 with fail
   obtain ⟨i9, hi9, hy1, hyz, hyb⟩ := info_parts truckE_info
   have HI9 := Lib.hid (And.intro hi9 (And.intro hy1 (And.intro hyz hyb)))
   clear hi9 hy1 hyz hyb
   have y0 : w5.cell? ⟨cb, 0, none⟩ = some (.slice (some ⟨gt, ot, none⟩) nt c1) := HS5.out.cell 1 rfl 0 rfl
   have y1 : w5.cell? ⟨cb, 1, none⟩ = some (.slice (some ⟨gb, ob, none⟩) nb c2) := HS5.out.cell 1 rfl 1 rfl
   have HSN := Lib.hid (HS5.out.nil 105 2)
   have HRW : Hid (((truckN 88 105).inner (([] : List StopV), Value.slice none 0 0) :: ([.blk rb #[.slice none 0 0, .slice none 0 0] 39, .blk cb #[.slice (some ⟨gt, ot, none⟩) nt c1, .slice (some ⟨gb, ob, none⟩) nb c2] 39] ++ ((truckN 88 105).own (.slice (some ⟨gt, ot, none⟩) nt c1) ts ++ ((bikeN 44 3).own (.slice (some ⟨gb, ob, none⟩) nb c2) ps ++ []))))[3]? = some (.row 88 1 (.slice (some ⟨gt, ot, none⟩) nt c1) nt ((truckN 88 105).heads ts))) := Lib.hid (by
    have h := gn_outer (truckN 88 105) ((truckN 88 105).inner (([] : List StopV), Value.slice none 0 0) :: [.blk rb #[.slice none 0 0, .slice none 0 0] 39, .blk cb #[.slice (some ⟨gt, ot, none⟩) nt c1, .slice (some ⟨gb, ob, none⟩) nb c2] 39]) ((bikeN 44 3).own (.slice (some ⟨gb, ob, none⟩) nb c2) ps ++ []) (.slice (some ⟨gt, ot, none⟩) nt c1) ts
    rw [HLT.out.1] at h
    exact h)
   go_wp2_with (at_builtin; refine stopHere ?_)
   show wpList _ _ _ _ _ _
   refine wpList_append_sl rfl _ _ 37 rfl HSN.out 3 i9 (.agg #[.slice none 0 0]) 1 24 Try.underlying37 HI9.out.1 HI9.out.2.1 HI9.out.2.2.1 HI9.out.2.2.2 rfl (by decide) _ nt 1 _ HRW.out rfl _ rfl rfl (by decide) rfl (by simp [Value.oneCell']) (by omega) (by decide) ?_
   intro v7 w7 hS7 hz7
   have hS8 : SL w w.heap.size ((truckN 88 105).inner (([] : List StopV), Value.slice none 0 0) :: ([.blk rb #[.slice none 0 0, .slice none 0 0] 39, .blk cb #[.slice (some ⟨gt, ot, none⟩) nt c1, .slice (some ⟨gb, ob, none⟩) nb c2] 39] ++ (.row 88 1 v7 (ts.length + 1) ((truckN 88 105).heads ts ++ (truckN 88 105).head (([] : List StopV), Value.slice none 0 0)) :: (ts.map (truckN 88 105).inner ++ ((bikeN 44 3).own (.slice (some ⟨gb, ob, none⟩) nb c2) ps ++ []))))) w7 := by
    have h := hS7
    rw [HLT.out.1]
    exact h
   obtain ⟨A7, c7, rfl, _, _⟩ := (hS8.row 3 rfl).slice_
   rw [HLT.out.1]
   have z1 := hS8.free 2 rfl 0
   have z2 : w7.cell? ⟨cb, 0, none⟩ = some (.slice (some ⟨gt, ot, none⟩) nt c1) := hS8.cell 2 rfl 0 rfl
   have hS9 := hS8.setCell 2 rfl 0 (.slice A7 (ts.length + 1) c7)
   have HSX : Hid (SL w w.heap.size ([.blk rb #[.slice none 0 0, .slice none 0 0] 39, .blk cb #[.slice A7 (nt + 1) c7, .slice (some ⟨gb, ob, none⟩) nb c2] 39] ++ ((truckN 88 105).own (.slice A7 (nt + 1) c7) (ts ++ [(([] : List StopV), Value.slice none 0 0)]) ++ ((bikeN 44 3).own (.slice (some ⟨gb, ob, none⟩) nb c2) ps ++ []))) (w7.setCell ⟨cb, 0, none⟩ (.slice A7 (nt + 1) c7))) := Lib.hid (by
    have h := SL.nestSnoc (P := [.blk rb #[.slice none 0 0, .slice none 0 0] 39, .blk cb #[.slice A7 (ts.length + 1) c7, .slice (some ⟨gb, ob, none⟩) nb c2] 39]) (R := ((bikeN 44 3).own (.slice (some ⟨gb, ob, none⟩) nb c2) ps ++ [])) hS9
    rw [HLT.out.1] at h
    exact h)
   have HLF : Hid (PlanT ⟨(ts ++ [(([] : List StopV), Value.slice none 0 0)]).map (·.1), ps.map (·.1)⟩) := Lib.hid (by rw [List.map_append]; exact HSM.out.snocTruck)
   clear hS7 hS8 hS9 hz7 HSN HRW y0 y1
   go_upto_region 29 with fail
   have HSF := Lib.hid (HSX.out)
   go_wp2_with first
    | (refine wpList_load_row rfl 39 _ rfl cb rfl _ #[.slice A7 (nt + 1) c7, .slice (some ⟨gb, ob, none⟩) nb c2] _ _ (HSF.out.blk 1 rfl) Try.underlying39 rfl HPS.out ?_)
    | (refine wpList_store_abs rfl 39 _ _ rfl rfl rb #[.slice A7 (nt + 1) c7, .slice (some ⟨gb, ob, none⟩) nb c2] rfl rfl _ _ (HSF.out.blk 0 rfl) HPS.out rfl (by simp [Value.oneCell']) ?_
       intro w9 ho9 hh9)
   refine retArr rfl _ _ rb 39 #[.slice A7 (nt + 1) c7, .slice (some ⟨gb, ob, none⟩) nb c2] _ rfl hh9 Try.underlying39 rfl HPS.out ?_
   refine ⟨.slice A7 (nt + 1) c7, .slice (some ⟨gb, ob, none⟩) nb c2, _, ps, rfl, HLF.out, ?_⟩
   have h := HSF.out.only 0 rfl ho9 hh9
   rw [List.append_nil] at h
   exact h.sub (.cons _ (.cons _ (List.Sublist.refl _)))
 · as_aux_lemma =>   -- 9
   go_upto_region 26 with fail
   obtain ⟨i9, hi9, hy1, hyz, hyb⟩ := info_parts bikeE_info
   have HI9 := Lib.hid (And.intro hi9 (And.intro hy1 (And.intro hyz hyb)))
   clear hi9 hy1 hyz hyb
   have y0 : w5.cell? ⟨cb, 0, none⟩ = some (.slice (some ⟨gt, ot, none⟩) nt c1) := HS5.out.cell 1 rfl 0 rfl
   have y1 : w5.cell? ⟨cb, 1, none⟩ = some (.slice (some ⟨gb, ob, none⟩) nb c2) := HS5.out.cell 1 rfl 1 rfl
   have HSN := Lib.hid (HSB.out.nil 3 1)
   have HRW : Hid (((bikeN 44 3).inner ((⟨by_, []⟩ : BikeV), Value.slice none 0 0) :: ([.blk rb #[.slice none 0 0, .slice none 0 0] 39, .blk cb #[.slice (some ⟨gt, ot, none⟩) nt c1, .slice (some ⟨gb, ob, none⟩) nb c2] 39] ++ ((bikeN 44 3).own (.slice (some ⟨gb, ob, none⟩) nb c2) ps ++ ((truckN 88 105).own (.slice (some ⟨gt, ot, none⟩) nt c1) ts ++ []))))[3]? = some (.row 44 2 (.slice (some ⟨gb, ob, none⟩) nb c2) nb ((bikeN 44 3).heads ps))) := Lib.hid (by
    have h := gn_outer (bikeN 44 3) ((bikeN 44 3).inner ((⟨by_, []⟩ : BikeV), Value.slice none 0 0) :: [.blk rb #[.slice none 0 0, .slice none 0 0] 39, .blk cb #[.slice (some ⟨gt, ot, none⟩) nt c1, .slice (some ⟨gb, ob, none⟩) nb c2] 39]) ((truckN 88 105).own (.slice (some ⟨gt, ot, none⟩) nt c1) ts ++ []) (.slice (some ⟨gb, ob, none⟩) nb c2) ps
    rw [HLT.out.2] at h
    exact h)
   go_wp2_with (at_builtin; refine stopHere ?_)
   show wpList _ _ _ _ _ _
   refine wpList_append_sl rfl _ _ 27 rfl HSN.out 3 i9 (.agg #[.int .i64 0, .slice none 0 0]) 2 32 Try.underlying27 HI9.out.1 HI9.out.2.1 HI9.out.2.2.1 HI9.out.2.2.2 rfl (by decide) _ nb 1 _ HRW.out rfl _ rfl rfl (by decide) rfl (by simp [Value.oneCell']) (by omega) (by decide) ?_
   intro v7 w7 hS7 hz7
   have hS8 : SL w w.heap.size ((bikeN 44 3).inner ((⟨by_, []⟩ : BikeV), Value.slice none 0 0) :: ([.blk rb #[.slice none 0 0, .slice none 0 0] 39, .blk cb #[.slice (some ⟨gt, ot, none⟩) nt c1, .slice (some ⟨gb, ob, none⟩) nb c2] 39] ++ (.row 44 2 v7 (ps.length + 1) ((bikeN 44 3).heads ps ++ (bikeN 44 3).head ((⟨by_, []⟩ : BikeV), Value.slice none 0 0)) :: (ps.map (bikeN 44 3).inner ++ ((truckN 88 105).own (.slice (some ⟨gt, ot, none⟩) nt c1) ts ++ []))))) w7 := by
    have h := hS7
    rw [HLT.out.2]
    exact h
   obtain ⟨A7, c7, rfl, _, _⟩ := (hS8.row 3 rfl).slice_
   rw [HLT.out.2]
   have z1 := hS8.free 2 rfl 1
   have z2 : w7.cell? ⟨cb, 1, none⟩ = some (.slice (some ⟨gb, ob, none⟩) nb c2) := hS8.cell 2 rfl 1 rfl
   have hS9 := hS8.setCell 2 rfl 1 (.slice A7 (ps.length + 1) c7)
   have HSX : Hid (SL w w.heap.size ([.blk rb #[.slice none 0 0, .slice none 0 0] 39, .blk cb #[.slice (some ⟨gt, ot, none⟩) nt c1, .slice A7 (nb + 1) c7] 39] ++ ((bikeN 44 3).own (.slice A7 (nb + 1) c7) (ps ++ [((⟨by_, []⟩ : BikeV), Value.slice none 0 0)]) ++ ((truckN 88 105).own (.slice (some ⟨gt, ot, none⟩) nt c1) ts ++ []))) (w7.setCell ⟨cb, 1, none⟩ (.slice A7 (nb + 1) c7))) := Lib.hid (by
    have h := SL.nestSnoc (P := [.blk rb #[.slice none 0 0, .slice none 0 0] 39, .blk cb #[.slice (some ⟨gt, ot, none⟩) nt c1, .slice A7 (ps.length + 1) c7] 39]) (R := ((truckN 88 105).own (.slice (some ⟨gt, ot, none⟩) nt c1) ts ++ [])) hS9
    rw [HLT.out.2] at h
    exact h)
   have HLF : Hid (PlanT ⟨ts.map (·.1), (ps ++ [((⟨by_, []⟩ : BikeV), Value.slice none 0 0)]).map (·.1)⟩) := Lib.hid (by rw [List.map_append]; exact HSM.out.snocBike by_)
   clear hS7 hS8 hS9 hz7 HSN HRW y0 y1
   go_upto_region 29 with fail
   have HSF := Lib.hid (HSX.out)
   go_wp2_with first
    | (refine wpList_load_row rfl 39 _ rfl cb rfl _ #[.slice (some ⟨gt, ot, none⟩) nt c1, .slice A7 (nb + 1) c7] _ _ (HSF.out.blk 1 rfl) Try.underlying39 rfl HPS.out ?_)
    | (refine wpList_store_abs rfl 39 _ _ rfl rfl rb #[.slice (some ⟨gt, ot, none⟩) nt c1, .slice A7 (nb + 1) c7] rfl rfl _ _ (HSF.out.blk 0 rfl) HPS.out rfl (by simp [Value.oneCell']) ?_
       intro w9 ho9 hh9)
   refine retArr rfl _ _ rb 39 #[.slice (some ⟨gt, ot, none⟩) nt c1, .slice A7 (nb + 1) c7] _ rfl hh9 Try.underlying39 rfl HPS.out ?_
   refine ⟨.slice (some ⟨gt, ot, none⟩) nt c1, .slice A7 (nb + 1) c7, ts, _, rfl, HLF.out, ?_⟩
   have h := HSF.out.only 0 rfl ho9 hh9
   rw [List.append_nil] at h
   have h2 := h.sub (.cons _ (.cons _ (List.Sublist.refl _)))
   exact SL.perm (l := (bikeN 44 3).own (.slice A7 (nb + 1) c7) _ ++ (truckN 88 105).own (.slice (some ⟨gt, ot, none⟩) nt c1) ts) h2 List.perm_append_comm
 · as_aux_lemma =>   -- 10
   go_upto_region 28 with fail
   obtain ⟨i9, hi9, hy1, hyz, hyb⟩ := info_parts stopE_info
   have HI9 := Lib.hid (And.intro hi9 (And.intro hy1 (And.intro hyz hyb)))
   clear hi9 hy1 hyz hyb
   obtain ⟨d1, d2, d3, d4, d5⟩ := HD2.out _ HS5.out
   go_wp2_with (at_builtin; refine stopHere ?_)
   show wpList _ _ _ _ _ _
   refine wpList_append_sl rfl _ _ 86 rfl HS5.out (2 + (kt + 1)) i9 (.agg #[.int .i64 0, .int .i64 0]) 2 16 Try.underlying86 HI9.out.1 HI9.out.2.1 HI9.out.2.2.1 HI9.out.2.2.2 rfl (by decide) _ Lt 1 _ HROWT.out rfl _ rfl rfl (by decide) rfl (by simp [Value.oneCell']) (by omega) (by decide) ?_
   intro v7 w7 hS7 hz7
   clear d1 d2 d3 d4 d5
   obtain ⟨A7, c7, rfl, _, _⟩ := (hS7.row (2 + (kt + 1)) (List.getElem?_set_self (List.getElem?_eq_some_iff.1 HROWT.out).1)).slice_
   obtain ⟨hq3, hq4⟩ := HT4.out _ _ hS7
   have HSX := Lib.hid (HTT.out (ts[kt].1 ++ [⟨by_, at_⟩]) (.slice A7 (Lt + 1) c7) w7 (by
    have h := hS7
    have e1 : (ts[kt].1 ++ [(⟨by_, at_⟩ : StopV)]).length = Lt + 1 := by rw [List.length_append, HLB.out.2]; rfl
    rw [e1, List.flatMap_append]
    exact h))
   have HLF := Lib.hid (HLT2.out (ts[kt].1 ++ [⟨by_, at_⟩]) (.slice A7 (Lt + 1) c7) (by rw [List.length_append, HLB.out.2]; simp; omega))
   clear hS7 hz7
   go_upto_region 29 with fail
   have HSF := Lib.hid (HSX.out)
   go_wp2_with first
    | (refine wpList_load_row rfl 39 _ rfl cb rfl _ #[.slice (some ⟨gt, ot, none⟩) nt c1, .slice (some ⟨gb, ob, none⟩) nb c2] _ _ (HSF.out.blk 1 rfl) Try.underlying39 rfl HPS.out ?_)
    | (refine wpList_store_abs rfl 39 _ _ rfl rfl rb #[.slice (some ⟨gt, ot, none⟩) nt c1, .slice (some ⟨gb, ob, none⟩) nb c2] rfl rfl _ _ (HSF.out.blk 0 rfl) HPS.out rfl (by simp [Value.oneCell']) ?_
       intro w9 ho9 hh9)
   refine retArr rfl _ _ rb 39 #[.slice (some ⟨gt, ot, none⟩) nt c1, .slice (some ⟨gb, ob, none⟩) nb c2] _ rfl hh9 Try.underlying39 rfl HPS.out ?_
   refine ⟨.slice (some ⟨gt, ot, none⟩) nt c1, .slice (some ⟨gb, ob, none⟩) nb c2, _, ps, rfl, HLF.out, ?_⟩
   have h := HSF.out.only 0 rfl ho9 hh9
   rw [List.append_nil] at h
   exact h.sub (.cons _ (.cons _ (List.Sublist.refl _)))
 · as_aux_lemma =>   -- 11
   have HSF := Lib.hid (HS5.out)
   go_wp2_with first
    | (refine wpList_load_row rfl 39 _ rfl cb rfl _ #[.slice (some ⟨gt, ot, none⟩) nt c1, .slice (some ⟨gb, ob, none⟩) nb c2] _ _ (HSF.out.blk 1 rfl) Try.underlying39 rfl HPS.out ?_)
    | (refine wpList_store_abs rfl 39 _ _ rfl rfl rb #[.slice (some ⟨gt, ot, none⟩) nt c1, .slice (some ⟨gb, ob, none⟩) nb c2] rfl rfl _ _ (HSF.out.blk 0 rfl) HPS.out rfl (by simp [Value.oneCell']) ?_
       intro w9 ho9 hh9)
   refine retArr rfl _ _ rb 39 #[.slice (some ⟨gt, ot, none⟩) nt c1, .slice (some ⟨gb, ob, none⟩) nb c2] _ rfl hh9 Try.underlying39 rfl HPS.out ?_
   refine ⟨.slice (some ⟨gt, ot, none⟩) nt c1, .slice (some ⟨gb, ob, none⟩) nb c2, ts, ps, rfl, HLF.out, ?_⟩
   have h := HSF.out.only 0 rfl ho9 hh9
   rw [List.append_nil] at h
   exact h.sub (.cons _ (.cons _ (List.Sublist.refl _)))
end Go.Proofs.Ytpbhbmdghafkmaa
