/- A change loses no stop, and none comes twice. No program in sight. -/
import Derived.Test.YtpbhbmdghafkmaaBackMJ
namespace Go.Proofs.Ytpbhbmdghafkmaa
open Go.ChangeShapes Go.WideShapes Go.ChangeAt Go.RowKit
set_option linter.unusedVariables false
theorem cnt_put (x : Int) : ∀ (bs : List BikeV) (k : Nat) (l : List Int), k < bs.length → (allStops (putStops bs (k : Int) l)).count x + (stopsAt bs (k : Int)).count x = (allStops bs).count x + l.count x
 | b :: bs, 0, l, _ => by
   have e : ∀ (b : BikeV) (bs : List BikeV), allStops (b :: bs) = b.stops ++ allStops bs := fun _ _ => rfl
   have e2 : stopsAt (b :: bs) ((0 : Nat) : Int) = b.stops := rfl
   unfold putStops
   simp only [Int.toNat_natCast, List.set_cons_zero, e, e2, List.count_append]
   omega
 | b :: bs, k + 1, l, h => by
   have e : ∀ (b : BikeV) (bs : List BikeV), allStops (b :: bs) = b.stops ++ allStops bs := fun _ _ => rfl
   have ih := cnt_put x bs k l (by simpa using h)
   have e1 : stopsAt (b :: bs) ((k + 1 : Nat) : Int) = stopsAt bs (k : Int) := by unfold stopsAt; simp only [Int.toNat_natCast, List.getD_cons_succ]
   have e2 : satAt (b :: bs) ((k + 1 : Nat) : Int) = satAt bs (k : Int) := by unfold satAt; simp only [Int.toNat_natCast, List.getD_cons_succ]
   unfold putStops at ih ⊢
   simp only [Int.toNat_natCast, List.set_cons_succ, e, e1, e2, List.count_append] at ih ⊢
   omega
theorem cnt_keep (x : Int) : ∀ bs : List BikeV, (allStops (bs.filter keepB)).count x = (allStops bs).count x
 | [] => rfl
 | b :: bs => by
   have e : ∀ (b : BikeV) (bs : List BikeV), allStops (b :: bs) = b.stops ++ allStops bs := fun _ _ => rfl
   have ih := cnt_keep x bs
   rw [List.filter_cons]
   split
   · simp only [e, List.count_append]; omega
   · rename_i h
     unfold keepB at h
     have : b.stops = [] := List.eq_nil_of_length_eq_zero (by simpa using h)
     rw [e, this, List.nil_append]; exact ih
theorem cnt_cut (x : Int) (l : List Int) (i : Nat) : (l.take i).count x + (l.drop i).count x = l.count x := by
 rw [← List.count_append, List.take_append_drop]
theorem cnt_set (x y : Int) (l : List Int) {i : Nat} (h : i < l.length) : (l.set i y).count x + (if l[i] = x then 1 else 0) = l.count x + (if y = x then 1 else 0) := by
 rw [List.set_eq_take_append_cons_drop, if_pos h]
 have e : l.count x = (l.take i).count x + (l[i] :: l.drop (i + 1)).count x := by
  rw [← List.count_append, ← List.drop_eq_getElem_cons h, List.take_append_drop]
 rw [e]
 simp only [List.count_append, List.count_cons, beq_iff_eq]
 omega
theorem all_more (bs : List BikeV) (m : MoveV) : allStops (more bs m) = allStops bs := by
 unfold more
 split
 · unfold allStops; simp
 · rfl
theorem more_at {bs : List BikeV} (m : MoveV) {k : Nat} (h : k < bs.length) : stopsAt (more bs m) (k : Int) = stopsAt bs (k : Int) ∧ k < (more bs m).length := by
 unfold more
 split
 · unfold stopsAt; simp [List.getD_eq_getElem?_getD, List.getElem?_append_left h]; omega
 · exact ⟨rfl, h⟩
theorem else_cnt {bs r : List BikeV} {m : MoveV} {many : Nat} (h : elseM bs m many = some r) (x : Int) : (allStops r).count x = (allStops bs).count x := by
 unfold elseM at h
 split at h
 · cases h
 rename_i h0
 split at h
 · cases h
 rename_i h1
 simp only [Bool.not_eq_false, Option.some.injEq] at h0 h1 h
 obtain ⟨kd, a, i, b, j⟩ := m
 unfold elseOk at h0
 simp only [Bool.and_eq_true] at h0
 obtain ⟨k, i, rfl, rfl, hk, hi⟩ := atB_nat h0.1.1
 unfold behindB at h1
 simp only [Bool.and_eq_true, decide_eq_true_eq] at h1
 obtain ⟨⟨h3, h4⟩, h5, h6⟩ := h1
 obtain ⟨b, rfl⟩ : ∃ b' : Nat, b = b' := ⟨b.toNat, by omega⟩
 obtain ⟨g1, g2⟩ := more_at ⟨kd, k, i, b, j⟩ hk
 have c1 := cnt_put x (more bs ⟨kd, k, i, b, j⟩) k ((stopsAt bs (k : Int)).take i ++ (stopsAt bs (k : Int)).drop (i + many)) g2
 have hless : less bs ⟨kd, k, i, b, j⟩ many = putStops (more bs ⟨kd, k, i, b, j⟩) (k : Int) ((stopsAt bs (k : Int)).take i ++ (stopsAt bs (k : Int)).drop (i + many)) := by
  unfold less; simp only [Int.toNat_natCast]
 rw [← hless, all_more, g1] at c1
 have c2 := cnt_put x (less bs ⟨kd, k, i, b, j⟩ many) b ((stopsAt (less bs ⟨kd, k, i, b, j⟩ many) (b : Int)).take j.toNat ++ ((stopsAt bs (k : Int)).drop i).take many ++ (stopsAt (less bs ⟨kd, k, i, b, j⟩ many) (b : Int)).drop j.toNat) (by omega)
 simp only [Int.toNat_natCast] at h
 rw [h] at c2
 simp only [List.count_append] at c1 c2
 have c3 := cnt_cut x (stopsAt (less bs ⟨kd, k, i, b, j⟩ many) (b : Int)) j.toNat
 have c4 := cnt_cut x (stopsAt bs (k : Int)) i
 have c5 := cnt_cut x ((stopsAt bs (k : Int)).drop i) many
 rw [List.drop_drop] at c5
 omega
theorem swap_cnt {bs r : List BikeV} {m : MoveV} (h : swapM bs m = some r) (x : Int) : (allStops r).count x = (allStops bs).count x := by
 obtain ⟨kd, a, i, b, j⟩ := m
 unfold swapM at h
 split at h
 · cases h
 rename_i h0
 simp only [Bool.not_eq_false, Bool.and_eq_true] at h0
 obtain ⟨k, i, rfl, rfl, hk, hi⟩ := atB_nat h0.1
 obtain ⟨m, j, rfl, rfl, hm, hj⟩ := atB_nat h0.2
 simp only [Int.toNat_natCast, Option.some.injEq] at h
 have hs1 : swap1 bs ⟨kd, k, i, m, j⟩ = putStops bs (k : Int) ((stopsAt bs (k : Int)).set i ((stopsAt bs (m : Int)).getD j 0)) := by unfold swap1; simp only [Int.toNat_natCast]
 have c1 := cnt_put x bs k ((stopsAt bs (k : Int)).set i ((stopsAt bs (m : Int)).getD j 0)) hk
 rw [← hs1] at c1
 have hl1 : (swap1 bs ⟨kd, k, i, m, j⟩).length = bs.length := by rw [hs1]; exact putStops_len _ _ _
 have c2 := cnt_put x (swap1 bs ⟨kd, k, i, m, j⟩) m ((stopsAt (swap1 bs ⟨kd, k, i, m, j⟩) (m : Int)).set j ((stopsAt bs (k : Int)).getD i 0)) (by omega)
 rw [h] at c2
 have hsm : stopsAt (swap1 bs ⟨kd, k, i, m, j⟩) (m : Int) = if m = k then (stopsAt bs (k : Int)).set i ((stopsAt bs (m : Int)).getD j 0) else stopsAt bs (m : Int) := by rw [hs1]; exact stops_put _ hk
 have hjl : j < (stopsAt (swap1 bs ⟨kd, k, i, m, j⟩) (m : Int)).length := by
  rw [hsm]; split
  · rename_i e; subst e; rw [List.length_set]; exact hj
  · exact hj
 have hy : (stopsAt (swap1 bs ⟨kd, k, i, m, j⟩) (m : Int))[j] = (stopsAt bs (m : Int))[j] := by
  have e : (stopsAt (swap1 bs ⟨kd, k, i, m, j⟩) (m : Int))[j]? = (stopsAt bs (m : Int))[j]? := by
   rw [hsm]
   split
   · rename_i e; subst e
     rw [List.getElem?_set]
     split
     · rename_i e; subst e; simp [hi]
     · rfl
   · rfl
  rw [List.getElem?_eq_getElem hjl, List.getElem?_eq_getElem hj] at e
  exact Option.some.inj e
 have d1 := cnt_set x ((stopsAt bs (m : Int)).getD j 0) (stopsAt bs (k : Int)) hi
 have d2 := cnt_set x ((stopsAt bs (k : Int)).getD i 0) (stopsAt (swap1 bs ⟨kd, k, i, m, j⟩) (m : Int)) hjl
 rw [hy] at d2
 have e1 : (stopsAt bs (m : Int)).getD j 0 = (stopsAt bs (m : Int))[j] := by simp [hj]
 have e2 : (stopsAt bs (k : Int)).getD i 0 = (stopsAt bs (k : Int))[i] := by simp [hi]
 rw [e1] at d1 c1
 rw [e2] at d2 c2
 omega
theorem turn_cnt {bs r : List BikeV} {m : MoveV} (h : turnM bs m = some r) (x : Int) : (allStops r).count x = (allStops bs).count x := by
 obtain ⟨kd, a, i, b, j⟩ := m
 unfold turnM at h
 split at h
 · cases h
 rename_i h0
 simp only [Bool.not_eq_false, Bool.and_eq_true, decide_eq_true_eq] at h0
 obtain ⟨⟨⟨h1, h2⟩, h3⟩, h4⟩ := h0
 obtain ⟨k, i, rfl, rfl, hk, hi⟩ := atB_nat h1
 obtain ⟨k', j, e, rfl, hk', hj⟩ := atB_nat h3
 obtain rfl : k = k' := by omega
 have hij : i ≤ j := by omega
 simp only [Int.toNat_natCast, Option.some.injEq] at h
 have c1 := cnt_put x bs k ((stopsAt bs (k : Int)).take i ++ (((stopsAt bs (k : Int)).drop i).take (j + 1 - i)).reverse ++ (stopsAt bs (k : Int)).drop (j + 1)) hk
 rw [h] at c1
 simp only [List.count_append, List.count_reverse] at c1
 have c4 := cnt_cut x (stopsAt bs (k : Int)) i
 have c5 := cnt_cut x ((stopsAt bs (k : Int)).drop i) (j + 1 - i)
 rw [List.drop_drop, show i + (j + 1 - i) = j + 1 by omega] at c5
 omega
theorem behindB_nat {bs : List BikeV} {a i : Int} (h : behindB bs a i = true) : ∃ k j : Nat, a = k ∧ i = j ∧ k < bs.length ∧ j ≤ (stopsAt bs (k : Int)).length := by
 unfold behindB at h
 simp only [Bool.and_eq_true, decide_eq_true_eq] at h
 obtain ⟨⟨h1, h2⟩, h3, h4⟩ := h
 refine ⟨a.toNat, i.toNat, by omega, by omega, by omega, ?_⟩
 rw [show ((a.toNat : Nat) : Int) = a by omega]
 omega
theorem tails_cnt {bs r : List BikeV} {m : MoveV} (h : tailsM bs m = some r) (x : Int) : (allStops r).count x = (allStops bs).count x := by
 obtain ⟨kd, a, i, b, j⟩ := m
 unfold tailsM at h
 split at h
 · cases h
 rename_i h0
 simp only [Bool.not_eq_false, Bool.and_eq_true, Bool.not_eq_true', decide_eq_false_iff_not] at h0
 obtain ⟨⟨h1, h2⟩, h3⟩ := h0
 obtain ⟨k, i, rfl, rfl, hk, hi⟩ := behindB_nat h2
 obtain ⟨m, j, rfl, rfl, hm, hj⟩ := behindB_nat h3
 have hkm : m ≠ k := fun e => h1 (by omega)
 simp only [Int.toNat_natCast, Option.some.injEq] at h
 have c1 := cnt_put x bs k ((stopsAt bs (k : Int)).take i ++ (stopsAt bs (m : Int)).drop j) hk
 have c2 := cnt_put x (putStops bs (k : Int) ((stopsAt bs (k : Int)).take i ++ (stopsAt bs (m : Int)).drop j)) m ((stopsAt bs (m : Int)).take j ++ (stopsAt bs (k : Int)).drop i) (by rw [putStops_len]; exact hm)
 rw [h, stops_put _ hk, if_neg hkm] at c2
 simp only [List.count_append] at c1 c2
 have c3 := cnt_cut x (stopsAt bs (k : Int)) i
 have c4 := cnt_cut x (stopsAt bs (m : Int)) j
 omega
theorem all_same : ∀ {bs cs : List BikeV}, bs.map (·.stops) = cs.map (·.stops) → allStops bs = allStops cs := fun {bs cs} h => by
 unfold allStops
 rw [List.flatMap_def, List.flatMap_def, h]
theorem base_cnt {sats : Int} {bs r : List BikeV} {m : MoveV} (h : baseM sats bs m = some r) : allStops r = allStops bs := by
 obtain ⟨kd, a, i, b, j⟩ := m
 unfold baseM at h
 split at h
 · cases h
 rename_i h0
 simp only [Bool.not_eq_false, Bool.and_eq_true, decide_eq_true_eq] at h0
 obtain ⟨k, i', rfl, _, hk, hi⟩ := behindB_nat h0.1.1.1.1
 simp only [Int.toNat_natCast, Option.some.injEq] at h
 rw [← h]
 apply all_same
 rw [List.map_set]
 apply List.ext_getElem?
 intro y
 rw [List.getElem?_set]
 split
 · rename_i e; subst e
   simp [hk, stopsAt_lt hk]
 · rfl
theorem apply_cnt {sats : Int} {bs r : List BikeV} {m : MoveV} (h : applyM sats bs m = some r) (x : Int) : (allStops r).count x = (allStops bs).count x := by
 unfold applyM at h
 cases hr : rawM sats bs m with
 | none => rw [hr] at h; cases h
 | some r0 =>
   rw [hr] at h
   simp only [Option.map_some, Option.some.injEq] at h
   rw [← h, cnt_keep]
   unfold rawM at hr
   split at hr
   · exact else_cnt hr x
   split at hr
   · exact else_cnt hr x
   split at hr
   · exact swap_cnt hr x
   split at hr
   · exact turn_cnt hr x
   split at hr
   · exact tails_cnt hr x
   split at hr
   · rw [base_cnt hr]
   · cases hr
def sortM (l : List Int) : List Int := l.mergeSort fun x y => decide (x ≤ y)
theorem sortM_perm {l l' : List Int} (h : l.Perm l') : sortM l = sortM l' := by
 unfold sortM
 have h1 : (l.mergeSort fun x y => decide (x ≤ y)).Perm (l'.mergeSort fun x y => decide (x ≤ y)) := (List.mergeSort_perm l _).trans (h.trans (List.mergeSort_perm l' _).symm)
 have s1 := List.pairwise_mergeSort (le := fun x y : Int => decide (x ≤ y)) (fun a b c h1 h2 => by simp at *; omega) (fun a b => by simp; omega) l
 have s2 := List.pairwise_mergeSort (le := fun x y : Int => decide (x ≤ y)) (fun a b c h1 h2 => by simp at *; omega) (fun a b => by simp; omega) l'
 exact h1.eq_of_pairwise (fun a b _ _ h1 h2 => by simp at *; omega) s1 s2
theorem apply_sort {sats : Int} {bs r : List BikeV} {m : MoveV} (h : applyM sats bs m = some r) : sortM (allStops r) = sortM (allStops bs) ∧ (allStops r).length = (allStops bs).length := by
 have hp : (allStops r).Perm (allStops bs) := List.perm_iff_count.2 fun x => apply_cnt h x
 exact ⟨sortM_perm hp, hp.length_eq⟩
end Go.Proofs.Ytpbhbmdghafkmaa
