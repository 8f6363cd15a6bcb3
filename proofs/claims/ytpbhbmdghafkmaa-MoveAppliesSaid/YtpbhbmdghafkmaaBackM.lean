/- Two changes done again are as they were; what stays long stays long. No program in sight. -/
import Derived.Test.YtpbhbmdghafkmaaMoveP
import Derived.Test.YtpbhbmdghafkmaaPlanP
namespace Go.Proofs.Ytpbhbmdghafkmaa
open Go.ChangeShapes Go.WideShapes Go.ChangeAt Go.RowKit
set_option linter.unusedVariables false
theorem stops_put {bs : List BikeV} {a k : Nat} (l : List Int) (ha : a < bs.length) : stopsAt (putStops bs (a : Int) l) (k : Int) = if k = a then l else stopsAt bs (k : Int) := by
  unfold stopsAt putStops
  simp only [Int.toNat_natCast]
  by_cases h : k = a
  · subst h; simp [ha]
  · rw [if_neg h]; simp [List.getElem?_set_ne (Ne.symm h)]
theorem sat_put {bs : List BikeV} {a k : Nat} (l : List Int) : satAt (putStops bs (a : Int) l) (k : Int) = satAt bs (k : Int) := by
  unfold satAt putStops
  simp only [Int.toNat_natCast]
  by_cases h : k = a
  · subst h
    by_cases ha : k < bs.length
    · simp [satAt, ha]
    · rw [List.set_eq_of_length_le (by omega)]
  · simp [List.getElem?_set_ne (Ne.symm h)]
theorem bikes_ext {bs cs : List BikeV} (hl : bs.length = cs.length) (h1 : ∀ k : Nat, satAt bs (k : Int) = satAt cs (k : Int)) (h2 : ∀ k : Nat, stopsAt bs (k : Int) = stopsAt cs (k : Int)) : bs = cs := by
  apply List.ext_getElem hl
  intro i hi hj
  have e1 := h1 i
  have e2 := h2 i
  rw [satAt_lt hi, satAt_lt hj] at e1
  rw [stopsAt_lt hi, stopsAt_lt hj] at e2
  cases hb : bs[i]; cases hc : cs[i]
  rw [hb, hc] at e1 e2
  simp only at e1 e2
  rw [e1, e2]
def AllLong (bs : List BikeV) : Prop := ∀ k : Nat, k < bs.length → 0 < (stopsAt bs (k : Int)).length
theorem allLong_keep {bs : List BikeV} (h : AllLong bs) : bs.filter keepB = bs := by
  rw [List.filter_eq_self]
  intro b hb
  obtain ⟨i, hi, rfl⟩ := List.getElem_of_mem hb
  have := h i hi
  rw [stopsAt_lt hi] at this
  unfold keepB
  exact decide_eq_true this
theorem keep_allLong (bs : List BikeV) : AllLong (bs.filter keepB) := by
  intro k hk
  rw [stopsAt_lt hk]
  have := List.getElem_mem hk
  rw [List.mem_filter] at this
  unfold keepB at this
  exact of_decide_eq_true this.2
theorem atB_nat {bs : List BikeV} {a i : Int} (h : atB bs a i = true) : ∃ k j : Nat, a = k ∧ i = j ∧ k < bs.length ∧ j < (stopsAt bs (k : Int)).length := by
  unfold atB at h
  simp only [Bool.and_eq_true, decide_eq_true_eq] at h
  obtain ⟨⟨h1, h2⟩, h3, h4⟩ := h
  refine ⟨a.toNat, i.toNat, by omega, by omega, by omega, ?_⟩
  rw [show ((a.toNat : Nat) : Int) = a by omega]
  omega
theorem atB_mk {bs : List BikeV} {k j : Nat} (h1 : k < bs.length) (h2 : j < (stopsAt bs (k : Int)).length) : atB bs (k : Int) (j : Int) = true := by
  unfold atB
  simp only [Bool.and_eq_true, decide_eq_true_eq]
  omega
theorem set_back (l : List Int) {i j : Nat} (hi : i < l.length) (hj : j < l.length) : ((((l.set i (l.getD j 0)).set j (l.getD i 0)).set i (((l.set i (l.getD j 0)).set j (l.getD i 0)).getD j 0)).set j (((l.set i (l.getD j 0)).set j (l.getD i 0)).getD i 0)) = l := by
  by_cases hij : i = j
  · subst hij
    apply List.ext_getElem?
    intro y
    by_cases e : i = y
    · subst e; simp [List.getElem?_set, List.getD_eq_getElem?_getD, hi]
    · simp [List.getElem?_set, e]
  · apply List.ext_getElem?
    intro y
    by_cases e1 : j = y
    · subst e1; simp [List.getElem?_set, List.getD_eq_getElem?_getD, hi, hj, Ne.symm hij]
    · by_cases e2 : i = y
      · subst e2; simp [List.getElem?_set, List.getD_eq_getElem?_getD, hi, hj, e1]
      · simp [List.getElem?_set, e1, e2]
/-- Two stops that change places, twice. -/
theorem swap_back {bs r : List BikeV} {kd a i b j : Int} (h : swapM bs ⟨kd, a, i, b, j⟩ = some r) : swapM r ⟨kd, a, i, b, j⟩ = some bs ∧ r.length = bs.length ∧ ∀ k : Nat, (stopsAt r (k : Int)).length = (stopsAt bs (k : Int)).length := by
  unfold swapM at h
  split at h
  · cases h
  rename_i h0
  simp only [Bool.not_eq_false, Bool.and_eq_true] at h0
  obtain ⟨k, i, rfl, rfl, hk, hi⟩ := atB_nat h0.1
  obtain ⟨m, j, rfl, rfl, hm, hj⟩ := atB_nat h0.2
  simp only [Int.toNat_natCast, Option.some.injEq] at h
  have hs1 : ∀ x : Nat, stopsAt (swap1 bs ⟨kd, k, i, m, j⟩) (x : Int) = if x = k then (stopsAt bs (k : Int)).set i ((stopsAt bs (m : Int)).getD j 0) else stopsAt bs (x : Int) := fun x => by
    unfold swap1; simp only [Int.toNat_natCast]; exact stops_put _ hk
  have hl1 : (swap1 bs ⟨kd, k, i, m, j⟩).length = bs.length := by unfold swap1; exact putStops_len _ _ _
  have hr : ∀ x : Nat, stopsAt r (x : Int) = if x = m then (stopsAt (swap1 bs ⟨kd, k, i, m, j⟩) (m : Int)).set j ((stopsAt bs (k : Int)).getD i 0) else stopsAt (swap1 bs ⟨kd, k, i, m, j⟩) (x : Int) := fun x => by
    rw [← h]; exact stops_put _ (by omega)
  have hrl : r.length = bs.length := by rw [← h, putStops_len, hl1]
  have hrs : ∀ x : Nat, satAt r (x : Int) = satAt bs (x : Int) := fun x => by
    rw [← h, sat_put]; unfold swap1; simp only [Int.toNat_natCast]; exact sat_put _
  have hlen : ∀ x : Nat, (stopsAt r (x : Int)).length = (stopsAt bs (x : Int)).length := fun x => by
    rw [hr]
    split
    · rename_i e; subst e; rw [List.length_set, hs1]; split
      · rename_i e; subst e; rw [List.length_set]
      · rfl
    · rw [hs1]; split
      · rename_i e; subst e; rw [List.length_set]
      · rfl
  refine ⟨?_, hrl, hlen⟩
  have g1 : atB r (k : Int) (i : Int) = true := atB_mk (by omega) (by rw [hlen]; exact hi)
  have g2 : atB r (m : Int) (j : Int) = true := atB_mk (by omega) (by rw [hlen]; exact hj)
  unfold swapM
  rw [if_neg (by simp [g1, g2])]
  congr 1
  simp only [Int.toNat_natCast]
  have hs3 : ∀ x : Nat, stopsAt (swap1 r ⟨kd, k, i, m, j⟩) (x : Int) = if x = k then (stopsAt r (k : Int)).set i ((stopsAt r (m : Int)).getD j 0) else stopsAt r (x : Int) := fun x => by
    unfold swap1; simp only [Int.toNat_natCast]; exact stops_put _ (by omega)
  have hl3 : (swap1 r ⟨kd, k, i, m, j⟩).length = r.length := by unfold swap1; exact putStops_len _ _ _
  apply bikes_ext
  · rw [putStops_len, hl3, hrl]
  · intro x; rw [sat_put]; unfold swap1; simp only [Int.toNat_natCast]; rw [sat_put]; exact hrs x
  · intro x
    rw [stops_put _ (by omega)]
    simp only [hs3, hr, hs1]
    by_cases hkm : k = m
    · subst hkm
      by_cases hx : x = k
      · subst hx
        simp only [if_true]
        exact set_back _ hi hj
      · simp only [if_neg hx]
    · simp only [if_neg hkm, if_neg (Ne.symm hkm), if_true]
      by_cases hx : x = m
      · subst hx
        simp only [if_true, if_neg (Ne.symm hkm)]
        apply List.ext_getElem?
        intro y
        simp only [List.getElem?_set, List.length_set, List.getD_eq_getElem?_getD]
        by_cases e1 : j = y <;> simp_all
      · simp only [if_neg hx]
        by_cases hx2 : x = k
        · subst hx2
          simp only [if_true]
          apply List.ext_getElem?
          intro y
          simp only [List.getElem?_set, List.length_set, List.getD_eq_getElem?_getD]
          by_cases e1 : i = y <;> simp_all
        · simp only [if_neg hx2]
/-- Some stops that are turned, twice. -/
theorem turn_back {bs r : List BikeV} {kd a i b j : Int} (h : turnM bs ⟨kd, a, i, b, j⟩ = some r) : turnM r ⟨kd, a, i, b, j⟩ = some bs ∧ r.length = bs.length ∧ ∀ k : Nat, (stopsAt r (k : Int)).length = (stopsAt bs (k : Int)).length := by
  unfold turnM at h
  split at h
  · cases h
  rename_i h0
  simp only [Bool.not_eq_false, Bool.and_eq_true, decide_eq_true_eq] at h0
  obtain ⟨⟨⟨h1, h2⟩, h3⟩, h4⟩ := h0
  subst h2
  obtain ⟨k, i, rfl, rfl, hk, hi⟩ := atB_nat h1
  obtain ⟨k', j, e, rfl, hk', hj⟩ := atB_nat h3
  obtain rfl : k = k' := by omega
  have hij : i ≤ j := by omega
  simp only [Int.toNat_natCast, Option.some.injEq, List.append_assoc] at h
  generalize hl : (stopsAt bs (k : Int)) = l at *
  have hrk : ∀ x : Nat, stopsAt r (x : Int) = if x = k then l.take i ++ (((l.drop i).take (j + 1 - i)).reverse ++ l.drop (j + 1)) else stopsAt bs (x : Int) := fun x => by
    rw [← h]; exact stops_put _ hk
  have hrl : r.length = bs.length := by rw [← h, putStops_len]
  have hrs : ∀ x : Nat, satAt r (x : Int) = satAt bs (x : Int) := fun x => by rw [← h, sat_put]
  have hlen : ∀ x : Nat, (stopsAt r (x : Int)).length = (stopsAt bs (x : Int)).length := fun x => by
    rw [hrk]
    split
    · rename_i e; subst e
      simp only [List.length_append, List.length_take, List.length_reverse, List.length_drop, hl]
      omega
    · rfl
  refine ⟨?_, hrl, hlen⟩
  have g1 : atB r (k : Int) (i : Int) = true := atB_mk (by omega) (by rw [hlen, hl]; exact hi)
  have g2 : atB r (k : Int) (j : Int) = true := atB_mk (by omega) (by rw [hlen, hl]; exact hj)
  unfold turnM
  rw [if_neg (by simp [g1, g2, h4])]
  congr 1
  simp only [Int.toNat_natCast]
  apply bikes_ext
  · rw [putStops_len, hrl]
  · intro x; rw [sat_put]; exact hrs x
  · intro x
    rw [stops_put _ (by omega)]
    by_cases hx : x = k
    · subst hx
      rw [if_pos rfl, hrk, if_pos rfl, List.append_assoc]
      have e1 : (l.take i ++ (((l.drop i).take (j + 1 - i)).reverse ++ l.drop (j + 1))).take i = l.take i := by
        rw [List.take_append, List.take_take]
        simp only [List.length_take]
        rw [show i - min i l.length = 0 by omega]; simp
      have e2 : (l.take i ++ (((l.drop i).take (j + 1 - i)).reverse ++ l.drop (j + 1))).drop i = ((l.drop i).take (j + 1 - i)).reverse ++ l.drop (j + 1) := by
        rw [List.drop_append, List.drop_take]
        simp only [List.length_take]
        rw [show i - min i l.length = 0 by omega]; simp
      have e3 : (l.take i ++ (((l.drop i).take (j + 1 - i)).reverse ++ l.drop (j + 1))).drop (j + 1) = l.drop (j + 1) := by
        rw [show j + 1 = i + (j + 1 - i) by omega, ← List.drop_drop, show i + (j + 1 - i) = j + 1 by omega, e2]
        rw [List.drop_append]
        simp only [List.length_reverse, List.length_take, List.length_drop]
        rw [show min (j + 1 - i) (l.length - i) = j + 1 - i by omega, Nat.sub_self, List.drop_zero, List.drop_eq_nil_of_le (by simp; omega), List.nil_append]
      have e4 : ((((l.drop i).take (j + 1 - i)).reverse ++ l.drop (j + 1)).take (j + 1 - i)).reverse = (l.drop i).take (j + 1 - i) := by
        rw [List.take_append]
        simp only [List.length_reverse, List.length_take, List.length_drop]
        rw [show min (j + 1 - i) (l.length - i) = j + 1 - i by omega, Nat.sub_self, List.take_zero, List.append_nil, List.take_of_length_le (by simp; omega), List.reverse_reverse]
      rw [e1, e2, e3, e4]
      have e5 : l.drop (j + 1) = (l.drop i).drop (j + 1 - i) := by rw [List.drop_drop, show i + (j + 1 - i) = j + 1 by omega]
      rw [e5, List.take_append_drop, List.take_append_drop, hl]
    · rw [if_neg hx, hrk, if_neg hx]
theorem allStops_len_eq : ∀ {bs cs : List BikeV}, bs.length = cs.length → (∀ k : Nat, (stopsAt bs (k : Int)).length = (stopsAt cs (k : Int)).length) → (allStops bs).length = (allStops cs).length
  | [], [], _, _ => rfl
  | b :: bs, c :: cs, hl, h => by
    have e : ∀ (b : BikeV) (bs : List BikeV), allStops (b :: bs) = b.stops ++ allStops bs := fun _ _ => rfl
    have h0 := h 0
    have ih := allStops_len_eq (bs := bs) (cs := cs) (by simpa using hl) (fun k => by have := h (k + 1); unfold stopsAt at this ⊢; simpa using this)
    unfold stopsAt at h0
    simp only [e, List.length_append]
    simp at h0
    omega
theorem allStops_filter (f : BikeV → Bool) : ∀ bs : List BikeV, (allStops (bs.filter f)).length ≤ (allStops bs).length
  | [] => Nat.le_refl _
  | b :: bs => by
    have e : ∀ (b : BikeV) (bs : List BikeV), allStops (b :: bs) = b.stops ++ allStops bs := fun _ _ => rfl
    have ih := allStops_filter f bs
    rw [List.filter_cons]
    split
    · simp only [e, List.length_append]; omega
    · simp only [e, List.length_append]; omega
theorem apply_back {sats : Int} {bs r : List BikeV} {m : MoveV} (hL : AllLong bs) (hk : m.kind = 1 ∨ m.kind = 2) (h : applyM sats bs m = some r) : applyM sats r m = some bs ∧ r.length = bs.length ∧ (allStops r).length = (allStops bs).length := by
  obtain ⟨kd, a, i, b, j⟩ := m
  simp only at hk
  unfold applyM at h ⊢
  have key : ∀ (f : List BikeV → MoveV → Option (List BikeV)), (∀ bs, rawM sats bs ⟨kd, a, i, b, j⟩ = f bs ⟨kd, a, i, b, j⟩) → (∀ r, f bs ⟨kd, a, i, b, j⟩ = some r → f r ⟨kd, a, i, b, j⟩ = some bs ∧ r.length = bs.length ∧ ∀ k : Nat, (stopsAt r (k : Int)).length = (stopsAt bs (k : Int)).length) → (rawM sats r ⟨kd, a, i, b, j⟩).map (·.filter keepB) = some bs ∧ r.length = bs.length ∧ (allStops r).length = (allStops bs).length := fun f h1 h2 => by
    rw [h1] at h ⊢
    cases hr : f bs ⟨kd, a, i, b, j⟩ with
    | none => rw [hr] at h; cases h
    | some r0 =>
      rw [hr] at h
      simp only [Option.map_some, Option.some.injEq] at h
      obtain ⟨g1, g2, g3⟩ := h2 r0 hr
      have hL0 : AllLong r0 := fun k hk => by rw [g3]; exact hL k (by omega)
      rw [allLong_keep hL0] at h
      subst h
      rw [g1]
      simp only [Option.map_some]
      rw [allLong_keep hL]
      exact ⟨rfl, g2, allStops_len_eq g2 g3⟩
  rcases hk with rfl | rfl
  · exact key swapM (fun bs => by unfold rawM; simp) (fun r hr => swap_back hr)
  · exact key turnM (fun bs => by unfold rawM; simp) (fun r hr => turn_back hr)
end Go.Proofs.Ytpbhbmdghafkmaa
