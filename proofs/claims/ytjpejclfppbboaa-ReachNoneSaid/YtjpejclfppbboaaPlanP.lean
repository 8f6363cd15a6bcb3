/- What plan.Check tells, as plain functions: may the stops be, do they have room, what is carried, what is left. Sets of numbers, as lists. -/
import Derived.Test.YtjpejclfppbboaaNest
import Derived.Test.YtjpejclfppbboaaBitsW
namespace Go.Proofs.Ytjpejclfppbboaa
open Go.ChangeShapes Go.WideShapes Go.ChangeAt Go.RowKit
set_option linter.unusedVariables false
/-! sets -/
def seenL (l : List Int) : Nat := l.foldl setWith 0
theorem seenL_snoc (l : List Int) (n : Int) : seenL (l ++ [n]) = setWith (seenL l) n := by unfold seenL; rw [List.foldl_append]; rfl
theorem seenL_lt (l : List Int) : seenL l < 2 ^ 64 := by
  unfold seenL
  have : ∀ (l : List Int) (x : Nat), x < 2 ^ 64 → l.foldl setWith x < 2 ^ 64 := by
    intro l
    induction l with
    | nil => intro x h; exact h
    | cons a r ih => intro x h; exact ih _ (setWith_lt x a h)
  exact this l 0 (by omega)
theorem setWith_bit (x : Nat) (n : Int) (i : Nat) (hi : i < 64) : bitv (setWith x n) i = (bitv x i || decide (n = (i : Int))) := by
  unfold setWith bitv
  split
  · rename_i h
    rw [Nat.testBit_or, Nat.testBit_two_pow]
    congr 1
    rw [Bool.eq_iff_iff]
    simp
    omega
  · rename_i h
    have : decide (n = (i : Int)) = false := by simp; omega
    rw [this, Bool.or_false]
theorem seen_bit (l : List Int) (i : Nat) (hi : i < 64) : bitv (seenL l) i = l.contains (i : Int) := by
  have : ∀ (l : List Int) (x : Nat), bitv (l.foldl setWith x) i = (bitv x i || l.contains (i : Int)) := by
    intro l
    induction l with
    | nil => intro x; simp
    | cons a r ih =>
      intro x
      rw [List.foldl_cons, ih, setWith_bit x a i hi, List.contains_cons, Bool.or_assoc]
      congr 2
      rw [Bool.eq_iff_iff]
      simp
      exact eq_comm
  have := this l 0
  rw [show bitv 0 i = false by simp [bitv], Bool.false_or] at this
  exact this
theorem has_seen {l : List Int} {n : Int} (h : 0 ≤ n ∧ n < 64) : (decide (0 ≤ n ∧ n < 64) && bitv (seenL l) n.toNat) = l.contains n := by
  rw [decide_eq_true h, Bool.true_and, seen_bit l n.toNat (by omega)]
  congr 1
  omega
/-! trucks -/
def noStop : StopV := ⟨0, 0⟩
def stopB (ns : Nat) (prev : List StopV) (s : StopV) : Bool := decide (0 ≤ s.sat ∧ s.sat < ns) && !((prev.map (·.sat)).contains s.sat) && decide (1 ≤ s.load ∧ s.load ≤ 1000000000)
def goodK (ns : Nat) (t : List StopV) (k : Nat) : Bool := (List.range k).all fun j => stopB ns (t.take j) (t.getD j noStop)
def goodT (ns : Nat) (t : List StopV) : Bool := goodK ns t t.length
def truckB (ns : Nat) (t : List StopV) : Bool := goodT ns t && decide (0 < t.length)
def sumL (t : List StopV) : Int := (t.map (·.load)).sum
def routeT (ns : Nat) (ts : List (List StopV)) : Bool := ts.all (truckB ns)
def loadT (room : Int) (ts : List (List StopV)) : Bool := ts.all fun t => decide (sumL t ≤ room)
theorem goodK_succ {ns : Nat} {t : List StopV} {k : Nat} (h : k < t.length) : goodK ns t (k + 1) = (goodK ns t k && stopB ns (t.take k) t[k]) := by
  unfold goodK
  rw [all_range]
  simp [h]
theorem goodK_no {ns : Nat} {t : List StopV} {k : Nat} (h : k < t.length) (hb : stopB ns (t.take k) t[k] = false) : goodT ns t = false := by
  unfold goodT goodK
  cases hc : (List.range t.length).all fun j => stopB ns (t.take j) (t.getD j noStop)
  · rfl
  · have := List.all_eq_true.1 hc k (by simpa using h)
    simp [h] at this
    rw [this] at hb; cases hb
theorem routeT_no {ns : Nat} {ts : List (List StopV)} {t : List StopV} (h : t ∈ ts) (hb : goodT ns t = false) : routeT ns ts = false := by
  unfold routeT
  cases hc : ts.all (truckB ns)
  · rfl
  · have := List.all_eq_true.1 hc t h
    unfold truckB at this
    rw [hb] at this; cases this
theorem sumL_succ {t : List StopV} {k : Nat} (h : k < t.length) : sumL (t.take (k + 1)) = sumL (t.take k) + t[k].load := by
  unfold sumL
  rw [List.take_succ_eq_append_getElem h, List.map_append, List.sum_append]
  simp only [List.map_cons, List.map_nil, List.sum_cons, List.sum_nil]
  omega
theorem sumL_bound {ns : Nat} {t : List StopV} {k : Nat} (hk : k ≤ t.length) (h : goodK ns t k = true) : 0 ≤ sumL (t.take k) ∧ sumL (t.take k) ≤ 1000000000 * k := by
  induction k with
  | zero => simp [sumL]
  | succ k ih =>
    rw [goodK_succ (by omega), Bool.and_eq_true] at h
    obtain ⟨h1, h2⟩ := ih (by omega) h.1
    rw [sumL_succ (by omega)]
    have := h.2
    unfold stopB at this
    simp only [Bool.and_eq_true, decide_eq_true_eq] at this
    omega
/-! bikes -/
def custOk (nc : Nat) (prev : List Int) (c : Int) : Bool := decide (0 ≤ c ∧ c < nc) && !(prev.contains c)
def bikeK (nc : Nat) (prev : List Int) (l : List Int) (k : Nat) : Bool := (List.range k).all fun j => custOk nc (prev ++ l.take j) (l.getD j 0)
def bikeHB (ns : Nat) (b : BikeV) : Bool := decide (0 ≤ b.sat ∧ b.sat < ns) && decide (0 < b.stops.length)
def bikeB (ns nc : Nat) (prev : List Int) (b : BikeV) : Bool := bikeHB ns b && bikeK nc prev b.stops b.stops.length
def allStops (bs : List BikeV) : List Int := bs.flatMap (·.stops)
def bikesK (ns nc : Nat) (bs : List BikeV) (k : Nat) : Bool := (List.range k).all fun i => bikeB ns nc (allStops (bs.take i)) (bs.getD i noBike)
def routeB (ns nc : Nat) (bs : List BikeV) : Bool := bikesK ns nc bs bs.length
def allB (nc : Nat) (bs : List BikeV) : Bool := (List.range nc).all fun (c : Nat) => (allStops bs).contains (c : Int)
def noCust : CustV := ⟨0, 0, 0, 0⟩
def custLoad (cs : List CustV) (c : Int) : Int := (cs.getD c.toNat noCust).load
def sumC (cs : List CustV) (l : List Int) : Int := (l.map (custLoad cs)).sum
def loadB (cs : List CustV) (room : Int) (bs : List BikeV) : Bool := bs.all fun b => decide (sumC cs b.stops ≤ room)
theorem bikeK_succ {nc : Nat} {prev l : List Int} {k : Nat} (h : k < l.length) : bikeK nc prev l (k + 1) = (bikeK nc prev l k && custOk nc (prev ++ l.take k) l[k]) := by
  unfold bikeK
  rw [all_range]
  simp [h]
theorem bikeK_no {nc : Nat} {prev l : List Int} {k : Nat} (h : k < l.length) (hb : custOk nc (prev ++ l.take k) l[k] = false) : bikeK nc prev l l.length = false := by
  unfold bikeK
  cases hc : (List.range l.length).all fun j => custOk nc (prev ++ l.take j) (l.getD j 0)
  · rfl
  · have := List.all_eq_true.1 hc k (by simpa using h)
    simp only [List.getD_eq_getElem?_getD, List.getElem?_eq_getElem h, Option.getD_some] at this
    rw [this] at hb; cases hb
theorem bikesK_succ {ns nc : Nat} {bs : List BikeV} {k : Nat} (h : k < bs.length) : bikesK ns nc bs (k + 1) = (bikesK ns nc bs k && bikeB ns nc (allStops (bs.take k)) bs[k]) := by
  unfold bikesK
  rw [all_range]
  simp [h]
theorem bikesK_no {ns nc : Nat} {bs : List BikeV} {k : Nat} (h : k < bs.length) (hb : bikeB ns nc (allStops (bs.take k)) bs[k] = false) : routeB ns nc bs = false := by
  unfold routeB bikesK
  cases hc : (List.range bs.length).all fun i => bikeB ns nc (allStops (bs.take i)) (bs.getD i noBike)
  · rfl
  · have := List.all_eq_true.1 hc k (by simpa using h)
    simp only [List.getD_eq_getElem?_getD, List.getElem?_eq_getElem h, Option.getD_some] at this
    rw [this] at hb; cases hb
theorem allStops_succ {bs : List BikeV} {k : Nat} (h : k < bs.length) : allStops (bs.take (k + 1)) = allStops (bs.take k) ++ bs[k].stops := by
  unfold allStops
  rw [List.take_succ_eq_append_getElem h, List.flatMap_append, List.flatMap_singleton]
theorem sumC_succ {cs : List CustV} {l : List Int} {k : Nat} (h : k < l.length) : sumC cs (l.take (k + 1)) = sumC cs (l.take k) + custLoad cs l[k] := by
  unfold sumC
  rw [List.take_succ_eq_append_getElem h, List.map_append, List.sum_append]
  simp only [List.map_cons, List.map_nil, List.sum_cons, List.sum_nil]
  omega
theorem custLoad_bound {cs : List CustV} (h : ∀ c ∈ cs, 1 ≤ c.load ∧ c.load ≤ 20) (c : Int) : 0 ≤ custLoad cs c ∧ custLoad cs c ≤ 20 := by
  unfold custLoad
  rw [List.getD_eq_getElem?_getD]
  cases hc : cs[c.toNat]? with
  | none => simp [noCust]
  | some x => have := h x (List.mem_of_getElem? hc); simp; omega
theorem sumC_bound {cs : List CustV} (h : ∀ c ∈ cs, 1 ≤ c.load ∧ c.load ≤ 20) (l : List Int) : 0 ≤ sumC cs l ∧ sumC cs l ≤ 20 * l.length := by
  induction l with
  | nil => simp [sumC]
  | cons a r ih =>
    have := custLoad_bound h a
    unfold sumC at ih ⊢
    simp only [List.map_cons, List.sum_cons, List.length_cons]
    omega
theorem routeB_in {ns nc : Nat} {bs : List BikeV} (h : routeB ns nc bs = true) : ∀ c ∈ allStops bs, 0 ≤ c ∧ c < nc := by
  intro c hc
  unfold allStops at hc
  obtain ⟨b, hb, hcb⟩ := List.mem_flatMap.1 hc
  obtain ⟨k, hk, rfl⟩ := List.getElem_of_mem hb
  unfold routeB bikesK at h
  have h1 := List.all_eq_true.1 h k (by simpa using hk)
  simp only [List.getD_eq_getElem?_getD, List.getElem?_eq_getElem hk, Option.getD_some] at h1
  unfold bikeB at h1
  rw [Bool.and_eq_true] at h1
  obtain ⟨j, hj, rfl⟩ := List.getElem_of_mem hcb
  unfold bikeK at h1
  have h2 := List.all_eq_true.1 h1.2 j (by simpa using hj)
  simp only [List.getD_eq_getElem?_getD, List.getElem?_eq_getElem hj, Option.getD_some] at h2
  unfold custOk at h2
  simp only [Bool.and_eq_true, decide_eq_true_eq] at h2
  exact h2.1
/-- All customers are there: the set has as many numbers. -/
theorem ones_all {nc : Nat} {l : List Int} (hn : nc ≤ 64) (h : ∀ c ∈ l, 0 ≤ c ∧ c < nc) : ((ones (seenL l) 64 : Nat) = nc) ↔ (List.range nc).all (fun (c : Nat) => l.contains (c : Int)) = true := by
  have h1 : ones (seenL l) 64 = (List.range nc).countP (fun i => (seenL l).testBit i) := by
    have : ∀ m, nc + m ≤ 64 → ones (seenL l) (nc + m) = (List.range nc).countP (fun i => (seenL l).testBit i) := by
      intro m
      induction m with
      | zero => intro _; rfl
      | succ m ih =>
        intro hm
        rw [← Nat.add_assoc, ones_succ, ih (by omega)]
        have hb : (seenL l).testBit (nc + m) = false := by
          have := seen_bit l (nc + m) (by omega)
          unfold bitv at this
          rw [this]
          cases hc : l.contains ((nc + m : Nat) : Int)
          · rfl
          · have := h _ (by simpa using hc)
            omega
        rw [hb]; simp
    have := this (64 - nc) (by omega)
    rwa [show nc + (64 - nc) = 64 by omega] at this
  rw [h1]
  constructor
  · intro he
    rw [List.all_eq_true]
    intro c hc
    have hcn : c < nc := by simpa using hc
    have h2 : (List.range nc).countP (fun i => (seenL l).testBit i) = (List.range nc).length := by rw [he]; simp
    have := List.countP_eq_length.1 h2 c hc
    have h3 := seen_bit l c (by omega)
    unfold bitv at h3
    rw [← h3]; exact this
  · intro he
    have h2 : (List.range nc).countP (fun i => (seenL l).testBit i) = (List.range nc).length := List.countP_eq_length.2 fun c hc => by
      have hcn : c < nc := by simpa using hc
      have h3 := seen_bit l c (by omega)
      unfold bitv at h3
      rw [h3]
      exact List.all_eq_true.1 he c hc
    rw [h2]; simp
/-! what is carried, what is left -/
def addAt (f : Nat → Int) (s : Nat) (n : Int) : Nat → Int := fun j => if j = s then f s + n else f j
def loadStep (ns : Nat) (cs : List CustV) (f : Nat → Int) (q : Int × Int) : Nat → Int := if (0 ≤ q.1 ∧ q.1 < ns) ∧ 0 ≤ q.2 ∧ q.2 < cs.length then addAt f q.1.toNat (custLoad cs q.2) else f
def loadsP (ns : Nat) (cs : List CustV) (l : List (Int × Int)) : Nat → Int := l.foldl (loadStep ns cs) fun _ => 0
def pairsB (b : BikeV) (k : Nat) : List (Int × Int) := (b.stops.take k).map fun c => (b.sat, c)
def pairsOf (bs : List BikeV) : List (Int × Int) := bs.flatMap fun b => pairsB b b.stops.length
def loadsOf (x : InstV) (bs : List BikeV) : Nat → Int := loadsP x.sats.length x.custs (pairsOf bs)
theorem loadsP_snoc (ns : Nat) (cs : List CustV) (l : List (Int × Int)) (q : Int × Int) : loadsP ns cs (l ++ [q]) = loadStep ns cs (loadsP ns cs l) q := by unfold loadsP; rw [List.foldl_append]; rfl
theorem pairsB_succ {b : BikeV} {k : Nat} (h : k < b.stops.length) : pairsB b (k + 1) = pairsB b k ++ [(b.sat, b.stops[k])] := by
  unfold pairsB
  rw [List.take_succ_eq_append_getElem h, List.map_append]
  rfl
theorem pairsOf_succ {bs : List BikeV} {k : Nat} (h : k < bs.length) : pairsOf (bs.take (k + 1)) = pairsOf (bs.take k) ++ pairsB bs[k] bs[k].stops.length := by
  unfold pairsOf
  rw [List.take_succ_eq_append_getElem h, List.flatMap_append, List.flatMap_singleton]
theorem loadsP_bound {ns : Nat} {cs : List CustV} (h : ∀ c ∈ cs, 1 ≤ c.load ∧ c.load ≤ 20) (l : List (Int × Int)) (j : Nat) : 0 ≤ loadsP ns cs l j ∧ loadsP ns cs l j ≤ 20 * l.length := by
  have : ∀ (r : List (Int × Int)), 0 ≤ loadsP ns cs r j ∧ loadsP ns cs r j ≤ 20 * r.length := by
    intro r
    induction hr : r.length generalizing r with
    | zero =>
      have : r = [] := List.eq_nil_of_length_eq_zero hr
      subst this; simp [loadsP]
    | succ n ih =>
      rcases List.eq_nil_or_concat r with e | ⟨r', q, e⟩
      · subst e; simp at hr
      · have e : r = r' ++ [q] := by rw [e]; simp
        subst e
        have hl : r'.length = n := by simpa using hr
        have hb := ih r' hl
        rw [loadsP_snoc]
        have hc := custLoad_bound h q.2
        unfold loadStep
        split
        · unfold addAt
          split
          · rename_i e; rw [← e]; omega
          · omega
        · omega
  exact this l
/-- How many stops, in all. -/
theorem pairsOf_len (bs : List BikeV) : (pairsOf bs).length = (allStops bs).length := by
  unfold pairsOf allStops
  induction bs with
  | nil => rfl
  | cons b r ih => rw [List.flatMap_cons, List.flatMap_cons, List.length_append, List.length_append, ih]; simp [pairsB]
theorem allStops_take (bs : List BikeV) (k : Nat) : (allStops (bs.take k)).length ≤ (allStops bs).length := by
  have : bs.take k ++ bs.drop k = bs := List.take_append_drop k bs
  have h : allStops bs = allStops (bs.take k) ++ allStops (bs.drop k) := by
    unfold allStops
    rw [← List.flatMap_append, this]
  rw [h, List.length_append]; omega
theorem stops_le {bs : List BikeV} {k : Nat} (h : k < bs.length) : (allStops (bs.take k)).length + bs[k].stops.length ≤ (allStops bs).length := by
  have := allStops_take bs (k + 1)
  rw [allStops_succ h, List.length_append] at this
  exact this
def dropStep (f : Nat → Int) (s : StopV) : Nat → Int := addAt f s.sat.toNat s.load
def dropsP (l : List StopV) : Nat → Int := l.foldl dropStep fun _ => 0
def dropsOf (ts : List (List StopV)) : Nat → Int := dropsP ts.flatten
theorem dropsP_snoc (l : List StopV) (s : StopV) : dropsP (l ++ [s]) = dropStep (dropsP l) s := by unfold dropsP; rw [List.foldl_append]; rfl
theorem dropsP_bound {l : List StopV} (h : ∀ s ∈ l, 0 ≤ s.load ∧ s.load ≤ 1000000000) (j : Nat) : 0 ≤ dropsP l j ∧ dropsP l j ≤ 1000000000 * l.length := by
  have : ∀ (r : List StopV), (∀ s ∈ r, 0 ≤ s.load ∧ s.load ≤ 1000000000) → 0 ≤ dropsP r j ∧ dropsP r j ≤ 1000000000 * r.length := by
    intro r
    induction hr : r.length generalizing r with
    | zero =>
      intro _
      have : r = [] := List.eq_nil_of_length_eq_zero hr
      subst this; simp [dropsP]
    | succ n ih =>
      intro hall
      rcases List.eq_nil_or_concat r with e | ⟨r', q, e⟩
      · subst e; simp at hr
      · have e : r = r' ++ [q] := by rw [e]; simp
        subst e
        have hl : r'.length = n := by simpa using hr
        have hb := ih r' hl (fun s hs => hall s (by simp [hs]))
        rw [dropsP_snoc]
        have hc := hall q (by simp)
        unfold dropStep addAt
        split
        · rename_i e; rw [← e]; omega
        · omega
  exact this l h
theorem goodT_in {ns : Nat} {t : List StopV} (h : goodT ns t = true) : ∀ s ∈ t, (0 ≤ s.sat ∧ s.sat < ns) ∧ 1 ≤ s.load ∧ s.load ≤ 1000000000 := by
  intro s hs
  obtain ⟨j, hj, rfl⟩ := List.getElem_of_mem hs
  unfold goodT goodK at h
  have h2 := List.all_eq_true.1 h j (by simpa using hj)
  simp only [List.getD_eq_getElem?_getD, List.getElem?_eq_getElem hj, Option.getD_some] at h2
  unfold stopB at h2
  simp only [Bool.and_eq_true, decide_eq_true_eq] at h2
  exact ⟨h2.1.1, h2.2⟩
theorem routeT_in {ns : Nat} {ts : List (List StopV)} (h : routeT ns ts = true) : ∀ t ∈ ts, ∀ s ∈ t, (0 ≤ s.sat ∧ s.sat < ns) ∧ 1 ≤ s.load ∧ s.load ≤ 1000000000 := by
  intro t ht
  unfold routeT at h
  have := List.all_eq_true.1 h t ht
  unfold truckB at this
  rw [Bool.and_eq_true] at this
  exact goodT_in this.1
theorem flatten_succ {ts : List (List StopV)} {k : Nat} (h : k < ts.length) : (ts.take (k + 1)).flatten = (ts.take k).flatten ++ ts[k] := by
  rw [List.take_succ_eq_append_getElem h, List.flatten_append, List.flatten_singleton]
theorem flatten_le {ts : List (List StopV)} {k : Nat} (h : k < ts.length) : (ts.take k).flatten.length + ts[k].length ≤ ts.flatten.length := by
  have h1 : (ts.take (k + 1)).flatten.length ≤ ts.flatten.length := by
    have : ts.flatten = (ts.take (k + 1)).flatten ++ (ts.drop (k + 1)).flatten := by rw [← List.flatten_append, List.take_append_drop]
    rw [this, List.length_append]; omega
  rw [flatten_succ h, List.length_append] at h1
  exact h1
/-! the plan's error -/
def fleetB (x : InstV) (p : PlanV) : Bool := decide ((p.trucks.length : Int) ≤ x.tm) && decide ((p.bikes.length : Int) ≤ x.bm)
def roomsB (x : InstV) (p : PlanV) : Bool := (List.range x.sats.length).all fun s => decide (loadsOf x p.bikes s ≤ (x.sats.getD s ⟨0, 0⟩).room)
def sameB (x : InstV) (p : PlanV) : Bool := (List.range x.sats.length).all fun s => decide (loadsOf x p.bikes s = dropsOf p.trucks s)
def routesB (x : InstV) (p : PlanV) : Bool := routeT x.sats.length p.trucks && routeB x.sats.length x.custs.length p.bikes
def loadsB (x : InstV) (p : PlanV) : Bool := loadT x.tr p.trucks && loadB x.custs x.br p.bikes
def planCode (x : InstV) (p : PlanV) : Int :=
  if fleetB x p = false then 11 else if routesB x p = false then 15 else if allB x.custs.length p.bikes = false then 8 else if loadsB x p = false then 10 else if roomsB x p = false then 10 else if sameB x p = false then 13 else 0
/-- Few stops. -/
structure PlanL (p : PlanV) : Prop where
  trucks : p.trucks.length ≤ 100000
  bikes : p.bikes.length ≤ 100000
  stops : p.trucks.flatten.length ≤ 100000
  custs : (allStops p.bikes).length ≤ 100000
end Go.Proofs.Ytjpejclfppbboaa
