/- What law17.Code keeps true on its way through a plan: plain invariants and their steps. -/
import Derived.Test.YtjpejclfppbboaaPlanP
namespace Go.Proofs.Ytjpejclfppbboaa
open Go.ChangeShapes Go.WideShapes Go.ChangeAt Go.RowKit
set_option linter.unusedVariables false
theorem all_ne (l : List StopV) (n : Int) : l.all (fun o => o.sat != n) = !((l.map (·.sat)).contains n) := by
  induction l with
  | nil => rfl
  | cons a r ih =>
    rw [List.all_cons, ih, List.map_cons, List.contains_cons, Bool.not_or]
    congr 1
    rw [Bool.eq_iff_iff]
    simp
    constructor <;> intro h e <;> exact h e.symm
theorem goodK_in {ns : Nat} {t : List StopV} {k : Nat} (h : goodK ns t k = true) (hk : k ≤ t.length) : ∀ s ∈ t.take k, (0 ≤ s.sat ∧ s.sat < ns) ∧ 1 ≤ s.load ∧ s.load ≤ 1000000000 := by
  intro s hs
  obtain ⟨j, hj, rfl⟩ := List.getElem_of_mem hs
  rw [List.length_take] at hj
  unfold goodK at h
  have h2 := List.all_eq_true.1 h j (by simp; omega)
  simp only [List.getD_eq_getElem?_getD, List.getElem?_eq_getElem (show j < t.length by omega), Option.getD_some] at h2
  unfold stopB at h2
  simp only [Bool.and_eq_true, decide_eq_true_eq] at h2
  rw [List.getElem_take]
  exact ⟨h2.1.1, h2.2⟩
/-! trucks -/
def TruckI (x : InstV) (ts : List (List StopV)) (k : Nat) (R L : Bool) (F : Nat → Int) : Prop :=
  (R = true → routeT x.sats.length (ts.take k) = true ∧ L = loadT x.tr (ts.take k) ∧ F = dropsP (ts.take k).flatten) ∧ (R = false → routeT x.sats.length ts = false)
theorem TruckI.start (x : InstV) (ts : List (List StopV)) : TruckI x ts 0 true true (fun _ => 0) := ⟨fun _ => ⟨rfl, rfl, rfl⟩, fun h => by cases h⟩
def StopI (x : InstV) (ts : List (List StopV)) (k : Nat) (t : List StopV) (R0 : Bool) (j : Nat) (R : Bool) (S : Int) (F : Nat → Int) : Prop :=
  (R = true → R0 = true ∧ 0 < t.length ∧ goodK x.sats.length t j = true ∧ S = sumL (t.take j) ∧ F = dropsP ((ts.take k).flatten ++ t.take j)) ∧ (R = false → routeT x.sats.length ts = false)
theorem StopI.start {x : InstV} {ts : List (List StopV)} {k : Nat} {R L : Bool} {F : Nat → Int} {t : List StopV} (h : TruckI x ts k R L F) (hm : t ∈ ts) : StopI x ts k t R 0 (R && decide (0 < t.length)) 0 F := by
  constructor
  · intro hr
    rw [Bool.and_eq_true, decide_eq_true_eq] at hr
    obtain ⟨_, _, h3⟩ := h.1 hr.1
    exact ⟨hr.1, hr.2, rfl, rfl, by simpa using h3⟩
  · intro hr
    cases R
    · exact h.2 rfl
    · have hd : decide (0 < t.length) = false := by simpa using hr
      unfold routeT
      cases hc : ts.all (truckB x.sats.length)
      · rfl
      · have h2 := List.all_eq_true.1 hc _ hm
        unfold truckB at h2
        rw [hd] at h2; simp at h2
def stopGo (ns : Nat) (s : StopV) (R : Bool) : Bool := R && (decide (0 ≤ s.sat ∧ s.sat < ns) && decide (1 ≤ s.load ∧ s.load ≤ 1000000000))
theorem stopGo_eq {ns : Nat} {t : List StopV} {j : Nat} (s : StopV) : (stopGo ns s true && (t.take j).all (fun o => o.sat != s.sat)) = stopB ns (t.take j) s := by
  rw [all_ne]
  unfold stopGo stopB
  generalize decide (0 ≤ s.sat ∧ s.sat < ns) = a
  generalize decide (1 ≤ s.load ∧ s.load ≤ 1000000000) = b
  generalize ((t.take j).map (·.sat)).contains s.sat = c
  cases a <;> cases b <;> cases c <;> rfl
theorem StopI.no {x : InstV} {ts : List (List StopV)} {k j : Nat} {R0 R : Bool} {S : Int} {F : Nat → Int} {t : List StopV} (h : StopI x ts k t R0 j R S F) (hm : t ∈ ts) (hj : j < t.length) (hb : (stopGo x.sats.length t[j] R && (t.take j).all (fun o => o.sat != t[j].sat)) = false) (S' : Int) (F' : Nat → Int) : StopI x ts k t R0 (j + 1) false S' F' := by
  refine ⟨(fun h => by cases h), fun _ => ?_⟩
  cases R
  · exact h.2 rfl
  · rw [stopGo_eq] at hb
    exact routeT_no hm (goodK_no hj hb)
theorem StopI.yes {x : InstV} {ts : List (List StopV)} {k j : Nat} {R0 R : Bool} {S : Int} {F : Nat → Int} {t : List StopV} (h : StopI x ts k t R0 j R S F) (hj : j < t.length) (hb : (stopGo x.sats.length t[j] R && (t.take j).all (fun o => o.sat != t[j].sat)) = true) :
    R = true ∧ (0 ≤ t[j].sat ∧ t[j].sat < x.sats.length) ∧ (1 ≤ t[j].load ∧ t[j].load ≤ 1000000000) ∧ StopI x ts k t R0 (j + 1) true (S + t[j].load) (fun i => if i = t[j].sat.toNat then F t[j].sat.toNat + t[j].load else F i) := by
  cases R
  · simp [stopGo] at hb
  · rw [stopGo_eq] at hb
    obtain ⟨h1, h2, h3, h4, h5⟩ := h.1 rfl
    have hs := hb
    unfold stopB at hs
    simp only [Bool.and_eq_true, decide_eq_true_eq] at hs
    refine ⟨rfl, hs.1.1, hs.2, fun _ => ⟨h1, h2, ?_, ?_, ?_⟩, fun h => by cases h⟩
    · rw [goodK_succ hj, h3, hb]; rfl
    · rw [sumL_succ hj, h4]
    · rw [List.take_succ_eq_append_getElem hj, ← List.append_assoc, dropsP_snoc, ← h5]; rfl
theorem StopI.bound {x : InstV} {ts : List (List StopV)} {k j : Nat} {R0 L0 : Bool} {S : Int} {F F0 : Nat → Int} {t : List StopV} (h : StopI x ts k t R0 j true S F) (hT : TruckI x ts k R0 L0 F0) (hj : j ≤ t.length) (hl : (ts.take k).flatten.length + t.length ≤ 100000) :
    (0 ≤ S ∧ S ≤ 100000000000000) ∧ ∀ i, 0 ≤ F i ∧ F i ≤ 100000000000000 := by
  obtain ⟨h1, h2, h3, h4, h5⟩ := h.1 rfl
  obtain ⟨g1, g2, g3⟩ := hT.1 h1
  have hs := sumL_bound hj h3
  refine ⟨by rw [h4]; omega, fun i => ?_⟩
  have hd := dropsP_bound (l := (ts.take k).flatten ++ t.take j) (fun u hu => by
    rcases List.mem_append.1 hu with hu | hu
    · obtain ⟨v, hv, huv⟩ := List.mem_flatten.1 hu
      have := routeT_in g1 v hv u huv
      omega
    · have := goodK_in h3 hj u hu
      omega) i
  rw [← h5] at hd
  have hlen : ((ts.take k).flatten ++ t.take j).length ≤ 100000 := by rw [List.length_append, List.length_take]; omega
  omega
theorem TruckI.next {x : InstV} {ts : List (List StopV)} {k : Nat} {R0 R L : Bool} {S : Int} {F F0 : Nat → Int} {t : List StopV} (h : StopI x ts k t R0 t.length R S F) (hT : TruckI x ts k R0 L F0) (htk : ts.take (k + 1) = ts.take k ++ [t]) : TruckI x ts (k + 1) R (L && decide (S ≤ x.tr)) F := by
  refine ⟨fun hr => ?_, fun hr => h.2 hr⟩
  obtain ⟨h1, h2, h3, h4, h5⟩ := h.1 hr
  obtain ⟨g1, g2, g3⟩ := hT.1 h1
  rw [htk]
  rw [List.take_length] at h4 h5
  refine ⟨?_, ?_, ?_⟩
  · unfold routeT at g1 ⊢
    rw [List.all_append, g1]
    simp only [List.all_cons, List.all_nil, Bool.and_true, Bool.true_and]
    unfold truckB goodT
    rw [h3, decide_eq_true h2]; rfl
  · rw [g2, h4]
    unfold loadT
    rw [List.all_append]; simp
  · rw [h5, List.flatten_append, List.flatten_singleton]
/-! bikes -/
def servedF (l : List Int) : Nat → Int := fun c => if l.contains (c : Int) = true then 1 else 0
def BikeI (x : InstV) (q : PlanV) (k : Nat) (R L : Bool) (F G V : Nat → Int) : Prop :=
  (R = true → routeT x.sats.length q.trucks = true ∧ bikesK x.sats.length x.custs.length q.bikes k = true ∧ L = (loadT x.tr q.trucks && loadB x.custs x.br (q.bikes.take k)) ∧ F = dropsOf q.trucks ∧ G = loadsP x.sats.length x.custs (pairsOf (q.bikes.take k)) ∧ V = servedF (allStops (q.bikes.take k))) ∧ (R = false → routesB x q = false)
theorem BikeI.start {x : InstV} {q : PlanV} {R L : Bool} {F : Nat → Int} (h : TruckI x q.trucks q.trucks.length R L F) : BikeI x q 0 R L F (fun _ => 0) (fun _ => 0) := by
  refine ⟨fun hr => ?_, fun hr => ?_⟩
  · obtain ⟨h1, h2, h3⟩ := h.1 hr
    rw [List.take_length] at h1 h2 h3
    exact ⟨h1, rfl, by rw [h2]; simp [loadB], h3, rfl, rfl⟩
  · unfold routesB
    rw [h.2 hr]; rfl
def BStopI (x : InstV) (q : PlanV) (k : Nat) (b : BikeV) (R0 : Bool) (j : Nat) (R : Bool) (S : Int) (G V : Nat → Int) : Prop :=
  (R = true → R0 = true ∧ bikeHB x.sats.length b = true ∧ bikeK x.custs.length (allStops (q.bikes.take k)) b.stops j = true ∧ S = sumC x.custs (b.stops.take j) ∧ G = loadsP x.sats.length x.custs (pairsOf (q.bikes.take k) ++ pairsB b j) ∧ V = servedF (allStops (q.bikes.take k) ++ b.stops.take j)) ∧ (R = false → routesB x q = false)
theorem bike_no {x : InstV} {q : PlanV} {k : Nat} {b : BikeV} (hk : k < q.bikes.length) (hb : q.bikes[k] = b) (h : bikeB x.sats.length x.custs.length (allStops (q.bikes.take k)) b = false) : routesB x q = false := by
  subst hb
  unfold routesB
  rw [bikesK_no hk h]; simp
theorem BStopI.start {x : InstV} {q : PlanV} {k : Nat} {b : BikeV} {R L : Bool} {F G V : Nat → Int} (h : BikeI x q k R L F G V) (hk : k < q.bikes.length) (hb : q.bikes[k] = b) : BStopI x q k b R 0 (R && (decide (0 < b.stops.length) && decide (0 ≤ b.sat ∧ b.sat < x.sats.length))) 0 G V := by
  refine ⟨fun hr => ?_, fun hr => ?_⟩
  · rw [Bool.and_eq_true, Bool.and_eq_true] at hr
    obtain ⟨_, _, _, _, h5, h6⟩ := h.1 hr.1
    exact ⟨hr.1, by unfold bikeHB; rw [hr.2.1, hr.2.2]; rfl, rfl, rfl, by simpa [pairsB] using h5, by simpa using h6⟩
  · cases R
    · exact h.2 rfl
    · refine bike_no hk hb ?_
      unfold bikeB bikeHB
      rw [Bool.true_and] at hr
      rw [Bool.and_comm (decide (0 ≤ b.sat ∧ b.sat < x.sats.length)), hr]; rfl
theorem BStopI.no {x : InstV} {q : PlanV} {k j : Nat} {b : BikeV} {R0 R : Bool} {S : Int} {G V : Nat → Int} (h : BStopI x q k b R0 j R S G V) (hk : k < q.bikes.length) (hb : q.bikes[k] = b) (hj : j < b.stops.length) (hc : R = true → ¬ (0 ≤ b.stops[j] ∧ b.stops[j] < x.custs.length)) (S' : Int) (G' V' : Nat → Int) : BStopI x q k b R0 (j + 1) false S' G' V' := by
  refine ⟨(fun h => by cases h), fun _ => ?_⟩
  cases R
  · exact h.2 rfl
  · refine bike_no hk hb ?_
    unfold bikeB
    rw [bikeK_no hj (by unfold custOk; rw [decide_eq_false (hc rfl)]; rfl)]; simp
theorem served_snoc {l : List Int} {c : Nat} (h : l.contains (c : Int) = false) : (fun i => if i = c then servedF l c + 1 else servedF l i) = servedF (l ++ [(c : Int)]) := by
  funext i
  unfold servedF
  rw [h]
  by_cases e : i = c
  · subst e; simp
  · rw [if_neg e]
    have : ((l ++ [(c : Int)]).contains (i : Int)) = l.contains (i : Int) := by
      rw [List.contains_append]
      have : ([(c : Int)].contains (i : Int)) = false := by simp; omega
      rw [this, Bool.or_false]
    rw [this]
theorem BStopI.yes {x : InstV} {q : PlanV} {k j : Nat} {b : BikeV} {R0 : Bool} {S : Int} {G V : Nat → Int} (h : BStopI x q k b R0 j true S G V) (hk : k < q.bikes.length) (hb : q.bikes[k] = b) (hj : j < b.stops.length) (c sq : Nat) (hc : b.stops[j] = c) (hcn : c < x.custs.length) (hsq : b.sat = sq) :
    BStopI x q k b R0 (j + 1) (decide (V c + 1 = 1)) (S + x.custs[c].load) (fun i => if i = sq then G sq + x.custs[c].load else G i) (fun i => if i = c then V c + 1 else V i) := by
  obtain ⟨h1, h2, h3, h4, h5, h6⟩ := h.1 rfl
  have hs : sq < x.sats.length := by
    unfold bikeHB at h2
    simp only [Bool.and_eq_true, decide_eq_true_eq] at h2
    omega
  have hcl : custLoad x.custs (c : Int) = x.custs[c].load := by unfold custLoad; simp [hcn]
  cases hin : (allStops (q.bikes.take k) ++ b.stops.take j).contains (c : Int)
  · have hv : V c = 0 := by rw [h6]; unfold servedF; rw [hin]; rfl
    rw [show decide (V c + 1 = 1) = true by rw [hv]; rfl]
    refine ⟨fun _ => ⟨h1, h2, ?_, ?_, ?_, ?_⟩, fun h => by cases h⟩
    · rw [bikeK_succ hj, h3, hc]
      unfold custOk
      rw [hin, decide_eq_true (show 0 ≤ (c : Int) ∧ (c : Int) < x.custs.length by omega)]; rfl
    · rw [sumC_succ hj, h4, hc, hcl]
    · rw [pairsB_succ hj, ← List.append_assoc, loadsP_snoc, ← h5, hc, hsq]
      unfold loadStep
      rw [if_pos (by simp; omega), hcl]; rfl
    · rw [List.take_succ_eq_append_getElem hj, ← List.append_assoc, hc, ← served_snoc hin, ← h6]
  · have hv : V c = 1 := by rw [h6]; unfold servedF; rw [hin]; rfl
    rw [show decide (V c + 1 = 1) = false by rw [hv]; rfl]
    refine ⟨(fun h => by cases h), fun _ => bike_no hk hb ?_⟩
    unfold bikeB
    rw [bikeK_no hj (by rw [hc]; unfold custOk; rw [hin]; simp)]; simp
theorem BStopI.bound {x : InstV} {q : PlanV} {k j : Nat} {b : BikeV} {R0 : Bool} {S : Int} {G V : Nat → Int} (h : BStopI x q k b R0 j true S G V) (hC : ∀ c ∈ x.custs, 1 ≤ c.load ∧ c.load ≤ 20) (hl : (pairsOf (q.bikes.take k)).length + b.stops.length ≤ 100000) (hj : j ≤ b.stops.length) :
    (0 ≤ S ∧ S ≤ 2000000) ∧ (∀ i, 0 ≤ G i ∧ G i ≤ 2000000) ∧ (∀ i, 0 ≤ V i ∧ V i ≤ 1) ∧ 0 ≤ b.sat ∧ b.sat < x.sats.length := by
  obtain ⟨h1, h2, h3, h4, h5, h6⟩ := h.1 rfl
  have hs := sumC_bound hC (b.stops.take j)
  rw [List.length_take] at hs
  refine ⟨by rw [h4]; omega, fun i => ?_, fun i => ?_, ?_⟩
  · have hd := loadsP_bound (ns := x.sats.length) hC (pairsOf (q.bikes.take k) ++ pairsB b j) i
    have hlen : (pairsOf (q.bikes.take k) ++ pairsB b j).length ≤ 100000 := by
      rw [List.length_append]
      have : (pairsB b j).length ≤ b.stops.length := by unfold pairsB; rw [List.length_map, List.length_take]; omega
      omega
    rw [← h5] at hd
    omega
  · rw [h6]; unfold servedF; split <;> omega
  · unfold bikeHB at h2
    simp only [Bool.and_eq_true, decide_eq_true_eq] at h2
    exact h2.1
theorem BikeI.next {x : InstV} {q : PlanV} {k : Nat} {b : BikeV} {R0 R L : Bool} {S : Int} {F G V G0 V0 : Nat → Int} (h : BStopI x q k b R0 b.stops.length R S G V) (hB : BikeI x q k R0 L F G0 V0) (hk : k < q.bikes.length) (hb : q.bikes[k] = b) : BikeI x q (k + 1) R (L && decide (S ≤ x.br)) F G V := by
  refine ⟨fun hr => ?_, fun hr => h.2 hr⟩
  obtain ⟨h1, h2, h3, h4, h5, h6⟩ := h.1 hr
  obtain ⟨g1, g2, g3, g4, g5, g6⟩ := hB.1 h1
  rw [List.take_length] at h4 h6
  refine ⟨g1, ?_, ?_, g4, ?_, ?_⟩
  · rw [bikesK_succ hk, g2, hb]
    unfold bikeB
    rw [h2, h3]; rfl
  · rw [g3, h4, List.take_succ_eq_append_getElem hk, hb]
    unfold loadB
    rw [List.all_append, Bool.and_assoc]; simp
  · rw [pairsOf_succ hk, hb, h5]
  · rw [allStops_succ hk, hb, h6]
/-! the rest -/
theorem BikeI.done {x : InstV} {q : PlanV} {L : Bool} {F G V : Nat → Int} (h : BikeI x q q.bikes.length true L F G V) : routesB x q = true ∧ L = loadsB x q ∧ F = dropsOf q.trucks ∧ G = loadsOf x q.bikes ∧ V = servedF (allStops q.bikes) := by
  obtain ⟨g1, g2, g3, g4, g5, g6⟩ := h.1 rfl
  rw [List.take_length] at g3 g5 g6
  refine ⟨?_, g3, g4, g5, g6⟩
  unfold routesB routeB
  rw [g1, g2]; rfl
theorem all_no {nc : Nat} {bs : List BikeV} {k : Nat} (hk : k < nc) (h : servedF (allStops bs) k = 0) : allB nc bs = false := by
  unfold allB
  cases hc : (List.range nc).all fun (c : Nat) => (allStops bs).contains (c : Int)
  · rfl
  · have := List.all_eq_true.1 hc k (by simpa using hk)
    unfold servedF at h
    rw [this] at h
    simp at h
theorem all_yes {nc : Nat} {bs : List BikeV} (h : ∀ k, k < nc → servedF (allStops bs) k ≠ 0) : allB nc bs = true := by
  unfold allB
  rw [List.all_eq_true]
  intro c hc
  have := h c (by simpa using hc)
  unfold servedF at this
  split at this
  · assumption
  · exact absurd rfl this
def roomsK (x : InstV) (bs : List BikeV) (s : Nat) : Bool := (List.range s).all fun i => decide (loadsOf x bs i ≤ (x.sats.getD i ⟨0, 0⟩).room)
theorem roomsK_succ {x : InstV} {bs : List BikeV} {s : Nat} (h : s < x.sats.length) : roomsK x bs (s + 1) = (roomsK x bs s && decide (loadsOf x bs s ≤ x.sats[s].room)) := by
  unfold roomsK
  rw [all_range]
  simp [h]
end Go.Proofs.Ytjpejclfppbboaa
