/- The plain law of least.Least: a flow by which nothing can be cheaper, as how high the nodes lie tells. No program in sight. -/
import Derived.Test.YtgnmbmlpfjlbiaaDij
namespace Go.Proofs.Ytgnmbmlpfjlbiaa
set_option linter.unusedVariables false
theorem Looked.lt {N : Nat} {ps : List PipeV} {x h : Nat → Int} {s : Nat} {far : Nat → Int} {by_ : Nat → Int × Bool} (hI : DijIn N ps x h s) (hL : Looked N ps x h s far by_) {u v k : Nat} {b : Bool} {c : Int} (hu : u < N) (hf : far u < FarI) (ha : Arc ps x h k b u v c) : far v < FarI := by
  have h1 := hL.closed u hu hf k b v c ha
  have h2 := ha.le hI.costs
  have h3 := hL.high u hu hf
  have h4 := hI.low v (ha.lt hI.inn).2
  have h5 : (N : Int) * DearI ≤ 1000 * DearI := Int.mul_le_mul_of_nonneg_right (by have := hI.nN; omega) (by decide)
  unfold DearI FarI at *
  omega
/-- What look tells, as a walk's answer. -/
theorem looked_walked {N : Nat} {ps : List PipeV} {x h : Nat → Int} {s : Nat} {far : Nat → Int} {by_ : Nat → Int × Bool} (hI : DijIn N ps x h s) (hL : Looked N ps x h s far by_) : Walked N ps x (s : Int) (fun j => decide (far j < FarI)) by_ := by
  obtain ⟨rank, hT⟩ := hL.tree
  have hs : far s < FarI := by rw [hL.start]; decide
  refine ⟨fun j hj => ⟨fun hf => ?_, fun hr => ?_⟩, ⟨rank, fun j hj hf hne => ?_⟩, by simpa using hs⟩
  · have key : ∀ r j, rank j ≤ r → j < N → far j < FarI → Rch (resArcs ps x) (s : Int) j := by
      intro r
      induction r with
      | zero =>
        intro j hr hj hf
        by_cases e : j = s
        · subst e; exact .refl
        · obtain ⟨k, b, u, c, q1, q2, q3, q4, q5⟩ := hT j hj hf e
          omega
      | succ r ih =>
        intro j hr hj hf
        by_cases e : j = s
        · subst e; exact .refl
        · obtain ⟨k, b, u, c, q1, q2, q3, q4, q5⟩ := hT j hj hf e
          have hu := ih u (by omega) (q2.lt hI.inn).1 q3
          obtain ⟨hk, ⟨_, e1, e2, hr, _⟩ | ⟨_, e1, e2, hr, _⟩⟩ := q2
          · rw [← e1] at hu
            have := Rch.step (a := ⟨ps[k].fr, ps[k].to, 0⟩) hu (res_fwd hk hr)
            rw [← e2]; exact this
          · rw [← e1] at hu
            have := Rch.step (a := ⟨ps[k].to, ps[k].fr, 0⟩) hu (res_back hk hr)
            rw [← e2]; exact this
    exact key (rank j) j (Nat.le_refl _) hj (by simpa using hf)
  · have key : ∀ v : Int, Rch (resArcs ps x) (s : Int) v → 0 ≤ v ∧ v < N ∧ far v.toNat < FarI := by
      intro v hv
      induction hv with
      | refl => exact ⟨by omega, by have := hI.sN; omega, by simpa using hs⟩
      | step hu ha ih =>
        rename_i a
        obtain ⟨i1, i2, i3⟩ := ih
        obtain ⟨k, hk, ⟨a1, a2, a3⟩ | ⟨a1, a2, a3⟩⟩ := res_cases ha
        · have hp := hI.inn ps[k] (List.getElem_mem hk)
          refine ⟨by omega, by omega, ?_⟩
          refine hL.lt hI (u := a.fr.toNat) (k := k) (b := false) (c := ps[k].cost + h a.fr.toNat - h a.to.toNat) (by omega) i3 ⟨hk, .inl ⟨rfl, by omega, by omega, a3, rfl⟩⟩
        · have hp := hI.inn ps[k] (List.getElem_mem hk)
          refine ⟨by omega, by omega, ?_⟩
          refine hL.lt hI (u := a.fr.toNat) (k := k) (b := true) (c := -(ps[k].cost + h a.to.toNat - h a.fr.toNat)) (by omega) i3 ⟨hk, .inr ⟨rfl, by omega, by omega, a3, rfl⟩⟩
    have := key j hr
    simpa using this.2.2
  · have hf' : far j < FarI := by simpa using hf
    obtain ⟨k, b, u, c, q1, q2, q3, q4, q5⟩ := hT j hj hf' (by omega)
    obtain ⟨hk, ⟨hb, e1, e2, hr, _⟩ | ⟨hb, e1, e2, hr, _⟩⟩ := q2
    · refine ⟨k, hk, by rw [q1], .inl ⟨by rw [q1]; exact hb, e2, hr, ?_, ?_⟩⟩
      · rw [e1]; simpa using q3
      · rw [e1]; simpa using q5
    · refine ⟨k, hk, by rw [q1], .inr ⟨by rw [q1]; exact hb, e2, hr, ?_, ?_⟩⟩
      · rw [e1]; simpa using q3
      · rw [e1]; simpa using q5
/-- What all costs, by the first k pipes. -/
def costK (ps : List PipeV) (x : Nat → Int) : Nat → Int
  | 0 => 0
  | k + 1 => costK ps x k + (match ps[k]? with | some p => x k * p.cost | none => 0)
def costF (ps : List PipeV) (x : Nat → Int) : Int := costK ps x ps.length
theorem costK_succ {ps : List PipeV} {x : Nat → Int} {k : Nat} (h : k < ps.length) : costK ps x (k + 1) = costK ps x k + x k * ps[k].cost := by
  rw [costK, List.getElem?_eq_getElem h]
theorem costK_set {ps : List PipeV} {x : Nat → Int} {d : Int} {j : Nat} (hj : j < ps.length) : ∀ k, k ≤ ps.length → costK ps (fun i => if i = j then x i + d else x i) k = costK ps x k + (if j < k then d * ps[j].cost else 0)
  | 0, _ => by simp [costK]
  | k + 1, hk => by
    have hkl : k < ps.length := by omega
    rw [costK_succ hkl, costK_succ hkl, costK_set hj k (by omega)]
    by_cases e : k = j
    · subst e
      rw [if_neg (Nat.lt_irrefl k), if_pos (Nat.lt_succ_self k), if_pos rfl, Int.add_mul]
      omega
    · rw [if_neg e]
      by_cases h : j < k
      · rw [if_pos h, if_pos (by omega)]; omega
      · rw [if_neg h, if_neg (by omega)]; omega
theorem costF_set {ps : List PipeV} {x : Nat → Int} {d : Int} {j : Nat} (hj : j < ps.length) : costF ps (fun i => if i = j then x i + d else x i) = costF ps x + d * ps[j].cost := by
  unfold costF
  rw [costK_set hj _ (Nat.le_refl _), if_pos hj]
theorem costK_zero (ps : List PipeV) : ∀ k, costK ps (fun _ => 0) k = 0
  | 0 => rfl
  | k + 1 => by
    rw [costK, costK_zero ps k]
    split <;> simp
/-- What Least keeps. -/
structure Opt (N : Nat) (ps : List PipeV) (s t : Nat) (x h : Nat → Int) (sum : Int) : Prop where
  flow : FlowOf ps (s : Int) (t : Int) x sum
  tight : Tight ps x h
  hs : h s = 0
  hb : ∀ v, v < N → 0 ≤ h v ∧ h v ≤ h t
  ht : h t ≤ N * DearI
  few : ∀ k, k < ps.length → x k ≤ sum
theorem opt_start {N : Nat} {ps : List PipeV} {s t : Nat} (hP : InP N ps) (hC : Costs ps) : Opt N ps s t (fun _ => 0) (fun _ => 0) 0 := by
  refine ⟨flow_zero hP, fun k hk => ⟨fun _ => ?_, fun h => absurd h (by omega)⟩, rfl, fun v _ => by omega, ?_, fun k _ => Int.le_refl _⟩
  · have := hC ps[k] (List.getElem_mem hk); omega
  · exact Int.mul_nonneg (by omega) (by decide)
theorem Opt.dijIn {N : Nat} {ps : List PipeV} {s t : Nat} {x h : Nat → Int} {sum : Int} (hO : Opt N ps s t x h sum) (hP : InP N ps) (hC : Costs ps) (hs : s < N) (hN : N ≤ 1000) : DijIn N ps x h s :=
  ⟨hP, hC, hO.tight, fun j hj => (hO.hb j hj).1, hO.hs, hs, hN⟩
/-- All nodes rise. -/
def riseH (h far : Nat → Int) (t : Nat) : Nat → Int := fun v => h v + if far t < far v then far t else far v
theorem rise_tight {N : Nat} {ps : List PipeV} {s t : Nat} {x h far : Nat → Int} {by_ : Nat → Int × Bool} (hI : DijIn N ps x h s) (hL : Looked N ps x h s far by_) (ht : t < N) (hft : far t < FarI) : Tight ps x (riseH h far t) := by
  intro k hk
  have hp := hI.inn ps[k] (List.getElem_mem hk)
  obtain ⟨u, hu⟩ : ∃ u : Nat, ps[k].fr = (u : Int) := ⟨ps[k].fr.toNat, by omega⟩
  obtain ⟨v, hv⟩ : ∃ v : Nat, ps[k].to = (v : Int) := ⟨ps[k].to.toNat, by omega⟩
  have key : ∀ (b : Bool) (u v : Nat) (c : Int), u < N → Arc ps x h k b u v c → (if far t < far v then far t else far v) ≤ c + (if far t < far u then far t else far u) := by
    intro b u v c huN ha
    have hc := ha.pos hI.tight
    by_cases hfu : far u < FarI
    · have := hL.closed u huN hfu k b v c ha
      split <;> split <;> omega
    · have := hL.pos u huN
      split <;> split <;> omega
  unfold riseH
  rw [hu, hv]
  simp only [Int.toNat_natCast]
  refine ⟨fun hr => ?_, fun hr => ?_⟩
  · have := key false u v _ (by omega) ⟨hk, .inl ⟨rfl, hu, hv, hr, rfl⟩⟩
    omega
  · have := key true v u _ (by omega) ⟨hk, .inr ⟨rfl, hv, hu, hr, rfl⟩⟩
    omega
/-- On the way, nothing is steep. -/
theorem rise_way {N : Nat} {ps : List PipeV} {s t : Nat} {x h far : Nat → Int} {by_ : Nat → Int × Bool} (hI : DijIn N ps x h s) (hL : Looked N ps x h s far by_) {j : Nat} (hj : j < N) (hjt : far j ≤ far t) (hft : far t < FarI) (hne : j ≠ s) :
    ∃ (k : Nat) (b : Bool), by_ j = ((k : Int), b) ∧ kOf by_ j = k ∧ far (prd ps by_ j) ≤ far t ∧ ∃ hk : k < ps.length, ps[k].cost + riseH h far t ps[k].fr.toNat - riseH h far t ps[k].to.toNat = 0 := by
  obtain ⟨rank, hT⟩ := hL.tree
  obtain ⟨k, b, u, c, q1, q2, q3, q4, q5⟩ := hT j hj (by omega) hne
  have hc := q2.pos hI.tight
  have hkk : kOf by_ j = k := by unfold kOf; rw [q1]; simp
  have hful : far u ≤ far t := by omega
  obtain ⟨hk, ⟨hb, e1, e2, hr, e3⟩ | ⟨hb, e1, e2, hr, e3⟩⟩ := q2
  · have hpr : prd ps by_ j = u := by unfold prd; rw [hkk, List.getElem?_eq_getElem hk]; simp [q1, hb, e1]
    refine ⟨k, b, q1, hkk, by rw [hpr]; exact hful, hk, ?_⟩
    rw [e1, e2]
    unfold riseH
    simp only [Int.toNat_natCast]
    rw [if_neg (by omega), if_neg (by omega)]
    omega
  · have hpr : prd ps by_ j = u := by unfold prd; rw [hkk, List.getElem?_eq_getElem hk]; simp [q1, hb, e1]
    refine ⟨k, b, q1, hkk, by rw [hpr]; exact hful, hk, ?_⟩
    rw [e1, e2]
    unfold riseH
    simp only [Int.toNat_natCast]
    rw [if_neg (by omega), if_neg (by omega)]
    omega
theorem way_far {N : Nat} {ps : List PipeV} {s t : Nat} {x h far : Nat → Int} {by_ : Nat → Int × Bool} {seen : Nat → Bool} {rank : Nat → Nat} {m : Nat} (hI : DijIn N ps x h s) (hL : Looked N ps x h s far by_) (hft : far t < FarI) (hW : WayTo N ps x (s : Int) seen by_ rank t m) : ∀ i, i ≤ m → far (nd ps by_ t i) ≤ far t
  | 0, _ => Int.le_refl _
  | i + 1, hi => by
    have h1 := way_far hI hL hft hW i (by omega)
    have h2 := hW.ne i (by omega)
    obtain ⟨k, b, _, _, h3, _⟩ := rise_way hI hL (hW.seen i (by omega)).2 h1 hft (by omega)
    exact h3
/-- After the push, nothing can be cheaper. -/
theorem opt_push {N : Nat} {ps : List PipeV} {s t : Nat} {x h far : Nat → Int} {by_ : Nat → Int × Bool} {rank : Nat → Nat} {m : Nat} {sum d : Int} (hO : Opt N ps s t x h sum) (hI : DijIn N ps x h s) (hL : Looked N ps x h s far by_) (ht : t < N) (hst : s ≠ t) (hft : far t < FarI)
    (hT : TreeR N ps x (s : Int) (fun j => decide (far j < FarI)) by_ rank) (hW : WayTo N ps x (s : Int) (fun j => decide (far j < FarI)) by_ rank t m) (hend : nd ps by_ t m = s) (hd : 1 ≤ d) (hm : ∀ i, i < m → d ≤ resd ps x by_ (nd ps by_ t i)) :
    Opt N ps s t (flowM ps x by_ t d m) (riseH h far t) (sum + d) := by
  have hF := flowM_feas hI.inn hT hW hO.flow.feas (by omega) hm m (Nat.le_refl _)
  have hinn : ∀ v, inn ps (flowM ps x by_ t d m) v = inn ps x v + (if (t : Int) = v then d else 0) - (if (s : Int) = v then d else 0) := by
    intro v
    rw [flowM_inn (d := d) hI.inn hT hW v m (Nat.le_refl _), hend]
  have hps := hL.pos t ht
  have hal : ∀ k, (∀ i, i < m → kOf by_ (nd ps by_ t i) ≠ k) ∨ ∃ i, i < m ∧ kOf by_ (nd ps by_ t i) = k := by
    intro k
    by_cases e : ∃ i, i < m ∧ kOf by_ (nd ps by_ t i) = k
    · exact .inr e
    · exact .inl fun i hi h => e ⟨i, hi, h⟩
  have hone : ∀ mm, mm ≤ m → ∀ k, k < ps.length → flowM ps x by_ t d mm k ≤ sum + d := by
    intro mm
    induction mm with
    | zero => intro _ k hk; have := hO.few k hk; show x k ≤ _; omega
    | succ mm ih =>
      intro hmm k hk
      unfold flowM
      by_cases e : k = kOf by_ (nd ps by_ t mm)
      · have hsame : flowM ps x by_ t d mm k = x k := flowM_same mm fun i hi => by rw [e]; exact way_once hI.inn hT hW hi (by omega)
        have h1 := hO.few k hk
        rw [if_pos e, hsame]
        split <;> omega
      · rw [if_neg e]
        exact ih (by omega) k hk
  refine ⟨flow_more hO.flow (by omega) hd hF hinn, fun k hk => ?_, ?_, fun v hv => ?_, ?_, hone m (Nat.le_refl _)⟩
  · rcases hal k with h1 | ⟨i, hi, h1⟩
    · rw [flowM_same m h1]
      exact rise_tight hI hL ht hft k hk
    · obtain ⟨k', b, e1, e2, _, hk', h2⟩ := rise_way hI hL (hW.seen i (by omega)).2 (way_far hI hL hft hW i (by omega)) hft (by have := hW.ne i hi; omega)
      have : k' = k := by rw [← e2]; exact h1
      subst this
      exact ⟨fun _ => by omega, fun _ => by omega⟩
  · unfold riseH
    rw [hO.hs, hL.start]
    split <;> omega
  · have h1 := hO.hb v hv
    have h2 := hL.pos v hv
    unfold riseH
    rw [if_neg (Int.lt_irrefl (far t))]
    split <;> omega
  · have := hL.high t ht hft
    unfold riseH
    rw [if_neg (Int.lt_irrefl (far t))]
    omega
end Go.Proofs.Ytgnmbmlpfjlbiaa
