/- The plain law of path.Near: how far each node is, where no arc weighs less than nothing. No program in sight. -/
import Derived.Test.YtjpejclfppbboaaReachM
import Derived.Test.YtjpejclfppbboaaHeapM
namespace Go.Proofs.Ytjpejclfppbboaa
set_option linter.unusedVariables false
def FarI : Int := 1152921504606846976
def DearI : Int := 1099511627776
/-- By arc k one goes from node u to node v: that takes c. -/
def ArcG (l : List ArcV) (k u v : Nat) (c : Int) : Prop := ∃ hk : k < l.length, l[k].fr = (u : Int) ∧ l[k].to = (v : Int) ∧ c = l[k].wt
def Heavy (l : List ArcV) : Prop := ∀ a ∈ l, 0 ≤ a.wt ∧ a.wt ≤ DearI
theorem ArcG.pos {l : List ArcV} {k u v : Nat} {c : Int} (hT : Heavy l) (ha : ArcG l k u v c) : 0 ≤ c ∧ c ≤ DearI := by
 obtain ⟨hk, _, _, rfl⟩ := ha
 exact hT _ (List.getElem_mem hk)
theorem ArcG.lt {N : Nat} {l : List ArcV} {k u v : Nat} {c : Int} (hP : InN N l) (ha : ArcG l k u v c) : u < N ∧ v < N := by
 obtain ⟨hk, e1, e2, rfl⟩ := ha
 have := hP l[k] (List.getElem_mem hk)
 omega
theorem ArcG.one {l : List ArcV} {k u v v' : Nat} {c c' : Int} (ha : ArcG l k u v c) (ha' : ArcG l k u v' c') : v' = v ∧ c' = c := by
 obtain ⟨hk, e1, e2, rfl⟩ := ha
 obtain ⟨_, e3, e4, rfl⟩ := ha'
 exact ⟨by omega, rfl⟩
structure NearIn (N : Nat) (l : List ArcV) (s : Nat) : Prop where
 inn : InN N l
 heavy : Heavy l
 sN : s < N
 nN : N ≤ 1000
def setF (f : Nat → Int) (k : Nat) (v : Int) : Nat → Int := fun i => if i = k then v else f i
structure Dij (N : Nat) (l : List ArcV) (s : Nat) (far : Nat → Int) (by_ : Nat → Int) (done : Nat → Bool) (M : ItemV → Nat) (rank : Nat → Nat) (cur : Nat → Prop) (D : Nat → Prop) : Prop where
 start : far s = 0
 pos : ∀ j, j < N → 0 ≤ far j ∧ far j ≤ FarI
 tree : ∀ j, j < N → far j < FarI → j ≠ s → ∃ (k : Nat) (u : Nat) (c : Int), by_ j = (k : Int) ∧ ArcG l k u j c ∧ done u = true ∧ far j = far u + c ∧ rank u < rank j
 rk : ∀ j, j < N → far j < FarI → rank j + unseen done N ≤ N ∧ (done j = true → rank j + unseen done N + 1 ≤ N) ∧ far j ≤ rank j * DearI
 reach : ∀ j, j < N → done j = true → far j < FarI
 order : ∀ u v, u < N → v < N → done u = true → done v = false → far u ≤ far v
 closed : ∀ u, u < N → done u = true → ¬ cur u → ∀ k v c, ArcG l k u v c → far v ≤ far u + c
 part : ∀ u, cur u → ∀ k v c, D k → ArcG l k u v c → far v ≤ far u + c
 last : ∀ c, cur c → c < N ∧ done c = true ∧ ∀ u, u < N → done u = true → far u ≤ far c
 items : ∀ it, 0 < M it → ∃ j : Nat, j < N ∧ it.id = (j : Int) ∧ far j ≤ it.key ∧ it.key < FarI
 inpile : ∀ j, j < N → done j = false → far j < FarI → 0 < M ⟨far j, j⟩
theorem unseen_none (N : Nat) : unseen (fun _ => false) N = N := by
 unfold unseen
 rw [List.countP_eq_length.2 (by simp)]
 simp
theorem dij_start {N : Nat} {l : List ArcV} {s : Nat} (hI : NearIn N l s) (by_ : Nat → Int) (D : Nat → Prop) :
 Dij N l s (fun j => if j = s then 0 else FarI) by_ (fun _ => false) (fun y => 0 + if (⟨0, s⟩ : ItemV) = y then 1 else 0) (fun _ => 0) (fun _ => False) D := by
 have hF : (0 : Int) < FarI := by decide
 refine ⟨if_pos rfl, fun j _ => ?_, fun j _ hf hne => ?_, fun j _ hf => ?_, fun j _ h => (by cases h), fun u v _ _ h => (by cases h), fun u _ h => (by cases h), fun u h => h.elim, fun u h => h.elim, fun it hit => ?_, fun j _ _ hf => ?_⟩
 · (try dsimp only); split <;> omega
 · (try dsimp only at hf); rw [if_neg hne] at hf; omega
 · (try dsimp only at hf ⊢)
   by_cases e : j = s
   · subst e
     rw [unseen_none, if_pos rfl]
     exact ⟨by omega, fun h => (by cases h), by simp⟩
   · rw [if_neg e] at hf; omega
 · by_cases e : (⟨0, s⟩ : ItemV) = it
   · subst e
     exact ⟨s, hI.sN, rfl, by simp, hF⟩
   · rw [if_neg e] at hit; omega
 · (try dsimp only at hf ⊢)
   by_cases e : j = s
   · subst e; simp
   · rw [if_neg e] at hf; omega
/-- A node that is done already is taken. -/
theorem dij_skip {N : Nat} {l : List ArcV} {s : Nat} {far : Nat → Int} {by_ : Nat → Int} {done : Nat → Bool} {M : ItemV → Nat} {rank : Nat → Nat} {D : Nat → Prop} {y : ItemV} (hd : Dij N l s far by_ done M rank (fun _ => False) D) (hdone : done y.id.toNat = true) :
 Dij N l s far by_ done (fun z => M z - if y = z then 1 else 0) rank (fun _ => False) D := by
 refine { hd with items := fun it hit => hd.items it (by omega), inpile := fun j hj hjd hf => ?_ }
 have h1 := hd.inpile j hj hjd hf
 have hne : y ≠ ⟨far j, j⟩ := by
  intro e
  rw [e] at hdone
  simp only [Int.toNat_natCast] at hdone
  rw [hjd] at hdone
  cases hdone
 (try dsimp only)
 rw [if_neg hne]
 omega
/-- The nearest node that is not done is taken. -/
theorem dij_mark {N : Nat} {l : List ArcV} {s : Nat} {far : Nat → Int} {by_ : Nat → Int} {done : Nat → Bool} {M : ItemV → Nat} {rank : Nat → Nat} {D : Nat → Prop} {y : ItemV} (hd : Dij N l s far by_ done M rank (fun _ => False) D) (hM : 0 < M y) (hl : ∀ z, 0 < M z → ¬ z.lt y) (hdone : done y.id.toNat = false) :
 far y.id.toNat = y.key ∧ unseen (setB done y.id.toNat) N + 1 = unseen done N ∧ Dij N l s far by_ (setB done y.id.toNat) (fun z => M z - if y = z then 1 else 0) rank (fun u => u = y.id.toNat) (fun _ => False) := by
 obtain ⟨i, hi, e, h1, h2⟩ := hd.items y hM
 have ei : y.id.toNat = i := by omega
 rw [ei] at hdone ⊢
 have hfi : far i < FarI := by omega
 have hin := hd.inpile i hi hdone hfi
 have hkey : far i = y.key := by
  have := hl _ hin
  unfold ItemV.lt at this
  (try dsimp only at this)
  omega
 have hun := unseen_set (f := done) hi hdone
 have hset : ∀ j, setB done i j = true ↔ (j = i ∨ done j = true) := by
  intro j; unfold setB; by_cases e : j = i <;> simp [e]
 have hset' : ∀ j, setB done i j = false ↔ (j ≠ i ∧ done j = false) := by
  intro j; unfold setB; by_cases e : j = i <;> simp [e]
 have hmin : ∀ v, v < N → done v = false → far i ≤ far v := by
  intro v hv hvd
  by_cases hf : far v < FarI
  · have := hl _ (hd.inpile v hv hvd hf)
    unfold ItemV.lt at this
    (try dsimp only at this)
    omega
  · omega
 refine ⟨hkey, hun, hd.start, hd.pos, fun j hj hf hne => ?_, fun j hj hf => ?_, fun j hj h => ?_, fun u v hu hv h1 h2 => ?_, fun u hu h1 hc k v c ha => ?_, fun u _ k v c h => h.elim, fun c hc => ?_, fun it hit => hd.items it (by (try dsimp only at hit); omega), fun j hj h1 hf => ?_⟩
 · obtain ⟨k, u, c, q1, q2, q3, q4, q5⟩ := hd.tree j hj hf hne
   exact ⟨k, u, c, q1, q2, (hset u).2 (.inr q3), q4, q5⟩
 · obtain ⟨q1, q2, q3⟩ := hd.rk j hj hf
   refine ⟨by omega, fun h => ?_, q3⟩
   omega
 · rcases (hset j).1 h with rfl | h
   · exact hfi
   · exact hd.reach j hj h
 · obtain ⟨h3, h4⟩ := (hset' v).1 h2
   rcases (hset u).1 h1 with rfl | h
   · exact hmin v hv h4
   · exact hd.order u v hu hv h h4
 · rcases (hset u).1 h1 with rfl | h
   · exact absurd rfl hc
   · exact hd.closed u hu h (fun h => h) k v c ha
 · subst hc
   refine ⟨hi, (hset c).2 (.inl rfl), fun u hu h => ?_⟩
   rcases (hset u).1 h with rfl | h
   · exact Int.le_refl _
   · exact hd.order u c hu hi h hdone
 · obtain ⟨h3, h4⟩ := (hset' j).1 h1
   have h5 := hd.inpile j hj h4 hf
   have hne : y ≠ ⟨far j, j⟩ := by
    intro e2
    rw [e2] at e
    simp only at e
    omega
   (try dsimp only)
   rw [if_neg hne]
   omega
/-- By an arc of the node at hand another one is nearer. -/
theorem dij_near {N : Nat} {l : List ArcV} {s : Nat} {far : Nat → Int} {by_ : Nat → Int} {done : Nat → Bool} {M : ItemV → Nat} {rank : Nat → Nat} {D : Nat → Prop} {i k v : Nat} {c : Int} (hI : NearIn N l s) (hd : Dij N l s far by_ done M rank (fun u => u = i) D) (ha : ArcG l k i v c) (hlt : far i + c < far v) :
 Dij N l s (fun j => if j = v then far i + c else far j) (setF by_ v (k : Int)) done (fun y => M y + if (⟨far i + c, v⟩ : ItemV) = y then 1 else 0) (fun j => if j = v then rank i + 1 else rank j) (fun u => u = i) (fun k' => D k' ∨ k' = k) := by
 obtain ⟨hi, hid, hmax⟩ := hd.last i rfl
 obtain ⟨_, hv⟩ := ha.lt hI.inn
 obtain ⟨hc0, hcl⟩ := ha.pos hI.heavy
 have hvd : done v = false := by
  cases e : done v
  · rfl
  · have := hmax v hv e; omega
 have hiv : i ≠ v := by intro e; rw [e, hvd] at hid; cases hid
 have hpi := hd.pos i hi
 have hpv := hd.pos v hv
 have hfi := hd.reach i hi hid
 obtain ⟨r1, r2, r3⟩ := hd.rk i hi hfi
 have r2' := r2 hid
 have hdv : ∀ u, done u = true → u ≠ v := by intro u hu e; rw [e, hvd] at hu; cases hu
 refine ⟨?_, fun j hj => ?_, fun j hj hf hne => ?_, fun j hj hf => ?_, fun j hj h => ?_, fun u w hu hw h1 h2 => ?_, fun u hu h1 hc k w c ha => ?_, fun u hu k' w c' hD ha' => ?_, fun c hc => ?_, fun it hit => ?_, fun j hj h1 hf => ?_⟩
 · have hsv : s ≠ v := by
    intro e
    have := hd.start
    rw [e] at this
    omega
   rw [if_neg hsv]; exact hd.start
 · (try dsimp only); split
   · omega
   · exact hd.pos j hj
 · (try dsimp only at hf ⊢)
   by_cases e : j = v
   · subst e
     refine ⟨k, i, c, by simp [setF], ha, hid, ?_, ?_⟩
     · rw [if_pos rfl, if_neg hiv]
     · rw [if_pos rfl, if_neg hiv]; omega
   · rw [if_neg e] at hf
     obtain ⟨k', u, c', q1, q2, q3, q4, q5⟩ := hd.tree j hj hf hne
     have hu := hdv u q3
     refine ⟨k', u, c', by simp [setF, e, q1], q2, q3, ?_, ?_⟩
     · rw [if_neg e, if_neg hu]; exact q4
     · rw [if_neg e, if_neg hu]; exact q5
 · (try dsimp only at hf ⊢)
   by_cases e : j = v
   · subst e
     rw [if_pos rfl, if_pos rfl]
     refine ⟨by omega, fun h => (by rw [hvd] at h; cases h), ?_⟩
     have e2 : ((rank i + 1 : Nat) : Int) * DearI = rank i * DearI + DearI := by rw [Int.natCast_add, Int.add_mul]; simp
     rw [e2]
     omega
   · rw [if_neg e] at hf
     rw [if_neg e, if_neg e]
     exact hd.rk j hj hf
 · (try dsimp only); rw [if_neg (hdv j h)]; exact hd.reach j hj h
 · (try dsimp only)
   rw [if_neg (hdv u h1)]
   split
   · have := hmax u hu h1; omega
   · exact hd.order u w hu hw h1 h2
 · (try dsimp only)
   have h3 := hd.closed u hu h1 hc k w c ha
   rw [if_neg (hdv u h1)]
   split
   · rename_i e; subst e; omega
   · exact h3
 · (try dsimp only at hu ⊢)
   subst hu
   rw [if_neg hiv]
   rcases hD with hD | rfl
   · have h3 := hd.part u rfl k' w c' hD ha'
     split
     · rename_i e; subst e; omega
     · exact h3
   · have e3 := ha.one ha'
     rw [e3.1, e3.2, if_pos rfl]
     exact Int.le_refl _
 · subst hc
   refine ⟨hi, hid, fun u hu h => ?_⟩
   (try dsimp only)
   rw [if_neg (hdv u h), if_neg hiv]
   exact hmax u hu h
 · (try dsimp only at hit ⊢)
   by_cases e : (⟨far i + c, v⟩ : ItemV) = it
   · subst e
     exact ⟨v, hv, rfl, by simp, by (try dsimp only); omega⟩
   · rw [if_neg e] at hit
     obtain ⟨j, q1, q2, q3, q4⟩ := hd.items it (by omega)
     refine ⟨j, q1, q2, ?_, q4⟩
     split
     · rename_i e; subst e; omega
     · exact q3
 · (try dsimp only at hf ⊢)
   by_cases e : j = v
   · subst e
     rw [if_pos rfl]
     simp
   · rw [if_neg e] at hf ⊢
     have := hd.inpile j hj h1 hf
     omega
/-- The arc makes nothing nearer, or isn't there. -/
theorem dij_same {N : Nat} {l : List ArcV} {s : Nat} {far : Nat → Int} {by_ : Nat → Int} {done : Nat → Bool} {M : ItemV → Nat} {rank : Nat → Nat} {D D' : Nat → Prop} {i : Nat} (hd : Dij N l s far by_ done M rank (fun u => u = i) D) (hD : ∀ k, D' k → D k ∨ ∀ v c, ArcG l k i v c → far v ≤ far i + c) :
 Dij N l s far by_ done M rank (fun u => u = i) D' := by
 refine { hd with part := fun u hu k v c h1 ha => ?_ }
 subst hu
 rcases hD k h1 with h2 | h2
 · exact hd.part u rfl k v c h2 ha
 · exact h2 v c ha
/-- All arcs of the node at hand have been looked at. -/
theorem dij_round {N : Nat} {l : List ArcV} {s : Nat} {far : Nat → Int} {by_ : Nat → Int} {done : Nat → Bool} {M : ItemV → Nat} {rank : Nat → Nat} {D D' : Nat → Prop} {i : Nat} (hd : Dij N l s far by_ done M rank (fun u => u = i) D) (hD : ∀ k, ∀ hk : k < l.length, l[k].fr = (i : Int) → D k) :
 Dij N l s far by_ done M rank (fun _ => False) D' := by
 refine { hd with closed := fun u hu h1 _ k v c ha => ?_, part := fun u h => h.elim, last := fun u h => h.elim }
 by_cases e : u = i
 · exact hd.part u e k v c (hD k ha.1 (by rw [ha.2.1, e])) ha
 · exact hd.closed u hu h1 e k v c ha
/-- What look tells. -/
structure Looked (N : Nat) (l : List ArcV) (s : Nat) (far : Nat → Int) (by_ : Nat → Int) : Prop where
 start : far s = 0
 pos : ∀ j, j < N → 0 ≤ far j ∧ far j ≤ FarI
 tree : ∃ rank : Nat → Nat, (∀ j, j < N → far j < FarI → rank j ≤ N) ∧ ∀ j, j < N → far j < FarI → j ≠ s → ∃ (k : Nat) (u : Nat) (c : Int), by_ j = (k : Int) ∧ ArcG l k u j c ∧ far u < FarI ∧ far j = far u + c ∧ rank u < rank j
 high : ∀ j, j < N → far j < FarI → far j ≤ N * DearI
 closed : ∀ u, u < N → far u < FarI → ∀ k v c, ArcG l k u v c → far v ≤ far u + c
theorem dij_end {N : Nat} {l : List ArcV} {s : Nat} {far : Nat → Int} {by_ : Nat → Int} {done : Nat → Bool} {M : ItemV → Nat} {rank : Nat → Nat} {D : Nat → Prop} (hI : NearIn N l s) (hd : Dij N l s far by_ done M rank (fun _ => False) D) (hM : ∀ y, M y = 0) : Looked N l s far by_ := by
 have hall : ∀ j, j < N → far j < FarI → done j = true := by
  intro j hj hf
  cases e : done j
  · have := hd.inpile j hj e hf
    rw [hM] at this
    omega
  · rfl
 refine ⟨hd.start, hd.pos, ⟨rank, fun j hj hf => by have := (hd.rk j hj hf).1; omega, fun j hj hf hne => ?_⟩, fun j hj hf => ?_, fun u hu hf k v c ha => hd.closed u hu (hall u hu hf) (fun h => h) k v c ha⟩
 · obtain ⟨k, u, c, q1, q2, q3, q4, q5⟩ := hd.tree j hj hf hne
   exact ⟨k, u, c, q1, q2, hd.reach u (q2.lt hI.inn).1 q3, q4, q5⟩
 · obtain ⟨q1, q2, q3⟩ := hd.rk j hj hf
   have h4 : (rank j : Int) * DearI ≤ N * DearI := Int.mul_le_mul_of_nonneg_right (by omega) (by decide)
   omega
end Go.Proofs.Ytjpejclfppbboaa
