/- The plain law of least.look's inner loop: pipe by pipe. No program in sight. -/
import Derived.Test.YtgnmbmlpfjlbiaaOptM
import Derived.Test.YtgnmbmlpfjlbiaaPile
namespace Go.Proofs.Ytgnmbmlpfjlbiaa
set_option linter.unusedVariables false
/-- In the midst of a node's arcs: those of the pipes ahead of the k-th, and of it along (if so), have been looked at. -/
def Till (k : Nat) (half : Bool) : Nat → Bool → Prop := fun k' b' => k' < k ∨ (k' = k ∧ b' = false ∧ half = true)
section
variable {N : Nat} {ps : List PipeV} {x h : Nat → Int} {s : Nat} {far : Nat → Int} {by_ : Nat → Int × Bool} {done : Nat → Bool} {M : ItemV → Nat} {rank : Nat → Nat} {i k v : Nat}
theorem scan_fwd_yes (hI : DijIn N ps x h s) (hd : Dij N ps x h s far by_ done M rank (fun u => u = i) (Till k false)) (hk : k < ps.length) (hf : ps[k].fr = (i : Int)) (hv : ps[k].to = (v : Int)) (hr : x k < ps[k].room) (hlt : far i + (ps[k].cost + h i - h v) < far v) :
    Dij N ps x h s (fun j => if j = v then far i + (ps[k].cost + h i - h v) else far j) (setS by_ v ((k : Int), false)) done (fun y => M y + if (⟨far i + (ps[k].cost + h i - h v), v⟩ : ItemV) = y then 1 else 0) (fun j => if j = v then rank i + 1 else rank j) (fun u => u = i) (Till k true) := by
  refine dij_same (dij_near hI hd ⟨hk, .inl ⟨rfl, hf, hv, hr, rfl⟩⟩ hlt) fun k' b' hD => .inl ?_
  unfold Till at *
  rcases hD with h1 | ⟨h1, h2, _⟩
  · exact .inl (.inl h1)
  · exact .inr ⟨h1, h2⟩
theorem scan_ne (hI : DijIn N ps x h s) (hd : Dij N ps x h s far by_ done M rank (fun u => u = i) (Till k false)) (hk : k < ps.length) (hf : ps[k].fr = (i : Int)) (hv : ps[k].to = (v : Int)) (hr : x k < ps[k].room) (hlt : far i + (ps[k].cost + h i - h v) < far v) : i ≠ v := by
  intro e
  have h1 := Arc.pos hI.tight ⟨hk, .inl ⟨rfl, hf, hv, hr, rfl⟩⟩
  subst e
  omega
theorem scan_ne2 (hI : DijIn N ps x h s) (hk : k < ps.length) (hf : ps[k].to = (i : Int)) (hv : ps[k].fr = (v : Int)) (hr : 0 < x k) (hlt : far i - (ps[k].cost + h v - h i) < far v) : i ≠ v := by
  intro e
  have h1 := Arc.pos hI.tight ⟨hk, .inr ⟨rfl, hf, hv, hr, rfl⟩⟩
  subst e
  omega
theorem scan_fwd_far (hd : Dij N ps x h s far by_ done M rank (fun u => u = i) (Till k false)) (hk : k < ps.length) (hv : ps[k].to = (v : Int)) (hlt : ¬ far i + (ps[k].cost + h i - h v) < far v) : Dij N ps x h s far by_ done M rank (fun u => u = i) (Till k true) := by
  refine dij_same hd fun k' b' hD => ?_
  unfold Till at *
  rcases hD with h1 | ⟨rfl, rfl, _⟩
  · exact .inl (.inl h1)
  · refine .inr fun v' c' ha => ?_
    obtain ⟨_, ⟨_, b2, b3, b4, b5⟩ | ⟨b1, _⟩⟩ := ha
    · have e : v' = v := by omega
      subst e
      omega
    · cases b1
theorem scan_fwd_no (hd : Dij N ps x h s far by_ done M rank (fun u => u = i) (Till k false)) (hk : k < ps.length) (hno : ¬ (ps[k].fr = (i : Int) ∧ x k < ps[k].room)) : Dij N ps x h s far by_ done M rank (fun u => u = i) (Till k true) := by
  refine dij_same hd fun k' b' hD => ?_
  unfold Till at *
  rcases hD with h1 | ⟨rfl, rfl, _⟩
  · exact .inl (.inl h1)
  · refine .inr fun v' c' ha => ?_
    obtain ⟨_, ⟨_, b2, b3, b4, b5⟩ | ⟨b1, _⟩⟩ := ha
    · exact absurd ⟨b2, b4⟩ hno
    · cases b1
theorem till_next {k' : Nat} {b' : Bool} (h : Till (k + 1) false k' b') : (Till k true k' b') ∨ (k' = k ∧ b' = true) := by
  unfold Till at *
  rcases h with h1 | ⟨_, _, h⟩
  · by_cases e : k' = k
    · cases b'
      · exact .inl (.inr ⟨e, rfl, rfl⟩)
      · exact .inr ⟨e, rfl⟩
    · exact .inl (.inl (by omega))
  · cases h
theorem scan_back_yes (hI : DijIn N ps x h s) (hd : Dij N ps x h s far by_ done M rank (fun u => u = i) (Till k true)) (hk : k < ps.length) (hf : ps[k].to = (i : Int)) (hv : ps[k].fr = (v : Int)) (hr : 0 < x k) (hlt : far i - (ps[k].cost + h v - h i) < far v) :
    Dij N ps x h s (fun j => if j = v then far i - (ps[k].cost + h v - h i) else far j) (setS by_ v ((k : Int), true)) done (fun y => M y + if (⟨far i - (ps[k].cost + h v - h i), v⟩ : ItemV) = y then 1 else 0) (fun j => if j = v then rank i + 1 else rank j) (fun u => u = i) (Till (k + 1) false) := by
  have e : far i - (ps[k].cost + h v - h i) = far i + -(ps[k].cost + h v - h i) := by omega
  rw [e] at hlt ⊢
  exact dij_same (dij_near hI hd ⟨hk, .inr ⟨rfl, hf, hv, hr, rfl⟩⟩ hlt) fun k' b' hD => .inl (till_next hD)
theorem scan_back_far (hd : Dij N ps x h s far by_ done M rank (fun u => u = i) (Till k true)) (hk : k < ps.length) (hv : ps[k].fr = (v : Int)) (hlt : ¬ far i - (ps[k].cost + h v - h i) < far v) : Dij N ps x h s far by_ done M rank (fun u => u = i) (Till (k + 1) false) := by
  refine dij_same hd fun k' b' hD => ?_
  rcases till_next hD with h1 | ⟨rfl, rfl⟩
  · exact .inl h1
  · refine .inr fun v' c' ha => ?_
    obtain ⟨_, ⟨b1, _⟩ | ⟨_, b2, b3, b4, b5⟩⟩ := ha
    · cases b1
    · have e : v' = v := by omega
      subst e
      omega
theorem scan_back_no (hd : Dij N ps x h s far by_ done M rank (fun u => u = i) (Till k true)) (hk : k < ps.length) (hno : ¬ (ps[k].to = (i : Int) ∧ 0 < x k)) : Dij N ps x h s far by_ done M rank (fun u => u = i) (Till (k + 1) false) := by
  refine dij_same hd fun k' b' hD => ?_
  rcases till_next hD with h1 | ⟨rfl, rfl⟩
  · exact .inl h1
  · refine .inr fun v' c' ha => ?_
    obtain ⟨_, ⟨b1, _⟩ | ⟨_, b2, b3, b4, b5⟩⟩ := ha
    · cases b1
    · exact absurd ⟨b2, b4⟩ hno
theorem scan_start (hd : Dij N ps x h s far by_ done M rank (fun u => u = i) (fun _ _ => False)) : Dij N ps x h s far by_ done M rank (fun u => u = i) (Till 0 false) :=
  dij_same hd fun k b hD => by
    unfold Till at hD
    rcases hD with h | ⟨_, _, h⟩
    · omega
    · cases h
theorem scan_end {D : Nat → Bool → Prop} (hd : Dij N ps x h s far by_ done M rank (fun u => u = i) (Till ps.length false)) : Dij N ps x h s far by_ done M rank (fun _ => False) D :=
  dij_round hd fun k b hk => .inl hk
theorem dij_cur (hI : DijIn N ps x h s) {D : Nat → Bool → Prop} (hd : Dij N ps x h s far by_ done M rank (fun u => u = i) D) : i < N ∧ 0 ≤ far i ∧ far i ≤ 4294967296000 := by
  obtain ⟨h1, h2, _⟩ := hd.last i rfl
  have h3 := hd.reach i h1 h2
  obtain ⟨r1, r2, r3⟩ := hd.rk i h1 h3
  have h4 := hI.low i h1
  have h5 := (hd.pos i h1).1
  have h6 : (rank i : Int) * DearI ≤ 1000 * DearI := Int.mul_le_mul_of_nonneg_right (by have := hI.nN; omega) (by decide)
  refine ⟨h1, h5, ?_⟩
  unfold DearI at *
  omega
end
end Go.Proofs.Ytgnmbmlpfjlbiaa
