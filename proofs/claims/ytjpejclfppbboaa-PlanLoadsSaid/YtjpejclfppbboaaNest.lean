/- Rows whose elements end in a slice of their own: owned, element by element; read; changed at one place. No program in sight. -/
import Derived.Test.YtjpejclfppbboaaPlanM
import Derived.Test.YtjpejclfppbboaaTrucksC
namespace Go.Proofs.Ytjpejclfppbboaa
open Go.ChangeShapes Go.WideShapes Go.ChangeAt Go.RowKit
set_option linter.unusedVariables false
theorem flat_set {α : Type} (f : α → List Value) (s : Nat) (hs : ∀ a, (f a).length = s) (l : List α) (i j : Nat) (hi : i < l.length) (x : α) (u : Value) (hj : j < s) (hx : f x = (f l[i]).set j u) : (l.set i x).flatMap f = (l.flatMap f).set (i * s + j) u := by
  induction l generalizing i with
  | nil => simp at hi
  | cons a r ih =>
    cases i with
    | zero =>
      simp only [List.set_cons_zero, List.flatMap_cons, Nat.zero_mul, Nat.zero_add]
      rw [List.set_append, if_pos (by rw [hs]; exact hj)]
      rw [hx]; rfl
    | succ i =>
      simp only [List.set_cons_succ, List.flatMap_cons]
      rw [List.set_append, if_neg (by rw [hs, Nat.succ_mul]; omega), hs, Nat.succ_mul, show i * s + s + j - s = i * s + j by omega, ih i (by simpa using hi) hx]
/-- A kind of such rows: the outer elements' type and size, the inner ones'; what stands ahead of the slice; how long, and what, the slice is. -/
structure Nest (α : Type) where
  T : TypeId
  S : Nat
  t : TypeId
  s : Nat
  pre : α → List Value
  len : α → Nat
  cells : α → List Value
structure Nest.Ok {α : Type} (N : Nest α) : Prop where
  pre : ∀ a, (N.pre a).length + 1 = N.S
  cells : ∀ a, (N.cells a).length = N.len a * N.s
namespace Nest
variable {α : Type} (N : Nest α)
def head (q : α × Value) : List Value := N.pre q.1 ++ [q.2]
def inner (q : α × Value) : Rs := .row N.t N.s q.2 (N.len q.1) (N.cells q.1)
def heads (ps : List (α × Value)) : List Value := ps.flatMap N.head
def own (v : Value) (ps : List (α × Value)) : List Rs := .row N.T N.S v ps.length (N.heads ps) :: ps.map N.inner
variable {N}
theorem head_len (h : N.Ok) (q : α × Value) : (N.head q).length = N.S := by unfold head; rw [List.length_append]; exact h.pre q.1
theorem heads_len (h : N.Ok) (ps : List (α × Value)) : (N.heads ps).length = ps.length * N.S := flat_len N.head N.S (head_len h) ps
theorem own_get (v : Value) (ps : List (α × Value)) (i : Nat) (hi : i < ps.length) (rest : List Rs) : (N.own v ps ++ rest)[i + 1]? = some (N.inner ps[i]) := by
  unfold own
  rw [List.cons_append, List.getElem?_cons_succ, List.getElem?_append_left (by simpa using hi), List.getElem?_map, List.getElem?_eq_getElem hi]; rfl
theorem own_zero (v : Value) (ps : List (α × Value)) (rest : List Rs) : (N.own v ps ++ rest)[0]? = some (.row N.T N.S v ps.length (N.heads ps)) := rfl
/-- Element i's slice has become h, and holds what a' tells. -/
theorem own_set (hN : N.Ok) (v : Value) (ps : List (α × Value)) (i : Nat) (hi : i < ps.length) (a' : α) (h : Value) (hp : N.pre a' = N.pre ps[i].1) (rest : List Rs) :
    ((N.own v ps ++ rest).set (i + 1) (N.inner (a', h))).set 0 (.row N.T N.S v ps.length ((N.heads ps).set (i * N.S + (N.S - 1)) h)) = N.own v (ps.set i (a', h)) ++ rest := by
  unfold own
  rw [List.cons_append, List.set_cons_succ, List.set_cons_zero, List.set_append, if_pos (by simpa using hi), ← List.map_set, List.length_set]
  have e : N.heads (ps.set i (a', h)) = (N.heads ps).set (i * N.S + (N.S - 1)) h := by
    have hpos := hN.pre a'
    refine flat_set N.head N.S (head_len hN) ps i (N.S - 1) hi (a', h) h (by omega) ?_
    unfold head
    have hl := hN.pre ps[i].1
    rw [List.set_append, if_neg (by omega), show N.S - 1 - (N.pre ps[i].1).length = 0 by omega, hp]; rfl
  rw [e]; rfl
theorem own_snoc (v : Value) (ps : List (α × Value)) (q : α × Value) : N.own v (ps ++ [q]) = .row N.T N.S v (ps.length + 1) (N.heads ps ++ N.head q) :: (ps.map N.inner ++ [N.inner q]) := by
  unfold own heads
  rw [List.flatMap_append, List.map_append, List.length_append]
  simp
/-- Some of them alone. -/
theorem own_sub (v v' : Value) (ps qs : List (α × Value)) (h : qs.Sublist ps) (rest : List Rs) : (.row N.T N.S v' qs.length (N.heads qs) :: (qs.map N.inner ++ rest)).Sublist (.row N.T N.S v' qs.length (N.heads qs) :: (ps.map N.inner ++ rest)) :=
  .cons_cons _ ((h.map N.inner).append_right rest)
end Nest
/-! the kinds -/
def bikeN (T t : TypeId) : Nest BikeV := ⟨T, 2, t, 1, fun b => [.int .i64 b.sat], fun b => b.stops.length, fun b => b.stops.map (.int .i64)⟩
def truckN (T t : TypeId) : Nest (List StopV) := ⟨T, 1, t, 2, fun _ => [], fun l => l.length, fun l => l.flatMap StopV.cells⟩
def listN (T t : TypeId) : Nest (List Int) := ⟨T, 1, t, 1, fun _ => [], fun l => l.length, fun l => l.map (.int .i64)⟩
theorem bikeN_ok (T t : TypeId) : (bikeN T t).Ok := ⟨fun _ => rfl, fun b => by simp [bikeN]⟩
theorem truckN_ok (T t : TypeId) : (truckN T t).Ok := ⟨fun _ => rfl, fun l => flat_len StopV.cells 2 StopV.cells_len l⟩
theorem listN_ok (T t : TypeId) : (listN T t).Ok := ⟨fun _ => rfl, fun b => by simp [listN]⟩
theorem own_outer {α : Type} {N : Nest α} {W w : World} {B : Nat} {l : List Rs} (hS : SL W B l w) {v : Value} {ps : List (α × Value)} (h : ∀ r ∈ N.own v ps, r ∈ l) : OwnsQ w 0 N.T N.S v ps.length (N.heads ps) :=
  hS.holds (.row N.T N.S v ps.length (N.heads ps)) (h _ (by unfold Nest.own; exact List.mem_cons_self))
/-- Where the slices of what is owned lie. -/
theorem own_slices {α : Type} {N : Nest α} {W w : World} {B : Nat} {l : List Rs} (hS : SL W B l w) {v : Value} {ps : List (α × Value)} (h : ∀ r ∈ N.own v ps, r ∈ l) :
    ∃ sa : Nat → SlA, ∀ i (hi : i < ps.length), ps[i].2 = .slice (sa i).A (N.len ps[i].1) (sa i).c ∧ N.len ps[i].1 ≤ (sa i).c ∧ Reads w w.heap.size N.s (sa i).A (N.len ps[i].1) (N.cells ps[i].1) := by
  have key : ∀ i, ∃ sa : SlA, ∀ hi : i < ps.length, ps[i].2 = .slice sa.A (N.len ps[i].1) sa.c ∧ N.len ps[i].1 ≤ sa.c ∧ Reads w w.heap.size N.s sa.A (N.len ps[i].1) (N.cells ps[i].1) := fun i => by
    by_cases hi : i < ps.length
    · have hr : OwnsQ w 0 N.t N.s ps[i].2 (N.len ps[i].1) (N.cells ps[i].1) := hS.holds (N.inner ps[i]) (h _ (by unfold Nest.own; exact List.mem_cons_of_mem _ (List.mem_map_of_mem (List.getElem_mem hi))))
      obtain ⟨A, c, e, hc, _⟩ := hr.slice_
      rw [e] at hr
      exact ⟨⟨A, c⟩, fun _ => ⟨e, hc, hr.reads⟩⟩
    · exact ⟨⟨none, 0⟩, fun hi' => absurd hi' hi⟩
  exact ⟨fun i => (key i).choose, fun i hi => (key i).choose_spec hi⟩
theorem range_zip {α : Type} (f : α → List Value) (g : Nat → List Value) (l : List α) (h : ∀ i (hi : i < l.length), g i = f l[i]) : (List.range l.length).flatMap g = l.flatMap f := by
  have e : l = (List.range l.length).pmap (fun i (hi : i < l.length) => l[i]) (fun i hi => by simpa using hi) := by
    apply List.ext_getElem
    · simp
    · intro i h1 h2; simp
  have : ∀ (r : List Nat) (hr : ∀ i ∈ r, i < l.length), r.flatMap g = (r.pmap (fun i (hi : i < l.length) => l[i]) hr).flatMap f := by
    intro r
    induction r with
    | nil => intro _; rfl
    | cons i r ih =>
      intro hr
      rw [List.flatMap_cons, List.pmap_cons, List.flatMap_cons, ih (fun j hj => hr j (by simp [hj])), h i (hr i (by simp))]
  rw [this _ (fun i hi => by simpa using hi), ← e]
theorem bikes_own {W w : World} {B : Nat} {l : List Rs} (hS : SL W B l w) {T t : TypeId} {A : Option Addr} {c : Nat} {ps : List (BikeV × Value)} (h : ∀ r ∈ (bikeN T t).own (.slice A ps.length c) ps, r ∈ l) : Bikes w w.heap.size A (ps.map (·.1)) := by
  obtain ⟨sa, hsa⟩ := own_slices hS h
  have h0 : OwnsQ w 0 T 2 (.slice A ps.length c) ps.length ((bikeN T t).heads ps) := own_outer hS h
  refine ⟨sa, ?_, fun i hi => ?_⟩
  · have e : (List.range (ps.map (·.1)).length).flatMap (fun i => bikeHd ((ps.map (·.1)).getD i noBike) (sa i)) = (bikeN T t).heads ps := by
      rw [List.length_map]
      refine range_zip (bikeN T t).head _ ps fun i hi => ?_
      have := (hsa i hi).1
      simp only [Nest.head, bikeHd, bikeN] at this ⊢
      rw [this]
      simp [hi]
    rw [e, List.length_map]
    exact h0.reads
  · have hi' : i < ps.length := by simpa using hi
    have := (hsa i hi').2.2
    simpa [IntsAt, bikeN, hi'] using this
theorem trucks_own {W w : World} {B : Nat} {l : List Rs} (hS : SL W B l w) {T t : TypeId} {A : Option Addr} {c : Nat} {ps : List (List StopV × Value)} (h : ∀ r ∈ (truckN T t).own (.slice A ps.length c) ps, r ∈ l) : TrucksC w w.heap.size A (ps.map (·.1)) := by
  obtain ⟨sa, hsa⟩ := own_slices hS h
  have h0 : OwnsQ w 0 T 1 (.slice A ps.length c) ps.length ((truckN T t).heads ps) := own_outer hS h
  refine ⟨sa, ?_, fun i hi => ?_⟩
  · have e : (List.range (ps.map (·.1)).length).map (fun i => truckHd ((ps.map (·.1)).getD i []) (sa i)) = (truckN T t).heads ps := by
      rw [List.length_map]
      have := range_zip (truckN T t).head (fun i => [truckHd ((ps.map (·.1)).getD i []) (sa i)]) ps fun i hi => by
        have := (hsa i hi).1
        simp only [Nest.head, truckHd, truckN] at this ⊢
        rw [this]
        simp [hi]
      unfold Nest.heads
      rw [← this, List.map_eq_flatMap]
    rw [e, List.length_map]
    exact h0.reads
  · have hi' : i < ps.length := by simpa using hi
    have := hsa i hi'
    exact ⟨by simpa [Stops, truckN, hi'] using this.2.2, by simpa [truckN, hi'] using this.2.1⟩
/-- One element more, its slice made by itself. -/
theorem SL.nestSnoc {α : Type} {N : Nest α} {W w : World} {B : Nat} {P R : List Rs} {v : Value} {ps : List (α × Value)} {q : α × Value} (h : SL W B (N.inner q :: (P ++ (.row N.T N.S v (ps.length + 1) (N.heads ps ++ N.head q) :: (ps.map N.inner ++ R)))) w) : SL W B (P ++ (N.own v (ps ++ [q]) ++ R)) w := by
  rw [Nest.own_snoc, List.cons_append, List.append_assoc]
  refine h.perm ?_
  have e1 : (N.inner q :: (P ++ (.row N.T N.S v (ps.length + 1) (N.heads ps ++ N.head q) :: (ps.map N.inner ++ R)))).Perm (P ++ (N.inner q :: (.row N.T N.S v (ps.length + 1) (N.heads ps ++ N.head q) :: (ps.map N.inner ++ R)))) := List.perm_middle.symm
  refine e1.trans (List.Perm.append_left P ?_)
  refine (List.Perm.swap _ _ _).trans (List.Perm.cons _ ?_)
  rw [List.singleton_append]
  exact List.perm_middle.symm
end Go.Proofs.Ytjpejclfppbboaa
