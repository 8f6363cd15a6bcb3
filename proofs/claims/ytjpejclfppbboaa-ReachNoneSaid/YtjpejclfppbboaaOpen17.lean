/- Instances and plans that came in, opened. -/
import Derived.Test.YtjpejclfppbboaaNest
import Derived.Test.YtjpejclfppbboaaOpen
import Derived.Test.YtjpejclfppbboaaRows
import Derived.Deep.Matrix
namespace Go.Proofs.Ytjpejclfppbboaa
open Go.ChangeShapes Go.WideShapes Go.Deep Go.Joins Go.RowKit
set_option linter.unusedVariables false
theorem choose_fn {α : Type} [Nonempty α] (len : Nat) (P : Nat → α → Prop) (h : ∀ i, i < len → ∃ x, P i x) : ∃ f : Nat → α, ∀ i, i < len → P i (f i) := by
  have : ∀ i, ∃ x, i < len → P i x := fun i => by
    by_cases hi : i < len
    · obtain ⟨x, hx⟩ := h i hi
      exact ⟨x, fun _ => hx⟩
    · exact ⟨Classical.choice inferInstance, fun h => absurd h hi⟩
  exact ⟨fun i => (this i).choose, fun i hi => (this i).choose_spec hi⟩
theorem lt_of_cell {w : World} {a : Addr} {n : Nat} {v : Value} (h : w.cell? (a.add n) = some v) : a.block < w.heap.size := by
  have := World.block_lt_of_cell? w _ h
  rwa [block_of_add] at this
section
variable {H : Type} {enc : TypeId × Value → H} {W : World}
theorem open_one {n : Nat} {t : TypeId} {k : IntKind} (ht : Try.prog.underlying t = some (.int k)) {v : Value} {y : DataW H × List MemPlace} (h : DataW.trod enc Try.prog W 0 (fun _ => true) true n t [v] = some y) : ∃ a : Int, v = .int k a ∧ (Lit.int k a).wf = true := by
  obtain ⟨a, e, _, hw⟩ := DataW.trod_int ht h
  simp only [List.cons.injEq, and_true] at e
  exact ⟨a, e, hw⟩
/-- A row of structs, element by element. -/
theorem structs_open {α : Type} (f : α → List Value) (s : Nat) (hs : ∀ a, (f a).length = s) (hs0 : 0 < s) (P : α → Prop) {t e : TypeId} {fs : Array Field} {n : Nat} {v : Value} {y : DataW H × List MemPlace} (ht : Try.prog.underlying t = some (.slice e)) (he : Try.prog.underlying e = some (.struct fs))
    (hone : oneCellFields Try.prog fs = true) (hC : Try.prog.cellsOf e = fs.size) (hfs : fs.size = s) (h : DataW.trod enc Try.prog W 0 (fun _ => true) true n t [v] = some y)
    (hx : ∀ (c : Nat → Value) (m : Nat) (ys : List (DataW H × List MemPlace)), (∀ (j : Nat) (g : Field), fs[j]? = some g → ∃ z, ys[j]? = some z ∧ DataW.trod enc Try.prog W 0 (fun _ => true) true m g.type [c j] = some z) → ∃ x : α, P x ∧ ∀ j u, (f x)[j]? = some u → c j = u) :
    ∃ (A : Option Addr) (c : Nat) (l : List α), v = .slice A l.length c ∧ Reads W W.heap.size s A l.length (l.flatMap f) ∧ l.length ≤ maxLen ∧ ∀ x ∈ l, P x := by
  rcases open_slice_fields ht he hone hC h with ⟨hcs, _⟩ | ⟨a, len, cap, m, D, Pl, hcs, hb, hl, hm, hmm, _, hg⟩
  · simp only [List.cons.injEq, and_true] at hcs
    exact ⟨none, 0, [], hcs, ⟨by simp, fun h => absurd h (by simp)⟩, Nat.zero_le _, by simp⟩
  · simp only [List.cons.injEq, and_true] at hcs
    have hml : len ≤ m := by rw [hmm]; split <;> omega
    obtain ⟨l, hll, hr, hp⟩ := reads_flat f s hs hs0 (w := W) (a := a) (len := len) P fun i hi => by
      obtain ⟨ys, n', _, _, _, hc⟩ := hg i (by omega)
      have hc2 : ∀ j, ∃ v : Value, ∀ g, fs[j]? = some g → W.cell? (a.add (i * fs.size + j)) = some v ∧ ∃ z, ys[j]? = some z ∧ DataW.trod enc Try.prog W 0 (fun _ => true) true n' g.type [v] = some z := fun j => by
        cases hj : fs[j]? with
        | none => exact ⟨.bool false, fun g hg => by cases hg⟩
        | some g =>
          obtain ⟨v, z, h1, h2, h3⟩ := hc j g hj
          exact ⟨v, fun g' hg' => by cases hg'; exact ⟨h1, z, h2, h3⟩⟩
      obtain ⟨x, hPx, hx2⟩ := hx (fun j => (hc2 j).choose) n' ys fun j g hg => ((hc2 j).choose_spec g hg).2
      refine ⟨x, hPx, fun j u hu => ?_⟩
      have hj : j < fs.size := by have := (List.getElem?_eq_some_iff.1 hu).1; rw [hs, ← hfs] at this; exact this
      have h1 := ((hc2 j).choose_spec fs[j] (Array.getElem?_eq_getElem hj)).1
      rw [hx2 j u hu, hfs] at h1
      exact h1
    subst hll
    exact ⟨some a, cap, l, hcs, hr, by omega, hp⟩
theorem sats_open {n : Nat} {v : Value} {y : DataW H × List MemPlace} (h : DataW.trod enc Try.prog W 0 (fun _ => true) true n 35 [v] = some y) : ∃ (A : Option Addr) (c : Nat) (l : List SatV), v = .slice A l.length c ∧ Sats W W.heap.size A l ∧ l.length ≤ maxLen := by
  obtain ⟨A, c, l, e, hr, hl, _⟩ := structs_open SatV.cells 2 SatV.cells_len (by decide) (fun _ => True) Try.underlying35 Try.underlying97 (by kernel_rfl) (by kernel_rfl) rfl h (fun c m ys hc => by
    obtain ⟨z0, _, t0⟩ := hc 0 _ rfl
    obtain ⟨z1, _, t1⟩ := hc 1 _ rfl
    obtain ⟨a0, e0, _⟩ := open_one Try.underlying2 t0
    obtain ⟨a1, e1, _⟩ := open_one Try.underlying2 t1
    refine ⟨⟨a0, a1⟩, trivial, fun j u hu => ?_⟩
    match j, hu with
    | 0, hu => rw [e0]; simpa [SatV.cells] using hu
    | 1, hu => rw [e1]; simpa [SatV.cells] using hu
    | j + 2, hu => simp [SatV.cells] at hu)
  exact ⟨A, c, l, e, hr, hl⟩
theorem custs_open {n : Nat} {v : Value} {y : DataW H × List MemPlace} (h : DataW.trod enc Try.prog W 0 (fun _ => true) true n 36 [v] = some y) : ∃ (A : Option Addr) (c : Nat) (l : List CustV), v = .slice A l.length c ∧ Custs W W.heap.size A l ∧ l.length ≤ maxLen := by
  obtain ⟨A, c, l, e, hr, hl, _⟩ := structs_open CustV.cells 4 CustV.cells_len (by decide) (fun _ => True) Try.underlying36 Try.underlying73 (by kernel_rfl) (by kernel_rfl) rfl h (fun c m ys hc => by
    obtain ⟨z0, _, t0⟩ := hc 0 _ rfl
    obtain ⟨z1, _, t1⟩ := hc 1 _ rfl
    obtain ⟨z2, _, t2⟩ := hc 2 _ rfl
    obtain ⟨z3, _, t3⟩ := hc 3 _ rfl
    obtain ⟨a0, e0, _⟩ := open_one Try.underlying2 t0
    obtain ⟨a1, e1, _⟩ := open_one Try.underlying2 t1
    obtain ⟨a2, e2, _⟩ := open_one Try.underlying2 t2
    obtain ⟨a3, e3, _⟩ := open_one Try.underlying2 t3
    refine ⟨⟨a0, a1, a2, a3⟩, trivial, fun j u hu => ?_⟩
    match j, hu with
    | 0, hu => rw [e0]; simpa [CustV.cells] using hu
    | 1, hu => rw [e1]; simpa [CustV.cells] using hu
    | 2, hu => rw [e2]; simpa [CustV.cells] using hu
    | 3, hu => rw [e3]; simpa [CustV.cells] using hu
    | j + 4, hu => simp [CustV.cells] at hu)
  exact ⟨A, c, l, e, hr, hl⟩
theorem stops_open {n : Nat} {v : Value} {y : DataW H × List MemPlace} (h : DataW.trod enc Try.prog W 0 (fun _ => true) true n 47 [v] = some y) : ∃ (A : Option Addr) (c : Nat) (l : List StopV), v = .slice A l.length c ∧ Stops W W.heap.size A l ∧ l.length ≤ maxLen := by
  obtain ⟨A, c, l, e, hr, hl, _⟩ := structs_open StopV.cells 2 StopV.cells_len (by decide) (fun _ => True) Try.underlying47 Try.underlying54 (by kernel_rfl) (by kernel_rfl) rfl h (fun c m ys hc => by
    obtain ⟨z0, _, t0⟩ := hc 0 _ rfl
    obtain ⟨z1, _, t1⟩ := hc 1 _ rfl
    obtain ⟨a0, e0, _⟩ := open_one Try.underlying3 t0
    obtain ⟨a1, e1, _⟩ := open_one Try.underlying2 t1
    refine ⟨⟨a0, a1⟩, trivial, fun j u hu => ?_⟩
    match j, hu with
    | 0, hu => rw [e0]; simpa [StopV.cells] using hu
    | 1, hu => rw [e1]; simpa [StopV.cells] using hu
    | j + 2, hu => simp [StopV.cells] at hu)
  exact ⟨A, c, l, e, hr, hl⟩
theorem intsI_open {n : Nat} {v : Value} {y : DataW H × List MemPlace} (h : DataW.trod enc Try.prog W 0 (fun _ => true) true n 44 [v] = some y) : ∃ (A : Option Addr) (c : Nat) (l : List Int), v = .slice A l.length c ∧ IntsAt W W.heap.size A l ∧ l.length ≤ maxLen ∧ ∀ a ∈ l, (Lit.int .i64 a).wf = true := by
  rcases Go.ChangeShapes.open_ints Try.underlying44 Try.underlying3 (by kernel_rfl) h with ⟨hcs, _⟩ | ⟨x, len, cap, zs, hcs, _, hl, hm, hz, _, hcell, hwz⟩
  · simp only [List.cons.injEq, and_true] at hcs
    exact ⟨none, 0, [], hcs, reads_nil _ _ _, by simp [maxLen], by simp⟩
  · simp only [List.cons.injEq, and_true] at hcs
    obtain ⟨l, h1, h2, h3, h4⟩ := reads_take hl hm (by simpa using hz) hcell hwz
    subst h1
    exact ⟨some x, cap, l, hcs, h2, h3, h4⟩
theorem mat_open {n : Nat} {v : Value} {y : DataW H × List MemPlace} (h : DataW.trod enc Try.prog W 0 (fun _ => true) true n 37 [v] = some y) : ∃ (A : Option Addr) (c : Nat) (m : List (List Int)), v = .slice A m.length c ∧ Mat W W.heap.size A m ∧ m.length ≤ maxLen ∧ ∀ r ∈ m, r.length ≤ maxLen := by
  rcases open_int_rows Try.underlying37 Try.underlying51 Try.underlying2 (by kernel_rfl) (by kernel_rfl) h with ⟨hcs, _⟩ | ⟨a, len, cap, A, L, C, Z, hcs, _, hl, hm, _, hr⟩
  · simp only [List.cons.injEq, and_true] at hcs
    exact ⟨none, 0, [], hcs, ⟨[], ⟨rfl, fun h => absurd h (by simp)⟩, fun i hi => absurd hi (by simp)⟩, by simp [maxLen], by simp⟩
  · simp only [List.cons.injEq, and_true] at hcs
    refine ⟨some a, cap, (List.range len).map fun r => (Z r).take (L r), by simpa using hcs, ⟨(List.range len).map fun r => .slice (A r) (L r) (C r), ⟨by simp, fun h0 => ?_⟩, fun i hi => ?_⟩, by simp; omega, fun r hr2 => ?_⟩
    · have h0' : 0 < len := by simpa using h0
      refine ⟨a, rfl, lt_of_cell (hr 0 (by omega)).1, fun j u hu => ?_⟩
      have hj : j < len := by have := (List.getElem?_eq_some_iff.1 hu).1; simpa using this
      rw [(hr j (by omega)).1, ← hu]
      simp [hj]
    · have hi' : i < len := by simpa using hi
      obtain ⟨h1, h2, h3, h4, h5, h6, h7⟩ := hr i (by omega)
      have hle : ((Z i).take (L i)).length = L i := by rw [List.length_take]; omega
      refine ⟨A i, C i, by simp [hi', hle], ?_⟩
      simp only [List.getElem_map, List.getElem_range]
      refine ⟨by simp, fun h0 => ?_⟩
      rw [hle] at h0
      cases hA : A i with
      | none => have := h6 hA; omega
      | some a' =>
        obtain ⟨_, hc⟩ := h7 a' hA
        refine ⟨a', rfl, lt_of_cell (hc 0 (by omega)), fun j u hu => ?_⟩
        have hj : j < L i := by have := (List.getElem?_eq_some_iff.1 hu).1; rw [List.length_map, hle] at this; exact this
        rw [hc j (by omega), ← hu]
        have hjz : j < (Z i).length := by omega
        simp [hj, hjz]
    · obtain ⟨i, hi, rfl⟩ := List.mem_map.1 hr2
      have hi' : i < len := by simpa using hi
      have := hr i (by omega)
      rw [List.length_take]; omega
instance : Nonempty (List StopV × SlA) := ⟨([], ⟨none, 0⟩)⟩
instance : Nonempty (BikeV × SlA) := ⟨(⟨0, []⟩, ⟨none, 0⟩)⟩
theorem trucks_open {n : Nat} {v : Value} {y : DataW H × List MemPlace} (h : DataW.trod enc Try.prog W 0 (fun _ => true) true n 27 [v] = some y) : ∃ (A : Option Addr) (c : Nat) (l : List (List StopV)), v = .slice A l.length c ∧ Trucks W W.heap.size A l ∧ l.length ≤ maxLen ∧ ∀ t ∈ l, t.length ≤ maxLen := by
  obtain ⟨A, c, l, e, hr, hl, hp⟩ := structs_open (fun q : List StopV × SlA => [truckHd q.1 q.2]) 1 (fun _ => rfl) (by decide) (fun q => Stops W W.heap.size q.2.A q.1 ∧ q.1.length ≤ maxLen) Try.underlying27 Try.underlying49 (by kernel_rfl) (by kernel_rfl) rfl h (fun c m ys hc => by
    obtain ⟨z0, _, t0⟩ := hc 0 _ rfl
    obtain ⟨A0, c0, l0, e0, hr0, hl0⟩ := stops_open t0
    refine ⟨(l0, ⟨A0, c0⟩), ⟨hr0, hl0⟩, fun j u hu => ?_⟩
    match j, hu with
    | 0, hu => rw [e0]; simpa [truckHd] using hu
    | j + 1, hu => simp at hu)
  refine ⟨A, c, l.map (·.1), by simpa using e, ⟨fun i => (l.getD i ([], ⟨none, 0⟩)).2, ?_, fun i hi => ?_⟩, by simpa using hl, fun t ht => ?_⟩
  · have e1 : (List.range (l.map (·.1)).length).map (fun i => truckHd ((l.map (·.1)).getD i []) (l.getD i ([], ⟨none, 0⟩)).2) = l.flatMap fun q => [truckHd q.1 q.2] := by
      apply List.ext_getElem?
      intro i
      by_cases hi : i < l.length
      · have := flat_get (fun q : List StopV × SlA => [truckHd q.1 q.2]) 1 (fun _ => rfl) l i 0 hi (by decide)
        rw [Nat.mul_one, Nat.add_zero] at this
        rw [this]
        simp [hi]
      · have h1 := flat_len (fun q : List StopV × SlA => [truckHd q.1 q.2]) 1 (fun _ => rfl) l
        rw [List.getElem?_eq_none (by simp; omega), List.getElem?_eq_none (by rw [h1]; omega)]
    rw [e1, List.length_map]
    exact hr
  · have hi' : i < l.length := by simpa using hi
    have := (hp _ (List.getElem_mem hi')).1
    simpa [hi'] using this
  · obtain ⟨q, hq, rfl⟩ := List.mem_map.1 ht
    exact (hp q hq).2
theorem bikes_open {n : Nat} {v : Value} {y : DataW H × List MemPlace} (h : DataW.trod enc Try.prog W 0 (fun _ => true) true n 28 [v] = some y) : ∃ (A : Option Addr) (c : Nat) (l : List BikeV), v = .slice A l.length c ∧ Bikes W W.heap.size A l ∧ l.length ≤ maxLen ∧ ∀ b ∈ l, b.stops.length ≤ maxLen := by
  obtain ⟨A, c, l, e, hr, hl, hp⟩ := structs_open (fun q : BikeV × SlA => bikeHd q.1 q.2) 2 (fun _ => rfl) (by decide) (fun q => IntsAt W W.heap.size q.2.A q.1.stops ∧ q.1.stops.length ≤ maxLen) Try.underlying28 Try.underlying46 (by kernel_rfl) (by kernel_rfl) rfl h (fun c m ys hc => by
    obtain ⟨z0, _, t0⟩ := hc 0 _ rfl
    obtain ⟨z1, _, t1⟩ := hc 1 _ rfl
    obtain ⟨a0, e0, _⟩ := open_one Try.underlying3 t0
    obtain ⟨A1, c1, l1, e1, hr1, hl1, _⟩ := intsI_open t1
    refine ⟨(⟨a0, l1⟩, ⟨A1, c1⟩), ⟨hr1, hl1⟩, fun j u hu => ?_⟩
    match j, hu with
    | 0, hu => rw [e0]; simpa [bikeHd] using hu
    | 1, hu => rw [e1]; simpa [bikeHd] using hu
    | j + 2, hu => simp [bikeHd] at hu)
  refine ⟨A, c, l.map (·.1), by simpa using e, ⟨fun i => (l.getD i (⟨0, []⟩, ⟨none, 0⟩)).2, ?_, fun i hi => ?_⟩, by simpa using hl, fun t ht => ?_⟩
  · have e1 : (List.range (l.map (·.1)).length).flatMap (fun i => bikeHd ((l.map (·.1)).getD i noBike) (l.getD i (⟨0, []⟩, ⟨none, 0⟩)).2) = l.flatMap fun q => bikeHd q.1 q.2 := by
      rw [List.length_map]
      have : ∀ i, i < l.length → bikeHd ((l.map (·.1)).getD i noBike) (l.getD i (⟨0, []⟩, ⟨none, 0⟩)).2 = bikeHd (l.getD i (⟨0, []⟩, ⟨none, 0⟩)).1 (l.getD i (⟨0, []⟩, ⟨none, 0⟩)).2 := fun i hi => by simp [hi]
      apply List.ext_getElem?
      intro i
      have h1 := flat_len (fun q : BikeV × SlA => bikeHd q.1 q.2) 2 (fun _ => rfl) l
      have h2 := flat_len (fun i => bikeHd ((l.map (·.1)).getD i noBike) (l.getD i (⟨0, []⟩, ⟨none, 0⟩)).2) 2 (fun _ => rfl) (List.range l.length)
      rw [List.length_range] at h2
      by_cases hi : i / 2 < l.length
      · have e : i = i / 2 * 2 + i % 2 := by omega
        rw [e, flat_get _ 2 (fun _ => rfl) (List.range l.length) (i / 2) (i % 2) (by simpa using hi) (by omega), flat_get _ 2 (fun _ => rfl) l (i / 2) (i % 2) hi (by omega)]
        simp [hi]
      · rw [List.getElem?_eq_none (by rw [h2]; omega), List.getElem?_eq_none (by rw [h1]; omega)]
    rw [e1, List.length_map]
    exact hr
  · have hi' : i < l.length := by simpa using hi
    have := (hp _ (List.getElem_mem hi')).1
    simpa [hi'] using this
  · obtain ⟨q, hq, rfl⟩ := List.mem_map.1 ht
    exact (hp q hq).2
set_option maxRecDepth 100000 in
theorem plan_open {base : Nat} {v : Value} {d : DataW H} {p : List MemPlace} (o : Value.okWide Try.prog W .any base 30 v) (k : DataW.Trod enc Try.prog W 0 (fun _ => true) true 30 v d p) :
    ∃ (TA BA : Option Addr) (tc bc : Nat) (q : PlanV), v = .agg #[.slice TA q.trucks.length tc, .slice BA q.bikes.length bc] ∧ PlanIn W W.heap.size TA BA q ∧ (q.trucks.length ≤ maxLen ∧ ∀ t ∈ q.trucks, t.length ≤ maxLen) ∧ q.bikes.length ≤ maxLen ∧ ∀ b ∈ q.bikes, b.stops.length ≤ maxLen := by
  obtain ⟨v0, v1, y0, y1, n, rfl, _, _, h0, h1⟩ := open_agg2 Try.underlying30 (by kernel_rfl) (by kernel_rfl) o k
  obtain ⟨TA, tc, ts, rfl, hT, hl1, hl2⟩ := trucks_open h0
  obtain ⟨BA, bc, bs, rfl, hB, hl3, hl4⟩ := bikes_open h1
  exact ⟨TA, BA, tc, bc, ⟨ts, bs⟩, rfl, ⟨hT, hB⟩, ⟨hl1, hl2⟩, hl3, hl4⟩
theorem array9 {cs : Array Value} (h : cs.size = 9) : ∃ a b c d e f g i j, cs = #[a, b, c, d, e, f, g, i, j] := by
  obtain ⟨l⟩ := cs
  match l, h with
  | [a, b, c, d, e, f, g, i, j], _ => exact ⟨a, b, c, d, e, f, g, i, j, rfl⟩
theorem fleet_open {n : Nat} {a b : Value} {y : DataW H × List MemPlace} (h : DataW.trod enc Try.prog W 0 (fun _ => true) true n 34 [a, b] = some y) : ∃ i j : Int, a = .int .i64 i ∧ b = .int .i64 j := by
  obtain ⟨y0, y1, m, _, _, h0, h1⟩ := trod_struct2 Try.underlying34 h
  have c1 : Try.prog.cellsOf 3 = 1 := by kernel_rfl
  have c2 : Try.prog.cellsOf 2 = 1 := by kernel_rfl
  dsimp only at h0 h1
  rw [c1] at h0
  rw [c2] at h1
  obtain ⟨i, e0, _⟩ := open_one (n := m) (v := a) Try.underlying3 h0
  obtain ⟨j, e1, _⟩ := open_one (n := m) (v := b) Try.underlying2 h1
  exact ⟨i, j, e0, e1⟩
set_option maxRecDepth 100000 in
theorem inst_open {base : Nat} {v : Value} {d : DataW H} {p : List MemPlace} (o : Value.okWide Try.prog W .any base 39 v) (k : DataW.Trod enc Try.prog W 0 (fun _ => true) true 39 v d p) :
    ∃ (q : IAt) (x : InstV), v = .agg (x.cells q) ∧ InstIn W W.heap.size q x ∧ InstL x := by
  obtain ⟨cs, rfl, hsz⟩ := okWide_struct Try.underlying39 o
  obtain ⟨fuel, hf⟩ := k
  obtain ⟨c0, c1, c2, c3, c4, c5, c6, c7, c8, rfl⟩ := array9 (hsz.trans (by kernel_rfl))
  obtain ⟨ys, n', hn', hy, hlen, hyl, hg⟩ := DataW.trod_struct Try.underlying39 hf
  have hy7 : ys.length = 7 := hyl
  have e1 : Try.prog.cellsOf 2 = 1 := by kernel_rfl
  have e2 : Try.prog.cellsOf 34 = 2 := by kernel_rfl
  have e3 : Try.prog.cellsOf 35 = 1 := by kernel_rfl
  have e4 : Try.prog.cellsOf 36 = 1 := by kernel_rfl
  have e5 : Try.prog.cellsOf 37 = 1 := by kernel_rfl
  have ys_ : ∀ i (h : i < ys.length), ys[i]? = some ys[i] := fun i h => List.getElem?_eq_getElem h
  have t0 : DataW.trod enc Try.prog W 0 (fun _ => true) true n' 2 [c0] = some (ys[0]'(by omega)) := by
    have h := hg 0 _ rfl
    rw [ys_ 0 (by omega)] at h
    simpa [e1, Value.cells] using h
  have t1 : DataW.trod enc Try.prog W 0 (fun _ => true) true n' 34 [c1, c2] = some (ys[1]'(by omega)) := by
    have h := hg 1 _ rfl
    rw [ys_ 1 (by omega)] at h
    simpa [e2, Value.cells] using h
  have t2 : DataW.trod enc Try.prog W 0 (fun _ => true) true n' 34 [c3, c4] = some (ys[2]'(by omega)) := by
    have h := hg 2 _ rfl
    rw [ys_ 2 (by omega)] at h
    simpa [e2, Value.cells] using h
  have t3 : DataW.trod enc Try.prog W 0 (fun _ => true) true n' 35 [c5] = some (ys[3]'(by omega)) := by
    have h := hg 3 _ rfl
    rw [ys_ 3 (by omega)] at h
    simpa [e3, Value.cells] using h
  have t4 : DataW.trod enc Try.prog W 0 (fun _ => true) true n' 36 [c6] = some (ys[4]'(by omega)) := by
    have h := hg 4 _ rfl
    rw [ys_ 4 (by omega)] at h
    simpa [e4, Value.cells] using h
  have t5 : DataW.trod enc Try.prog W 0 (fun _ => true) true n' 37 [c7] = some (ys[5]'(by omega)) := by
    have h := hg 5 _ rfl
    rw [ys_ 5 (by omega)] at h
    simpa [e5, Value.cells] using h
  have t6 : DataW.trod enc Try.prog W 0 (fun _ => true) true n' 37 [c8] = some (ys[6]'(by omega)) := by
    have h := hg 6 _ rfl
    rw [ys_ 6 (by omega)] at h
    simpa [e5, Value.cells] using h
  obtain ⟨fin, rfl, _⟩ := open_one (n := n') (v := c0) Try.underlying2 t0
  obtain ⟨tm, tr, rfl, rfl⟩ := fleet_open (n := n') (a := c1) (b := c2) t1
  obtain ⟨bm, br, rfl, rfl⟩ := fleet_open (n := n') (a := c3) (b := c4) t2
  obtain ⟨SA, sc, ss, rfl, hS, hs1⟩ := sats_open (n := n') (v := c5) t3
  obtain ⟨CA, cc, cs, rfl, hC, hc1⟩ := custs_open (n := n') (v := c6) t4
  obtain ⟨KA, kc, ks, rfl, hK, hk1, hk2⟩ := mat_open (n := n') (v := c7) t5
  obtain ⟨TA, tc, ts, rfl, hT, ht1, ht2⟩ := mat_open (n := n') (v := c8) t6
  exact ⟨⟨SA, sc, CA, cc, KA, kc, TA, tc⟩, ⟨fin, tm, tr, bm, br, ss, cs, ks, ts⟩, rfl, ⟨hS, hC, hK, hT⟩, ⟨hs1, hc1, ⟨hk1, hk2⟩, ht1, ht2⟩⟩
end
end Go.Proofs.Ytjpejclfppbboaa
