/- A plan, opened: with the room of its rows of stops, and what its reading is made of (for its reach and its bulk). -/
import Derived.Test.YtpbhbmdghafkmaaOpen17
import Derived.Test.YtpbhbmdghafkmaaNest
import Derived.SizedLaws
namespace Go.Proofs.Ytpbhbmdghafkmaa
open Go.ChangeShapes Go.WideShapes Go.Deep Go.Joins Go.RowKit
set_option linter.unusedVariables false
def BikesC (w : World) (B : Nat) (A : Option Addr) (l : List BikeV) : Prop :=
 ∃ ps : Nat → SlA, Reads w B 2 A l.length ((List.range l.length).flatMap fun i => bikeHd (l.getD i noBike) (ps i)) ∧ ∀ i (h : i < l.length), IntsAt w B (ps i).A l[i].stops ∧ l[i].stops.length ≤ (ps i).c
theorem BikesC.plain {w : World} {B : Nat} {A : Option Addr} {l : List BikeV} (h : BikesC w B A l) : Bikes w B A l := by
 obtain ⟨ps, h1, h2⟩ := h
 exact ⟨ps, h1, fun i hi => (h2 i hi).1⟩
theorem reads_flat_i {α : Type} (f : α → List Value) (s : Nat) (hs : ∀ a, (f a).length = s) (hs0 : 0 < s) {w : World} {a : Addr} {len : Nat} (P : Nat → α → Prop) (h : ∀ i, i < len → ∃ x : α, P i x ∧ ∀ j u, (f x)[j]? = some u → w.cell? (a.add (i * s + j)) = some u) :
 ∃ l : List α, l.length = len ∧ Reads w w.heap.size s (some a) l.length (l.flatMap f) ∧ ∀ i (hi : i < l.length), P i l[i] := by
 induction len with
 | zero => exact ⟨[], rfl, ⟨by simp, fun h => absurd h (by simp)⟩, fun i hi => absurd hi (by simp)⟩
 | succ n ih =>
   obtain ⟨l, hl, hr, hp⟩ := ih fun i hi => h i (by omega)
   obtain ⟨x, hx, hc⟩ := h n (by omega)
   refine ⟨l ++ [x], by simp [hl], ⟨by rw [flat_len f s hs], fun _ => ⟨a, rfl, ?_, fun j u hu => ?_⟩⟩, ?_⟩
   · have := World.block_lt_of_cell? w _ (hc 0 _ (List.getElem?_eq_getElem (by rw [hs]; exact hs0)))
     rwa [block_of_add] at this
   · have hlen := flat_len f s hs l
     rw [flat_snoc] at hu
     by_cases hj : j < (l.flatMap f).length
     · rw [List.getElem?_append_left hj] at hu
       have h0 : 0 < l.length := by
        rcases Nat.eq_zero_or_pos l.length with h0 | h0
        · rw [hlen, h0] at hj; omega
        · exact h0
       obtain ⟨ad, e, _, hg⟩ := hr.2 h0
       injection e with e
       subst e
       exact hg j u hu
     · rw [List.getElem?_append_right (by omega)] at hu
       have := hc _ u hu
       rw [hlen, hl] at this
       rw [show n * s + (j - n * s) = j by rw [hlen, hl] at hj; omega] at this
       exact this
   · intro i hi
     by_cases h1 : i < l.length
     · rw [List.getElem_append_left h1]; exact hp i h1
     · have : i = n := by simp at hi; omega
       subst this
       rw [List.getElem_append_right (by omega)]
       simpa using hx
section
variable {H : Type} {enc : TypeId × Value → H} {W : World}
/-- A row of structs, element by element, with what each is read as. -/
theorem structs_openD {α : Type} (f : α → List Value) (s : Nat) (hs : ∀ a, (f a).length = s) (hs0 : 0 < s) (P : α → DataW H → Prop) {t e : TypeId} {fs : Array Field} {n : Nat} {v : Value} {y : DataW H × List MemPlace} (ht : Try.prog.underlying t = some (.slice e)) (he : Try.prog.underlying e = some (.struct fs))
 (hone : oneCellFields Try.prog fs = true) (hC : Try.prog.cellsOf e = fs.size) (hfs : fs.size = s) (h : DataW.trod enc Try.prog W 0 (fun _ => true) true n t [v] = some y)
 (hx : ∀ (c : Nat → Value) (m : Nat) (ys : List (DataW H × List MemPlace)), ys.length = fs.size → (∀ (j : Nat) (g : Field), fs[j]? = some g → ∃ z, ys[j]? = some z ∧ DataW.trod enc Try.prog W 0 (fun _ => true) true m g.type [c j] = some z) → ∃ x : α, P x (.agg (ys.map (·.1))) ∧ ∀ j u, (f x)[j]? = some u → c j = u) :
 ∃ (A : Option Addr) (c : Nat) (l : List α), v = .slice A l.length c ∧ Reads W W.heap.size s A l.length (l.flatMap f) ∧ (l.length ≤ c ∧ c ≤ maxLen) ∧ (l = [] ∨ ∃ es sp, y.1 = .slice es sp ∧ es.length = l.length ∧ ∀ i (hi : i < l.length), ∃ d, es[i]? = some d ∧ P l[i] d) := by
 rcases open_slice_fields ht he hone hC h with ⟨hcs, _⟩ | ⟨a, len, cap, m, D, Pl, hcs, hb, hl, hm, hmm, hy, hg⟩
 · simp only [List.cons.injEq, and_true] at hcs
   exact ⟨none, 0, [], hcs, ⟨by simp, fun h => absurd h (by simp)⟩, ⟨Nat.zero_le _, Nat.zero_le _⟩, .inl rfl⟩
 · simp only [List.cons.injEq, and_true] at hcs
   have hml : len ≤ m := by rw [hmm]; split <;> omega
   obtain ⟨l, hll, hr, hp⟩ := reads_flat_i f s hs hs0 (w := W) (a := a) (len := len) (fun i x => P x (D i)) fun i hi => by
    obtain ⟨ys, n', hD, _, hyl, hc⟩ := hg i (by omega)
    have hc2 : ∀ j, ∃ v : Value, ∀ g, fs[j]? = some g → W.cell? (a.add (i * fs.size + j)) = some v ∧ ∃ z, ys[j]? = some z ∧ DataW.trod enc Try.prog W 0 (fun _ => true) true n' g.type [v] = some z := fun j => by
     cases hj : fs[j]? with
     | none => exact ⟨.bool false, fun g hg => by cases hg⟩
     | some g =>
       obtain ⟨v, z, h1, h2, h3⟩ := hc j g hj
       exact ⟨v, fun g' hg' => by cases hg'; exact ⟨h1, z, h2, h3⟩⟩
    obtain ⟨x, hPx, hx2⟩ := hx (fun j => (hc2 j).choose) n' ys hyl fun j g hg => ((hc2 j).choose_spec g hg).2
    refine ⟨x, by rw [hD]; exact hPx, fun j u hu => ?_⟩
    have hj : j < fs.size := by have := (List.getElem?_eq_some_iff.1 hu).1; rw [hs, ← hfs] at this; exact this
    have h1 := ((hc2 j).choose_spec fs[j] (Array.getElem?_eq_getElem hj)).1
    rw [hx2 j u hu, hfs] at h1
    exact h1
   subst hll
   refine ⟨some a, cap, l, hcs, hr, ⟨by omega, by omega⟩, .inr ⟨_, _, by rw [hy], by simp, fun i hi => ⟨D i, by simp [hi], hp i hi⟩⟩⟩
/-- So many are read. -/
def RowD (d : DataW H) (n : Nat) : Prop := n = 0 ∨ ∃ es sp, d = .slice es sp ∧ es.length = n
def TrucksD (d : DataW H) (l : List (List StopV)) : Prop := l = [] ∨ ∃ es sp, d = .slice es sp ∧ es.length = l.length ∧ ∀ i (hi : i < l.length), ∃ e, es[i]? = some (.agg [e]) ∧ RowD e l[i].length
def BikesD (d : DataW H) (l : List BikeV) : Prop := l = [] ∨ ∃ es sp, d = .slice es sp ∧ es.length = l.length ∧ ∀ i (hi : i < l.length), ∃ a e, es[i]? = some (.agg [a, e]) ∧ RowD e l[i].stops.length
def StopV.wf (s : StopV) : Prop := (Lit.int .i64 s.sat).wf = true ∧ (Lit.int .i64 s.load).wf = true
def BikeV.wf (b : BikeV) : Prop := (Lit.int .i64 b.sat).wf = true ∧ ∀ c ∈ b.stops, (Lit.int .i64 c).wf = true
theorem ys_two {ys : List (DataW H × List MemPlace)} {n : Nat} (h : ys.length = n) (hn : n = 2) {z0 z1 : DataW H × List MemPlace} (h0 : ys[0]? = some z0) (h1 : ys[1]? = some z1) : ys.map (·.1) = [z0.1, z1.1] := by
 subst hn
 match ys, h, h0, h1 with
 | [a, b], _, h0, h1 => simp at h0 h1; subst h0; subst h1; rfl
theorem ys_one {ys : List (DataW H × List MemPlace)} {n : Nat} (h : ys.length = n) (hn : n = 1) {z0 : DataW H × List MemPlace} (h0 : ys[0]? = some z0) : ys.map (·.1) = [z0.1] := by
 subst hn
 match ys, h, h0 with
 | [a], _, h0 => simp at h0; subst h0; rfl
theorem stops_openD {n : Nat} {v : Value} {y : DataW H × List MemPlace} (h : DataW.trod enc Try.prog W 0 (fun _ => true) true n 86 [v] = some y) : ∃ (A : Option Addr) (c : Nat) (l : List StopV), v = .slice A l.length c ∧ Stops W W.heap.size A l ∧ (l.length ≤ c ∧ c ≤ maxLen) ∧ RowD y.1 l.length ∧ ∀ s ∈ l, s.wf := by
 obtain ⟨A, c, l, e, hr, hl, hd⟩ := structs_openD StopV.cells 2 StopV.cells_len (by decide) (fun s _ => s.wf) Try.underlying86 Try.underlying105 (by kernel_rfl) (by kernel_rfl) rfl h (fun c m ys _ hc => by
  obtain ⟨z0, _, t0⟩ := hc 0 _ rfl
  obtain ⟨z1, _, t1⟩ := hc 1 _ rfl
  obtain ⟨a0, e0, w0⟩ := open_one Try.underlying3 t0
  obtain ⟨a1, e1, w1⟩ := open_one Try.underlying2 t1
  refine ⟨⟨a0, a1⟩, ⟨w0, w1⟩, fun j u hu => ?_⟩
  match j, hu with
  | 0, hu => rw [e0]; simpa [StopV.cells] using hu
  | 1, hu => rw [e1]; simpa [StopV.cells] using hu
  | j + 2, hu => simp [StopV.cells] at hu)
 refine ⟨A, c, l, e, hr, hl, ?_, fun s hs => ?_⟩
 · rcases hd with rfl | ⟨es, sp, h1, h2, _⟩
   · exact .inl rfl
   · exact .inr ⟨es, sp, h1, h2⟩
 · rcases hd with rfl | ⟨es, sp, h1, h2, h3⟩
   · cases hs
   · obtain ⟨i, hi, rfl⟩ := List.getElem_of_mem hs
     obtain ⟨d, _, hw⟩ := h3 i hi
     exact hw
theorem ints_openD {n : Nat} {v : Value} {y : DataW H × List MemPlace} (h : DataW.trod enc Try.prog W 0 (fun _ => true) true n 42 [v] = some y) : ∃ (A : Option Addr) (c : Nat) (l : List Int), v = .slice A l.length c ∧ IntsAt W W.heap.size A l ∧ (l.length ≤ c ∧ c ≤ maxLen) ∧ RowD y.1 l.length ∧ ∀ a ∈ l, (Lit.int .i64 a).wf = true := by
 rcases Go.ChangeShapes.open_ints Try.underlying42 Try.underlying3 (by kernel_rfl) h with ⟨hcs, _⟩ | ⟨x, len, cap, zs, hcs, _, hl, hm, hz, hy, hcell, hwz⟩
 · simp only [List.cons.injEq, and_true] at hcs
   exact ⟨none, 0, [], hcs, reads_nil _ _ _, ⟨Nat.zero_le _, Nat.zero_le _⟩, .inl rfl, by simp⟩
 · simp only [List.cons.injEq, and_true] at hcs
   have hz2 : zs.length = cap := by simpa using hz
   obtain ⟨l, h1, h2, h3, h4⟩ := reads_take hl hm hz2 hcell hwz
   subst h1
   exact ⟨some x, cap, l, hcs, h2, ⟨hl, hm⟩, .inr ⟨_, _, by rw [hy], by simp [lits]; omega⟩, h4⟩
theorem trucks_openD {n : Nat} {v : Value} {y : DataW H × List MemPlace} (h : DataW.trod enc Try.prog W 0 (fun _ => true) true n 37 [v] = some y) : ∃ (A : Option Addr) (c : Nat) (l : List (List StopV)), v = .slice A l.length c ∧ TrucksC W W.heap.size A l ∧ l.length ≤ maxLen ∧ (∀ t ∈ l, t.length ≤ maxLen) ∧ TrucksD y.1 l ∧ ∀ t ∈ l, ∀ s ∈ t, s.wf := by
 obtain ⟨A, c, l, e, hr, hl, hp⟩ := structs_openD (fun q : List StopV × SlA => [truckHd q.1 q.2]) 1 (fun _ => rfl) (by decide) (fun q d => (Stops W W.heap.size q.2.A q.1 ∧ q.1.length ≤ q.2.c ∧ q.2.c ≤ maxLen) ∧ (∃ e, d = .agg [e] ∧ RowD e q.1.length) ∧ ∀ s ∈ q.1, s.wf) Try.underlying37 Try.underlying88 (by kernel_rfl) (by kernel_rfl) rfl h (fun c m ys hyl hc => by
  obtain ⟨z0, hz0, t0⟩ := hc 0 _ rfl
  obtain ⟨A0, c0, l0, e0, hr0, hl0, hd0, hw0⟩ := stops_openD t0
  refine ⟨(l0, ⟨A0, c0⟩), ⟨⟨hr0, hl0⟩, ⟨z0.1, by rw [ys_one hyl rfl hz0], hd0⟩, hw0⟩, fun j u hu => ?_⟩
  match j, hu with
  | 0, hu => rw [e0]; simpa [truckHd] using hu
  | j + 1, hu => simp at hu)
 have hp2 : ∀ q ∈ l, (Stops W W.heap.size q.2.A q.1 ∧ q.1.length ≤ q.2.c ∧ q.2.c ≤ maxLen) ∧ ∀ s ∈ q.1, s.wf := fun q hq => by
  rcases hp with rfl | ⟨es, sp, h1, h2, h3⟩
  · cases hq
  · obtain ⟨i, hi, rfl⟩ := List.getElem_of_mem hq
    obtain ⟨d, _, hw⟩ := h3 i hi
    exact ⟨hw.1, hw.2.2⟩
 refine ⟨A, c, l.map (·.1), by simpa using e, ⟨fun i => (l.getD i ([], ⟨none, 0⟩)).2, ?_, fun i hi => ?_⟩, by simp; omega, fun t ht => ?_, ?_, fun t ht => ?_⟩
 · have e1 : (List.range (l.map (·.1)).length).map (fun i => truckHd ((l.map (·.1)).getD i []) (l.getD i ([], ⟨none, 0⟩)).2) = l.flatMap fun q => [truckHd q.1 q.2] := by
    apply List.ext_getElem?
    intro i
    by_cases hi : i < l.length
    · have := flat_get (fun q : List StopV × SlA => [truckHd q.1 q.2]) 1 (fun _ => rfl) l i 0 hi (by decide)
      rw [Nat.mul_one, Nat.add_zero] at this
      rw [this]
      simp [hi]
    · have h1 := flat_len (fun q : List StopV × SlA => [truckHd q.1 q.2]) 1 (fun _ => rfl) l
      rw [List.getElem?_eq_none (by simp; omega), List.getElem?_eq_none (by rw [h1]; omega)]
   rw [e1, List.length_map]
   exact hr
 · have hi' : i < l.length := by simpa using hi
   have := (hp2 _ (List.getElem_mem hi')).1
   exact ⟨by simpa [hi'] using this.1, by simpa [hi'] using this.2.1⟩
 · obtain ⟨q, hq, rfl⟩ := List.mem_map.1 ht
   have := (hp2 q hq).1.2
   omega
 · rcases hp with rfl | ⟨es, sp, h1, h2, h3⟩
   · exact .inl rfl
   · refine .inr ⟨es, sp, h1, by simpa using h2, fun i hi => ?_⟩
     have hi' : i < l.length := by simpa using hi
     obtain ⟨d, hd, _, ⟨e, he, hr⟩, _⟩ := h3 i hi'
     exact ⟨e, by rw [hd, he], by simpa using hr⟩
 · obtain ⟨q, hq, rfl⟩ := List.mem_map.1 ht
   exact (hp2 q hq).2
theorem bikes_openD {n : Nat} {v : Value} {y : DataW H × List MemPlace} (h : DataW.trod enc Try.prog W 0 (fun _ => true) true n 27 [v] = some y) : ∃ (A : Option Addr) (c : Nat) (l : List BikeV), v = .slice A l.length c ∧ BikesC W W.heap.size A l ∧ l.length ≤ maxLen ∧ (∀ b ∈ l, b.stops.length ≤ maxLen) ∧ BikesD y.1 l ∧ ∀ b ∈ l, b.wf := by
 obtain ⟨A, c, l, e, hr, hl, hp⟩ := structs_openD (fun q : BikeV × SlA => bikeHd q.1 q.2) 2 (fun _ => rfl) (by decide) (fun q d => (IntsAt W W.heap.size q.2.A q.1.stops ∧ q.1.stops.length ≤ q.2.c ∧ q.2.c ≤ maxLen) ∧ (∃ a e, d = .agg [a, e] ∧ RowD e q.1.stops.length) ∧ q.1.wf) Try.underlying27 Try.underlying44 (by kernel_rfl) (by kernel_rfl) rfl h (fun c m ys hyl hc => by
  obtain ⟨z0, hz0, t0⟩ := hc 0 _ rfl
  obtain ⟨z1, hz1, t1⟩ := hc 1 _ rfl
  obtain ⟨a0, e0, w0⟩ := open_one Try.underlying3 t0
  obtain ⟨A1, c1, l1, e1, hr1, hl1, hd1, hw1⟩ := ints_openD t1
  refine ⟨(⟨a0, l1⟩, ⟨A1, c1⟩), ⟨⟨hr1, hl1⟩, ⟨z0.1, z1.1, by rw [ys_two hyl rfl hz0 hz1], hd1⟩, w0, hw1⟩, fun j u hu => ?_⟩
  match j, hu with
  | 0, hu => rw [e0]; simpa [bikeHd] using hu
  | 1, hu => rw [e1]; simpa [bikeHd] using hu
  | j + 2, hu => simp [bikeHd] at hu)
 have hp2 : ∀ q ∈ l, (IntsAt W W.heap.size q.2.A q.1.stops ∧ q.1.stops.length ≤ q.2.c ∧ q.2.c ≤ maxLen) ∧ q.1.wf := fun q hq => by
  rcases hp with rfl | ⟨es, sp, h1, h2, h3⟩
  · cases hq
  · obtain ⟨i, hi, rfl⟩ := List.getElem_of_mem hq
    obtain ⟨d, _, hw⟩ := h3 i hi
    exact ⟨hw.1, hw.2.2⟩
 refine ⟨A, c, l.map (·.1), by simpa using e, ⟨fun i => (l.getD i (⟨0, []⟩, ⟨none, 0⟩)).2, ?_, fun i hi => ?_⟩, by simp; omega, fun t ht => ?_, ?_, fun t ht => ?_⟩
 · have e1 : (List.range (l.map (·.1)).length).flatMap (fun i => bikeHd ((l.map (·.1)).getD i noBike) (l.getD i (⟨0, []⟩, ⟨none, 0⟩)).2) = l.flatMap fun q => bikeHd q.1 q.2 := by
    rw [List.length_map]
    have : ∀ i, i < l.length → bikeHd ((l.map (·.1)).getD i noBike) (l.getD i (⟨0, []⟩, ⟨none, 0⟩)).2 = bikeHd (l.getD i (⟨0, []⟩, ⟨none, 0⟩)).1 (l.getD i (⟨0, []⟩, ⟨none, 0⟩)).2 := fun i hi => by simp [hi]
    apply List.ext_getElem?
    intro i
    have h1 := flat_len (fun q : BikeV × SlA => bikeHd q.1 q.2) 2 (fun _ => rfl) l
    have h2 := flat_len (fun i => bikeHd ((l.map (·.1)).getD i noBike) (l.getD i (⟨0, []⟩, ⟨none, 0⟩)).2) 2 (fun _ => rfl) (List.range l.length)
    rw [List.length_range] at h2
    by_cases hi : i / 2 < l.length
    · have e : i = i / 2 * 2 + i % 2 := by omega
      rw [e, flat_get _ 2 (fun _ => rfl) (List.range l.length) (i / 2) (i % 2) (by simpa using hi) (by omega), flat_get _ 2 (fun _ => rfl) l (i / 2) (i % 2) hi (by omega)]
      simp [hi]
    · rw [List.getElem?_eq_none (by rw [h2]; omega), List.getElem?_eq_none (by rw [h1]; omega)]
   rw [e1, List.length_map]
   exact hr
 · have hi' : i < l.length := by simpa using hi
   have := (hp2 _ (List.getElem_mem hi')).1
   exact ⟨by simpa [hi'] using this.1, by simpa [hi'] using this.2.1⟩
 · obtain ⟨q, hq, rfl⟩ := List.mem_map.1 ht
   have := (hp2 q hq).1.2
   omega
 · rcases hp with rfl | ⟨es, sp, h1, h2, h3⟩
   · exact .inl rfl
   · refine .inr ⟨es, sp, h1, by simpa using h2, fun i hi => ?_⟩
     have hi' : i < l.length := by simpa using hi
     obtain ⟨d, hd, _, ⟨a, e, he, hr⟩, _⟩ := h3 i hi'
     exact ⟨a, e, by rw [hd, he], by simpa using hr⟩
 · obtain ⟨q, hq, rfl⟩ := List.mem_map.1 ht
   exact (hp2 q hq).2
structure PlanD (d : DataW H) (q : PlanV) : Prop where
 ex : ∃ dt db, d = .agg [dt, db] ∧ TrucksD dt q.trucks ∧ BikesD db q.bikes
set_option maxRecDepth 100000 in
theorem plan_openD {base : Nat} {v : Value} {d : DataW H} {p : List MemPlace} (o : Value.okWide Try.prog W .any base 39 v) (k : DataW.Trod enc Try.prog W 0 (fun _ => true) true 39 v d p) :
 ∃ (TA BA : Option Addr) (tc bc : Nat) (q : PlanV), v = .agg #[.slice TA q.trucks.length tc, .slice BA q.bikes.length bc] ∧ TrucksC W W.heap.size TA q.trucks ∧ BikesC W W.heap.size BA q.bikes ∧ (q.trucks.length ≤ maxLen ∧ ∀ t ∈ q.trucks, t.length ≤ maxLen) ∧ (q.bikes.length ≤ maxLen ∧ ∀ b ∈ q.bikes, b.stops.length ≤ maxLen) ∧ PlanD d q ∧ (∀ t ∈ q.trucks, ∀ s ∈ t, s.wf) ∧ ∀ b ∈ q.bikes, b.wf := by
 obtain ⟨v0, v1, y0, y1, n, rfl, hd, _, h0, h1⟩ := open_agg2 Try.underlying39 (by kernel_rfl) (by kernel_rfl) o k
 obtain ⟨TA, tc, ts, rfl, hT, hl1, hl2, hd1, hw1⟩ := trucks_openD h0
 obtain ⟨BA, bc, bs, rfl, hB, hl3, hl4, hd2, hw2⟩ := bikes_openD h1
 exact ⟨TA, BA, tc, bc, ⟨ts, bs⟩, rfl, hT, hB, ⟨hl1, hl2⟩, ⟨hl3, hl4⟩, ⟨⟨y0.1, y1.1, hd, hd1, hd2⟩⟩, hw1, hw2⟩
/-! its reach -/
end
end Go.Proofs.Ytpbhbmdghafkmaa
