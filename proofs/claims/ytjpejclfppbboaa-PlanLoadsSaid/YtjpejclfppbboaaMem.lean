/- Memory: slices that read as lists, blocks known whole, stores that leave the rest as it was. No program in sight. -/
import Derived.WalkKit
import Derived.ProofKit
import Derived.OpenShut
import Derived.Lib.Hide
import Derived.Laws.Rows
import Derived.Great.BuildSlice
import Derived.Deep.Draws
import Derived.Deep.AppendLies
import Derived.Deep.MidRow
import Derived.OwnWalk
import Derived.Laws.OwnMore
import Derived.Carry
namespace Go.Proofs.Ytjpejclfppbboaa
open Go.ChangeShapes Go.WideShapes Go.ChangeAt Go.RowKit
set_option linter.unusedVariables false

theorem block_of_add (a : Addr) (n : Nat) : (a.add n).block = a.block := by unfold Addr.add; split <;> rfl
theorem add_of_add (a : Addr) (i j : Nat) : (a.add i).add j = a.add (i + j) := by
  unfold Addr.add
  by_cases hi : i = 0 <;> by_cases hj : j = 0 <;> simp [hi, hj, Nat.add_assoc]
def Reads (w : World) (B size : Nat) (A : Option Addr) (n : Nat) (xs : List Value) : Prop :=
  xs.length = n * size ∧ (0 < n → ∃ ad, A = some ad ∧ ad.block < B ∧ ∀ j u, xs[j]? = some u → w.cell? (ad.add j) = some u)
theorem Reads.at_ {w : World} {B n : Nat} {A : Option Addr} {xs : List Value} {k : Nat} (h : Reads w B 1 A n xs) (hk : k < n) : ∃ ad u, A = some ad ∧ ad.block < B ∧ xs[k]? = some u ∧ w.cell? (ad.add k) = some u := by
  obtain ⟨ad, e, hb, hc⟩ := h.2 (by omega)
  have hl : k < xs.length := by have := h.1; omega
  exact ⟨ad, xs[k], e, hb, List.getElem?_eq_getElem hl, hc k _ (List.getElem?_eq_getElem hl)⟩
theorem Reads.keep {w w' : World} {B size n : Nat} {A : Option Addr} {xs : List Value} (h : Reads w B size A n xs) (hk : ∀ p : Addr, p.block < B → w'.cell? p = w.cell? p) : Reads w' B size A n xs :=
  ⟨h.1, fun hn => by
    obtain ⟨ad, e, hb, hc⟩ := h.2 hn
    exact ⟨ad, e, hb, fun j u hu => (hk _ (by rw [block_of_add]; exact hb)).trans (hc j u hu)⟩⟩
theorem Reads.below {w w' : World} {B size n : Nat} {A : Option Addr} {xs : List Value} (h : Reads w B size A n xs) (hb : Below B w w') : Reads w' B size A n xs := h.keep fun _ hp => hb.cell hp

/-- The first cell that is read tells: the address is a plain one. -/
theorem reads_plain {w : World} {B size n : Nat} {A : Option Addr} {xs : List Value} (h : Reads w B size A n xs) (hn : 0 < n) (hs : 0 < size) : ∃ b o, A = some ⟨b, o, none⟩ ∧ b < B ∧ ∀ j u, xs[j]? = some u → w.cell? ⟨b, o + j, none⟩ = some u := by
  obtain ⟨ad, e, hb, hc⟩ := h.2 hn
  have hl : 0 < xs.length := by rw [h.1]; exact Nat.mul_pos hn hs
  have h0 := hc 0 xs[0] (List.getElem?_eq_getElem hl)
  obtain ⟨b, o, s⟩ := ad
  have hs' : s = none := by
    cases s with
    | none => rfl
    | some z =>
      unfold World.cell? Addr.add at h0
      simp at h0
      split at h0 <;> simp_all
  subst hs'
  exact ⟨b, o, e, hb, fun j u hu => by rw [← Addr.add_mid]; exact hc j u hu⟩
theorem reads_more {w : World} {B B' size n : Nat} {A : Option Addr} {xs : List Value} (h : Reads w B size A n xs) (hB : B ≤ B') : Reads w B' size A n xs :=
  ⟨h.1, fun hn => by obtain ⟨ad, e, hb, hc⟩ := h.2 hn; exact ⟨ad, e, by omega, hc⟩⟩
theorem reads_nil (w : World) (B : Nat) (k : IntKind) : Reads w B 1 none ([] : List Int).length (([] : List Int).map (.int k)) := ⟨rfl, fun h => absurd h (by simp)⟩
/-- A row of numbers that came in, its first len places. -/
theorem reads_take {w : World} {x : Addr} {len cap : Nat} {zs : List Int} {k : IntKind} (hl : len ≤ cap) (hm : cap ≤ maxLen) (hz : zs.length = cap) (hc : ∀ i, i < zs.length → w.cell? (x.add i) = some (.int k (zs.getD i 0)))
    (hw : ∀ n ∈ zs, (Lit.int k n).wf = true) : ∃ l : List Int, l.length = len ∧ Reads w w.heap.size 1 (some x) l.length (l.map (.int k)) ∧ l.length ≤ maxLen ∧ ∀ n ∈ l, (Lit.int k n).wf = true := by
  refine ⟨zs.take len, by simp; omega, ⟨by simp, fun h => ⟨x, rfl, ?_, fun j u hu => ?_⟩⟩, by simp; omega, fun n hn => hw n (List.mem_of_mem_take hn)⟩
  · have h0 : 0 < zs.length := by simp at h; omega
    have := World.block_lt_of_cell? w _ (hc 0 h0)
    rwa [block_of_add] at this
  · rw [List.getElem?_map, List.getElem?_take] at hu
    by_cases hj : j < len
    · rw [if_pos hj] at hu
      have hjz : j < zs.length := by omega
      rw [hc j hjz, ← hu]
      simp [hjz]
    · rw [if_neg hj] at hu; simp at hu
theorem retInt {k : IntKind} {a b : Int} (h : a = b) : Ending.returned (.int k a) = .returned (.int k b) := by rw [h]
theorem retBool {a b : Bool} (h : a = b) : Ending.returned (.bool a) = .returned (.bool b) := by rw [h]
theorem below_setRow {B : Nat} {a w : World} (h : Below B a w) {g : Nat} (hp : B ≤ g) (cs : Array Value) : Below B a (w.setRow g cs) :=
  h.trans ⟨rfl, rfl, rfl, by simp, fun k hk => setRow_other w g k cs (by omega)⟩
theorem retArr {fn : Func} {R : Ending → World → Prop} {P : Program} {p : Tmp} {ty : TypeId} (h : fn.results = #[.cell p ty]) (tmps : Array Value) (w : World) (g : Nat) (t : TypeId) (cs : Array Value) (d : TypeDesc)
    (hp : tmps.getD p undef = .pointer (some ⟨g, 0, none⟩)) (hg : w.heap[g]? = some (.cells cs t (0,0)))
    (hu : P.underlying ty = some d) (hd : (match d with | .struct _ | .array _ _ => true | _ => false) = true) (hi : (P.info? ty).map (·.size) = some cs.size)
    (hR : R (.returned (.agg cs)) w) : bodyPost P fn R .ret ⟨tmps, []⟩ w :=
  bodyPost_ret (results_cell_row h tmps w g t cs (0,0) d hp hg hu hd hi) rfl hR
/-- w' is w but for block g. -/
structure Only (g : Nat) (w w' : World) : Prop where
  os : w'.os = w.os
  tape : w'.tape = w.tape
  output : w'.output = w.output
  size : w'.heap.size = w.heap.size
  block : ∀ k, k ≠ g → w'.heap[k]? = w.heap[k]?
theorem Only.below {g B : Nat} {w w' : World} (h : Only g w w') (hB : B ≤ g) : Below B w w' :=
  ⟨h.os, h.tape, h.output, by have := h.size; omega, fun k hk => h.block k (by omega)⟩
theorem only_setRow (w : World) (g : Nat) (cs : Array Value) : Only g w (w.setRow g cs) :=
  ⟨rfl, rfl, rfl, by simp, fun k hk => setRow_other w g k cs hk⟩
theorem only_setCell (w : World) (g i : Nat) (v : Value) : Only g w (w.setCell ⟨g, i, none⟩ v) :=
  ⟨rfl, rfl, rfl, by simp [World.setCell], fun k hk => Below.heap_setCell _ _ _ _ hk⟩
/-- A whole row goes into a block of its size: of the world behind, that block is known, and that all else is as it was. -/
theorem wpList_store_abs {P : Program} {ops : Array Oper} {rest : List Oper} {o : Oper} {a : Act} {w : World} {Q : Exit → Act → World → Prop} (hgd : o.guard = none) (ty : TypeId) (x y : Operand) (ho : o.op = .store ty x y)
    (hd : o.dst = none) (g : Nat) (cells : Array Value) (hx : a.eval x = .pointer (some ⟨g, 0, none⟩)) (hy : a.eval y = .agg cells)
    (t : TypeId) (old : Array Value) (hg : w.heap[g]? = some (.cells old t (0, 0))) (hi : (P.info? ty).map (·.size) = some cells.size)
    (hold : old.size = cells.size) (h1 : cells.all (·.oneCell') = true)
    (h : ∀ w', Only g w w' → w'.heap[g]? = some (.cells cells t (0, 0)) → wpList P ops Q rest a w') : wpList P ops Q (o :: rest) a w :=
  wpList_store_rowTo hgd ty x y ho hd g cells hx hy t old hg hi hold h1 (h _ (only_setRow w g cells) (setRow_heap _ _ _ _ _ _ hg))
/-- A block that is there, as a range. -/
theorem range_of_block {w : World} {g : Nat} {cs : Array Value} {t : TypeId} {fr : Nat × Nat} (hg : w.heap[g]? = some (.cells cs t fr)) : w.rangeAt g 0 cs.toList := fun j v hv => by
  rw [cell_of_row _ _ _ _ _ _ hg]; simpa using hv
theorem ownsRow_mono {w : World} {b b' : Nat} {e : TypeId} {s n : Nat} {v : Value} {xs : List Value} (h : w.ownsRow b e s v n xs) (hb : b' ≤ b) : w.ownsRow b' e s v n xs := by
  obtain ⟨h1, h2⟩ := h
  refine ⟨h1, ?_⟩
  rcases h2 with h2 | ⟨g, cap, cur, hv, hg, r⟩
  · exact .inl h2
  · exact .inr ⟨g, cap, cur, hv, by omega, r⟩
theorem ownsRow_below {w w' : World} {b B : Nat} {e : TypeId} {s n : Nat} {v : Value} {xs : List Value} (h : w.ownsRow b e s v n xs) (hb : Below B w w') (hB : w.heap.size ≤ B) : w'.ownsRow b e s v n xs := by
  obtain ⟨h1, h2⟩ := h
  refine ⟨h1, ?_⟩
  rcases h2 with h2 | ⟨g, cap, cur, hv, hg, hh, r⟩
  · exact .inl h2
  · have hl : g < w.heap.size := by
      rcases Nat.lt_or_ge g w.heap.size with hlt | hge
      · exact hlt
      · rw [Array.getElem?_eq_none hge] at hh; cases hh
    exact .inr ⟨g, cap, cur, hv, hg, (hb.block g (by omega)).trans hh, r⟩
/-- 'out = append(out, x)': the one new element has just been laid in a block of its own; the row is the call's own (or nil). -/
theorem wpList_append_new {P : Program} {ops : Array Oper} {rest : List Oper} {o : Oper} {a : Act} {w0 : World} {Q : Exit → Act → World → Prop} {cs : Array Value} {e : TypeId} (hgd : o.guard = none) (s x : Operand) (t : TypeId)
    (ho : o.op = .call { callee := .builtin .append, args := #[s, x], argTypes := #[t, t] })
    (base : Nat) (i : TypeInfo) (z : Value) (size bytes : Nat) (ht : P.underlying t = some (.slice e)) (hi : P.info? e = some i) (hz : i.zero = some z)
    (hsize : i.size = size) (hby : i.bytes = bytes) (hzs : z.cells.size = size) (hsz : 0 < size)
    (v : Value) (n : Nat) (xs : List Value) (hs : a.eval s = v) (hown : w0.ownsRow base e size v n xs)
    (G : Nat) (hx : a.eval x = .slice (some ⟨G, 0, none⟩) 1 1) (hG : w0.heap.size = G) (hcs : cs.size = size) (h1 : ∀ u ∈ cs.toList, u.oneCell' = true)
    (hn : n + 1 ≤ 1000000000) (hb1 : bytes ≤ 1024) (hbase : base ≤ w0.heap.size)
    (h : ∀ v' w', w'.ownsRow base e size v' (n + 1) (xs ++ cs.toList) → Below base w0 w' → w0.heap.size < w'.heap.size → wpList P ops Q rest (a.put o.dst v') w') : wpList P ops Q (o :: rest) a (w0.alloc (.cells cs e)) := by
  subst hG
  have hs1 : (w0.alloc (.cells cs e)).heap.size = w0.heap.size + 1 := by simp
  refine wpList_append_own _ hgd s x t ho base e i z size bytes ht hi hz hsize hby hzs hsz v n xs hs (hown.alloc _) ⟨w0.heap.size, 0, none⟩ 1 1 cs.toList hx (by simpa using hcs) ?_ h1 ?_ ?_ (by rw [hs1]; omega) ?_
  · intro j u hu
    rw [Addr.add_mid, Nat.zero_add, cell_of_row _ _ _ _ _ _ (heap_alloc_new w0 _)]
    simpa using hu
  · unfold maxLen; omega
  · calc (n + 1) * bytes ≤ 1000000000 * 1024 := Nat.mul_le_mul hn hb1
      _ ≤ 140737488355328 := by omega
  · intro v' w' ho' hg _
    refine h v' w' ho' ?_ (by have := hg.size; rw [hs1] at this; omega)
    refine ((Below.refl base w0).alloc hbase _).trans ((Below.refl _ _).grown hg (by rw [hs1]; omega) ?_)
    intro k hk
    exact (hown.lt k hk).1
/-- What the call made, read as a list. -/
theorem reads_own {w : World} {base : Nat} {e : TypeId} {size n c : Nat} {A : Option Addr} {xs : List Value} (h : w.ownsRow base e size (.slice A n c) n xs) : Reads w w.heap.size size A n xs := by
  refine ⟨h.1, fun hn => ?_⟩
  rcases h.2 with ⟨hv, h0⟩ | ⟨g, cap, cur, hv, hg, hh, hnc, hcm, hcs, ht⟩
  · omega
  · injection hv with hA
    subst hA
    refine ⟨_, rfl, ?_, fun j u hu => ?_⟩
    · show g < w.heap.size
      rcases Nat.lt_or_ge g w.heap.size with hlt | hge
      · exact hlt
      · rw [Array.getElem?_eq_none hge] at hh; cases hh
    · rw [Addr.add_mid, Nat.zero_add, cell_of_row _ _ _ _ _ _ hh]
      rw [← ht, List.getElem?_take] at hu
      split at hu
      · simpa using hu
      · cases hu
theorem ownsRow_slice {w : World} {base : Nat} {e : TypeId} {size n : Nat} {v : Value} {xs : List Value} (h : w.ownsRow base e size v n xs) : ∃ A c, v = .slice A n c ∧ n ≤ c := by
  rcases h.2 with ⟨rfl, rfl⟩ | ⟨g, cap, cur, rfl, _, _, hnc, _⟩
  · exact ⟨_, _, rfl, Nat.le_refl _⟩
  · exact ⟨_, _, rfl, hnc⟩
/-! rows of booleans and other one-cell values -/
def barr (f : Nat → Bool) (n : Nat) : Array Value := Array.ofFn (n := n) fun i => Value.bool (f i.val)
theorem barr_size (f : Nat → Bool) (n : Nat) : (barr f n).size = n := by simp [barr]
theorem barr_get (f : Nat → Bool) (n i : Nat) (h : i < n) : (barr f n)[i]? = some (Value.bool (f i)) := by simp [barr, h]
theorem barr_ext {f g : Nat → Bool} {n : Nat} (h : ∀ i, i < n → f i = g i) : barr f n = barr g n := by
  unfold barr; congr 1; funext i; rw [h i.val i.isLt]
theorem barr_set (f : Nat → Bool) (n k : Nat) (b : Bool) : (barr f n).setIfInBounds k (.bool b) = barr (fun i => if i = k then b else f i) n := by
  apply Array.ext_getElem?
  intro i
  by_cases hi : i < n
  · rw [Array.getElem?_setIfInBounds, barr_get _ _ _ hi, barr_get _ _ _ hi, barr_size]
    by_cases hk : k = i
    · subst hk; simp [hi]
    · rw [if_neg hk, if_neg (Ne.symm hk)]
  · rw [Array.getElem?_eq_none (by simp [barr_size]; omega), Array.getElem?_eq_none (by simp [barr_size]; omega)]
theorem barr_rep (n : Nat) : barr (fun _ => false) n = Array.replicate n (.bool false) := by
  unfold barr; apply Array.ext <;> simp
theorem madeCells_one (z : Value) (n : Nat) (hz : z.cells = #[z]) : madeCells z.cells n = Array.replicate n z := by
  rw [hz]
  unfold madeCells
  apply Array.ext <;> simp [Nat.mod_one]
/-- 'make([]T, n)' at one-cell values: the block is known whole. -/
theorem wpList_make_rep {P : Program} (w : World) {ops : Array Oper} {rest : List Oper} {o : Oper} {a : Act} {Q : Exit → Act → World → Prop}
    (hg : o.guard = none) (l c : Operand) (t : TypeId) (hop : o.op = Op.makeSlice t l c)
    (e : TypeId) (i : TypeInfo) (z : Value) (h1 : P.underlying t = some (.slice e)) (h2 : P.info? e = some i) (h3 : i.zero = some z) (h4 : i.size = 1) (hz : z.cells = #[z])
    (kl kc : IntKind) (L C : Int) (n : Nat) (hl : a.eval l = .int kl L) (hc : a.eval c = .int kc C) (hL : L = (n : Int)) (hC : C = (n : Int)) (b2 : i.bytes * n ≤ 281474976710656) (b3 : n ≤ maxLen)
    (hK : ∀ w', w'.heap[w.heap.size]? = some (.cells (Array.replicate n z) e (0, 0)) → Below w.heap.size w w' → w.heap.size < w'.heap.size → wpList P ops Q rest (a.put o.dst (.slice (some ⟨w.heap.size, 0, none⟩) n n)) w') :
    wpList P ops Q (o :: rest) a w := by
  refine wpList_make_full w hg l c t hop w.heap.size e i z 1 h1 h2 h3 h4 kl kc L C n hl hc hL hC b2 b3 (Nat.le_refl _) fun w' ho hgr => ?_
  rcases ho.2 with ⟨hv, _⟩ | ⟨g, cap, cur, hv, hb, hh, hnc, hcm, hcs, ht⟩
  · injection hv with hv; cases hv
  · injection hv with h5 h6 h7
    injection h5 with h5
    injection h5 with h5
    subst h5 h7
    have hcur : cur = Array.replicate n z := by
      apply Array.ext'
      have e1 : cur.toList.take (n * 1) = cur.toList := List.take_of_length_le (by simp; omega)
      rw [← e1, ht, Nat.mul_one, madeCells_one z n hz]
    rw [hcur] at hh
    refine hK w' hh ((Below.refl _ _).grown hgr (Nat.le_refl _) (fun k hk => by cases hk)) ?_
    rcases Nat.lt_or_ge w.heap.size w'.heap.size with hlt | hge
    · exact hlt
    · rw [Array.getElem?_eq_none hge] at hh; cases hh
theorem only_range {w : World} {g : Nat} {cs : Array Value} {t : TypeId} (h : w.heap[g]? = some (.cells cs t (0, 0))) (i : Nat) (v : Value) : (w.setCell ⟨g, i, none⟩ v).heap[g]? = some (.cells (cs.setIfInBounds i v) t (0, 0)) :=
  heap_setCell_same w g i cs t v h
end Go.Proofs.Ytjpejclfppbboaa
