/- Memory: slices that read as lists, blocks known whole, stores that leave the rest as it was. No program in sight. A queue: 'row = append(row, x)', 'i := row[0]; row = row[1:]', on a slice that the call made: where it lies in its block is left open. No program in sight. What a call owns, told block by block: a list of things in memory that lie apart; all that was there before is as it was. No program in sight. -/
import Derived.WalkKit
import Derived.ProofKit
import Derived.OpenShut
import Derived.Lib.Hide
import Derived.Laws.Rows
import Derived.Great.BuildSlice
import Derived.Deep.Draws
import Derived.Deep.AppendLies
import Derived.Deep.MidRow
import Derived.OwnWalk
import Derived.Laws.OwnMore
import Derived.Carry
namespace Go.Proofs.Ytpbhbmdghafkmaa
open Go.ChangeShapes Go.WideShapes Go.ChangeAt Go.RowKit
set_option linter.unusedVariables false
theorem block_of_add (a : Addr) (n : Nat) : (a.add n).block = a.block := by unfold Addr.add; split <;> rfl
theorem add_of_add (a : Addr) (i j : Nat) : (a.add i).add j = a.add (i + j) := by
 unfold Addr.add
 by_cases hi : i = 0 <;> by_cases hj : j = 0 <;> simp [hi, hj, Nat.add_assoc]
def Reads (w : World) (B size : Nat) (A : Option Addr) (n : Nat) (xs : List Value) : Prop :=
 xs.length = n * size ∧ (0 < n → ∃ ad, A = some ad ∧ ad.block < B ∧ ∀ j u, xs[j]? = some u → w.cell? (ad.add j) = some u)
theorem Reads.keep {w w' : World} {B size n : Nat} {A : Option Addr} {xs : List Value} (h : Reads w B size A n xs) (hk : ∀ p : Addr, p.block < B → w'.cell? p = w.cell? p) : Reads w' B size A n xs :=
 ⟨h.1, fun hn => by
   obtain ⟨ad, e, hb, hc⟩ := h.2 hn
   exact ⟨ad, e, hb, fun j u hu => (hk _ (by rw [block_of_add]; exact hb)).trans (hc j u hu)⟩⟩
theorem Reads.below {w w' : World} {B size n : Nat} {A : Option Addr} {xs : List Value} (h : Reads w B size A n xs) (hb : Below B w w') : Reads w' B size A n xs := h.keep fun _ hp => hb.cell hp
/-- The first cell that is read tells: the address is a plain one. -/
theorem reads_plain {w : World} {B size n : Nat} {A : Option Addr} {xs : List Value} (h : Reads w B size A n xs) (hn : 0 < n) (hs : 0 < size) : ∃ b o, A = some ⟨b, o, none⟩ ∧ b < B ∧ ∀ j u, xs[j]? = some u → w.cell? ⟨b, o + j, none⟩ = some u := by
 obtain ⟨ad, e, hb, hc⟩ := h.2 hn
 have hl : 0 < xs.length := by rw [h.1]; exact Nat.mul_pos hn hs
 have h0 := hc 0 xs[0] (List.getElem?_eq_getElem hl)
 obtain ⟨b, o, s⟩ := ad
 have hs' : s = none := by
  cases s with
  | none => rfl
  | some z =>
    unfold World.cell? Addr.add at h0
    simp at h0
    split at h0 <;> simp_all
 subst hs'
 exact ⟨b, o, e, hb, fun j u hu => by rw [← Addr.add_mid]; exact hc j u hu⟩
theorem reads_more {w : World} {B B' size n : Nat} {A : Option Addr} {xs : List Value} (h : Reads w B size A n xs) (hB : B ≤ B') : Reads w B' size A n xs :=
 ⟨h.1, fun hn => by obtain ⟨ad, e, hb, hc⟩ := h.2 hn; exact ⟨ad, e, by omega, hc⟩⟩
theorem reads_nil (w : World) (B : Nat) (k : IntKind) : Reads w B 1 none ([] : List Int).length (([] : List Int).map (.int k)) := ⟨rfl, fun h => absurd h (by simp)⟩
/-- A row of numbers that came in, its first len places. -/
theorem reads_take {w : World} {x : Addr} {len cap : Nat} {zs : List Int} {k : IntKind} (hl : len ≤ cap) (hm : cap ≤ maxLen) (hz : zs.length = cap) (hc : ∀ i, i < zs.length → w.cell? (x.add i) = some (.int k (zs.getD i 0)))
 (hw : ∀ n ∈ zs, (Lit.int k n).wf = true) : ∃ l : List Int, l.length = len ∧ Reads w w.heap.size 1 (some x) l.length (l.map (.int k)) ∧ l.length ≤ maxLen ∧ ∀ n ∈ l, (Lit.int k n).wf = true := by
 refine ⟨zs.take len, by simp; omega, ⟨by simp, fun h => ⟨x, rfl, ?_, fun j u hu => ?_⟩⟩, by simp; omega, fun n hn => hw n (List.mem_of_mem_take hn)⟩
 · have h0 : 0 < zs.length := by simp at h; omega
   have := World.block_lt_of_cell? w _ (hc 0 h0)
   rwa [block_of_add] at this
 · rw [List.getElem?_map, List.getElem?_take] at hu
   by_cases hj : j < len
   · rw [if_pos hj] at hu
     have hjz : j < zs.length := by omega
     rw [hc j hjz, ← hu]
     simp [hjz]
   · rw [if_neg hj] at hu; simp at hu
theorem retInt {k : IntKind} {a b : Int} (h : a = b) : Ending.returned (.int k a) = .returned (.int k b) := by rw [h]
theorem retBool {a b : Bool} (h : a = b) : Ending.returned (.bool a) = .returned (.bool b) := by rw [h]
theorem retArr {fn : Func} {R : Ending → World → Prop} {P : Program} {p : Tmp} {ty : TypeId} (h : fn.results = #[.cell p ty]) (tmps : Array Value) (w : World) (g : Nat) (t : TypeId) (cs : Array Value) (d : TypeDesc)
 (hp : tmps.getD p undef = .pointer (some ⟨g, 0, none⟩)) (hg : w.heap[g]? = some (.cells cs t (0,0)))
 (hu : P.underlying ty = some d) (hd : (match d with | .struct _ | .array _ _ => true | _ => false) = true) (hi : (P.info? ty).map (·.size) = some cs.size)
 (hR : R (.returned (.agg cs)) w) : bodyPost P fn R .ret ⟨tmps, []⟩ w :=
 bodyPost_ret (results_cell_row h tmps w g t cs (0,0) d hp hg hu hd hi) rfl hR
/-- w' is w but for block g. -/
structure Only (g : Nat) (w w' : World) : Prop where
 os : w'.os = w.os
 tape : w'.tape = w.tape
 output : w'.output = w.output
 size : w'.heap.size = w.heap.size
 block : ∀ k, k ≠ g → w'.heap[k]? = w.heap[k]?
theorem Only.below {g B : Nat} {w w' : World} (h : Only g w w') (hB : B ≤ g) : Below B w w' :=
 ⟨h.os, h.tape, h.output, by have := h.size; omega, fun k hk => h.block k (by omega)⟩
theorem only_setRow (w : World) (g : Nat) (cs : Array Value) : Only g w (w.setRow g cs) :=
 ⟨rfl, rfl, rfl, by simp, fun k hk => setRow_other w g k cs hk⟩
theorem only_setCell (w : World) (g i : Nat) (v : Value) : Only g w (w.setCell ⟨g, i, none⟩ v) :=
 ⟨rfl, rfl, rfl, by simp [World.setCell], fun k hk => Below.heap_setCell _ _ _ _ hk⟩
/-- A whole row goes into a block of its size: of the world behind, that block is known, and that all else is as it was. -/
theorem wpList_store_abs {P : Program} {ops : Array Oper} {rest : List Oper} {o : Oper} {a : Act} {w : World} {Q : Exit → Act → World → Prop} (hgd : o.guard = none) (ty : TypeId) (x y : Operand) (ho : o.op = .store ty x y)
 (hd : o.dst = none) (g : Nat) (cells : Array Value) (hx : a.eval x = .pointer (some ⟨g, 0, none⟩)) (hy : a.eval y = .agg cells)
 (t : TypeId) (old : Array Value) (hg : w.heap[g]? = some (.cells old t (0, 0))) (hi : (P.info? ty).map (·.size) = some cells.size)
 (hold : old.size = cells.size) (h1 : cells.all (·.oneCell') = true)
 (h : ∀ w', Only g w w' → w'.heap[g]? = some (.cells cells t (0, 0)) → wpList P ops Q rest a w') : wpList P ops Q (o :: rest) a w :=
 wpList_store_rowTo hgd ty x y ho hd g cells hx hy t old hg hi hold h1 (h _ (only_setRow w g cells) (setRow_heap _ _ _ _ _ _ hg))
/-! rows of booleans and other one-cell values -/
theorem madeCells_one (z : Value) (n : Nat) (hz : z.cells = #[z]) : madeCells z.cells n = Array.replicate n z := by
 rw [hz]
 unfold madeCells
 apply Array.ext <;> simp [Nat.mod_one]
/-- 'make([]T, n)' at one-cell values: the block is known whole. -/
theorem wpList_make_rep {P : Program} (w : World) {ops : Array Oper} {rest : List Oper} {o : Oper} {a : Act} {Q : Exit → Act → World → Prop}
 (hg : o.guard = none) (l c : Operand) (t : TypeId) (hop : o.op = Op.makeSlice t l c)
 (e : TypeId) (i : TypeInfo) (z : Value) (h1 : P.underlying t = some (.slice e)) (h2 : P.info? e = some i) (h3 : i.zero = some z) (h4 : i.size = 1) (hz : z.cells = #[z])
 (kl kc : IntKind) (L C : Int) (n : Nat) (hl : a.eval l = .int kl L) (hc : a.eval c = .int kc C) (hL : L = (n : Int)) (hC : C = (n : Int)) (b2 : i.bytes * n ≤ 281474976710656) (b3 : n ≤ maxLen)
 (hK : ∀ w', w'.heap[w.heap.size]? = some (.cells (Array.replicate n z) e (0, 0)) → Below w.heap.size w w' → w.heap.size < w'.heap.size → wpList P ops Q rest (a.put o.dst (.slice (some ⟨w.heap.size, 0, none⟩) n n)) w') :
 wpList P ops Q (o :: rest) a w := by
 refine wpList_make_full w hg l c t hop w.heap.size e i z 1 h1 h2 h3 h4 kl kc L C n hl hc hL hC b2 b3 (Nat.le_refl _) fun w' ho hgr => ?_
 rcases ho.2 with ⟨hv, _⟩ | ⟨g, cap, cur, hv, hb, hh, hnc, hcm, hcs, ht⟩
 · injection hv with hv; cases hv
 · injection hv with h5 h6 h7
   injection h5 with h5
   injection h5 with h5
   subst h5 h7
   have hcur : cur = Array.replicate n z := by
    apply Array.ext'
    have e1 : cur.toList.take (n * 1) = cur.toList := List.take_of_length_le (by simp; omega)
    rw [← e1, ht, Nat.mul_one, madeCells_one z n hz]
   rw [hcur] at hh
   refine hK w' hh ((Below.refl _ _).grown hgr (Nat.le_refl _) (fun k hk => by cases hk)) ?_
   rcases Nat.lt_or_ge w.heap.size w'.heap.size with hlt | hge
   · exact hlt
   · rw [Array.getElem?_eq_none hge] at hh; cases hh
theorem only_range {w : World} {g : Nat} {cs : Array Value} {t : TypeId} (h : w.heap[g]? = some (.cells cs t (0, 0))) (i : Nat) (v : Value) : (w.setCell ⟨g, i, none⟩ v).heap[g]? = some (.cells (cs.setIfInBounds i v) t (0, 0)) :=
 heap_setCell_same w g i cs t v h
end Go.Proofs.Ytpbhbmdghafkmaa
namespace Go.Proofs.Ytpbhbmdghafkmaa
open Go.ChangeShapes Go.WideShapes Go.ChangeAt Go.RowKit
set_option linter.unusedVariables false
/-- Slice value v (n elements of 'size' cells each) holds xs, in a block from 'base' on. -/
def OwnsQ (w : World) (base : Nat) (e : TypeId) (size : Nat) (v : Value) (n : Nat) (xs : List Value) : Prop :=
 xs.length = n * size ∧
 ((n = 0 ∧ (v = .slice none 0 0 ∨ ∃ a, v = .slice (some a) 0 0 ∧ base ≤ a.block)) ∨
  ∃ g off cap cur, v = .slice (some ⟨g, off, none⟩) n cap ∧ base ≤ g ∧ w.heap[g]? = some (.cells cur e (0, 0)) ∧ n ≤ cap ∧ cap ≤ maxLen ∧ off + cap * size ≤ cur.size ∧ (cur.toList.drop off).take (n * size) = xs)
/-- The cells that are read. -/
theorem OwnsQ.reads {w : World} {base : Nat} {e : TypeId} {size n c : Nat} {A : Option Addr} {xs : List Value} (h : OwnsQ w base e size (.slice A n c) n xs) : Reads w w.heap.size size A n xs := by
 refine ⟨h.1, fun hn => ?_⟩
 rcases h.2 with ⟨h0, _⟩ | ⟨g, off, cap, cur, hv, hb, hg, hnc, hcm, hcs, ht⟩
 · omega
 · injection hv with hA
   subst hA
   refine ⟨_, rfl, ?_, fun j u hu => ?_⟩
   · show g < w.heap.size
     rcases Nat.lt_or_ge g w.heap.size with hlt | hge
     · exact hlt
     · rw [Array.getElem?_eq_none hge] at hg; cases hg
   · rw [Addr.add_mid, cell_of_row _ _ _ _ _ _ hg]
     rw [← ht, List.getElem?_take] at hu
     split at hu
     · rw [List.getElem?_drop] at hu
       simpa using hu
     · cases hu
theorem OwnsQ.slice_ {w : World} {base : Nat} {e : TypeId} {size n : Nat} {v : Value} {xs : List Value} (h : OwnsQ w base e size v n xs) : ∃ A c, v = .slice A n c ∧ n ≤ c ∧ (0 < n → A ≠ none) := by
 rcases h.2 with ⟨rfl, rfl | ⟨a, rfl, _⟩⟩ | ⟨g, off, cap, cur, rfl, _, _, hnc, _⟩
 · exact ⟨_, _, rfl, Nat.le_refl _, fun h => absurd h (by omega)⟩
 · exact ⟨_, _, rfl, Nat.le_refl _, fun h => absurd h (by omega)⟩
 · exact ⟨_, _, rfl, hnc, fun _ h => by cases h⟩
section
variable {P : Program} (w : World)
theorem run_append_q (base : Nat) (t ty e : TypeId) (i : TypeInfo) (z : Value) (size bytes : Nat) (ht : P.underlying t = some (.slice e)) (hi : P.info? e = some i) (hz : i.zero = some z)
 (hsize : i.size = size) (hby : i.bytes = bytes) (hzs : z.cells.size = size) (hsz : 0 < size)
 (v : Value) (n : Nat) (xs : List Value) (hown : OwnsQ w base e size v n xs)
 (a : Addr) (m c : Nat) (news : List Value) (hm : 0 < m) (hl : news.length = m * size) (hnews : ∀ j u, news[j]? = some u → w.cell? (a.add j) = some u) (h1 : ∀ u ∈ news, u.oneCell' = true)
 (h63 : n + m ≤ maxLen) (hbytes : (n + m) * bytes ≤ 140737488355328) (hbase : base ≤ w.heap.size) :
 ∃ v' w', (Builtin.append_ #[t, t] ty #[v, .slice (some a) m c]).run P w = .ok v' w' ∧ OwnsQ w' base e size v' (n + m) (xs ++ news) ∧ w.grownBy w' v.ownBlock ∧ (v'.ownBlock = v.ownBlock ∨ ∃ k, v'.ownBlock = some k ∧ w.heap.size ≤ k) := by
 subst hsize
 subst hby
 have hlen : (xs ++ news).length = (n + m) * i.size := by rw [List.length_append, hown.1, hl, Nat.add_mul]
 have hsmall : n + m ≤ 9223372036854775807 := by simp only [maxLen] at h63; omega
 have grown : ∀ (old : Nat), old < n + m → ∀ row : Option Nat,
  OwnsQ (w.drew.alloc (.cells (xs.toArray ++ news.toArray ++ Builtin.zeroCells z.cells (grownCap w (n + m) old e - (n + m))) e)) base e i.size
   (.slice (some ⟨w.heap.size, 0, none⟩) (n + m) (grownCap w (n + m) old e)) (n + m) (xs ++ news) ∧
  w.grownBy (w.drew.alloc (.cells (xs.toArray ++ news.toArray ++ Builtin.zeroCells z.cells (grownCap w (n + m) old e - (n + m))) e)) row := by
  intro old ho row
  have hge := grownCap_ge w (n + m) old e
  have hcm : grownCap w (n + m) old e ≤ maxLen := grownCap_le_maxLen w (n + m) old e h63
  refine ⟨⟨hlen, .inr ⟨w.heap.size, 0, _, _, rfl, hbase, heap_alloc_new w.drew _, hge, hcm, ?_, ?_⟩⟩, ⟨rfl, rfl, rfl, by simp, fun k hk _ => Below.heap_alloc w.drew _ k hk⟩⟩
  · simp only [Array.size_append, List.size_toArray, size_zeroCells, hzs, hown.1, hl, ← Nat.add_mul]
    have : n + m + (grownCap w (n + m) old e - (n + m)) = grownCap w (n + m) old e := by omega
    rw [this]; omega
  · simp only [Array.toList_append, List.append_assoc, List.drop_zero]
    rw [← List.append_assoc, ← hlen]
    exact List.take_left
 rcases hown.2 with ⟨rfl, rfl | ⟨b, rfl, hbb⟩⟩ | ⟨g, off, cap, cur, rfl, hbg, hg, hnc, hcm, hcs, htake⟩
 · have hx : xs = [] := List.eq_nil_of_length_eq_zero (by simpa using hown.1)
   subst hx
   have hr := run_append_nil (P := P) w t ty e i z ht hi hz a m c news hl hnews (by omega) (by omega) (by have hb := hbytes; simp only [Nat.zero_add] at hb; omega)
   have hgr := grown 0 (by omega) (Value.ownBlock (.slice none 0 0))
   simp only [Nat.zero_add, List.nil_append, Array.empty_append] at hgr ⊢
   exact ⟨_, _, hr, hgr.1, hgr.2, .inr ⟨_, rfl, Nat.le_refl _⟩⟩
 · have hx : xs = [] := List.eq_nil_of_length_eq_zero (by simpa using hown.1)
   subst hx
   have hr := run_append_grow (P := P) w t ty e i z ht hi hz b 0 0 [] (by simp) (fun j v hv => by simp at hv) a m c news hl hnews (by omega) (by omega) (growslice_fits (by omega) hbytes)
   have hgr := grown 0 (by omega) (Value.ownBlock (.slice (some b) 0 0))
   exact ⟨_, _, hr, hgr.1, hgr.2, .inr ⟨_, rfl, Nat.le_refl _⟩⟩
 · by_cases hroom : n + m ≤ cap
   · have hfit : off + n * i.size + news.length ≤ cur.size := by
      have : n * i.size + news.length ≤ cap * i.size := by rw [hl, ← Nat.add_mul]; exact Nat.mul_le_mul_right _ hroom
      omega
     have hf := run_firstCells_some (P := P) w i.size m a m c news hl hnews
     have hst := run_storeCells_at P g (off + n * i.size) e news 0 cur w hg (by simpa using hfit) h1
     simp only [Nat.add_zero] at hst
     have hr : (Builtin.append_ #[t, t] ty #[.slice (some ⟨g, off, none⟩) n cap, .slice (some a) m c]).run P w =
      .ok (.slice (some ⟨g, off, none⟩) (n + m) cap) (w.setRow g (cur.toList.take (off + n * i.size) ++ news ++ cur.toList.drop (off + n * i.size + news.length)).toArray) := by
      simp [Builtin.append_, run_underlying ht, sizeOf, typeInfo, hi, Builtin.lenOf, hroom, hf, Addr.add_lit, hst]
     refine ⟨_, _, hr, ⟨hlen, .inr ⟨g, off, cap, _, rfl, hbg, setRow_heap w g cur _ e _ hg, hroom, hcm, ?_, ?_⟩⟩, ⟨rfl, rfl, rfl, by simp, fun k _ hk => setRow_other w g k _ (fun e => hk (by simp [Value.ownBlock, e]))⟩, .inl rfl⟩
     · simp only [List.size_toArray, List.length_append, List.length_take, List.length_drop, Array.length_toList]
       omega
     · have h2 : (List.take (off + n * i.size) cur.toList).drop off = xs := by
        rw [← htake, List.drop_take]
        congr 1; omega
       have h3 : off ≤ (List.take (off + n * i.size) cur.toList).length := by simp; omega
       rw [List.append_assoc, List.drop_append_of_le_length h3, h2, ← List.append_assoc, ← hlen]
       exact List.take_left
   · have holds : ∀ j u, xs[j]? = some u → w.cell? ((⟨g, off, none⟩ : Addr).add j) = some u := by
      intro j u hu
      rw [Addr.add_mid, cell_of_row _ _ _ _ _ _ hg]
      rw [← htake, List.getElem?_take] at hu
      split at hu
      · rw [List.getElem?_drop] at hu
        simpa using hu
      · cases hu
     have hr := run_append_grow (P := P) w t ty e i z ht hi hz ⟨g, off, none⟩ n cap xs hown.1 holds a m c news hl hnews (by omega) (by omega) (growslice_fits (by omega) hbytes)
     have hgr := grown cap (by omega) (Value.ownBlock (.slice (some ⟨g, off, none⟩) n cap))
     exact ⟨_, _, hr, hgr.1, hgr.2, .inr ⟨_, rfl, Nat.le_refl _⟩⟩
end
end Go.Proofs.Ytpbhbmdghafkmaa
namespace Go.Proofs.Ytpbhbmdghafkmaa
open Go.ChangeShapes Go.WideShapes Go.ChangeAt Go.RowKit
set_option linter.unusedVariables false
/-- For 'go_wp2_with (at_builtin; refine stopHere ?_)': the walk stands there, and the law is tried in the open. -/
theorem stopHere {p : Prop} (h : Hid p) : p := h
/-- A thing that the call owns: a block known whole; or a slice value that holds a list (nil, or somewhere in a block of its own). -/
inductive Rs where
 | blk (g : Nat) (cs : Array Value) (t : TypeId)
 | row (e : TypeId) (size : Nat) (v : Value) (n : Nat) (xs : List Value)
def Rs.block : Rs → Option Nat
 | .blk g _ _ => some g
 | .row _ _ v _ _ => v.ownBlock
def Rs.holds (w : World) : Rs → Prop
 | .blk g cs t => w.heap[g]? = some (.cells cs t (0, 0))
 | .row e s v n xs => OwnsQ w 0 e s v n xs
theorem Rs.holds_keep {w w' : World} {r : Rs} (h : r.holds w) (hk : ∀ g, r.block = some g → w'.heap[g]? = w.heap[g]?) : r.holds w' := by
 cases r with
 | blk g cs t => exact (hk g rfl).trans h
 | row e s v n xs =>
   refine ⟨h.1, ?_⟩
   rcases h.2 with h | ⟨g, off, cap, cur, rfl, hb, hg, r⟩
   · exact .inl h
   · exact .inr ⟨g, off, cap, cur, rfl, hb, (hk g rfl).trans hg, r⟩
/-- The things of l lie in w, apart from each other, from block B on; below B memory is as it was in W. -/
structure SL (W : World) (B : Nat) (l : List Rs) (w : World) : Prop where
 below : Below B W w
 size : B ≤ w.heap.size
 holds : ∀ r ∈ l, r.holds w
 block : ∀ r ∈ l, ∀ g, r.block = some g → B ≤ g ∧ g < w.heap.size
 apart : l.Pairwise fun r s => ∀ g, r.block = some g → s.block ≠ some g
theorem SL.start {W : World} {B : Nat} (h : B ≤ W.heap.size) : SL W B [] W := ⟨Below.refl _ _, h, by simp, by simp, .nil⟩
/-- A step that leaves what is owned as it is (but for what it makes besides). -/
theorem SL.step {W w w' : World} {B : Nat} {l : List Rs} (h : SL W B l w) (hb : Below B w w') (hk : ∀ r ∈ l, ∀ g, r.block = some g → w'.heap[g]? = w.heap[g]?) : SL W B l w' :=
 ⟨h.below.trans hb, Nat.le_trans h.size hb.size, fun r hr => Rs.holds_keep (h.holds r hr) (hk r hr), fun r hr g hg => ⟨(h.block r hr g hg).1, Nat.lt_of_lt_of_le (h.block r hr g hg).2 hb.size⟩, h.apart⟩
theorem SL.call {W w w' : World} {B : Nat} {l : List Rs} (h : SL W B l w) (hb : Below w.heap.size w w') : SL W B l w' :=
 h.step (hb.mono h.size) fun r hr g hg => hb.block g (h.block r hr g hg).2
theorem SL.drew {W w : World} {B : Nat} {l : List Rs} (h : SL W B l w) : SL W B l w.drew := h.call (Below.refl _ _).drew
/-- One thing more, made by a step that leaves all that there was as it is. -/
theorem SL.more {W w w' : World} {B : Nat} {l : List Rs} (h : SL W B l w) (hb : Below w.heap.size w w') (r : Rs) (hr : r.holds w') (hn : ∀ g, r.block = some g → w.heap.size ≤ g ∧ g < w'.heap.size) : SL W B (r :: l) w' := by
 have h' := h.call hb
 refine ⟨h'.below, h'.size, ?_, ?_, ?_⟩
 · intro s hs
   rcases List.mem_cons.1 hs with rfl | hs
   · exact hr
   · exact h'.holds s hs
 · intro s hs g hg
   rcases List.mem_cons.1 hs with rfl | hs
   · exact ⟨Nat.le_trans h.size (hn g hg).1, (hn g hg).2⟩
   · exact h'.block s hs g hg
 · refine List.pairwise_cons.2 ⟨fun s hs g hg hsg => ?_, h'.apart⟩
   have := (h.block s hs g hsg).2
   have := (hn g hg).1
   omega
theorem SL.alloc {W w : World} {B : Nat} {l : List Rs} (h : SL W B l w) (cs : Array Value) (t : TypeId) : SL W B (.blk w.heap.size cs t :: l) (w.alloc (.cells cs t)) :=
 h.more ((Below.refl _ _).alloc (Nat.le_refl _) _) (.blk w.heap.size cs t) (heap_alloc_new _ _) (by intro g hg; injection hg with hg; subst hg; simp)
theorem SL.made {W w w' : World} {B : Nat} {l : List Rs} {cs : Array Value} {t : TypeId} (h : SL W B l w) (hb : Below w.heap.size w w') (hh : w'.heap[w.heap.size]? = some (.cells cs t (0, 0))) : SL W B (.blk w.heap.size cs t :: l) w' :=
 h.more hb (.blk w.heap.size cs t) hh (by
  intro g hg; injection hg with hg; subst hg
  refine ⟨Nat.le_refl _, ?_⟩
  rcases Nat.lt_or_ge w.heap.size w'.heap.size with hlt | hge
  · exact hlt
  · rw [Array.getElem?_eq_none hge] at hh; cases hh)
/-- A nil slice to begin with. -/
theorem SL.nil {W w : World} {B : Nat} {l : List Rs} (h : SL W B l w) (e : TypeId) (size : Nat) : SL W B (.row e size (.slice none 0 0) 0 [] :: l) w :=
 h.more (Below.refl _ _) (.row e size (.slice none 0 0) 0 []) ⟨by simp, .inl ⟨rfl, .inl rfl⟩⟩ (by intro g hg; simp [Rs.block, Value.ownBlock] at hg)
/-- Fewer things. -/
theorem SL.sub {W w : World} {B : Nat} {l l' : List Rs} (h : SL W B l w) (hl : l'.Sublist l) : SL W B l' w :=
 ⟨h.below, h.size, fun r hr => h.holds r (hl.subset hr), fun r hr => h.block r (hl.subset hr), h.apart.sublist hl⟩
theorem SL.tail {W w : World} {B : Nat} {r : Rs} {l : List Rs} (h : SL W B (r :: l) w) : SL W B l w := h.sub (List.sublist_cons_self _ _)
theorem SL.perm {W w : World} {B : Nat} {l l' : List Rs} (h : SL W B l w) (hp : l.Perm l') : SL W B l' w :=
 ⟨h.below, h.size, fun r hr => h.holds r (hp.mem_iff.2 hr), fun r hr => h.block r (hp.mem_iff.2 hr), h.apart.perm hp (fun h g hg hs => h g hs hg)⟩
/-- Thing number i. -/
theorem SL.at {W w : World} {B : Nat} {l : List Rs} (h : SL W B l w) (i : Nat) {r : Rs} (hi : l[i]? = some r) : r.holds w := h.holds r (List.mem_of_getElem? hi)
theorem SL.blk {W w : World} {B : Nat} {l : List Rs} (h : SL W B l w) (i : Nat) {g : Nat} {cs : Array Value} {t : TypeId} (hi : l[i]? = some (.blk g cs t)) : w.heap[g]? = some (.cells cs t (0, 0)) := h.at i hi
theorem SL.lt {W w : World} {B : Nat} {l : List Rs} (h : SL W B l w) (i : Nat) {g : Nat} {cs : Array Value} {t : TypeId} (hi : l[i]? = some (.blk g cs t)) : B ≤ g ∧ g < w.heap.size := h.block _ (List.mem_of_getElem? hi) g rfl
theorem SL.row {W w : World} {B : Nat} {l : List Rs} (h : SL W B l w) (i : Nat) {e : TypeId} {size n : Nat} {v : Value} {xs : List Value} (hi : l[i]? = some (.row e size v n xs)) : OwnsQ w 0 e size v n xs := h.at i hi
theorem SL.cell {W w : World} {B : Nat} {l : List Rs} (h : SL W B l w) (i : Nat) {g : Nat} {cs : Array Value} {t : TypeId} (hi : l[i]? = some (.blk g cs t)) (k : Nat) {v : Value} (hv : cs[k]? = some v) : w.cell? ⟨g, k, none⟩ = some v := by
 rw [cell_of_row _ _ _ _ _ _ (h.blk i hi)]; exact hv
theorem SL.free {W w : World} {B : Nat} {l : List Rs} (h : SL W B l w) (i : Nat) {g : Nat} {cs : Array Value} {t : TypeId} (hi : l[i]? = some (.blk g cs t)) (k : Nat) : w.frozen? ⟨g, k, none⟩ = false := by
 have := h.blk i hi
 simp [World.frozen?, this]
/-- Thing number i has turned into r'; its block is the old one, or new; all else is as it was. -/
theorem SL.turn {W w w' : World} {B : Nat} {l : List Rs} (h : SL W B l w) (i : Nat) {r r' : Rs} (hi : l[i]? = some r) (ho : w'.os = w.os) (ht : w'.tape = w.tape) (hu : w'.output = w.output) (hs : w.heap.size ≤ w'.heap.size)
 (hk : ∀ k, k < w.heap.size → r.block ≠ some k → w'.heap[k]? = w.heap[k]?) (hr : r'.holds w') (hn : ∀ g, r'.block = some g → (r.block = some g ∨ w.heap.size ≤ g) ∧ g < w'.heap.size) : SL W B (l.set i r') w' := by
 have hil := (List.getElem?_eq_some_iff.1 hi).1
 have hir := (List.getElem?_eq_some_iff.1 hi).2
 have hap := List.pairwise_iff_getElem.1 h.apart
 have hrm : r ∈ l := List.mem_of_getElem? hi
 have key : ∀ j (hj : j < l.length), j ≠ i → ∀ g, l[j].block = some g → r.block ≠ some g := by
  intro j hj hne g hg he
  rcases Nat.lt_or_ge j i with hlt | hge
  · exact hap j i hj hil hlt g hg (by rw [hir]; exact he)
  · exact hap i j hil hj (by omega) g (by rw [hir]; exact he) hg
 refine ⟨⟨ho.trans h.below.os, ht.trans h.below.tape, hu.trans h.below.output, Nat.le_trans h.below.size hs, fun k hkB => ?_⟩, Nat.le_trans h.size hs, ?_, ?_, ?_⟩
 · rw [hk k (Nat.lt_of_lt_of_le hkB h.size) (fun he => by have := (h.block r hrm k he).1; omega)]
   exact h.below.block k hkB
 · intro s hs'
   obtain ⟨j, hj, rfl⟩ := List.getElem_of_mem hs'
   rw [List.length_set] at hj
   rw [List.getElem_set]
   split
   · exact hr
   · rename_i hne
     refine Rs.holds_keep (h.holds _ (List.getElem_mem hj)) fun g hg => hk g (h.block _ (List.getElem_mem hj) g hg).2 (key j hj (Ne.symm hne) g hg)
 · intro s hs' g hg
   obtain ⟨j, hj, rfl⟩ := List.getElem_of_mem hs'
   rw [List.length_set] at hj
   rw [List.getElem_set] at hg
   split at hg
   · rcases hn g hg with ⟨h1 | h1, h2⟩
     · exact ⟨(h.block r hrm g h1).1, h2⟩
     · exact ⟨Nat.le_trans h.size h1, h2⟩
   · exact ⟨(h.block _ (List.getElem_mem hj) g hg).1, Nat.lt_of_lt_of_le (h.block _ (List.getElem_mem hj) g hg).2 hs⟩
 · rw [List.pairwise_iff_getElem]
   intro a b ha hb hab g hg hb'
   rw [List.length_set] at ha hb
   rw [List.getElem_set] at hg hb'
   by_cases hia : i = a
   · rw [if_pos hia] at hg
     rw [if_neg (by omega)] at hb'
     have hlb := (h.block _ (List.getElem_mem hb) g hb').2
     rcases (hn g hg).1 with h1 | h1
     · exact key b hb (by omega) g hb' h1
     · omega
   · rw [if_neg hia] at hg
     by_cases hib : i = b
     · rw [if_pos hib] at hb'
       have hla := (h.block _ (List.getElem_mem ha) g hg).2
       rcases (hn g hb').1 with h1 | h1
       · exact key a ha (by omega) g hg h1
       · omega
     · rw [if_neg hib] at hb'
       exact hap a b ha hb hab g hg hb'
/-- A store into a block of its own. -/
theorem SL.setCell {W w : World} {B : Nat} {l : List Rs} (h : SL W B l w) (i : Nat) {g : Nat} {cs : Array Value} {t : TypeId} (hi : l[i]? = some (.blk g cs t)) (k : Nat) (v : Value) : SL W B (l.set i (.blk g (cs.setIfInBounds k v) t)) (w.setCell ⟨g, k, none⟩ v) :=
 h.turn i hi rfl rfl rfl (by simp [World.setCell]) (fun j _ hj => Below.heap_setCell _ _ _ _ (by intro e; exact hj (by simp [Rs.block, e]))) (only_range (h.blk i hi) k v)
  (by intro g' hg'; injection hg' with hg'; subst hg'; exact ⟨.inl rfl, by have := (h.lt i hi).2; simpa [World.setCell] using this⟩)
/-- A whole block anew. -/
theorem SL.only {W w w' : World} {B : Nat} {l : List Rs} (h : SL W B l w) (i : Nat) {g : Nat} {cs cs' : Array Value} {t : TypeId} (hi : l[i]? = some (.blk g cs t)) (ho : Only g w w') (hh : w'.heap[g]? = some (.cells cs' t (0, 0))) : SL W B (l.set i (.blk g cs' t)) w' :=
 h.turn i hi ho.os ho.tape ho.output (by have := ho.size; omega) (fun j _ hj => ho.block j (by intro e; exact hj (by simp [Rs.block, e]))) hh
  (by intro g' hg'; injection hg' with hg'; subst hg'; exact ⟨.inl rfl, by have := (h.lt i hi).2; have := ho.size; omega⟩)
theorem OwnsQ.in_ {w : World} {base : Nat} {e : TypeId} {size n : Nat} {v : Value} {xs : List Value} (h : OwnsQ w base e size v n xs) : n = 0 ∨ ∃ g off cap, v = .slice (some ⟨g, off, none⟩) n cap ∧ g < w.heap.size := by
 rcases h.2 with ⟨h0, _⟩ | ⟨g, off, cap, cur, rfl, _, hg, _⟩
 · exact .inl h0
 · exact .inr ⟨g, off, cap, rfl, (Array.getElem?_eq_some_iff.1 hg).1⟩
/-- 'out = append(out, x)': the new elements have just been laid in a block of their own; the row is thing number i. -/
theorem run_append_sl {P : Program} {W w0 : World} {B : Nat} {l : List Rs} {cs : Array Value} {e : TypeId} (t ty : TypeId) (h : SL W B l w0) (it : Nat) (i : TypeInfo) (z : Value) (size bytes : Nat) (ht : P.underlying t = some (.slice e)) (hi : P.info? e = some i) (hz : i.zero = some z)
 (hsize : i.size = size) (hby : i.bytes = bytes) (hzs : z.cells.size = size) (hsz : 0 < size)
 (v : Value) (n m : Nat) (xs : List Value) (hit : l[it]? = some (.row e size v n xs)) (hm : 0 < m) (hcs : cs.size = m * size) (h1 : ∀ u ∈ cs.toList, u.oneCell' = true) (hn : n + m ≤ 1000000000) (hb1 : bytes ≤ 1024) :
 ∃ v' w', (Builtin.append_ #[t, t] ty #[v, .slice (some ⟨w0.heap.size, 0, none⟩) m m]).run P (w0.alloc (.cells cs e)) = .ok v' w' ∧ SL W B (l.set it (.row e size v' (n + m) (xs ++ cs.toList))) w' ∧ w0.heap.size < w'.heap.size := by
 have hs1 : (w0.alloc (.cells cs e)).heap.size = w0.heap.size + 1 := by simp
 have ha := (h.alloc cs e).tail
 have hrow := ha.row it hit
 obtain ⟨v', w', hr, h2, h3, h4⟩ := run_append_q (P := P) (w0.alloc (.cells cs e)) 0 t ty e i z size bytes ht hi hz hsize hby hzs hsz v n xs hrow ⟨w0.heap.size, 0, none⟩ m m cs.toList hm (by simpa using hcs)
  (by intro j u hu
      rw [Addr.add_mid, Nat.zero_add, cell_of_row _ _ _ _ _ _ (heap_alloc_new w0 _)]
      simpa using hu) h1 (by unfold maxLen; omega)
  (by calc (n + m) * bytes ≤ 1000000000 * 1024 := Nat.mul_le_mul hn hb1
       _ ≤ 140737488355328 := by omega) (Nat.zero_le _)
 refine ⟨v', w', hr, ha.turn it hit h3.os h3.tape h3.output h3.size (fun k hk hne => h3.block k hk (fun e => hne e.symm)) h2 ?_, by have := h3.size; omega⟩
 intro g hg
 have hg' : v'.ownBlock = some g := hg
 refine ⟨?_, ?_⟩
 · rcases h4 with h4 | ⟨k, h4, h5⟩
   · left; show v.ownBlock = some g; rw [← h4]; exact hg'
   · right
     rw [h4] at hg'
     injection hg' with hg'
     omega
 · rcases h2.in_ with h0 | ⟨g', off, cap, hv, hlt⟩
   · omega
   · rw [hv] at hg'
     simp [Value.ownBlock] at hg'
     omega
theorem wpList_append_sl {P : Program} {ops : Array Oper} {rest : List Oper} {o : Oper} {a : Act} {W w0 : World} {B : Nat} {l : List Rs} {Q : Exit → Act → World → Prop} {cs : Array Value} {e : TypeId} (hgd : o.guard = none) (s x : Operand) (t : TypeId)
 (ho : o.op = .call { callee := .builtin .append, args := #[s, x], argTypes := #[t, t] }) (h : SL W B l w0) (it : Nat)
 (i : TypeInfo) (z : Value) (size bytes : Nat) (ht : P.underlying t = some (.slice e)) (hi : P.info? e = some i) (hz : i.zero = some z)
 (hsize : i.size = size) (hby : i.bytes = bytes) (hzs : z.cells.size = size) (hsz : 0 < size)
 (v : Value) (n m : Nat) (xs : List Value) (hit : l[it]? = some (.row e size v n xs)) (hs : a.eval s = v) (G : Nat) (hx : a.eval x = .slice (some ⟨G, 0, none⟩) m m) (hG : w0.heap.size = G) (hm : 0 < m) (hcs : cs.size = m * size) (h1 : ∀ u ∈ cs.toList, u.oneCell' = true)
 (hn : n + m ≤ 1000000000) (hb1 : bytes ≤ 1024)
 (hK : ∀ v' w', SL W B (l.set it (.row e size v' (n + m) (xs ++ cs.toList))) w' → w0.heap.size < w'.heap.size → wpList P ops Q rest (a.put o.dst v') w') : wpList P ops Q (o :: rest) a (w0.alloc (.cells cs e)) := by
 subst hG
 obtain ⟨v', w', hr, h2, h3⟩ := run_append_sl (P := P) t o.type h it i z size bytes ht hi hz hsize hby hzs hsz v n m xs hit hm hcs h1 hn hb1
 refine wpList_plain hgd fun K hK' => ?_
 unfold Oper.wp execOp
 simp only [ho, resolve, invoke, builtin, Sem.run_bind, Sem.run_pure, Result.andThen_ok, List.map_toArray, List.map_cons, List.map_nil, hs, hx, hr]
 exact hK' _ _ (hK v' w' h2 h3)
/-- A row, read. -/
theorem SL.reads {W w : World} {B : Nat} {l : List Rs} (h : SL W B l w) (i : Nat) {e : TypeId} {size n c : Nat} {A : Option Addr} {xs : List Value} (hi : l[i]? = some (.row e size (.slice A n c) n xs)) : Reads w w.heap.size size A n xs := (h.row i hi).reads
end Go.Proofs.Ytpbhbmdghafkmaa
