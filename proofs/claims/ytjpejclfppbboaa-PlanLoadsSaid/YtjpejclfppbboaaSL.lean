/- What a call owns, told block by block: a list of things in memory that lie apart; all that was there before is as it was. No program in sight. -/
import Derived.Test.YtjpejclfppbboaaQueue
namespace Go.Proofs.Ytjpejclfppbboaa
open Go.ChangeShapes Go.WideShapes Go.ChangeAt Go.RowKit
set_option linter.unusedVariables false
/-- For 'go_wp2_with (at_builtin; refine stopHere ?_)': the walk stands there, and the law is tried in the open. -/
theorem stopHere {p : Prop} (h : Hid p) : p := h
/-- A thing that the call owns: a block known whole; or a slice value that holds a list (nil, or somewhere in a block of its own). -/
inductive Rs where
  | blk (g : Nat) (cs : Array Value) (t : TypeId)
  | row (e : TypeId) (size : Nat) (v : Value) (n : Nat) (xs : List Value)
def Rs.block : Rs → Option Nat
  | .blk g _ _ => some g
  | .row _ _ v _ _ => v.ownBlock
def Rs.holds (w : World) : Rs → Prop
  | .blk g cs t => w.heap[g]? = some (.cells cs t (0, 0))
  | .row e s v n xs => OwnsQ w 0 e s v n xs
theorem Rs.holds_keep {w w' : World} {r : Rs} (h : r.holds w) (hk : ∀ g, r.block = some g → w'.heap[g]? = w.heap[g]?) : r.holds w' := by
  cases r with
  | blk g cs t => exact (hk g rfl).trans h
  | row e s v n xs =>
    refine ⟨h.1, ?_⟩
    rcases h.2 with h | ⟨g, off, cap, cur, rfl, hb, hg, r⟩
    · exact .inl h
    · exact .inr ⟨g, off, cap, cur, rfl, hb, (hk g rfl).trans hg, r⟩
/-- The things of l lie in w, apart from each other, from block B on; below B memory is as it was in W. -/
structure SL (W : World) (B : Nat) (l : List Rs) (w : World) : Prop where
  below : Below B W w
  size : B ≤ w.heap.size
  holds : ∀ r ∈ l, r.holds w
  block : ∀ r ∈ l, ∀ g, r.block = some g → B ≤ g ∧ g < w.heap.size
  apart : l.Pairwise fun r s => ∀ g, r.block = some g → s.block ≠ some g
theorem SL.start {W : World} {B : Nat} (h : B ≤ W.heap.size) : SL W B [] W := ⟨Below.refl _ _, h, by simp, by simp, .nil⟩
theorem SL.below' {W w : World} {B B' : Nat} {l : List Rs} (h : SL W B l w) (hB : B' ≤ B) : Below B' W w := h.below.mono hB
/-- What was owned from a later world on, told from an earlier one on. -/
theorem SL.rebase {W w1 w : World} {B B1 : Nat} {l : List Rs} (h : SL w1 B1 l w) (hb : Below B W w1) (hB : B ≤ B1) : SL W B l w :=
  ⟨hb.trans (h.below.mono hB), Nat.le_trans hB h.size, h.holds, fun r hr g hg => ⟨Nat.le_trans hB (h.block r hr g hg).1, (h.block r hr g hg).2⟩, h.apart⟩
/-- A step that leaves what is owned as it is (but for what it makes besides). -/
theorem SL.step {W w w' : World} {B : Nat} {l : List Rs} (h : SL W B l w) (hb : Below B w w') (hk : ∀ r ∈ l, ∀ g, r.block = some g → w'.heap[g]? = w.heap[g]?) : SL W B l w' :=
  ⟨h.below.trans hb, Nat.le_trans h.size hb.size, fun r hr => Rs.holds_keep (h.holds r hr) (hk r hr), fun r hr g hg => ⟨(h.block r hr g hg).1, Nat.lt_of_lt_of_le (h.block r hr g hg).2 hb.size⟩, h.apart⟩
theorem SL.call {W w w' : World} {B : Nat} {l : List Rs} (h : SL W B l w) (hb : Below w.heap.size w w') : SL W B l w' :=
  h.step (hb.mono h.size) fun r hr g hg => hb.block g (h.block r hr g hg).2
theorem SL.drew {W w : World} {B : Nat} {l : List Rs} (h : SL W B l w) : SL W B l w.drew := h.call (Below.refl _ _).drew
/-- One thing more, made by a step that leaves all that there was as it is. -/
theorem SL.more {W w w' : World} {B : Nat} {l : List Rs} (h : SL W B l w) (hb : Below w.heap.size w w') (r : Rs) (hr : r.holds w') (hn : ∀ g, r.block = some g → w.heap.size ≤ g ∧ g < w'.heap.size) : SL W B (r :: l) w' := by
  have h' := h.call hb
  refine ⟨h'.below, h'.size, ?_, ?_, ?_⟩
  · intro s hs
    rcases List.mem_cons.1 hs with rfl | hs
    · exact hr
    · exact h'.holds s hs
  · intro s hs g hg
    rcases List.mem_cons.1 hs with rfl | hs
    · exact ⟨Nat.le_trans h.size (hn g hg).1, (hn g hg).2⟩
    · exact h'.block s hs g hg
  · refine List.pairwise_cons.2 ⟨fun s hs g hg hsg => ?_, h'.apart⟩
    have := (h.block s hs g hsg).2
    have := (hn g hg).1
    omega
theorem SL.alloc {W w : World} {B : Nat} {l : List Rs} (h : SL W B l w) (cs : Array Value) (t : TypeId) : SL W B (.blk w.heap.size cs t :: l) (w.alloc (.cells cs t)) :=
  h.more ((Below.refl _ _).alloc (Nat.le_refl _) _) (.blk w.heap.size cs t) (heap_alloc_new _ _) (by intro g hg; injection hg with hg; subst hg; simp)
theorem SL.made {W w w' : World} {B : Nat} {l : List Rs} {cs : Array Value} {t : TypeId} (h : SL W B l w) (hb : Below w.heap.size w w') (hh : w'.heap[w.heap.size]? = some (.cells cs t (0, 0))) : SL W B (.blk w.heap.size cs t :: l) w' :=
  h.more hb (.blk w.heap.size cs t) hh (by
    intro g hg; injection hg with hg; subst hg
    refine ⟨Nat.le_refl _, ?_⟩
    rcases Nat.lt_or_ge w.heap.size w'.heap.size with hlt | hge
    · exact hlt
    · rw [Array.getElem?_eq_none hge] at hh; cases hh)
theorem OwnsQ.lt {w : World} {base : Nat} {e : TypeId} {size n : Nat} {v : Value} {xs : List Value} (h : w.ownsRow base e size v n xs) : ∀ g, v.ownBlock = some g → base ≤ g ∧ g < w.heap.size := h.lt
/-- What a callee made and handed back. -/
theorem SL.got {W w w' : World} {B : Nat} {l : List Rs} {e : TypeId} {size n : Nat} {v : Value} {xs : List Value} (h : SL W B l w) (ho : w'.ownsRow w.heap.size e size v n xs) (hb : Below w.heap.size w w') : SL W B (.row e size v n xs :: l) w' :=
  h.more hb (.row e size v n xs) (OwnsQ.of_own ⟨ho.1, by rcases ho.2 with h | ⟨g, cap, cur, h1, h2, h3⟩; exact .inl h; exact .inr ⟨g, cap, cur, h1, Nat.zero_le _, h3⟩⟩) (fun g hg => ho.lt g hg)
theorem SL.gotBlk {W w w' : World} {B g : Nat} {l : List Rs} {cs : Array Value} {t : TypeId} (h : SL W B l w) (hh : w'.heap[g]? = some (.cells cs t (0, 0))) (hg : w.heap.size ≤ g) (hb : Below w.heap.size w w') : SL W B (.blk g cs t :: l) w' :=
  h.more hb (.blk g cs t) hh (by
    intro g' hg'; injection hg' with hg'; subst hg'
    refine ⟨hg, ?_⟩
    rcases Nat.lt_or_ge g w'.heap.size with hlt | hge
    · exact hlt
    · rw [Array.getElem?_eq_none hge] at hh; cases hh)
/-- A nil slice to begin with. -/
theorem SL.nil {W w : World} {B : Nat} {l : List Rs} (h : SL W B l w) (e : TypeId) (size : Nat) : SL W B (.row e size (.slice none 0 0) 0 [] :: l) w :=
  h.more (Below.refl _ _) (.row e size (.slice none 0 0) 0 []) ⟨by simp, .inl ⟨rfl, .inl rfl⟩⟩ (by intro g hg; simp [Rs.block, Value.ownBlock] at hg)
/-- Fewer things. -/
theorem SL.sub {W w : World} {B : Nat} {l l' : List Rs} (h : SL W B l w) (hl : l'.Sublist l) : SL W B l' w :=
  ⟨h.below, h.size, fun r hr => h.holds r (hl.subset hr), fun r hr => h.block r (hl.subset hr), h.apart.sublist hl⟩
theorem SL.tail {W w : World} {B : Nat} {r : Rs} {l : List Rs} (h : SL W B (r :: l) w) : SL W B l w := h.sub (List.sublist_cons_self _ _)
theorem SL.perm {W w : World} {B : Nat} {l l' : List Rs} (h : SL W B l w) (hp : l.Perm l') : SL W B l' w :=
  ⟨h.below, h.size, fun r hr => h.holds r (hp.mem_iff.2 hr), fun r hr => h.block r (hp.mem_iff.2 hr), h.apart.perm hp (fun h g hg hs => h g hs hg)⟩
/-- Thing number i. -/
theorem SL.at {W w : World} {B : Nat} {l : List Rs} (h : SL W B l w) (i : Nat) {r : Rs} (hi : l[i]? = some r) : r.holds w := h.holds r (List.mem_of_getElem? hi)
theorem SL.blk {W w : World} {B : Nat} {l : List Rs} (h : SL W B l w) (i : Nat) {g : Nat} {cs : Array Value} {t : TypeId} (hi : l[i]? = some (.blk g cs t)) : w.heap[g]? = some (.cells cs t (0, 0)) := h.at i hi
theorem SL.lt {W w : World} {B : Nat} {l : List Rs} (h : SL W B l w) (i : Nat) {g : Nat} {cs : Array Value} {t : TypeId} (hi : l[i]? = some (.blk g cs t)) : B ≤ g ∧ g < w.heap.size := h.block _ (List.mem_of_getElem? hi) g rfl
theorem SL.row {W w : World} {B : Nat} {l : List Rs} (h : SL W B l w) (i : Nat) {e : TypeId} {size n : Nat} {v : Value} {xs : List Value} (hi : l[i]? = some (.row e size v n xs)) : OwnsQ w 0 e size v n xs := h.at i hi
theorem SL.cell {W w : World} {B : Nat} {l : List Rs} (h : SL W B l w) (i : Nat) {g : Nat} {cs : Array Value} {t : TypeId} (hi : l[i]? = some (.blk g cs t)) (k : Nat) {v : Value} (hv : cs[k]? = some v) : w.cell? ⟨g, k, none⟩ = some v := by
  rw [cell_of_row _ _ _ _ _ _ (h.blk i hi)]; exact hv
theorem SL.free {W w : World} {B : Nat} {l : List Rs} (h : SL W B l w) (i : Nat) {g : Nat} {cs : Array Value} {t : TypeId} (hi : l[i]? = some (.blk g cs t)) (k : Nat) : w.frozen? ⟨g, k, none⟩ = false := by
  have := h.blk i hi
  simp [World.frozen?, this]
theorem SL.ne {W w : World} {B : Nat} {l : List Rs} (h : SL W B l w) (i j : Nat) {g g' : Nat} {cs cs' : Array Value} {t t' : TypeId} (hi : l[i]? = some (.blk g cs t)) (hj : l[j]? = some (.blk g' cs' t')) (hij : i < j) : g ≠ g' := by
  intro e
  subst e
  have := List.pairwise_iff_getElem.1 h.apart i j (List.getElem?_eq_some_iff.1 hi).1 (List.getElem?_eq_some_iff.1 hj).1 hij
  rw [(List.getElem?_eq_some_iff.1 hi).2, (List.getElem?_eq_some_iff.1 hj).2] at this
  exact this g rfl rfl
/-- Thing number i has turned into r'; its block is the old one, or new; all else is as it was. -/
theorem SL.turn {W w w' : World} {B : Nat} {l : List Rs} (h : SL W B l w) (i : Nat) {r r' : Rs} (hi : l[i]? = some r) (ho : w'.os = w.os) (ht : w'.tape = w.tape) (hu : w'.output = w.output) (hs : w.heap.size ≤ w'.heap.size)
    (hk : ∀ k, k < w.heap.size → r.block ≠ some k → w'.heap[k]? = w.heap[k]?) (hr : r'.holds w') (hn : ∀ g, r'.block = some g → (r.block = some g ∨ w.heap.size ≤ g) ∧ g < w'.heap.size) : SL W B (l.set i r') w' := by
  have hil := (List.getElem?_eq_some_iff.1 hi).1
  have hir := (List.getElem?_eq_some_iff.1 hi).2
  have hap := List.pairwise_iff_getElem.1 h.apart
  have hrm : r ∈ l := List.mem_of_getElem? hi
  have key : ∀ j (hj : j < l.length), j ≠ i → ∀ g, l[j].block = some g → r.block ≠ some g := by
    intro j hj hne g hg he
    rcases Nat.lt_or_ge j i with hlt | hge
    · exact hap j i hj hil hlt g hg (by rw [hir]; exact he)
    · exact hap i j hil hj (by omega) g (by rw [hir]; exact he) hg
  refine ⟨⟨ho.trans h.below.os, ht.trans h.below.tape, hu.trans h.below.output, Nat.le_trans h.below.size hs, fun k hkB => ?_⟩, Nat.le_trans h.size hs, ?_, ?_, ?_⟩
  · rw [hk k (Nat.lt_of_lt_of_le hkB h.size) (fun he => by have := (h.block r hrm k he).1; omega)]
    exact h.below.block k hkB
  · intro s hs'
    obtain ⟨j, hj, rfl⟩ := List.getElem_of_mem hs'
    rw [List.length_set] at hj
    rw [List.getElem_set]
    split
    · exact hr
    · rename_i hne
      refine Rs.holds_keep (h.holds _ (List.getElem_mem hj)) fun g hg => hk g (h.block _ (List.getElem_mem hj) g hg).2 (key j hj (Ne.symm hne) g hg)
  · intro s hs' g hg
    obtain ⟨j, hj, rfl⟩ := List.getElem_of_mem hs'
    rw [List.length_set] at hj
    rw [List.getElem_set] at hg
    split at hg
    · rcases hn g hg with ⟨h1 | h1, h2⟩
      · exact ⟨(h.block r hrm g h1).1, h2⟩
      · exact ⟨Nat.le_trans h.size h1, h2⟩
    · exact ⟨(h.block _ (List.getElem_mem hj) g hg).1, Nat.lt_of_lt_of_le (h.block _ (List.getElem_mem hj) g hg).2 hs⟩
  · rw [List.pairwise_iff_getElem]
    intro a b ha hb hab g hg hb'
    rw [List.length_set] at ha hb
    rw [List.getElem_set] at hg hb'
    by_cases hia : i = a
    · rw [if_pos hia] at hg
      rw [if_neg (by omega)] at hb'
      have hlb := (h.block _ (List.getElem_mem hb) g hb').2
      rcases (hn g hg).1 with h1 | h1
      · exact key b hb (by omega) g hb' h1
      · omega
    · rw [if_neg hia] at hg
      by_cases hib : i = b
      · rw [if_pos hib] at hb'
        have hla := (h.block _ (List.getElem_mem ha) g hg).2
        rcases (hn g hb').1 with h1 | h1
        · exact key a ha (by omega) g hg h1
        · omega
      · rw [if_neg hib] at hb'
        exact hap a b ha hb hab g hg hb'
/-- A store into a block of its own. -/
theorem SL.setCell {W w : World} {B : Nat} {l : List Rs} (h : SL W B l w) (i : Nat) {g : Nat} {cs : Array Value} {t : TypeId} (hi : l[i]? = some (.blk g cs t)) (k : Nat) (v : Value) : SL W B (l.set i (.blk g (cs.setIfInBounds k v) t)) (w.setCell ⟨g, k, none⟩ v) :=
  h.turn i hi rfl rfl rfl (by simp [World.setCell]) (fun j _ hj => Below.heap_setCell _ _ _ _ (by intro e; exact hj (by simp [Rs.block, e]))) (only_range (h.blk i hi) k v)
    (by intro g' hg'; injection hg' with hg'; subst hg'; exact ⟨.inl rfl, by have := (h.lt i hi).2; simpa [World.setCell] using this⟩)
theorem SL.setBool {W w : World} {B : Nat} {l : List Rs} (h : SL W B l w) (i : Nat) {g n : Nat} {f : Nat → Bool} {t : TypeId} (hi : l[i]? = some (.blk g (barr f n) t)) (k : Nat) (b : Bool) : SL W B (l.set i (.blk g (barr (fun j => if j = k then b else f j) n) t)) (w.setCell ⟨g, k, none⟩ (.bool b)) := by
  rw [← barr_set]; exact h.setCell i hi k _
/-- A whole block anew. -/
theorem SL.only {W w w' : World} {B : Nat} {l : List Rs} (h : SL W B l w) (i : Nat) {g : Nat} {cs cs' : Array Value} {t : TypeId} (hi : l[i]? = some (.blk g cs t)) (ho : Only g w w') (hh : w'.heap[g]? = some (.cells cs' t (0, 0))) : SL W B (l.set i (.blk g cs' t)) w' :=
  h.turn i hi ho.os ho.tape ho.output (by have := ho.size; omega) (fun j _ hj => ho.block j (by intro e; exact hj (by simp [Rs.block, e]))) hh
    (by intro g' hg'; injection hg' with hg'; subst hg'; exact ⟨.inl rfl, by have := (h.lt i hi).2; have := ho.size; omega⟩)
/-- A callee that writes into a block that it was handed, and may make memory besides. -/
theorem SL.wrote {W w w' : World} {B : Nat} {l : List Rs} (h : SL W B l w) (i : Nat) {g : Nat} {cs cs' : Array Value} {t : TypeId} (hi : l[i]? = some (.blk g cs t)) (hg : w.grownBy w' (some g)) (hh : w'.heap[g]? = some (.cells cs' t (0, 0))) : SL W B (l.set i (.blk g cs' t)) w' :=
  h.turn i hi hg.os hg.tape hg.output hg.size (fun j hj hne => hg.block j hj (by intro e; exact hne (by simp [Rs.block, Option.some.inj e]))) hh
    (by intro g' hg'; injection hg' with hg'; subst hg'; exact ⟨.inl rfl, by have := (h.lt i hi).2; have := hg.size; omega⟩)
theorem OwnsQ.in_ {w : World} {base : Nat} {e : TypeId} {size n : Nat} {v : Value} {xs : List Value} (h : OwnsQ w base e size v n xs) : n = 0 ∨ ∃ g off cap, v = .slice (some ⟨g, off, none⟩) n cap ∧ g < w.heap.size := by
  rcases h.2 with ⟨h0, _⟩ | ⟨g, off, cap, cur, rfl, _, hg, _⟩
  · exact .inl h0
  · exact .inr ⟨g, off, cap, rfl, (Array.getElem?_eq_some_iff.1 hg).1⟩
/-- 'out = append(out, x)': the new elements have just been laid in a block of their own; the row is thing number i. -/
theorem run_append_sl {P : Program} {W w0 : World} {B : Nat} {l : List Rs} {cs : Array Value} {e : TypeId} (t ty : TypeId) (h : SL W B l w0) (it : Nat) (i : TypeInfo) (z : Value) (size bytes : Nat) (ht : P.underlying t = some (.slice e)) (hi : P.info? e = some i) (hz : i.zero = some z)
    (hsize : i.size = size) (hby : i.bytes = bytes) (hzs : z.cells.size = size) (hsz : 0 < size)
    (v : Value) (n m : Nat) (xs : List Value) (hit : l[it]? = some (.row e size v n xs)) (hm : 0 < m) (hcs : cs.size = m * size) (h1 : ∀ u ∈ cs.toList, u.oneCell' = true) (hn : n + m ≤ 1000000000) (hb1 : bytes ≤ 1024) :
    ∃ v' w', (Builtin.append_ #[t, t] ty #[v, .slice (some ⟨w0.heap.size, 0, none⟩) m m]).run P (w0.alloc (.cells cs e)) = .ok v' w' ∧ SL W B (l.set it (.row e size v' (n + m) (xs ++ cs.toList))) w' ∧ w0.heap.size < w'.heap.size := by
  have hs1 : (w0.alloc (.cells cs e)).heap.size = w0.heap.size + 1 := by simp
  have ha := (h.alloc cs e).tail
  have hrow := ha.row it hit
  obtain ⟨v', w', hr, h2, h3, h4⟩ := run_append_q (P := P) (w0.alloc (.cells cs e)) 0 t ty e i z size bytes ht hi hz hsize hby hzs hsz v n xs hrow ⟨w0.heap.size, 0, none⟩ m m cs.toList hm (by simpa using hcs)
    (by intro j u hu
        rw [Addr.add_mid, Nat.zero_add, cell_of_row _ _ _ _ _ _ (heap_alloc_new w0 _)]
        simpa using hu) h1 (by unfold maxLen; omega)
    (by calc (n + m) * bytes ≤ 1000000000 * 1024 := Nat.mul_le_mul hn hb1
          _ ≤ 140737488355328 := by omega) (Nat.zero_le _)
  refine ⟨v', w', hr, ha.turn it hit h3.os h3.tape h3.output h3.size (fun k hk hne => h3.block k hk (fun e => hne e.symm)) h2 ?_, by have := h3.size; omega⟩
  intro g hg
  have hg' : v'.ownBlock = some g := hg
  refine ⟨?_, ?_⟩
  · rcases h4 with h4 | ⟨k, h4, h5⟩
    · left; show v.ownBlock = some g; rw [← h4]; exact hg'
    · right
      rw [h4] at hg'
      injection hg' with hg'
      omega
  · rcases h2.in_ with h0 | ⟨g', off, cap, hv, hlt⟩
    · omega
    · rw [hv] at hg'
      simp [Value.ownBlock] at hg'
      omega
theorem wpList_append_sl {P : Program} {ops : Array Oper} {rest : List Oper} {o : Oper} {a : Act} {W w0 : World} {B : Nat} {l : List Rs} {Q : Exit → Act → World → Prop} {cs : Array Value} {e : TypeId} (hgd : o.guard = none) (s x : Operand) (t : TypeId)
    (ho : o.op = .call { callee := .builtin .append, args := #[s, x], argTypes := #[t, t] }) (h : SL W B l w0) (it : Nat)
    (i : TypeInfo) (z : Value) (size bytes : Nat) (ht : P.underlying t = some (.slice e)) (hi : P.info? e = some i) (hz : i.zero = some z)
    (hsize : i.size = size) (hby : i.bytes = bytes) (hzs : z.cells.size = size) (hsz : 0 < size)
    (v : Value) (n m : Nat) (xs : List Value) (hit : l[it]? = some (.row e size v n xs)) (hs : a.eval s = v) (G : Nat) (hx : a.eval x = .slice (some ⟨G, 0, none⟩) m m) (hG : w0.heap.size = G) (hm : 0 < m) (hcs : cs.size = m * size) (h1 : ∀ u ∈ cs.toList, u.oneCell' = true)
    (hn : n + m ≤ 1000000000) (hb1 : bytes ≤ 1024)
    (hK : ∀ v' w', SL W B (l.set it (.row e size v' (n + m) (xs ++ cs.toList))) w' → w0.heap.size < w'.heap.size → wpList P ops Q rest (a.put o.dst v') w') : wpList P ops Q (o :: rest) a (w0.alloc (.cells cs e)) := by
  subst hG
  obtain ⟨v', w', hr, h2, h3⟩ := run_append_sl (P := P) t o.type h it i z size bytes ht hi hz hsize hby hzs hsz v n m xs hit hm hcs h1 hn hb1
  refine wpList_plain hgd fun K hK' => ?_
  unfold Oper.wp execOp
  simp only [ho, resolve, invoke, builtin, Sem.run_bind, Sem.run_pure, Result.andThen_ok, List.map_toArray, List.map_cons, List.map_nil, hs, hx, hr]
  exact hK' _ _ (hK v' w' h2 h3)
theorem wp_append_sl {P : Program} {o : Oper} {a : Act} {W w0 : World} {B : Nat} {l : List Rs} {K : Act → World → Prop} {Q : Exit → Act → World → Prop} {cs : Array Value} {e : TypeId} (s x : Operand) (t : TypeId)
    (ho : o.op = .call { callee := .builtin .append, args := #[s, x], argTypes := #[t, t] }) (h : SL W B l w0) (it : Nat)
    (i : TypeInfo) (z : Value) (size bytes : Nat) (ht : P.underlying t = some (.slice e)) (hi : P.info? e = some i) (hz : i.zero = some z)
    (hsize : i.size = size) (hby : i.bytes = bytes) (hzs : z.cells.size = size) (hsz : 0 < size)
    (v : Value) (n m : Nat) (xs : List Value) (hit : l[it]? = some (.row e size v n xs)) (hs : a.eval s = v) (G : Nat) (hx : a.eval x = .slice (some ⟨G, 0, none⟩) m m) (hG : w0.heap.size = G) (hm : 0 < m) (hcs : cs.size = m * size) (h1 : ∀ u ∈ cs.toList, u.oneCell' = true)
    (hn : n + m ≤ 1000000000) (hb1 : bytes ≤ 1024)
    (hK : ∀ v' w', SL W B (l.set it (.row e size v' (n + m) (xs ++ cs.toList))) w' → w0.heap.size < w'.heap.size → K (a.put o.dst v') w') : o.wp P a (w0.alloc (.cells cs e)) K Q := by
  subst hG
  obtain ⟨v', w', hr, h2, h3⟩ := run_append_sl (P := P) t o.type h it i z size bytes ht hi hz hsize hby hzs hsz v n m xs hit hm hcs h1 hn hb1
  unfold Oper.wp execOp
  simp only [ho, resolve, invoke, builtin, Sem.run_bind, Sem.run_pure, Result.andThen_ok, List.map_toArray, List.map_cons, List.map_nil, hs, hx, hr]
  exact hK v' w' h2 h3
/-- A row, read. -/
theorem SL.reads {W w : World} {B : Nat} {l : List Rs} (h : SL W B l w) (i : Nat) {e : TypeId} {size n c : Nat} {A : Option Addr} {xs : List Value} (hi : l[i]? = some (.row e size (.slice A n c) n xs)) : Reads w w.heap.size size A n xs := (h.row i hi).reads
/-- 'i := row[0]; row = row[1:]'. -/
theorem SL.pop {W w : World} {B : Nat} {l : List Rs} (h : SL W B l w) (i : Nat) {e : TypeId} {g off n c : Nat} {x : Value} {xs : List Value} (hi : l[i]? = some (.row e 1 (.slice (some ⟨g, off, none⟩) (n + 1) c) (n + 1) (x :: xs))) :
    SL W B (l.set i (.row e 1 (.slice (some (if c = 1 then ⟨g, off, none⟩ else ⟨g, off + 1, none⟩)) n (c - 1)) n xs)) w := by
  refine h.turn i hi rfl rfl rfl (Nat.le_refl _) (fun _ _ _ => rfl) (OwnsQ.tail (h.row i hi)) (fun g' hg' => ?_)
  have hb := h.block _ (List.mem_of_getElem? hi) g rfl
  have : g' = g := by
    simp only [Rs.block, Value.ownBlock] at hg'
    split at hg' <;> (injection hg' with hg'; exact hg'.symm)
  subst this
  exact ⟨.inl rfl, hb.2⟩
theorem row_cons {w : World} {e : TypeId} {v : Value} {n : Nat} {x : Value} {xs : List Value} (h : OwnsQ w 0 e 1 v (n + 1) (x :: xs)) : ∃ g off c, v = .slice (some ⟨g, off, none⟩) (n + 1) c ∧ w.cell? ⟨g, off, none⟩ = some x ∧ n + 1 ≤ c ∧ g < w.heap.size := by
  obtain ⟨h1, h2⟩ := h
  rcases h2 with ⟨h0, _⟩ | ⟨g, off, cap, cur, rfl, hb, hg, hnc, hcm, hcs, ht⟩
  · omega
  · refine ⟨g, off, cap, rfl, ?_, hnc, (Array.getElem?_eq_some_iff.1 hg).1⟩
    rw [cell_of_row _ _ _ _ _ _ hg]
    have hl : off < cur.toList.length := by simp; omega
    rw [List.drop_eq_getElem_cons hl, Nat.mul_one, List.take_succ_cons] at ht
    injection ht with ht _
    rw [← ht]
    simp [show off < cur.size by simpa using hl]
end Go.Proofs.Ytjpejclfppbboaa
