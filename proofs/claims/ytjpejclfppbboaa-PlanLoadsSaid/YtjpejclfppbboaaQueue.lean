/- A queue: 'row = append(row, x)', 'i := row[0]; row = row[1:]', on a slice that the call made: where it lies in its block is left open. No program in sight. -/
import Derived.Test.YtjpejclfppbboaaMem
namespace Go.Proofs.Ytjpejclfppbboaa
open Go.ChangeShapes Go.WideShapes Go.ChangeAt Go.RowKit
set_option linter.unusedVariables false
/-- Slice value v (n elements of 'size' cells each) holds xs, in a block from 'base' on. -/
def OwnsQ (w : World) (base : Nat) (e : TypeId) (size : Nat) (v : Value) (n : Nat) (xs : List Value) : Prop :=
  xs.length = n * size ∧
  ((n = 0 ∧ (v = .slice none 0 0 ∨ ∃ a, v = .slice (some a) 0 0 ∧ base ≤ a.block)) ∨
   ∃ g off cap cur, v = .slice (some ⟨g, off, none⟩) n cap ∧ base ≤ g ∧ w.heap[g]? = some (.cells cur e (0, 0)) ∧ n ≤ cap ∧ cap ≤ maxLen ∧ off + cap * size ≤ cur.size ∧ (cur.toList.drop off).take (n * size) = xs)
theorem OwnsQ.of_own {w : World} {base : Nat} {e : TypeId} {size n : Nat} {v : Value} {xs : List Value} (h : w.ownsRow base e size v n xs) : OwnsQ w base e size v n xs := by
  refine ⟨h.1, ?_⟩
  rcases h.2 with ⟨rfl, rfl⟩ | ⟨g, cap, cur, rfl, hb, hg, hnc, hcm, hcs, ht⟩
  · exact .inl ⟨rfl, .inl rfl⟩
  · exact .inr ⟨g, 0, cap, cur, rfl, hb, hg, hnc, hcm, by omega, by simpa using ht⟩
theorem OwnsQ.keep {w w' : World} {base B : Nat} {e : TypeId} {size n : Nat} {v : Value} {xs : List Value} (h : OwnsQ w base e size v n xs) (hk : ∀ g, base ≤ g → g < w.heap.size → w'.heap[g]? = w.heap[g]?) : OwnsQ w' base e size v n xs := by
  refine ⟨h.1, ?_⟩
  rcases h.2 with h | ⟨g, off, cap, cur, rfl, hb, hg, r⟩
  · exact .inl h
  · have hl : g < w.heap.size := by
      rcases Nat.lt_or_ge g w.heap.size with hlt | hge
      · exact hlt
      · rw [Array.getElem?_eq_none hge] at hg; cases hg
    exact .inr ⟨g, off, cap, cur, rfl, hb, (hk g hb hl).trans hg, r⟩
theorem OwnsQ.below {w w' : World} {base B : Nat} {e : TypeId} {size n : Nat} {v : Value} {xs : List Value} (h : OwnsQ w base e size v n xs) (hb : Below B w w') (hB : w.heap.size ≤ B) : OwnsQ w' base e size v n xs :=
  h.keep (B := B) fun g _ hl => hb.block g (by omega)
theorem OwnsQ.only {w w' : World} {base b : Nat} {e : TypeId} {size n : Nat} {v : Value} {xs : List Value} (h : OwnsQ w base e size v n xs) (ho : Only b w w') (hb : b < base) : OwnsQ w' base e size v n xs :=
  h.keep (B := 0) fun g hg _ => ho.block g (by omega)
theorem OwnsQ.alloc {w : World} {base : Nat} {e : TypeId} {size n : Nat} {v : Value} {xs : List Value} (h : OwnsQ w base e size v n xs) (o : Obj) : OwnsQ (w.alloc o) base e size v n xs :=
  h.keep (B := 0) fun g _ hl => Below.heap_alloc _ _ _ hl
/-- The cells that are read. -/
theorem OwnsQ.reads {w : World} {base : Nat} {e : TypeId} {size n c : Nat} {A : Option Addr} {xs : List Value} (h : OwnsQ w base e size (.slice A n c) n xs) : Reads w w.heap.size size A n xs := by
  refine ⟨h.1, fun hn => ?_⟩
  rcases h.2 with ⟨h0, _⟩ | ⟨g, off, cap, cur, hv, hb, hg, hnc, hcm, hcs, ht⟩
  · omega
  · injection hv with hA
    subst hA
    refine ⟨_, rfl, ?_, fun j u hu => ?_⟩
    · show g < w.heap.size
      rcases Nat.lt_or_ge g w.heap.size with hlt | hge
      · exact hlt
      · rw [Array.getElem?_eq_none hge] at hg; cases hg
    · rw [Addr.add_mid, cell_of_row _ _ _ _ _ _ hg]
      rw [← ht, List.getElem?_take] at hu
      split at hu
      · rw [List.getElem?_drop] at hu
        simpa using hu
      · cases hu
theorem OwnsQ.slice_ {w : World} {base : Nat} {e : TypeId} {size n : Nat} {v : Value} {xs : List Value} (h : OwnsQ w base e size v n xs) : ∃ A c, v = .slice A n c ∧ n ≤ c ∧ (0 < n → A ≠ none) := by
  rcases h.2 with ⟨rfl, rfl | ⟨a, rfl, _⟩⟩ | ⟨g, off, cap, cur, rfl, _, _, hnc, _⟩
  · exact ⟨_, _, rfl, Nat.le_refl _, fun h => absurd h (by omega)⟩
  · exact ⟨_, _, rfl, Nat.le_refl _, fun h => absurd h (by omega)⟩
  · exact ⟨_, _, rfl, hnc, fun _ h => by cases h⟩
/-- 'row[1:]': as the model says it: at the end of the capacity the address stays. -/
theorem OwnsQ.tail {w : World} {base : Nat} {e : TypeId} {n c g off : Nat} {x : Value} {xs : List Value} (h : OwnsQ w base e 1 (.slice (some ⟨g, off, none⟩) (n + 1) c) (n + 1) (x :: xs)) :
    OwnsQ w base e 1 (.slice (some (if c = 1 then ⟨g, off, none⟩ else ⟨g, off + 1, none⟩)) n (c - 1)) n xs := by
  refine ⟨by have := h.1; simp at this ⊢; omega, ?_⟩
  rcases h.2 with ⟨h0, _⟩ | ⟨g', off', cap, cur, hv, hb, hg, hnc, hcm, hcs, ht⟩
  · omega
  · injection hv with hA _ hc
    injection hA with hA
    injection hA with h1 h2
    subst h1 h2 hc
    by_cases h1 : c = 1
    · have hn : n = 0 := by omega
      subst hn
      rw [if_pos h1, h1]
      exact .inl ⟨rfl, .inr ⟨_, rfl, hb⟩⟩
    · rw [if_neg h1]
      refine .inr ⟨g, off + 1, c - 1, cur, rfl, hb, hg, by omega, by omega, by omega, ?_⟩
      have hd : cur.toList.drop off = x :: (cur.toList.drop (off + 1)) := by
        have hl : off < cur.toList.length := by simp; omega
        rw [List.drop_eq_getElem_cons hl]
        rw [List.drop_eq_getElem_cons hl] at ht
        simp only [Nat.mul_one, List.take_succ_cons, List.cons.injEq] at ht
        rw [ht.1]
      rw [hd] at ht
      simpa using ht
section
variable {P : Program} (w : World)
theorem run_append_q (base : Nat) (t ty e : TypeId) (i : TypeInfo) (z : Value) (size bytes : Nat) (ht : P.underlying t = some (.slice e)) (hi : P.info? e = some i) (hz : i.zero = some z)
    (hsize : i.size = size) (hby : i.bytes = bytes) (hzs : z.cells.size = size) (hsz : 0 < size)
    (v : Value) (n : Nat) (xs : List Value) (hown : OwnsQ w base e size v n xs)
    (a : Addr) (m c : Nat) (news : List Value) (hm : 0 < m) (hl : news.length = m * size) (hnews : ∀ j u, news[j]? = some u → w.cell? (a.add j) = some u) (h1 : ∀ u ∈ news, u.oneCell' = true)
    (h63 : n + m ≤ maxLen) (hbytes : (n + m) * bytes ≤ 140737488355328) (hbase : base ≤ w.heap.size) :
    ∃ v' w', (Builtin.append_ #[t, t] ty #[v, .slice (some a) m c]).run P w = .ok v' w' ∧ OwnsQ w' base e size v' (n + m) (xs ++ news) ∧ w.grownBy w' v.ownBlock ∧ (v'.ownBlock = v.ownBlock ∨ ∃ k, v'.ownBlock = some k ∧ w.heap.size ≤ k) := by
  subst hsize
  subst hby
  have hlen : (xs ++ news).length = (n + m) * i.size := by rw [List.length_append, hown.1, hl, Nat.add_mul]
  have hsmall : n + m ≤ 9223372036854775807 := by simp only [maxLen] at h63; omega
  have grown : ∀ (old : Nat), old < n + m → ∀ row : Option Nat,
      OwnsQ (w.drew.alloc (.cells (xs.toArray ++ news.toArray ++ Builtin.zeroCells z.cells (grownCap w (n + m) old e - (n + m))) e)) base e i.size
        (.slice (some ⟨w.heap.size, 0, none⟩) (n + m) (grownCap w (n + m) old e)) (n + m) (xs ++ news) ∧
      w.grownBy (w.drew.alloc (.cells (xs.toArray ++ news.toArray ++ Builtin.zeroCells z.cells (grownCap w (n + m) old e - (n + m))) e)) row := by
    intro old ho row
    have hge := grownCap_ge w (n + m) old e
    have hcm : grownCap w (n + m) old e ≤ maxLen := grownCap_le_maxLen w (n + m) old e h63
    refine ⟨⟨hlen, .inr ⟨w.heap.size, 0, _, _, rfl, hbase, heap_alloc_new w.drew _, hge, hcm, ?_, ?_⟩⟩, ⟨rfl, rfl, rfl, by simp, fun k hk _ => Below.heap_alloc w.drew _ k hk⟩⟩
    · simp only [Array.size_append, List.size_toArray, size_zeroCells, hzs, hown.1, hl, ← Nat.add_mul]
      have : n + m + (grownCap w (n + m) old e - (n + m)) = grownCap w (n + m) old e := by omega
      rw [this]; omega
    · simp only [Array.toList_append, List.append_assoc, List.drop_zero]
      rw [← List.append_assoc, ← hlen]
      exact List.take_left
  rcases hown.2 with ⟨rfl, rfl | ⟨b, rfl, hbb⟩⟩ | ⟨g, off, cap, cur, rfl, hbg, hg, hnc, hcm, hcs, htake⟩
  · have hx : xs = [] := List.eq_nil_of_length_eq_zero (by simpa using hown.1)
    subst hx
    have hr := run_append_nil (P := P) w t ty e i z ht hi hz a m c news hl hnews (by omega) (by omega) (by have hb := hbytes; simp only [Nat.zero_add] at hb; omega)
    have hgr := grown 0 (by omega) (Value.ownBlock (.slice none 0 0))
    simp only [Nat.zero_add, List.nil_append, Array.empty_append] at hgr ⊢
    exact ⟨_, _, hr, hgr.1, hgr.2, .inr ⟨_, rfl, Nat.le_refl _⟩⟩
  · have hx : xs = [] := List.eq_nil_of_length_eq_zero (by simpa using hown.1)
    subst hx
    have hr := run_append_grow (P := P) w t ty e i z ht hi hz b 0 0 [] (by simp) (fun j v hv => by simp at hv) a m c news hl hnews (by omega) (by omega) (growslice_fits (by omega) hbytes)
    have hgr := grown 0 (by omega) (Value.ownBlock (.slice (some b) 0 0))
    exact ⟨_, _, hr, hgr.1, hgr.2, .inr ⟨_, rfl, Nat.le_refl _⟩⟩
  · by_cases hroom : n + m ≤ cap
    · have hfit : off + n * i.size + news.length ≤ cur.size := by
        have : n * i.size + news.length ≤ cap * i.size := by rw [hl, ← Nat.add_mul]; exact Nat.mul_le_mul_right _ hroom
        omega
      have hf := run_firstCells_some (P := P) w i.size m a m c news hl hnews
      have hst := run_storeCells_at P g (off + n * i.size) e news 0 cur w hg (by simpa using hfit) h1
      simp only [Nat.add_zero] at hst
      have hr : (Builtin.append_ #[t, t] ty #[.slice (some ⟨g, off, none⟩) n cap, .slice (some a) m c]).run P w =
          .ok (.slice (some ⟨g, off, none⟩) (n + m) cap) (w.setRow g (cur.toList.take (off + n * i.size) ++ news ++ cur.toList.drop (off + n * i.size + news.length)).toArray) := by
        simp [Builtin.append_, run_underlying ht, sizeOf, typeInfo, hi, Builtin.lenOf, hroom, hf, Addr.add_lit, hst]
      refine ⟨_, _, hr, ⟨hlen, .inr ⟨g, off, cap, _, rfl, hbg, setRow_heap w g cur _ e _ hg, hroom, hcm, ?_, ?_⟩⟩, ⟨rfl, rfl, rfl, by simp, fun k _ hk => setRow_other w g k _ (fun e => hk (by simp [Value.ownBlock, e]))⟩, .inl rfl⟩
      · simp only [List.size_toArray, List.length_append, List.length_take, List.length_drop, Array.length_toList]
        omega
      · have h2 : (List.take (off + n * i.size) cur.toList).drop off = xs := by
          rw [← htake, List.drop_take]
          congr 1; omega
        have h3 : off ≤ (List.take (off + n * i.size) cur.toList).length := by simp; omega
        rw [List.append_assoc, List.drop_append_of_le_length h3, h2, ← List.append_assoc, ← hlen]
        exact List.take_left
    · have holds : ∀ j u, xs[j]? = some u → w.cell? ((⟨g, off, none⟩ : Addr).add j) = some u := by
        intro j u hu
        rw [Addr.add_mid, cell_of_row _ _ _ _ _ _ hg]
        rw [← htake, List.getElem?_take] at hu
        split at hu
        · rw [List.getElem?_drop] at hu
          simpa using hu
        · cases hu
      have hr := run_append_grow (P := P) w t ty e i z ht hi hz ⟨g, off, none⟩ n cap xs hown.1 holds a m c news hl hnews (by omega) (by omega) (growslice_fits (by omega) hbytes)
      have hgr := grown cap (by omega) (Value.ownBlock (.slice (some ⟨g, off, none⟩) n cap))
      exact ⟨_, _, hr, hgr.1, hgr.2, .inr ⟨_, rfl, Nat.le_refl _⟩⟩
end
/-- 'row = append(row, x)' on a queue; the one new element has just been laid in a block of its own. -/
theorem wpList_append_q {P : Program} {ops : Array Oper} {rest : List Oper} {o : Oper} {a : Act} {w0 : World} {Q : Exit → Act → World → Prop} {cs : Array Value} {e : TypeId} (hgd : o.guard = none) (s x : Operand) (t : TypeId)
    (ho : o.op = .call { callee := .builtin .append, args := #[s, x], argTypes := #[t, t] })
    (base : Nat) (i : TypeInfo) (z : Value) (size bytes : Nat) (ht : P.underlying t = some (.slice e)) (hi : P.info? e = some i) (hz : i.zero = some z)
    (hsize : i.size = size) (hby : i.bytes = bytes) (hzs : z.cells.size = size) (hsz : 0 < size)
    (v : Value) (n : Nat) (xs : List Value) (hs : a.eval s = v) (hown : OwnsQ w0 base e size v n xs)
    (G : Nat) (hx : a.eval x = .slice (some ⟨G, 0, none⟩) 1 1) (hG : w0.heap.size = G) (hcs : cs.size = size) (h1 : ∀ u ∈ cs.toList, u.oneCell' = true)
    (hn : n + 1 ≤ 1000000000) (hb1 : bytes ≤ 1024) (hbase : base ≤ w0.heap.size)
    (h : ∀ v' w', OwnsQ w' base e size v' (n + 1) (xs ++ cs.toList) → w0.grownBy w' v.ownBlock → (v'.ownBlock = v.ownBlock ∨ ∃ k, v'.ownBlock = some k ∧ w0.heap.size ≤ k) → wpList P ops Q rest (a.put o.dst v') w') : wpList P ops Q (o :: rest) a (w0.alloc (.cells cs e)) := by
  subst hG
  have hs1 : (w0.alloc (.cells cs e)).heap.size = w0.heap.size + 1 := by simp
  obtain ⟨v', w', hr, h2, h3, h4⟩ := run_append_q (P := P) (w0.alloc (.cells cs e)) base t o.type e i z size bytes ht hi hz hsize hby hzs hsz v n xs (hown.alloc _) ⟨w0.heap.size, 0, none⟩ 1 1 cs.toList (by omega) (by simpa using hcs)
    (by intro j u hu
        rw [Addr.add_mid, Nat.zero_add, cell_of_row _ _ _ _ _ _ (heap_alloc_new w0 _)]
        simpa using hu) h1 (by unfold maxLen; omega)
    (by calc (n + 1) * bytes ≤ 1000000000 * 1024 := Nat.mul_le_mul hn hb1
          _ ≤ 140737488355328 := by omega) (by rw [hs1]; omega)
  refine wpList_plain hgd fun K hK => ?_
  unfold Oper.wp execOp
  simp only [ho, resolve, invoke, builtin, Sem.run_bind, Sem.run_pure, Result.andThen_ok, List.map_toArray, List.map_cons, List.map_nil, hs, hx, hr]
  refine hK _ _ (h v' w' h2 ⟨h3.os, h3.tape, h3.output, by have := h3.size; omega, fun k hk hne => (h3.block k (by omega) hne).trans (Below.heap_alloc _ _ _ hk)⟩ ?_)
  rcases h4 with h4 | ⟨k, h4, h5⟩
  · exact .inl h4
  · exact .inr ⟨k, h4, by omega⟩
theorem OwnsQ.block {w : World} {base : Nat} {e : TypeId} {size n : Nat} {v : Value} {xs : List Value} (h : OwnsQ w base e size v n xs) : ∀ k, v.ownBlock = some k → base ≤ k := by
  intro k hk
  rcases h.2 with ⟨_, rfl | ⟨a, rfl, hb⟩⟩ | ⟨g, off, cap, cur, rfl, hb, _⟩
  · simp [Value.ownBlock] at hk
  · simp [Value.ownBlock] at hk; omega
  · simp [Value.ownBlock] at hk; omega
theorem OwnsQ.kept {w w' : World} {base : Nat} {e : TypeId} {size n : Nat} {v : Value} {xs : List Value} (h : OwnsQ w base e size v n xs) {g : Nat} (hne : v.ownBlock ≠ some g) (hk : ∀ k, k ≠ g → k < w.heap.size → w'.heap[k]? = w.heap[k]?) : OwnsQ w' base e size v n xs := by
  refine ⟨h.1, ?_⟩
  rcases h.2 with h | ⟨g', off, cap, cur, rfl, hb, hg, r⟩
  · exact .inl h
  · have hl : g' < w.heap.size := by
      rcases Nat.lt_or_ge g' w.heap.size with hlt | hge
      · exact hlt
      · rw [Array.getElem?_eq_none hge] at hg; cases hg
    exact .inr ⟨g', off, cap, cur, rfl, hb, (hk g' (fun e => hne (by simp [Value.ownBlock, e])) hl).trans hg, r⟩
theorem grown_below {w w' : World} {row : Option Nat} {B : Nat} (h : w.grownBy w' row) (hB : B ≤ w.heap.size) (hr : ∀ k, row = some k → B ≤ k) : Below B w w' := (Below.refl B w).grown h hB hr
end Go.Proofs.Ytjpejclfppbboaa
