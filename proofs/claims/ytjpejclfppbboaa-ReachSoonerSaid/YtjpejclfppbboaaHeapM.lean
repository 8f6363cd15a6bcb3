/- A heap of things (container/heap over a key and a number), in plain Lean: up, down; what they keep. No program in sight. -/
import Derived.Test.YtjpejclfppbboaaIarr
namespace Go.Proofs.Ytjpejclfppbboaa
set_option linter.unusedVariables false
structure ItemV where
 key : Int
 id : Int
deriving DecidableEq
def ItemV.lt (a b : ItemV) : Prop := a.key < b.key ∨ (a.key = b.key ∧ a.id < b.id)
instance (a b : ItemV) : Decidable (a.lt b) := by unfold ItemV.lt; infer_instance
theorem ItemV.irr (a : ItemV) : ¬ a.lt a := by unfold ItemV.lt; omega
theorem ItemV.asym {a b : ItemV} (h : a.lt b) : ¬ b.lt a := by unfold ItemV.lt at *; omega
/-- not ahead of: as 'at least'. -/
theorem ItemV.ge_trans {a b c : ItemV} (h1 : ¬ a.lt b) (h2 : ¬ b.lt c) : ¬ a.lt c := by unfold ItemV.lt at *; omega
def upd (f : Nat → ItemV) (i : Nat) (v : ItemV) : Nat → ItemV := fun k => if k = i then v else f k
theorem upd_at (f : Nat → ItemV) (i : Nat) (v : ItemV) : upd f i v i = v := if_pos rfl
theorem upd_ne (f : Nat → ItemV) {i k : Nat} (v : ItemV) (h : k ≠ i) : upd f i v k = f k := if_neg h
def swapF (f : Nat → ItemV) (i j : Nat) : Nat → ItemV := upd (upd f i (f j)) j (f i)
theorem swapF_at (f : Nat → ItemV) (i j k : Nat) : swapF f i j k = if k = j then f i else if k = i then f j else f k := rfl
/-- How often a thing is among the first n. -/
def cnt (x : ItemV) (f : Nat → ItemV) : Nat → Nat
 | 0 => 0
 | n + 1 => cnt x f n + if f n = x then 1 else 0
theorem cnt_ext (x : ItemV) {f g : Nat → ItemV} {n : Nat} (h : ∀ k, k < n → f k = g k) : cnt x f n = cnt x g n := by
 induction n with
 | zero => rfl
 | succ n ih => rw [cnt, cnt, ih (fun k hk => h k (by omega)), h n (by omega)]
theorem cnt_upd (x : ItemV) (f : Nat → ItemV) {i n : Nat} (v : ItemV) (hi : i < n) : cnt x (upd f i v) n + (if f i = x then 1 else 0) = cnt x f n + if v = x then 1 else 0 := by
 induction n with
 | zero => omega
 | succ n ih =>
   rw [cnt, cnt]
   by_cases e : i = n
   · subst e
     rw [cnt_ext x (g := f) (fun k hk => upd_ne f v (by omega)), upd_at]
     omega
   · rw [upd_ne f v (fun h => e h.symm)]
     have := ih (by omega)
     omega
theorem cnt_swap (x : ItemV) (f : Nat → ItemV) {i j n : Nat} (hi : i < n) (hj : j < n) : cnt x (swapF f i j) n = cnt x f n := by
 unfold swapF
 have h1 := cnt_upd x f (f j) hi
 have h2 := cnt_upd x (upd f i (f j)) (f i) hj
 by_cases e : j = i
 · subst e; rw [upd_at] at h2; omega
 · rw [upd_ne f (f j) e] at h2; omega
def par (k : Nat) : Nat := (k - 1) / 2
/-- All are at least what stands above them. -/
def Heap (f : Nat → ItemV) (n : Nat) : Prop := ∀ k, 0 < k → k < n → ¬ (f k).lt (f (par k))
theorem Heap.least {f : Nat → ItemV} {n : Nat} (h : Heap f n) : ∀ k, k < n → ¬ (f k).lt (f 0) := by
 intro k
 induction k using Nat.strongRecOn with
 | ind k ih =>
   intro hk
   by_cases e : k = 0
   · subst e; exact ItemV.irr _
   · have h1 : par k < k := by unfold par; omega
     exact ItemV.ge_trans (h k (by omega) hk) (ih (par k) h1 (by omega))
/-- up: from j on. -/
def upM (f : Nat → ItemV) (j : Nat) : Nat → ItemV :=
 if h : 0 < j ∧ (f j).lt (f (par j)) then upM (swapF f (par j) j) (par j) else f
termination_by j
decreasing_by unfold par; omega
theorem upM_go {f : Nat → ItemV} {j : Nat} (h0 : 0 < j) (h : (f j).lt (f (par j))) : upM f j = upM (swapF f (par j) j) (par j) := by
 rw [upM, dif_pos ⟨h0, h⟩]
theorem upM_stop {f : Nat → ItemV} {j : Nat} (h : ¬ (0 < j ∧ (f j).lt (f (par j)))) : upM f j = f := by
 rw [upM, dif_neg h]
theorem upM_cnt (x : ItemV) (n : Nat) : ∀ j (f : Nat → ItemV), j < n → cnt x (upM f j) n = cnt x f n := by
 intro j
 induction j using Nat.strongRecOn with
 | ind j ih =>
   intro f hj
   by_cases h : 0 < j ∧ (f j).lt (f (par j))
   · have h1 : par j < j := by unfold par; omega
     rw [upM_go h.1 h.2, ih (par j) h1 _ (by omega), cnt_swap x f (by omega) hj]
   · rw [upM_stop h]
/-- A heap but at j. -/
structure HeapUp (f : Nat → ItemV) (n j : Nat) : Prop where
 rest : ∀ k, 0 < k → k < n → k ≠ j → ¬ (f k).lt (f (par k))
 over : ∀ k, 0 < k → k < n → par k = j → 0 < j → ¬ (f k).lt (f (par j))
theorem upM_heap (n : Nat) : ∀ j (f : Nat → ItemV), j < n → HeapUp f n j → Heap (upM f j) n := by
 intro j
 induction j using Nat.strongRecOn with
 | ind j ih =>
   intro f hj hu
   by_cases h : 0 < j ∧ (f j).lt (f (par j))
   · obtain ⟨h0, hl⟩ := h
     have h1 : par j < j := by unfold par; omega
     rw [upM_go h0 hl]
     obtain ⟨p, hp⟩ : ∃ p, p = par j := ⟨_, rfl⟩
     rw [← hp] at h1 hl ⊢
     refine ih p h1 _ (by omega) ⟨?_, ?_⟩
     · intro k k0 kn kp
       rw [swapF_at, swapF_at]
       by_cases e1 : k = j
       · subst e1
         rw [if_pos rfl, ← hp, if_neg (by omega), if_pos rfl]
         exact ItemV.asym hl
       · rw [if_neg e1, if_neg kp]
         by_cases e2 : par k = j
         · rw [if_pos e2]
           have := hu.over k k0 kn e2 h0
           rwa [← hp] at this
         · rw [if_neg e2]
           by_cases e3 : par k = p
           · rw [if_pos e3]
             have := hu.rest k k0 kn e1
             rw [e3] at this
             exact ItemV.ge_trans this (ItemV.asym hl)
           · rw [if_neg e3]
             exact hu.rest k k0 kn e1
     · intro k k0 kn kp p0
       have hpp : par p < p := by unfold par; omega
       rw [swapF_at, swapF_at, if_neg (by omega : ¬ par p = j), if_neg (by omega : ¬ par p = p)]
       have hrest := hu.rest p p0 (by omega) (by omega)
       by_cases e1 : k = j
       · rw [if_pos e1]; exact hrest
       · rw [if_neg e1]
         have kne : k ≠ p := by intro e; subst e; unfold par at kp; omega
         rw [if_neg kne]
         have := hu.rest k k0 kn e1
         rw [kp] at this
         exact ItemV.ge_trans this hrest
   · rw [upM_stop h]
     intro k k0 kn
     by_cases e : k = j
     · subst e; exact fun hl => h ⟨k0, hl⟩
     · exact hu.rest k k0 kn e
/-- The child that comes first. -/
def kid (f : Nat → ItemV) (n i : Nat) : Nat := if 2 * i + 2 < n ∧ (f (2 * i + 2)).lt (f (2 * i + 1)) then 2 * i + 2 else 2 * i + 1
theorem kid_lt {f : Nat → ItemV} {n i : Nat} (h : 2 * i + 1 < n) : kid f n i < n ∧ i < kid f n i ∧ par (kid f n i) = i := by
 unfold kid par; split <;> omega
/-- down: from i on, among the first n. -/
def downM (f : Nat → ItemV) (n i : Nat) : Nat → ItemV :=
 if h : 2 * i + 1 < n then
  if (f (kid f n i)).lt (f i) then downM (swapF f i (kid f n i)) n (kid f n i) else f
 else f
termination_by n - i
decreasing_by have := kid_lt (f := f) h; omega
theorem downM_go {f : Nat → ItemV} {n i : Nat} (h : 2 * i + 1 < n) (hl : (f (kid f n i)).lt (f i)) : downM f n i = downM (swapF f i (kid f n i)) n (kid f n i) := by
 rw [downM, dif_pos h, if_pos hl]
theorem downM_stop {f : Nat → ItemV} {n i : Nat} (h : 2 * i + 1 < n) (hl : ¬ (f (kid f n i)).lt (f i)) : downM f n i = f := by
 rw [downM, dif_pos h, if_neg hl]
theorem downM_end {f : Nat → ItemV} {n i : Nat} (h : ¬ 2 * i + 1 < n) : downM f n i = f := by
 rw [downM, dif_neg h]
theorem downM_cnt (x : ItemV) (n m : Nat) (hm : n ≤ m) : ∀ d i (f : Nat → ItemV), n - i ≤ d → i < m → cnt x (downM f n i) m = cnt x f m := by
 intro d
 induction d with
 | zero => intro i f hd hi; rw [downM_end (by omega)]
 | succ d ih =>
   intro i f hd hi
   by_cases h : 2 * i + 1 < n
   · have hk := kid_lt (f := f) h
     by_cases hl : (f (kid f n i)).lt (f i)
     · rw [downM_go h hl, ih _ _ (by omega) (by omega), cnt_swap x f hi (by omega)]
     · rw [downM_stop h hl]
   · rw [downM_end h]
theorem downM_out (n k : Nat) (hk : n ≤ k) : ∀ d i (f : Nat → ItemV), n - i ≤ d → i < n → downM f n i k = f k := by
 intro d
 induction d with
 | zero => intro i f hd hi; omega
 | succ d ih =>
   intro i f hd hi
   by_cases h : 2 * i + 1 < n
   · have hq := kid_lt (f := f) h
     by_cases hl : (f (kid f n i)).lt (f i)
     · rw [downM_go h hl, ih _ _ (by omega) (by omega), swapF_at, if_neg (by omega), if_neg (by omega)]
     · rw [downM_stop h hl]
   · rw [downM_end h]
/-- A heap but below i. -/
structure HeapDown (f : Nat → ItemV) (n i : Nat) : Prop where
 rest : ∀ k, 0 < k → k < n → par k ≠ i → ¬ (f k).lt (f (par k))
 over : ∀ k, 0 < k → k < n → par k = i → 0 < i → ¬ (f k).lt (f (par i))
theorem kid_least {f : Nat → ItemV} {n i k : Nat} (h0 : 0 < k) (hk : k < n) (hp : par k = i) : ¬ (f k).lt (f (kid f n i)) := by
 have h2 : k = 2 * i + 1 ∨ k = 2 * i + 2 := by unfold par at hp; omega
 unfold kid
 rcases h2 with h2 | h2
 · split
   · rename_i h; rw [h2]; exact ItemV.asym h.2
   · rw [h2]; exact ItemV.irr _
 · split
   · rw [h2]; exact ItemV.irr _
   · rename_i h; rw [h2]; rw [h2] at hk; exact fun hl => h ⟨hk, hl⟩
theorem downM_heap (n : Nat) : ∀ d i (f : Nat → ItemV), n - i ≤ d → i < n → HeapDown f n i → Heap (downM f n i) n := by
 intro d
 induction d with
 | zero => intro i f hd hi; omega
 | succ d ih =>
   intro i f hd hi hu
   by_cases h : 2 * i + 1 < n
   · obtain ⟨c, hc⟩ : ∃ c, c = kid f n i := ⟨_, rfl⟩
     have hq := kid_lt (f := f) h
     have hle : ∀ k, 0 < k → k < n → par k = i → ¬ (f k).lt (f c) := fun k k0 kn kp => by rw [hc]; exact kid_least k0 kn kp
     by_cases hl : (f (kid f n i)).lt (f i)
     · rw [downM_go h hl]
       rw [← hc] at hl hq ⊢
       obtain ⟨q1, q2, q3⟩ := hq
       refine ih c _ (by omega) q1 ⟨?_, ?_⟩
       · intro k k0 kn kp
         rw [swapF_at, swapF_at, if_neg kp]
         by_cases e1 : k = c
         · subst e1
           rw [if_pos rfl, q3, if_pos rfl]
           exact ItemV.asym hl
         · rw [if_neg e1]
           by_cases e2 : par k = i
           · rw [if_pos e2]
             by_cases e3 : k = i
             · exfalso; unfold par at e2; omega
             · rw [if_neg e3]; exact hle k k0 kn e2
           · rw [if_neg e2]
             by_cases e3 : k = i
             · rw [if_pos e3]
               subst e3
               exact hu.over c (by omega) q1 q3 k0
             · rw [if_neg e3]; exact hu.rest k k0 kn e2
       · intro k k0 kn kp c0
         have e0 : k ≠ c := by intro e; subst e; unfold par at kp; omega
         have e1 : k ≠ i := by intro e; subst e; unfold par at kp; omega
         rw [swapF_at, swapF_at, q3, if_neg e0, if_neg e1, if_neg (by omega : ¬ i = c), if_pos rfl]
         have := hu.rest k k0 kn (by omega)
         rwa [kp] at this
     · rw [downM_stop h hl]
       rw [← hc] at hl
       intro k k0 kn
       by_cases e : par k = i
       · rw [e]
         exact ItemV.ge_trans (hle k k0 kn e) hl
       · exact hu.rest k k0 kn e
   · rw [downM_end h]
     intro k k0 kn
     refine hu.rest k k0 kn ?_
     unfold par
     omega
/-! ### What a pile does. -/
/-- Put: one more at the end, and up. -/
def putM (f : Nat → ItemV) (n : Nat) (x : ItemV) : Nat → ItemV := upM (upd f n x) n
theorem putM_heap {f : Nat → ItemV} {n : Nat} (x : ItemV) (h : Heap f n) : Heap (putM f n x) (n + 1) := by
 refine upM_heap (n + 1) n _ (Nat.lt_succ_self n) ⟨?_, ?_⟩
 · intro k k0 kn ke
   have : par k < k := by unfold par; omega
   rw [upd_ne f x ke, upd_ne f x (by omega)]
   exact h k k0 (by omega)
 · intro k k0 kn kp n0
   exfalso
   unfold par at kp
   omega
theorem putM_cnt (y : ItemV) (f : Nat → ItemV) (n : Nat) (x : ItemV) : cnt y (putM f n x) (n + 1) = cnt y f n + if x = y then 1 else 0 := by
 unfold putM
 rw [upM_cnt y (n + 1) n _ (Nat.lt_succ_self n), cnt, cnt_ext y (g := f) (fun k hk => upd_ne f x (by omega)), upd_at]
/-- Take: the first and the last change places; down among the others. -/
def takeM (f : Nat → ItemV) (n : Nat) : Nat → ItemV := downM (swapF f 0 n) n 0
theorem takeM_last {f : Nat → ItemV} {n : Nat} : takeM f n n = f 0 := by
 unfold takeM
 have hs : swapF f 0 n n = f 0 := by rw [swapF_at, if_pos rfl]
 rcases Nat.eq_zero_or_pos n with h | h
 · rw [downM_end (by omega)]; exact hs
 · rw [downM_out n n (Nat.le_refl _) n 0 _ (by omega) h]; exact hs
theorem takeM_heap {f : Nat → ItemV} {n : Nat} (h : Heap f (n + 1)) : Heap (takeM f n) n := by
 rcases Nat.eq_zero_or_pos n with h0 | h0
 · intro k k0 kn; omega
 · refine downM_heap n n 0 _ (by omega) h0 ⟨?_, ?_⟩
   · intro k k0 kn kp
     have : par k < k := by unfold par; omega
     rw [swapF_at, swapF_at, if_neg (by omega), if_neg (by omega), if_neg (by omega), if_neg kp]
     exact h k k0 (by omega)
   · intro k k0 kn kp h; omega
theorem takeM_cnt (y : ItemV) (f : Nat → ItemV) (n : Nat) : cnt y (takeM f n) n + (if f 0 = y then 1 else 0) = cnt y f (n + 1) := by
 have h1 : cnt y (takeM f n) (n + 1) = cnt y f (n + 1) := by
  unfold takeM
  rw [downM_cnt y n (n + 1) (by omega) n 0 _ (by omega) (by omega), cnt_swap y f (by omega) (by omega)]
 rw [cnt, takeM_last] at h1
 exact h1
/-! ### Its cells. -/
def ItemV.cells (a : ItemV) : List Value := [.int .i64 a.key, .int .i64 a.id]
def itemCells (f : Nat → ItemV) (n : Nat) : List Value := (List.range n).flatMap fun k => (f k).cells
theorem itemCells_succ (f : Nat → ItemV) (n : Nat) : itemCells f (n + 1) = itemCells f n ++ (f n).cells := by
 unfold itemCells; rw [List.range_succ, List.flatMap_append]; simp
theorem itemCells_len (f : Nat → ItemV) (n : Nat) : (itemCells f n).length = n * 2 := by
 induction n with
 | zero => rfl
 | succ n ih => rw [itemCells_succ, List.length_append, ih]; simp [ItemV.cells]; omega
theorem itemCells_get (f : Nat → ItemV) {n k : Nat} (h : k < n) : (itemCells f n)[k * 2]? = some (.int .i64 (f k).key) ∧ (itemCells f n)[k * 2 + 1]? = some (.int .i64 (f k).id) := by
 induction n with
 | zero => omega
 | succ n ih =>
   rw [itemCells_succ]
   have hl := itemCells_len f n
   by_cases e : k = n
   · subst e
     rw [List.getElem?_append_right (by omega), List.getElem?_append_right (by omega), hl]
     simp [ItemV.cells]
   · rw [List.getElem?_append_left (by omega), List.getElem?_append_left (by omega)]
     exact ih (by omega)
theorem itemCells_ext {f g : Nat → ItemV} {n : Nat} (h : ∀ k, k < n → f k = g k) : itemCells f n = itemCells g n := by
 induction n with
 | zero => rfl
 | succ n ih => rw [itemCells_succ, itemCells_succ, ih (fun k hk => h k (by omega)), h n (by omega)]
theorem itemCells_upd (f : Nat → ItemV) {n k : Nat} (x : ItemV) (h : k < n) : ((itemCells f n).set (k * 2) (.int .i64 x.key)).set (k * 2 + 1) (.int .i64 x.id) = itemCells (upd f k x) n := by
 apply List.ext_getElem?
 intro i
 have hl := itemCells_len f n
 have hl2 := itemCells_len (upd f k x) n
 by_cases hi : i < n * 2
 · obtain ⟨g0, g1⟩ := itemCells_get f (show i / 2 < n by omega)
   obtain ⟨u0, u1⟩ := itemCells_get (upd f k x) (show i / 2 < n by omega)
   rw [List.getElem?_set, List.getElem?_set, List.length_set, hl]
   by_cases e : i / 2 = k
   · rw [e, upd_at] at u0 u1
     rcases (show i = k * 2 ∨ i = k * 2 + 1 by omega) with e2 | e2
     · subst e2
       rw [if_neg (by omega), if_pos rfl, if_pos (by omega), u0]
     · subst e2
       rw [if_pos rfl, if_pos (by omega), u1]
   · rw [if_neg (by omega), if_neg (by omega)]
     rw [upd_ne f x e] at u0 u1
     rcases (show i = i / 2 * 2 ∨ i = i / 2 * 2 + 1 by omega) with e2 | e2
     · rw [e2, g0, u0]
     · rw [e2, g1, u1]
 · rw [List.getElem?_eq_none (by simp; omega), List.getElem?_eq_none (by omega)]
theorem itemCells_take (f : Nat → ItemV) (n : Nat) : (itemCells f (n + 1)).take (n * 2) = itemCells f n := by
 rw [itemCells_succ, List.take_left' (itemCells_len f n)]
end Go.Proofs.Ytjpejclfppbboaa
