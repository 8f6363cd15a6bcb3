/- The plain part of law11.Make: an instance by small numbers; it may be. Rows of rows that the call owns. No program in sight. -/
import Derived.Test.YtpbhbmdghafkmaaNest
namespace Go.Proofs.Ytpbhbmdghafkmaa
open Go.ChangeShapes Go.WideShapes Go.ChangeAt Go.RowKit
set_option linter.unusedVariables false
/-! rows of rows, owned -/
def rowR (t : TypeId) (v : Value) (r : List Int) : Rs := .row t 1 v r.length (r.map (.int .i64))
def rowRs (t : TypeId) (hs : List Value) (m : List (List Int)) : List Rs := List.zipWith (rowR t) hs m
theorem rowRs_snoc (t : TypeId) (hs : List Value) (m : List (List Int)) (v : Value) (r : List Int) (h : hs.length = m.length) : rowRs t (hs ++ [v]) (m ++ [r]) = rowRs t hs m ++ [rowR t v r] := by
 unfold rowRs
 rw [List.zipWith_append h]
 rfl
theorem rowRs_mem {t : TypeId} {hs : List Value} {m : List (List Int)} (h : hs.length = m.length) {i : Nat} (hi : i < m.length) : rowR t (hs[i]'(by omega)) m[i] ∈ rowRs t hs m := by
 unfold rowRs
 have hl : i < (List.zipWith (rowR t) hs m).length := by rw [List.length_zipWith]; omega
 have := List.getElem_mem hl
 rwa [List.getElem_zipWith] at this
theorem mat_own {W w : World} {B : Nat} {l : List Rs} (hS : SL W B l w) {t T : TypeId} {hs : List Value} {m : List (List Int)} {A : Option Addr} {c : Nat} (hh : hs.length = m.length) (ho : .row T 1 (.slice A m.length c) m.length hs ∈ l) (hr : ∀ r ∈ rowRs t hs m, r ∈ l) : Mat w w.heap.size A m := by
 have h1 : OwnsQ w 0 T 1 (.slice A m.length c) m.length hs := hS.holds _ ho
 refine ⟨hs, h1.reads, fun i hi => ?_⟩
 have h2 : OwnsQ w 0 t 1 (hs[i]'(by omega)) m[i].length (m[i].map (.int .i64)) := hS.holds _ (hr _ (rowRs_mem hh hi))
 obtain ⟨a, c', e, _, _⟩ := h2.slice_
 refine ⟨a, c', by rw [← e]; exact List.getElem?_eq_getElem _, ?_⟩
 rw [e] at h2
 exact h2.reads
/-! what law11.square makes -/
/-- How many numbers have been taken. -/
def kcount (l : List Int) (n i j : Nat) : Nat := if l.length = 0 then 0 else i * (n - 1) + (if i < j then j - 1 else j)
def sqCell (l : List Int) (n i j : Nat) : Int := if i = j ∨ l.length = 0 then 0 else l.getD (kcount l n i j % l.length) 0 % 30
def sqRow (l : List Int) (n i : Nat) : List Int := (List.range n).map (sqCell l n i)
def sqRows (l : List Int) (n k : Nat) : List (List Int) := (List.range k).map (sqRow l n)
theorem kc_ne {l : List Int} {n i j : Nat} (h : i ≠ j) (hl : 0 < l.length) : kcount l n i (j + 1) = kcount l n i j + 1 := by
 have h0 : ¬ l.length = 0 := by omega
 unfold kcount
 rw [if_neg h0, if_neg h0]
 by_cases hij : i < j
 · rw [if_pos (show i < j + 1 by omega), if_pos hij]; omega
 · rw [if_neg (show ¬ i < j + 1 by omega), if_neg hij]; omega
theorem kc_eq (l : List Int) (n i : Nat) : kcount l n i (i + 1) = kcount l n i i := by
 unfold kcount
 split
 · rfl
 · rw [if_pos (show i < i + 1 by omega), if_neg (show ¬ i < i by omega)]; omega
theorem kc_none {l : List Int} (n i j : Nat) (h : l.length = 0) : kcount l n i j = 0 := by unfold kcount; rw [if_pos h]
theorem kc_next {l : List Int} {n i : Nat} (h : i < n) : kcount l n (i + 1) 0 = kcount l n i n := by
 unfold kcount
 split
 · rfl
 · rw [if_neg (show ¬ i + 1 < 0 by omega), Nat.succ_mul]
   first | omega | (rw [if_pos h]; omega)
theorem kc_bound {l : List Int} {n i j : Nat} (hi : i ≤ 100) (hj : j ≤ 100) (hn : n ≤ 100) : kcount l n i j ≤ 10100 := by
 unfold kcount
 split
 · omega
 · have : i * (n - 1) ≤ 100 * 100 := Nat.mul_le_mul hi (by omega)
   split <;> omega
theorem sqRows_len (l : List Int) (n k : Nat) : (sqRows l n k).length = k := by simp [sqRows]
theorem sqRow_len (l : List Int) (n i : Nat) : (sqRow l n i).length = n := by simp [sqRow]
theorem sqRows_succ (l : List Int) (n k : Nat) : sqRows l n (k + 1) = sqRows l n k ++ [sqRow l n k] := by
 unfold sqRows; rw [List.range_succ, List.map_append]; rfl
theorem sqCell_in {l : List Int} (h : ∀ x ∈ l, 0 ≤ x ∧ x ≤ 255) (n i j : Nat) : 0 ≤ sqCell l n i j ∧ sqCell l n i j < 30 := by
 unfold sqCell
 split
 · omega
 · generalize kcount l n i j % l.length = k
   omega
/-! law11.Make -/
structure SmallV where
 fin : Int
 trucks : Int
 troom : Int
 bikes : Int
 broom : Int
 sats : List SatV
 custs : List CustV
 cost : List Int
 time : List Int
 tight : Bool
 loose : Bool
def SatV.cells8 (a : SatV) : List Value := [.int .u8 a.room, .int .u8 a.hold]
theorem SatV.cells8_len (a : SatV) : a.cells8.length = 2 := rfl
def CustV.cells8 (a : CustV) : List Value := [.int .u8 a.load, .int .u8 a.opn, .int .u8 a.cls, .int .u8 a.stay]
theorem CustV.cells8_len (a : CustV) : a.cells8.length = 4 := rfl
def isU8 (n : Int) : Prop := 0 ≤ n ∧ n ≤ 255
def SatV.ok (a : SatV) : Prop := isU8 a.room ∧ isU8 a.hold
def CustV.ok (a : CustV) : Prop := isU8 a.load ∧ isU8 a.opn ∧ isU8 a.cls ∧ isU8 a.stay
structure SmallV.ok (s : SmallV) : Prop where
 fin : isU8 s.fin
 trucks : isU8 s.trucks
 troom : isU8 s.troom
 bikes : isU8 s.bikes
 broom : isU8 s.broom
 sats : ∀ x ∈ s.sats, x.ok
 custs : ∀ x ∈ s.custs, x.ok
 cost : ∀ x ∈ s.cost, isU8 x
 time : ∀ x ∈ s.time, isU8 x
def SmallV.wide (s : SmallV) : Int := if s.loose then 9 else 1
def mkSat (wide : Int) (s : SatV) : SatV := ⟨4 + wide * (s.room % 40), s.hold % 12⟩
def mkCust (wide : Int) (tight : Bool) (c : CustV) : CustV := ⟨1 + c.load % 6 + (if tight then c.load / 32 else 0), c.opn % 50, c.opn % 50 + wide * c.cls, c.stay % 8⟩
def satsK (wide : Int) (l : List SatV) (k : Nat) : List SatV := (l.take (min k 3)).map (mkSat wide)
def custsK (wide : Int) (tight : Bool) (l : List CustV) (k : Nat) : List CustV := (l.take (min k 6)).map (mkCust wide tight)
theorem take_yes {α β : Type} (f : α → β) {l : List α} {k m : Nat} (hk : k < l.length) (h : k < m) : (l.take (min (k + 1) m)).map f = (l.take (min k m)).map f ++ [f l[k]] := by
 rw [show min (k + 1) m = k + 1 by omega, show min k m = k by omega, List.take_succ_eq_append_getElem hk, List.map_append]
 rfl
theorem take_no {α β : Type} (f : α → β) {l : List α} {k m : Nat} (h : ¬ k < m) : (l.take (min (k + 1) m)).map f = (l.take (min k m)).map f := by
 rw [show min (k + 1) m = m by omega, show min k m = m by omega]
theorem satsK_len (wide : Int) (l : List SatV) (k : Nat) (h : k ≤ l.length) : (satsK wide l k).length = min k 3 := by unfold satsK; simp; omega
theorem custsK_len (wide : Int) (tight : Bool) (l : List CustV) (k : Nat) (h : k ≤ l.length) : (custsK wide tight l k).length = min k 6 := by unfold custsK; simp; omega
def SmallV.mkSats (s : SmallV) : List SatV := if (satsK s.wide s.sats s.sats.length).length = 0 then [⟨60, 2⟩] else satsK s.wide s.sats s.sats.length
def SmallV.mkCusts (s : SmallV) : List CustV := if (custsK s.wide s.tight s.custs s.custs.length).length = 0 then [⟨2, 5, 90, 1⟩] else custsK s.wide s.tight s.custs s.custs.length
def SmallV.n (s : SmallV) : Nat := 1 + s.mkSats.length + s.mkCusts.length
def SmallV.mk_ (s : SmallV) : InstV := ⟨40 + s.fin * s.wide, 1 + s.trucks % 4, 5 + s.wide * (s.troom % 40), 1 + s.bikes % 6, 3 + s.wide * (s.broom % 20), s.mkSats, s.mkCusts, sqRows s.cost s.n s.n, sqRows s.time s.n s.n⟩
theorem SmallV.sats_len (s : SmallV) : 1 ≤ s.mkSats.length ∧ s.mkSats.length ≤ 3 := by
 unfold SmallV.mkSats
 have := satsK_len s.wide s.sats s.sats.length (Nat.le_refl _)
 split
 · simp
 · omega
theorem SmallV.custs_len (s : SmallV) : 1 ≤ s.mkCusts.length ∧ s.mkCusts.length ≤ 6 := by
 unfold SmallV.mkCusts
 have := custsK_len s.wide s.tight s.custs s.custs.length (Nat.le_refl _)
 split
 · simp
 · omega
theorem SmallV.wide_or (s : SmallV) : s.wide = 1 ∨ s.wide = 9 := by unfold SmallV.wide; split <;> simp
/-- Bounds of what is made. -/
structure InstV.Small (x : InstV) : Prop where
 fin : 40 ≤ x.fin ∧ x.fin ≤ 3000
 tm : 1 ≤ x.tm ∧ x.tm ≤ 4
 tr : 5 ≤ x.tr ∧ x.tr ≤ 3000
 bm : 1 ≤ x.bm ∧ x.bm ≤ 6
 br : 3 ≤ x.br ∧ x.br ≤ 3000
 sats : 1 ≤ x.sats.length ∧ x.sats.length ≤ 3
 custs : 1 ≤ x.custs.length ∧ x.custs.length ≤ 6
 satsIn : ∀ s ∈ x.sats, (4 ≤ s.room ∧ s.room ≤ 3000) ∧ 0 ≤ s.hold ∧ s.hold ≤ 12
 custsIn : ∀ c ∈ x.custs, (1 ≤ c.load ∧ c.load ≤ 20) ∧ (0 ≤ c.opn ∧ c.opn ≤ 50) ∧ (c.opn ≤ c.cls ∧ c.cls ≤ 3000) ∧ 0 ≤ c.stay ∧ c.stay ≤ 8
 costLen : x.cost.length = x.n ∧ ∀ r ∈ x.cost, r.length = x.n
 timeLen : x.time.length = x.n ∧ ∀ r ∈ x.time, r.length = x.n
 costIn : ∀ i (hi : i < x.cost.length) j (hj : j < x.cost[i].length), 0 ≤ x.cost[i][j] ∧ x.cost[i][j] < 30 ∧ (i = j → x.cost[i][j] = 0)
 timeIn : ∀ i (hi : i < x.time.length) j (hj : j < x.time[i].length), 0 ≤ x.time[i][j] ∧ x.time[i][j] < 30 ∧ (i = j → x.time[i][j] = 0)
theorem mkSat_in {wide : Int} {s : SatV} (hw : wide = 1 ∨ wide = 9) (h : s.ok) : (4 ≤ (mkSat wide s).room ∧ (mkSat wide s).room ≤ 3000) ∧ 0 ≤ (mkSat wide s).hold ∧ (mkSat wide s).hold ≤ 12 := by
 unfold SatV.ok isU8 at h
 unfold mkSat
 dsimp only
 rcases hw with rfl | rfl <;> omega
theorem mkCust_in {wide : Int} {tight : Bool} {c : CustV} (hw : wide = 1 ∨ wide = 9) (h : c.ok) : (1 ≤ (mkCust wide tight c).load ∧ (mkCust wide tight c).load ≤ 20) ∧ (0 ≤ (mkCust wide tight c).opn ∧ (mkCust wide tight c).opn ≤ 50) ∧ ((mkCust wide tight c).opn ≤ (mkCust wide tight c).cls ∧ (mkCust wide tight c).cls ≤ 3000) ∧ 0 ≤ (mkCust wide tight c).stay ∧ (mkCust wide tight c).stay ≤ 8 := by
 unfold CustV.ok isU8 at h
 unfold mkCust
 dsimp only
 rcases hw with rfl | rfl <;> split <;> omega
theorem sqRows_in {l : List Int} (h : ∀ x ∈ l, isU8 x) (n : Nat) : ∀ i (hi : i < (sqRows l n n).length) j (hj : j < (sqRows l n n)[i].length), 0 ≤ (sqRows l n n)[i][j] ∧ (sqRows l n n)[i][j] < 30 ∧ (i = j → (sqRows l n n)[i][j] = 0) := by
 intro i hi j hj
 have e : (sqRows l n n)[i][j] = sqCell l n i j := by simp [sqRows, sqRow]
 rw [e]
 have := sqCell_in (l := l) h n i j
 refine ⟨this.1, this.2, fun hij => ?_⟩
 unfold sqCell
 rw [if_pos (.inl hij)]
theorem sqRows_lens (l : List Int) (n : Nat) : (sqRows l n n).length = n ∧ ∀ r ∈ sqRows l n n, r.length = n := by
 refine ⟨sqRows_len l n n, fun r hr => ?_⟩
 obtain ⟨i, _, rfl⟩ := List.mem_map.1 hr
 exact sqRow_len l n i
theorem SmallV.small {s : SmallV} (h : s.ok) : s.mk_.Small := by
 have hw := s.wide_or
 have h1 := h.fin
 have h2 := h.trucks
 have h3 := h.troom
 have h4 := h.bikes
 have h5 := h.broom
 unfold isU8 at h1 h2 h3 h4 h5
 refine ⟨?_, ?_, ?_, ?_, ?_, s.sats_len, s.custs_len, ?_, ?_, sqRows_lens _ _, sqRows_lens _ _, sqRows_in h.cost _, sqRows_in h.time _⟩
 · show 40 ≤ 40 + s.fin * s.wide ∧ 40 + s.fin * s.wide ≤ 3000
   rcases hw with e | e <;> rw [e] <;> omega
 · show 1 ≤ 1 + s.trucks % 4 ∧ 1 + s.trucks % 4 ≤ 4
   omega
 · show 5 ≤ 5 + s.wide * (s.troom % 40) ∧ 5 + s.wide * (s.troom % 40) ≤ 3000
   rcases hw with e | e <;> rw [e] <;> omega
 · show 1 ≤ 1 + s.bikes % 6 ∧ 1 + s.bikes % 6 ≤ 6
   omega
 · show 3 ≤ 3 + s.wide * (s.broom % 20) ∧ 3 + s.wide * (s.broom % 20) ≤ 3000
   rcases hw with e | e <;> rw [e] <;> omega
 · intro x hx
   have hx : x ∈ s.mkSats := hx
   unfold SmallV.mkSats at hx
   split at hx
   · simp at hx; subst hx; simp
   · obtain ⟨y, hy, rfl⟩ := List.mem_map.1 hx
     exact mkSat_in hw (h.sats y (List.mem_of_mem_take hy))
 · intro x hx
   have hx : x ∈ s.mkCusts := hx
   unfold SmallV.mkCusts at hx
   split at hx
   · simp at hx; subst hx; simp
   · obtain ⟨y, hy, rfl⟩ := List.mem_map.1 hx
     exact mkCust_in hw (h.custs y (List.mem_of_mem_take hy))
theorem matB_of {m : List (List Int)} (h : ∀ i (hi : i < m.length) j (hj : j < m[i].length), 0 ≤ m[i][j] ∧ m[i][j] < 30 ∧ (i = j → m[i][j] = 0)) : matB m = true := by
 unfold matB
 rw [List.all_eq_true]
 intro i hi
 have hi' : i < m.length := by simpa using hi
 unfold rowB
 rw [List.all_eq_true]
 intro j hj
 have e0 : m.getD i [] = m[i] := by simp [hi']
 rw [e0] at hj ⊢
 have hj' : j < m[i].length := by simpa using hj
 have e1 : m[i].getD j 0 = m[i][j] := by simp [hj']
 rw [e1]
 obtain ⟨a, b, c⟩ := h i hi' j hj'
 unfold cellB mayB
 simp only [Bool.and_eq_true, decide_eq_true_eq, Bool.or_eq_true]
 refine ⟨by omega, ?_⟩
 by_cases e : i = j
 · exact .inr (c e)
 · exact .inl e
/-- What is made may be. -/
theorem InstV.Small.code {x : InstV} (h : x.Small) : x.code = 0 := by
 have hc : x.countB = true := by
  unfold InstV.countB manyB
  have a := h.tm
  have b := h.bm
  have c := h.sats
  have d := h.custs
  simp only [Bool.and_eq_true, decide_eq_true_eq]
  omega
 have hz : x.sizeB = true := by
  unfold InstV.sizeB sqB
  simp only [Bool.and_eq_true, decide_eq_true_eq, List.all_eq_true]
  exact ⟨⟨h.costLen.1, fun r hr => h.costLen.2 r hr⟩, h.timeLen.1, fun r hr => h.timeLen.2 r hr⟩
 have hn : x.numsB = true := by
  unfold InstV.numsB
  rw [matB_of h.costIn, matB_of h.timeIn]
  simp only [Bool.and_eq_true, List.all_eq_true, Bool.and_true]
  have a := h.fin
  have b := h.tr
  have c := h.br
  refine ⟨⟨⟨⟨?_, ?_⟩, ?_⟩, fun s hs => ?_⟩, fun s hs => ?_⟩
  · simp [mayB]; omega
  · simp [mayB]; omega
  · simp [mayB]; omega
  · have := h.satsIn s hs
    simp [satB, mayB]; omega
  · have := h.custsIn s hs
    simp [custB, mayB]; omega
 unfold InstV.code
 simp [hc, hz, hn]
theorem InstV.Small.lens {x : InstV} (h : x.Small) : InstL x := by
 have a := h.sats
 have b := h.custs
 have hn : x.n ≤ 10 := by unfold InstV.n; omega
 refine ⟨?_, ?_, ⟨?_, fun r hr => ?_⟩, ⟨?_, fun r hr => ?_⟩⟩ <;> unfold maxLen
 · omega
 · omega
 · rw [h.costLen.1]; omega
 · rw [h.costLen.2 r hr]; omega
 · rw [h.timeLen.1]; omega
 · rw [h.timeLen.2 r hr]; omega
end Go.Proofs.Ytpbhbmdghafkmaa
