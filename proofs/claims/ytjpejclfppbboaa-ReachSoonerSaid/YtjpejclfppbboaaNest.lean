/- Instances in memory: satellites, customers, rows of rows; what inst.Check tells, as a plain function. No program in sight. Plans in memory: trucks and bikes; what plan.Check and plan.Cost tell, as plain functions. No program in sight. Trucks whose rows of stops have the room that a slice of them needs. Rows whose elements end in a slice of their own: owned, element by element; read; changed at one place. No program in sight. Rows of rows of any kind that a call owns, behind other things: where their cells lie, and a change of one. No program in sight. -/
import Derived.Test.YtjpejclfppbboaaIarr
import Derived.Test.YtjpejclfppbboaaRowRun
namespace Go.Proofs.Ytjpejclfppbboaa
open Go.ChangeShapes Go.WideShapes Go.ChangeAt Go.RowKit
set_option linter.unusedVariables false
/-! rows of structs, in general -/
theorem flat_len {α : Type} (f : α → List Value) (s : Nat) (hs : ∀ a, (f a).length = s) (l : List α) : (l.flatMap f).length = l.length * s := by
 induction l with
 | nil => simp
 | cons a r ih => rw [List.flatMap_cons, List.length_append, ih, hs, List.length_cons, Nat.succ_mul]; omega
theorem flat_get {α : Type} (f : α → List Value) (s : Nat) (hs : ∀ a, (f a).length = s) (l : List α) (k j : Nat) (hk : k < l.length) (hj : j < s) : (l.flatMap f)[k * s + j]? = (f l[k])[j]? := by
 induction l generalizing k with
 | nil => simp at hk
 | cons a r ih =>
   rw [List.flatMap_cons]
   cases k with
   | zero => rw [Nat.zero_mul, Nat.zero_add, List.getElem?_append_left (by rw [hs]; exact hj)]; rfl
   | succ k =>
     rw [List.getElem?_append_right (by rw [hs, Nat.succ_mul]; omega), hs, Nat.succ_mul, show k * s + s + j - s = k * s + j by omega, ih k (by simpa using hk)]
     rfl
theorem flat_snoc {α : Type} (f : α → List Value) (l : List α) (a : α) : (l ++ [a]).flatMap f = l.flatMap f ++ f a := by simp
/-- Cells of structs that lie in memory, as a row. -/
theorem reads_flat {α : Type} (f : α → List Value) (s : Nat) (hs : ∀ a, (f a).length = s) (hs0 : 0 < s) {w : World} {a : Addr} {len : Nat} (P : α → Prop) (h : ∀ i, i < len → ∃ x : α, P x ∧ ∀ j u, (f x)[j]? = some u → w.cell? (a.add (i * s + j)) = some u) :
 ∃ l : List α, l.length = len ∧ Reads w w.heap.size s (some a) l.length (l.flatMap f) ∧ ∀ x ∈ l, P x := by
 induction len with
 | zero => exact ⟨[], rfl, ⟨by simp, fun h => absurd h (by simp)⟩, by simp⟩
 | succ n ih =>
   obtain ⟨l, hl, hr, hp⟩ := ih fun i hi => h i (by omega)
   obtain ⟨x, hx, hc⟩ := h n (by omega)
   refine ⟨l ++ [x], by simp [hl], ⟨by rw [flat_len f s hs], fun _ => ⟨a, rfl, ?_, fun j u hu => ?_⟩⟩, ?_⟩
   · have := World.block_lt_of_cell? w _ (hc 0 _ (List.getElem?_eq_getElem (by rw [hs]; exact hs0)))
     rwa [block_of_add] at this
   · have hlen := flat_len f s hs l
     rw [flat_snoc] at hu
     by_cases hj : j < (l.flatMap f).length
     · rw [List.getElem?_append_left hj] at hu
       have h0 : 0 < l.length := by
        rcases Nat.eq_zero_or_pos l.length with h0 | h0
        · rw [hlen, h0] at hj; omega
        · exact h0
       obtain ⟨ad, e, _, hg⟩ := hr.2 h0
       injection e with e
       subst e
       exact hg j u hu
     · rw [List.getElem?_append_right (by omega)] at hu
       have := hc _ u hu
       rw [hlen, hl] at this
       rw [show n * s + (j - n * s) = j by rw [hlen, hl] at hj; omega] at this
       exact this
   · intro y hy
     rcases List.mem_append.1 hy with hy | hy
     · exact hp y hy
     · simp at hy; subst hy; exact hx
/-- An element of a row of structs. -/
theorem flat_at {α : Type} (f : α → List Value) (s : Nat) (hs : ∀ a, (f a).length = s) (hs0 : 0 < s) {w : World} {B : Nat} {A : Option Addr} {l : List α} (h : Reads w B s A l.length (l.flatMap f)) {k : Nat} (hk : k < l.length) :
 ∃ b o, A = some ⟨b, o, none⟩ ∧ b < B ∧ ∀ j u, (f l[k])[j]? = some u → w.cell? ⟨b, o + (k * s + j), none⟩ = some u := by
 obtain ⟨b, o, e, hb, hc⟩ := reads_plain h (by omega) hs0
 refine ⟨b, o, e, hb, fun j u hu => hc _ _ ?_⟩
 have hj : j < s := by have := (List.getElem?_eq_some_iff.1 hu).1; rw [hs] at this; exact this
 rw [flat_get f s hs l k j hk hj]; exact hu
/-! what an instance is made of -/
structure SatV where
 room : Int
 hold : Int
def SatV.cells (a : SatV) : List Value := [.int .i64 a.room, .int .i64 a.hold]
theorem SatV.cells_len (a : SatV) : a.cells.length = 2 := rfl
structure CustV where
 load : Int
 opn : Int
 cls : Int
 stay : Int
def CustV.cells (a : CustV) : List Value := [.int .i64 a.load, .int .i64 a.opn, .int .i64 a.cls, .int .i64 a.stay]
theorem CustV.cells_len (a : CustV) : a.cells.length = 4 := rfl
def Sats (w : World) (B : Nat) (A : Option Addr) (l : List SatV) : Prop := Reads w B 2 A l.length (l.flatMap SatV.cells)
def Custs (w : World) (B : Nat) (A : Option Addr) (l : List CustV) : Prop := Reads w B 4 A l.length (l.flatMap CustV.cells)
theorem sats_at {w : World} {B : Nat} {A : Option Addr} {l : List SatV} (h : Sats w B A l) {k : Nat} (hk : k < l.length) :
 ∃ b o, A = some ⟨b, o, none⟩ ∧ b < B ∧ w.cell? ⟨b, o + k * 2, none⟩ = some (.int .i64 l[k].room) ∧ w.cell? ⟨b, o + k * 2 + 1, none⟩ = some (.int .i64 l[k].hold) := by
 obtain ⟨b, o, e, hb, hc⟩ := flat_at SatV.cells 2 SatV.cells_len (by decide) h hk
 exact ⟨b, o, e, hb, hc 0 _ rfl, hc 1 _ rfl⟩
theorem custs_at {w : World} {B : Nat} {A : Option Addr} {l : List CustV} (h : Custs w B A l) {k : Nat} (hk : k < l.length) :
 ∃ b o, A = some ⟨b, o, none⟩ ∧ b < B ∧ w.cell? ⟨b, o + k * 4, none⟩ = some (.int .i64 l[k].load) ∧ w.cell? ⟨b, o + k * 4 + 1, none⟩ = some (.int .i64 l[k].opn) ∧ w.cell? ⟨b, o + k * 4 + 2, none⟩ = some (.int .i64 l[k].cls) ∧ w.cell? ⟨b, o + k * 4 + 3, none⟩ = some (.int .i64 l[k].stay) := by
 obtain ⟨b, o, e, hb, hc⟩ := flat_at CustV.cells 4 CustV.cells_len (by decide) h hk
 exact ⟨b, o, e, hb, hc 0 _ rfl, hc 1 _ rfl, hc 2 _ rfl, hc 3 _ rfl⟩
/-- Rows of numbers. -/
def Mat (w : World) (B : Nat) (A : Option Addr) (m : List (List Int)) : Prop :=
 ∃ hs : List Value, Reads w B 1 A m.length hs ∧ ∀ i (h : i < m.length), ∃ a c, hs[i]? = some (.slice a m[i].length c) ∧ Reads w B 1 a m[i].length (m[i].map (.int .i64))
theorem Mat.keep {w w' : World} {B : Nat} {A : Option Addr} {m : List (List Int)} (h : Mat w B A m) (hk : ∀ p : Addr, p.block < B → w'.cell? p = w.cell? p) : Mat w' B A m := by
 obtain ⟨hs, h1, h2⟩ := h
 refine ⟨hs, h1.keep hk, fun i hi => ?_⟩
 obtain ⟨a, c, e, hr⟩ := h2 i hi
 exact ⟨a, c, e, hr.keep hk⟩
theorem Mat.below {w w' : World} {B : Nat} {A : Option Addr} {m : List (List Int)} (h : Mat w B A m) (hb : Below B w w') : Mat w' B A m := h.keep fun _ hp => hb.cell hp
theorem mat_more {w : World} {B B' : Nat} {A : Option Addr} {m : List (List Int)} (h : Mat w B A m) (hB : B ≤ B') : Mat w B' A m := by
 obtain ⟨hs, h1, h2⟩ := h
 refine ⟨hs, reads_more h1 hB, fun i hi => ?_⟩
 obtain ⟨a, c, e, hr⟩ := h2 i hi
 exact ⟨a, c, e, reads_more hr hB⟩
theorem mat_at {w : World} {B : Nat} {A : Option Addr} {m : List (List Int)} (h : Mat w B A m) {i : Nat} (hi : i < m.length) :
 ∃ b o a c, A = some ⟨b, o, none⟩ ∧ b < B ∧ w.cell? ⟨b, o + i, none⟩ = some (.slice a m[i].length c) ∧ Reads w B 1 a m[i].length (m[i].map (.int .i64)) := by
 obtain ⟨hs, h1, h2⟩ := h
 obtain ⟨b, o, e, hb, hc⟩ := reads_plain h1 (by omega) Nat.one_pos
 obtain ⟨a, c, e2, hr⟩ := h2 i hi
 exact ⟨b, o, a, c, e, hb, hc i _ e2, hr⟩
structure InstV where
 fin : Int
 tm : Int
 tr : Int
 bm : Int
 br : Int
 sats : List SatV
 custs : List CustV
 cost : List (List Int)
 time : List (List Int)
/-- How many nodes. -/
def InstV.n (x : InstV) : Nat := 1 + x.sats.length + x.custs.length
/-- Where it lies. -/
structure IAt where
 SA : Option Addr
 sc : Nat
 CA : Option Addr
 cc : Nat
 KA : Option Addr
 kc : Nat
 TA : Option Addr
 tc : Nat
def InstV.cells (x : InstV) (p : IAt) : Array Value := #[.int .i64 x.fin, .int .i64 x.tm, .int .i64 x.tr, .int .i64 x.bm, .int .i64 x.br, .slice p.SA x.sats.length p.sc, .slice p.CA x.custs.length p.cc, .slice p.KA x.cost.length p.kc, .slice p.TA x.time.length p.tc]
structure InstIn (w : World) (B : Nat) (p : IAt) (x : InstV) : Prop where
 sats : Sats w B p.SA x.sats
 custs : Custs w B p.CA x.custs
 cost : Mat w B p.KA x.cost
 time : Mat w B p.TA x.time
theorem InstIn.below {w w' : World} {B : Nat} {p : IAt} {x : InstV} (h : InstIn w B p x) (hb : Below B w w') : InstIn w' B p x :=
 ⟨Reads.below h.sats hb, Reads.below h.custs hb, h.cost.below hb, h.time.below hb⟩
theorem InstIn.more {w : World} {B B' : Nat} {p : IAt} {x : InstV} (h : InstIn w B p x) (hB : B ≤ B') : InstIn w B' p x :=
 ⟨reads_more h.sats hB, reads_more h.custs hB, mat_more h.cost hB, mat_more h.time hB⟩
/-- Of lengths that a slice can have. -/
structure InstL (x : InstV) : Prop where
 sats : x.sats.length ≤ maxLen
 custs : x.custs.length ≤ maxLen
 cost : x.cost.length ≤ maxLen ∧ ∀ r ∈ x.cost, r.length ≤ maxLen
 time : x.time.length ≤ maxLen ∧ ∀ r ∈ x.time, r.length ≤ maxLen
/-! what inst.Check tells -/
def mayB (n least : Int) : Bool := decide (least ≤ n ∧ n ≤ 1000000000)
def manyB (n most : Int) : Bool := decide (1 ≤ n ∧ n ≤ most)
def sqB (m : List (List Int)) (n : Nat) : Bool := decide (m.length = n) && m.all fun r => decide (r.length = n)
def satB (s : SatV) : Bool := mayB s.room 0 && mayB s.hold 0
def custB (c : CustV) : Bool := mayB c.load 1 && mayB c.opn 0 && mayB c.cls c.opn && mayB c.stay 0
/-- One number of a row of rows: none but 0 from a node to itself. -/
def cellB (i k : Nat) (n : Int) : Bool := mayB n 0 && (decide (i ≠ k) || decide (n = 0))
def rowB (i : Nat) (r : List Int) : Bool := (List.range r.length).all fun k => cellB i k (r.getD k 0)
def matB (m : List (List Int)) : Bool := (List.range m.length).all fun i => rowB i (m.getD i [])
def InstV.countB (x : InstV) : Bool := manyB x.tm 60 && manyB x.bm 60 && manyB x.sats.length 12 && manyB x.custs.length 48
def InstV.sizeB (x : InstV) : Bool := sqB x.cost x.n && sqB x.time x.n
def InstV.numsB (x : InstV) : Bool := mayB x.fin 0 && mayB x.tr 0 && mayB x.br 0 && x.sats.all satB && x.custs.all custB && matB x.cost && matB x.time
def InstV.code (x : InstV) : Int := if x.countB = false then 9 else if x.sizeB = false then 4 else if x.numsB = false then 2 else 0
theorem all_take {α : Type} (f : α → Bool) (l : List α) (k : Nat) (h : k < l.length) : (l.take (k + 1)).all f = ((l.take k).all f && f l[k]) := by
 rw [List.take_succ_eq_append_getElem h, List.all_append]; simp
theorem all_range {f : Nat → Bool} (k : Nat) : (List.range (k + 1)).all f = ((List.range k).all f && f k) := by
 rw [List.range_succ, List.all_append]; simp
/-- Of an instance that may be. -/
theorem InstV.ok {x : InstV} (h : x.code = 0) : x.countB = true ∧ x.sizeB = true ∧ x.numsB = true := by
 unfold InstV.code at h
 cases h1 : x.countB <;> cases h2 : x.sizeB <;> cases h3 : x.numsB <;> simp [h1, h2, h3] at h ⊢
end Go.Proofs.Ytjpejclfppbboaa
namespace Go.Proofs.Ytjpejclfppbboaa
open Go.ChangeShapes Go.WideShapes Go.ChangeAt Go.RowKit
set_option linter.unusedVariables false
structure StopV where
 sat : Int
 load : Int
def IntsAt (w : World) (B : Nat) (A : Option Addr) (l : List Int) : Prop := Reads w B 1 A l.length (l.map (.int .i64))
structure BikeV where
 sat : Int
 stops : List Int
/-- Where a slice lies. -/
structure SlA where
 A : Option Addr
 c : Nat
end Go.Proofs.Ytjpejclfppbboaa
namespace Go.Proofs.Ytjpejclfppbboaa
open Go.ChangeShapes Go.WideShapes Go.ChangeAt Go.RowKit
set_option linter.unusedVariables false
end Go.Proofs.Ytjpejclfppbboaa
namespace Go.Proofs.Ytjpejclfppbboaa
open Go.ChangeShapes Go.WideShapes Go.ChangeAt Go.RowKit
set_option linter.unusedVariables false
theorem flat_set {α : Type} (f : α → List Value) (s : Nat) (hs : ∀ a, (f a).length = s) (l : List α) (i j : Nat) (hi : i < l.length) (x : α) (u : Value) (hj : j < s) (hx : f x = (f l[i]).set j u) : (l.set i x).flatMap f = (l.flatMap f).set (i * s + j) u := by
 induction l generalizing i with
 | nil => simp at hi
 | cons a r ih =>
   cases i with
   | zero =>
     simp only [List.set_cons_zero, List.flatMap_cons, Nat.zero_mul, Nat.zero_add]
     rw [List.set_append, if_pos (by rw [hs]; exact hj)]
     rw [hx]; rfl
   | succ i =>
     simp only [List.set_cons_succ, List.flatMap_cons]
     rw [List.set_append, if_neg (by rw [hs, Nat.succ_mul]; omega), hs, Nat.succ_mul, show i * s + s + j - s = i * s + j by omega, ih i (by simpa using hi) hx]
/-- A kind of such rows: the outer elements' type and size, the inner ones'; what stands ahead of the slice; how long, and what, the slice is. -/
structure Nest (α : Type) where
 T : TypeId
 S : Nat
 t : TypeId
 s : Nat
 pre : α → List Value
 len : α → Nat
 cells : α → List Value
namespace Nest
variable {α : Type} (N : Nest α)
def head (q : α × Value) : List Value := N.pre q.1 ++ [q.2]
def inner (q : α × Value) : Rs := .row N.t N.s q.2 (N.len q.1) (N.cells q.1)
def heads (ps : List (α × Value)) : List Value := ps.flatMap N.head
def own (v : Value) (ps : List (α × Value)) : List Rs := .row N.T N.S v ps.length (N.heads ps) :: ps.map N.inner
variable {N}
end Nest
/-! the kinds -/
end Go.Proofs.Ytjpejclfppbboaa
namespace Go.Proofs.Ytjpejclfppbboaa
open Go.ChangeShapes Go.WideShapes Go.ChangeAt Go.RowKit
set_option linter.unusedVariables false
section gn
variable {α : Type} {N : Nest α} {W w : World} {B : Nat} {P R : List Rs} {ps : List (α × Value)} {c g off n : Nat}
end gn
end Go.Proofs.Ytjpejclfppbboaa
