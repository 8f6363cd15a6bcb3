/- What the laws of least costs share: the net that a law makes, its ends, its costs. -/
import Derived.Test.YtgnmbmlpfjlbiaaLawNet
import Derived.Test.YtgnmbmlpfjlbiaaDual
import Derived.Test.YtgnmbmlpfjlbiaaLeastV
import Derived.Test.YtgnmbmlpfjlbiaaFlows
namespace Go.Proofs.Ytgnmbmlpfjlbiaa
open Go.ChangeShapes Go.WideShapes Go.ChangeAt Go.RowKit
set_option linter.unusedVariables false
structure LawNet10 (N : Nat) (L : List PipeV) (s t : Nat) : Prop extends LawNet N L (s : Int) (t : Int) where
  costs : ∀ p ∈ L, 0 ≤ p.cost ∧ p.cost ≤ 255
theorem LawNet10.dear {N : Nat} {L : List PipeV} {s t : Nat} (h : LawNet10 N L s t) : Costs L := fun p hp => by
  have := h.costs p hp
  unfold DearI
  omega
theorem LawNet10.few {N : Nat} {L : List PipeV} {s t : Nat} (h : LawNet10 N L s t) : N * (2 * L.length + 1) + 2 ≤ 800000 := by
  have h1 := h.n6
  have h2 := h.len
  have : N * (2 * L.length + 1) ≤ 6 * 29 := Nat.mul_le_mul h1 (by omega)
  omega
theorem lawNet10_pack (W : World) (n : Int) (A : Option Addr) (cap : Nat) (l : List TubeV) (a b : Int) (hr : Tubes W W.heap.size A l) (hl : l.length ≤ maxLen) (hok : ∀ x ∈ l, x.ok) (n0 : 0 ≤ n) (n1 : n ≤ 255) (a0 : 0 ≤ a) (a1 : a ≤ 255) (b0 : 0 ≤ b) (b1 : b ≤ 255) :
    ∃ (N : Nat) (L : List PipeV) (s t : Nat), LawNet10 N L s t ∧ (∀ w1 : World, Below W.heap.size W w1 → Calls Try.prog 14 #[.int .u8 n, .slice A l.length cap] w1 (NetPost w1 N L)) ∧
      (∀ (V : Value) (w1 : World), Calls Try.prog 15 #[.agg #[.int .i64 N, V], .int .u8 a, .int .u8 b] w1 (fun e w' => e = .returned (.tuple #[.int .i64 (s : Int), .int .i64 (t : Int)]) ∧ Below w1.heap.size w1 w')) := by
  have hLN := lawNet (a := a) (b := b) n0 hok
  have hs := hLN.s0
  have ht := hLN.t0
  refine ⟨nodesF n, pipesOf (nodesF n) l, (fromOf (nodesF n) a).toNat, (toOf (nodesF n) a b).toNat, ⟨by rw [Int.toNat_of_nonneg hs, Int.toNat_of_nonneg ht]; exact hLN, fun p hp => ?_⟩, fun w1 hb => net09_any n A cap l w1 (reads_more (Reads.below hr hb) hb.size) hl n0 n1 hok, fun V w1 => ?_⟩
  · obtain ⟨x, hx, rfl⟩ := List.mem_map.1 hp
    exact (hok x (List.mem_of_mem_take hx)).2.2.2
  · rw [Int.toNat_of_nonneg hs, Int.toNat_of_nonneg ht]
    exact ends09_any (nodesF n) V a b w1 (by have := hLN.n2; omega) (by have := hLN.n6; omega) a0 a1 b0 b1
theorem cost_small {N : Nat} {L : List PipeV} {s t : Nat} {y h : Nat → Int} {m : Int} (hL : LawNet10 N L s t) (hO : Opt N L s t y h m) (hm : m ≤ 10000) : 0 ≤ costF L y ∧ costF L y ≤ 700000000000000 := by
  have h1 := costK_le (C := 10000) hL.dear (by decide) (fun k hk => ⟨(hO.flow.feas k hk).1, by have := hO.few k hk; omega⟩) L.length (Nat.le_refl _)
  have h2 : (10000 : Int) * DearI * (L.length : Int) ≤ 10000 * DearI * 14 := Int.mul_le_mul_of_nonneg_left (by have := hL.len; omega) (by decide)
  unfold costF
  refine ⟨h1.1, ?_⟩
  have := h1.2
  unfold DearI at *
  omega
theorem innK_outside {N : Nat} {ps : List PipeV} {X : Nat → Int} {v : Int} (hP : InP N ps) (hv : v < 0 ∨ (N : Int) ≤ v) : ∀ k, k ≤ ps.length → innK ps X v k = 0
  | 0, _ => rfl
  | k + 1, hk => by
    have hkl : k < ps.length := by omega
    have hp := hP ps[k] (List.getElem_mem hkl)
    show innK ps X v k + cont ps X v k = 0
    rw [innK_outside hP hv k (by omega), cont_at hkl, if_neg (by omega), if_neg (by omega)]
    rfl
theorem good_flow {N : Nat} {ps : List PipeV} {s t : Int} {X : Nat → Int} (hP : InP N ps) (h : Good N ps s t X) : FlowOf ps s t X (inn ps X t) := by
  refine ⟨h.feas, rfl, h.pos, fun v h1 h2 => ?_⟩
  by_cases hv : v < 0 ∨ (N : Int) ≤ v
  · exact innK_outside hP hv _ (Nat.le_refl _)
  · have := h.kept v.toNat (by omega) (by omega) (by omega)
    rwa [Int.toNat_of_nonneg (by omega)] at this
/-- What Least answers, in one shape. -/
def LeastOut (W : World) (N : Nat) (ps : List PipeV) (s t : Nat) (want : Int) (w' : World) (FA : Option Addr) (fn : Nat) (c : Int) (HA : Option Addr) (hn : Nat) (err : Int) : Prop :=
  (FA = none ∧ fn = 0 ∧ c = 0 ∧ HA = none ∧ hn = 0 ∧ err = 8 ∧ Below W.heap.size W w' ∧ ∃ (y : Nat → Int) (sum : Int), MostOf N ps s t y sum ∧ sum < want) ∨
  (∃ (y h : Nat → Int) (fb hb : Nat), FA = some ⟨fb, 0, none⟩ ∧ fn = ps.length ∧ c = costF ps y ∧ HA = some ⟨hb, 0, none⟩ ∧ hn = N ∧ err = 0 ∧ SL W W.heap.size [.blk fb (iarr y ps.length) 2, .blk hb (iarr h N) 2] w' ∧ Opt N ps s t y h want)
theorem LeastOut.below {W w' : World} {N : Nat} {ps : List PipeV} {s t : Nat} {want : Int} {FA : Option Addr} {fn : Nat} {c : Int} {HA : Option Addr} {hn : Nat} {err : Int} (h : LeastOut W N ps s t want w' FA fn c HA hn err) : Below W.heap.size W w' := by
  rcases h with ⟨_, _, _, _, _, _, h, _⟩ | ⟨_, _, _, _, _, _, _, _, _, _, h, _⟩
  · exact h
  · exact h.below
theorem least_one (N : Nat) (A : Option Addr) (cap : Nat) (ps : List PipeV) (s t : Nat) (want : Int) (w : World) (hr : Pipes w w.heap.size A ps) (he : endsP N ps s t = 0) (hw0 : 0 ≤ want) (hw1 : want ≤ 10000) (hC : Costs ps) (hNL : N * (2 * ps.length + 1) + 2 ≤ 800000) :
    Calls Try.prog 25 #[.agg #[.int .i64 N, .slice A ps.length cap], .int .i64 (s : Int), .int .i64 (t : Int), .int .i64 want] w fun e w' => ∃ (FA : Option Addr) (fn : Nat) (c : Int) (HA : Option Addr) (hn : Nat) (err : Int), e = .returned (.tuple #[.agg #[.slice FA fn fn, .int .i64 c, .slice HA hn hn], .int .i64 err]) ∧ LeastOut w N ps s t want w' FA fn c HA hn err := by
  refine (least_any N A cap ps s t want w hr he hw0 hw1 hC hNL).mono fun e w' h => ?_
  rcases h with ⟨y, sum, rfl, hb, hM, hlt⟩ | ⟨y, h, fb, hb, rfl, hS, hO⟩
  · exact ⟨none, 0, 0, none, 0, 8, rfl, .inl ⟨rfl, rfl, rfl, rfl, rfl, rfl, hb, y, sum, hM, hlt⟩⟩
  · exact ⟨_, _, _, _, _, 0, rfl, .inr ⟨y, h, fb, hb, rfl, rfl, rfl, rfl, rfl, rfl, hS, hO⟩⟩
end Go.Proofs.Ytgnmbmlpfjlbiaa
