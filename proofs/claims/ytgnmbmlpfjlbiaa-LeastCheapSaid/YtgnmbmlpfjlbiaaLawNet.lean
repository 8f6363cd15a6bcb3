/- What the laws of flow share: the net that a law makes, and its ends. -/
import Derived.Test.YtgnmbmlpfjlbiaaTubesOpen
import Derived.Test.YtgnmbmlpfjlbiaaFlowEnds9
import Derived.Test.YtgnmbmlpfjlbiaaCutM
namespace Go.Proofs.Ytgnmbmlpfjlbiaa
open Go.ChangeShapes Go.WideShapes Go.ChangeAt Go.RowKit
set_option linter.unusedVariables false
/-- Of a law's net and its ends: what the walks use. -/
structure LawNet (N : Nat) (L : List PipeV) (s t : Int) : Prop where
  n2 : 2 ≤ N
  n6 : N ≤ 6
  len : L.length ≤ 14
  inn : InP N L
  small : ∀ p ∈ L, p.room ≤ 255
  ends : endsP N L s t = 0
  check : checkP N L = 0
  s0 : 0 ≤ s
  s1 : s < N
  t0 : 0 ≤ t
  t1 : t < N
  ne : s ≠ t
theorem lawNet {n a b : Int} {l : List TubeV} (h0 : 0 ≤ n) (hok : ∀ x ∈ l, x.ok) : LawNet (nodesF n) (pipesOf (nodesF n) l) (fromOf (nodesF n) a) (toOf (nodesF n) a b) := by
  have h2 : 2 ≤ nodesF n := by unfold nodesF; omega
  have h6 : nodesF n ≤ 6 := by unfold nodesF; omega
  obtain ⟨hi, hr, hc⟩ := pipesOf_in (N := nodesF n) (l := l) (by omega) hok
  have hl := pipesOf_len (nodesF n) l
  obtain ⟨e1, e2, e3, e4, e5⟩ := ends_in (N := (nodesF n : Int)) (a := a) (b := b) (by omega)
  have hck := checkP_good (N := nodesF n) (by omega) (by omega) hi hc
  refine ⟨h2, h6, hl, hi, hr, ?_, hck, e1, e2, e3, e4, e5⟩
  unfold endsP
  rw [if_neg (by omega), if_neg (by omega)]
theorem lawNet_pack (W : World) (n : Int) (A : Option Addr) (cap : Nat) (l : List TubeV) (a b : Int) (hr : Tubes W W.heap.size A l) (hl : l.length ≤ maxLen) (hok : ∀ x ∈ l, x.ok) (n0 : 0 ≤ n) (n1 : n ≤ 255) (a0 : 0 ≤ a) (a1 : a ≤ 255) (b0 : 0 ≤ b) (b1 : b ≤ 255) :
    ∃ (N : Nat) (L : List PipeV) (s t : Int), LawNet N L s t ∧ (∀ w1 : World, Below W.heap.size W w1 → Calls Try.prog 14 #[.int .u8 n, .slice A l.length cap] w1 (NetPost w1 N L)) ∧
      (∀ (V : Value) (w1 : World), Calls Try.prog 15 #[.agg #[.int .i64 N, V], .int .u8 a, .int .u8 b] w1 (fun e w' => e = .returned (.tuple #[.int .i64 s, .int .i64 t]) ∧ Below w1.heap.size w1 w')) := by
  have hLN := lawNet (a := a) (b := b) n0 hok
  exact ⟨_, _, _, _, hLN, fun w1 hb => net09_any n A cap l w1 (reads_more (Reads.below hr hb) hb.size) hl n0 n1 hok, fun V w1 => ends09_any (nodesF n) V a b w1 (by have := hLN.n2; omega) (by have := hLN.n6; omega) a0 a1 b0 b1⟩
end Go.Proofs.Ytgnmbmlpfjlbiaa
