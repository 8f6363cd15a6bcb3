/- A law's graph of few nodes, and a node of it: what the walks of folder 07's laws share. -/
import Derived.Test.YtaaffahjlkfbgaaAwake07
import Derived.Test.YtaaffahjlkfbgaaLinksOpen
import Derived.Test.YtaaffahjlkfbgaaComesM
namespace Go.Proofs.Ytaaffahjlkfbgaa
open Go.ChangeShapes Go.WideShapes Go.ChangeAt Go.RowKit
set_option linter.unusedVariables false
/-- Of a law's graph and a node of it: what the walks use. -/
structure LawG (N : Nat) (L : List ArcV) (f : Nat) : Prop where
  n1 : 1 ≤ N
  n8 : N ≤ 8
  len : L.length ≤ 24
  check : checkG N L = 0
  inn : InN N L
  wt : ∀ a ∈ L, -32768 ≤ a.wt ∧ a.wt ≤ 32768
  lt : f < N
theorem lawG {n : Int} {N f : Nat} {l : List LinkV} (h0 : 0 ≤ n) (h1 : n ≤ 255) (hN : (N : Int) = nodesOf n) (hok : ∀ a ∈ l, a.ok) (hf : f < N) : LawG N (arcsOf N l) f := by
  have hck : checkG N (arcsOf N l) = 0 := by rw [hN]; exact arcsOf_ok h0 h1 hok
  have hb : 1 ≤ N ∧ N ≤ 8 := by unfold nodesOf at hN; omega
  refine ⟨hb.1, hb.2, by unfold arcsOf; simp; omega, hck, by simpa using (inN_of_check hck).2.2.2, ?_, hf⟩
  intro a ha
  unfold arcsOf at ha
  obtain ⟨x, hx, rfl⟩ := List.mem_map.1 ha
  have := hok x (List.mem_of_mem_take hx)
  unfold LinkV.ok at this
  show -32768 ≤ x.wt ∧ x.wt ≤ 32768
  omega
theorem LawG.sz {N : Nat} {L : List ArcV} {f : Nat} (h : LawG N L f) : (32768 : Int) * (((N + 2) * (L.length + 1) : Nat) : Int) < FAR := by
  have h1 := h.n8
  have h2 := h.len
  have : (N + 2) * (L.length + 1) ≤ 10 * 25 := Nat.mul_le_mul (by omega) (by omega)
  unfold FAR
  omega
theorem LawG.still {N : Nat} {L : List ArcV} {f : Nat} (h : LawG N L f) : ((bendM N L f).2 = -1 ∧ Still N L f 32768 (bendM N L f).1 ∧ (32768 : Int) * (((bendM N L f).1.clk + 1 : Nat) : Int) < FAR) ∨ (∃ v : Nat, (bendM N L f).2 = (v : Int) ∧ Endless N L f 32768 (N + 1) (bendM N L f).1 v ∧ ∀ q, 1 ≤ q → q ≤ N + 1 → ∃ s', RInv N L f 32768 q 0 s' ∧ ∃ j, ∃ hj : j < L.length, goes L[j] s') := by
  have h1 := h.n8
  have h2 := h.len
  obtain ⟨hc, h3⟩ := bendK_spec h.inn h.lt h.wt N 1 (BS.start f) (Nat.le_refl _) (by unfold FAR; omega) (by omega) (RInv.start h.lt (by omega))
  have e : (N + 1) * L.length ≤ 9 * 24 := Nat.mul_le_mul (by omega) (by omega)
  have e2 : (BS.start f).clk = 1 := rfl
  rcases h3 with ⟨h3, h4⟩ | ⟨⟨v, hv, he⟩, h5⟩
  · refine .inl ⟨h3, h4, ?_⟩
    have hc' : (bendM N L f).1.clk ≤ 1 + (N + 1) * L.length := by rw [← e2]; exact hc
    unfold FAR
    omega
  · rw [Nat.add_comm] at he h5
    exact .inr ⟨v, hv, he, h5⟩
theorem still_arc {N f : Nat} {L : List ArcV} (h1 : LawG N L f) (g1 : (bendM N L f).2 < 0) {k : Nat} (hk : k < L.length) : (bendM N L f).1.far L[k].fr.toNat = 1152921504606846976 ∨ ((bendM N L f).1.far L[k].fr.toNat ≠ 1152921504606846976 ∧ ¬ (bendM N L f).1.far L[k].fr.toNat + L[k].wt < (bendM N L f).1.far L[k].to.toNat) := by
  rcases h1.still with ⟨_, s1, b1⟩ | ⟨v, hv, _⟩
  · have := s1.not_ k hk
    have hin := h1.inn _ (List.getElem_mem hk)
    unfold goes FAR at this
    rcases s1.inv.bnd L[k].fr.toNat (by omega) with h | h
    · left; exact h
    · right; unfold FAR at h; omega
  · omega
theorem still_far {N f : Nat} {L : List ArcV} (h1 : LawG N L f) (g1 : (bendM N L f).2 < 0) : ∀ i, i < N → -1152921504606846976 ≤ (bendM N L f).1.far i ∧ (bendM N L f).1.far i ≤ 1152921504606846976 := by
  intro i hi
  rcases h1.still with ⟨_, s1, b1⟩ | ⟨v, hv, _⟩
  · rcases s1.inv.bnd i hi with h | h <;> unfold FAR at * <;> omega
  · omega
theorem LawG.from_no {N f : Nat} {A : Option Addr} {c : Nat} {L : List ArcV} {w : World} (h : LawG N L f) (hr : Arcs w w.heap.size A L) (hb : ¬ (bendM N L f).2 < 0) :
    Calls Try.prog 24 #[.agg #[.int .i64 N, .slice A L.length c], .int .i64 f] w fun e w' => e = .returned (.tuple #[.agg #[.slice none 0 0, .slice none 0 0], .int .i64 7]) ∧ Below w.heap.size w w' := by
  refine (from_any N f A c L w hr h.check h.lt 32768 h.wt (by omega) (by omega) h.sz).mono ?_
  rintro e w' (⟨hlt, _⟩ | ⟨_, h1, h2⟩)
  · exact absurd hlt hb
  · exact ⟨h1, h2⟩
theorem LawG.from_yes {N f : Nat} {A : Option Addr} {c : Nat} {L : List ArcV} {w : World} (h : LawG N L f) (hr : Arcs w w.heap.size A L) (hb : (bendM N L f).2 < 0) :
    Calls Try.prog 24 #[.agg #[.int .i64 N, .slice A L.length c], .int .i64 f] w fun e w' => ∃ fb bb, e = .returned (.tuple #[.agg #[.slice (some ⟨fb, 0, none⟩) N N, .slice (some ⟨bb, 0, none⟩) N N], .int .i64 0]) ∧ SL w w.heap.size [.blk fb (iarr (bendM N L f).1.far N) 2, .blk bb (iarr (bendM N L f).1.by_ N) 3] w' := by
  refine (from_any N f A c L w hr h.check h.lt 32768 h.wt (by omega) (by omega) h.sz).mono ?_
  rintro e w' (⟨_, h1⟩ | ⟨hge, _⟩)
  · exact h1
  · omega
end Go.Proofs.Ytaaffahjlkfbgaa
