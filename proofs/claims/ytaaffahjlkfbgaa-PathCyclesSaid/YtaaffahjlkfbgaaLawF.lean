/- Fars at a law's graph: what it answers where bend stands still, and where it does not. -/
import Derived.Test.YtaaffahjlkfbgaaLawG
import Derived.Test.YtaaffahjlkfbgaaFars
namespace Go.Proofs.Ytaaffahjlkfbgaa
open Go.ChangeShapes Go.WideShapes Go.ChangeAt Go.RowKit
set_option linter.unusedVariables false
theorem LawG.fars {N f : Nat} {A : Option Addr} {c : Nat} {L : List ArcV} {w : World} (h : LawG N L f) (hr : Arcs w w.heap.size A L) :
    Calls Try.prog 26 #[.agg #[.int .i64 N, .slice A L.length c], .int .i64 f] w (FarsPost w N L f) := by
  have h1 := h.n8
  have h2 := h.len
  exact fars_any N f A c L w hr (by omega) h.lt (by omega) h.inn 32768 h.wt (by omega) (by unfold FAR; omega)
theorem LawG.fars_yes {N f : Nat} {A : Option Addr} {c : Nat} {L : List ArcV} {w : World} (h : LawG N L f) (hr : Arcs w w.heap.size A L) (hb : (bendM N L f).2 < 0) :
    Calls Try.prog 26 #[.agg #[.int .i64 N, .slice A L.length c], .int .i64 f] w fun e w' => ∃ A' c', e = .returned (.tuple #[.slice A' N c', .bool true]) ∧ SL w w.heap.size [.row 2 1 (.slice A' N c') N (nums (bendM N L f).1.far N)] w' := by
  have hn := h.n8
  refine (h.fars hr).mono ?_
  rcases h.still with ⟨_, hs, hB⟩ | ⟨v, hv, _⟩
  · rintro e w' (⟨r, A', c', hrN, hst, rfl, hS⟩ | ⟨hno, _⟩)
    · refine ⟨A', c', rfl, ?_⟩
      rw [nums_ext (StillF.same h.inn h.lt h.wt (by omega) (by unfold FAR; omega) hB hst hs)] at hS
      exact hS
    · exact absurd (stillF_of h.inn h.lt h.wt hB hs) (hno N (Nat.le_refl _))
  · omega
theorem LawG.fars_no {N f : Nat} {A : Option Addr} {c : Nat} {L : List ArcV} {w : World} (h : LawG N L f) (hr : Arcs w w.heap.size A L) (hb : ¬ (bendM N L f).2 < 0) :
    Calls Try.prog 26 #[.agg #[.int .i64 N, .slice A L.length c], .int .i64 f] w fun e w' => e = .returned (.tuple #[.slice none 0 0, .bool false]) ∧ Below w.heap.size w w' := by
  have hn := h.n8
  refine (h.fars hr).mono ?_
  rcases h.still with ⟨h0, _⟩ | ⟨v, hv, he, _⟩
  · omega
  · rintro e w' (⟨r, A', c', hrN, hst, rfl, hS⟩ | ⟨_, h1, h2⟩)
    · obtain ⟨p, _, hc⟩ := endless_cyc h.inn he
      exact (hst.no_cyc h.inn h.lt h.wt (by omega) (by unfold FAR; omega) he.inv hc).elim
    · exact ⟨h1, h2⟩
end Go.Proofs.Ytaaffahjlkfbgaa
