/- The walk of law MoveRaw, of plans whose stops an int holds. (printed by gen/moveraw.py) -/
import Derived.Test.YtpbhbmdghafkmaaBoth23J
import Derived.Test.YtpbhbmdghafkmaaRows
import Derived.Test.YtpbhbmdghafkmaaMoveOpenJ
import Derived.Test.YtpbhbmdghafkmaaSameB
import Derived.Test.YtpbhbmdghafkmaaAwake23
import Derived.Test.YtpbhbmdghafkmaaLightW
import Derived.Test.YtpbhbmdghafkmaaOpenD17
import Derived.Deep.CutBlock
import Derived.Deep.CutRange
import Derived.Deep.DeepCutAuto
namespace Go.Proofs.Ytpbhbmdghafkmaa
open Go.ChangeShapes Go.WideShapes Go.ChangeAt Go.RowKit
set_option linter.unusedVariables false
set_option linter.unusedSimpArgs false
theorem bulk_one {H : Type} (d : DataW H) : 1 ≤ Rows.uptoBulk d := by
 cases d with
 | lit l => cases l <;> simp [Rows.uptoBulk]
 | nil => simp [Rows.uptoBulk]
 | ptr d => simp [Rows.uptoBulk]
 | slice elems spare => simp [Rows.uptoBulk]
 | agg parts => simp [Rows.uptoBulk]
 | iface t d => simp [Rows.uptoBulk]
 | map entries => simp [Rows.uptoBulk]
 | held h => simp [Rows.uptoBulk]
theorem bulk_len {H : Type} (es : List (DataW H)) : es.length ≤ Rows.uptoBulkAll es := by
 induction es with
 | nil => simp
 | cons e r ih =>
   have := bulk_one e
   simp only [Rows.uptoBulkAll, List.length_cons]
   omega
theorem bulk_row {H : Type} {d : DataW H} {n : Nat} (h : RowD d n) : n ≤ Rows.uptoBulk d := by
 rcases h with rfl | ⟨es, sp, rfl, rfl⟩
 · exact Nat.zero_le _
 · have := bulk_len es
   simp only [Rows.uptoBulk]
   omega
theorem bulk_sum {H : Type} : ∀ (es : List (DataW H)) (ls : List Nat), es.length = ls.length → (∀ i (hi : i < ls.length), ∃ e, es[i]? = some e ∧ ls[i] + 1 ≤ Rows.uptoBulk e) → ls.sum + ls.length ≤ Rows.uptoBulkAll es
 | [], [], _, _ => by simp
 | e :: r, [], h, _ => by simp at h
 | [], l :: r, h, _ => by simp at h
 | e :: es, l :: ls, h, h2 => by
   have ih := bulk_sum es ls (by simpa using h) (fun i hi => by
    obtain ⟨e', he, hb⟩ := h2 (i + 1) (by simpa using hi)
    exact ⟨e', by simpa using he, by simpa using hb⟩)
   obtain ⟨e', he, hb⟩ := h2 0 (by simp)
   simp only [List.getElem?_cons_zero, Option.some.injEq, List.getElem_cons_zero] at he hb
   subst he
   simp only [Rows.uptoBulkAll, List.sum_cons, List.length_cons]
   omega
theorem PlanD.bulk {H : Type} {d : DataW H} {q : PlanV} (h : PlanD d q) : q.many ≤ Rows.uptoBulk d := by
 obtain ⟨dt, db, rfl, hT, hB⟩ := h.ex
 have g1 : q.trucks.length + q.trucks.flatten.length ≤ Rows.uptoBulk dt := by
  rcases hT with h0 | ⟨es, sp, rfl, hl, hi⟩
  · rw [h0]; simp
  · have := bulk_sum es (q.trucks.map List.length) (by simpa using hl) (fun i hi' => by
     have hi2 : i < q.trucks.length := by simpa using hi'
     obtain ⟨e, he, hr⟩ := hi i hi2
     refine ⟨_, he, ?_⟩
     have := bulk_row hr
     simp only [Rows.uptoBulk, Rows.uptoBulkAll, List.getElem_map]
     omega)
    rw [List.length_flatten]
    rw [List.length_map] at this
    simp only [Rows.uptoBulk]
    omega
 have g2 : q.bikes.length + (allStops q.bikes).length ≤ Rows.uptoBulk db := by
  rcases hB with h0 | ⟨es, sp, rfl, hl, hi⟩
  · rw [h0]; simp [allStops]
  · have := bulk_sum es (q.bikes.map (·.stops.length)) (by simpa using hl) (fun i hi' => by
     have hi2 : i < q.bikes.length := by simpa using hi'
     obtain ⟨a, e, he, hr⟩ := hi i hi2
     refine ⟨_, he, ?_⟩
     have := bulk_row hr
     have := bulk_one a
     simp only [Rows.uptoBulk, Rows.uptoBulkAll, List.getElem_map]
     omega)
    have e2 : (allStops q.bikes).length = (q.bikes.map (·.stops.length)).sum := by unfold allStops; rw [List.length_flatMap]
    rw [List.length_map] at this
    simp only [Rows.uptoBulk]
    omega
 unfold PlanV.many
 simp only [Rows.uptoBulk, Rows.uptoBulkAll]
 omega
theorem PlanD.wide {H : Type} {d : DataW H} {q : PlanV} (h : PlanD d q) (hk : Rows.uptoBulk d ≤ 1048576) : PlanW q := by
 have h1 := h.bulk
 unfold PlanV.many at h1
 exact ⟨by omega, by omega, by omega, by omega⟩
end Go.Proofs.Ytpbhbmdghafkmaa
