/- Draft and Spoilt, told as what may be read; a wish, opened. -/
import Derived.Test.YtpbhbmdghafkmaaSpoilt
import Derived.Test.YtpbhbmdghafkmaaSmallOpen
import Derived.Lib.SmallJoins
namespace Go.Proofs.Ytpbhbmdghafkmaa
open Go.ChangeShapes Go.WideShapes Go.Deep Go.Joins Go.RowKit
set_option linter.unusedVariables false
def PlanPost (w : World) (q : PlanV) (e : Ending) (w' : World) : Prop := ∃ TA tc BA bc, e = .returned (.agg #[.slice TA q.trucks.length tc, .slice BA q.bikes.length bc]) ∧ PlanIn w' w'.heap.size TA BA q ∧ TrucksC w' w'.heap.size TA q.trucks ∧ Below w.heap.size w w'
theorem plan_read {w w' : World} {vt vb : Value} {ts : List (List StopV × Value)} {ps : List (BikeV × Value)} (h : SL w w.heap.size ((truckN 88 105).own vt ts ++ (bikeN 44 3).own vb ps) w') : PlanPost w ⟨ts.map (·.1), ps.map (·.1)⟩ (.returned (.agg #[vt, vb])) w' := by
  obtain ⟨TA, tc, rfl, _, _⟩ := (own_outer h (fun r hr => List.mem_append_left _ hr)).slice_
  obtain ⟨BA, bc, rfl, _, _⟩ := (own_outer h (fun r hr => List.mem_append_right _ hr)).slice_
  have h1 := trucks_own h (fun r hr => List.mem_append_left _ hr)
  have h2 := bikes_own h (fun r hr => List.mem_append_right _ hr)
  exact ⟨TA, tc, BA, bc, by simp, ⟨h1.plain, h2⟩, h1, h.below⟩
theorem draft_read {w w' : World} {q : PlanV} {e : Ending} (h : ClonePost w q e w') : PlanPost w q e w' := by
  obtain ⟨vt, vb, ts, ps, rfl, h1, h2, h3⟩ := h
  have := plan_read h3
  rw [h1, h2] at this
  exact this
def SpoilR (w : World) (e : Ending) (w' : World) : Prop := ∃ q, PlanL q ∧ PlanPost w q e w'
theorem spoil_read {w w' : World} {e : Ending} (h : SpoilPost w e w') : SpoilR w e w' := by
  obtain ⟨vt, vb, ts, ps, rfl, h1, h3⟩ := h
  exact ⟨_, h1, plan_read h3⟩
theorem draft_S {x : InstV} {u : WishV} (hx : x.Small) : PlanS (draftM x u) := by
  have hc : ∀ c ∈ x.custs, 1 ≤ c.load ∧ c.load ≤ 20 := fun c hc => (hx.custsIn c hc).1
  have h1 := hx.sats
  have h2 := hx.custs
  have hT := trucksM_in (x := x) (w := u) (L := loadsM x u (orderM u.order x.custs.length) x.custs.length) hx.tr.1 (fun s => by have := (loadsM_in hc u (orderM u.order x.custs.length) x.custs.length s).2; omega) x.sats.length
  have hB := bikesM_in (x := x) u (ord := orderM u.order x.custs.length) (by omega) (orderM_in _ _) x.custs.length (by rw [orderM_len]; exact Nat.le_refl _)
  have g1 := hT.len
  have g2 := hT.stops
  have g3 := hB.len
  have g4 := hB.stops
  exact ⟨by unfold draftM; simp only; omega, by unfold draftM; simp only; omega, by unfold draftM; simp only; omega, by unfold draftM; simp only; omega⟩
theorem wishIn_more {w : World} {B B' : Nat} {a : WishAt} {u : WishV} (h : WishIn w B a u) (hB : B ≤ B') : WishIn w B' a u := ⟨reads_more h.sats hB, reads_more h.order hB, reads_more h.cuts hB⟩
theorem WishIn.below {w w' : World} {B : Nat} {a : WishAt} {u : WishV} (h : WishIn w B a u) (hb : Below B w w') : WishIn w' B a u := ⟨Reads.below h.sats hb, Reads.below h.order hb, Reads.below h.cuts hb⟩
section
variable {H : Type} {enc : TypeId × Value → H} {W : World} {base : Nat} {v : Value} {d : DataW H} {p : List MemPlace}
set_option maxRecDepth 100000 in
theorem wish_open (o : Value.okWide Try.prog W .any base 51 v) (k : DataW.Trod enc Try.prog W 0 (fun _ => true) true 51 v d p) : ∃ (a : WishAt) (u : WishV), v = .agg (u.vals a) ∧ WishIn W W.heap.size a u ∧ u.ok ∧ u.L := by
  obtain ⟨v0, v1, v2, y0, y1, y2, n, rfl, _, _, h0, h1, h2⟩ := open_agg3 Try.underlying51 (by kernel_rfl) (by kernel_rfl) o k
  obtain ⟨SA, sc, ss, rfl, r0, m0, u0⟩ := bytes_open h0
  obtain ⟨OA, oc, os, rfl, r1, m1, u1⟩ := bytes_open h1
  obtain ⟨CA, cc, cs, rfl, r2, m2, u2⟩ := bytes_open h2
  have hu : ∀ (l : List Int), (∀ a ∈ l, isU8 a) → ∀ n ∈ l, 0 ≤ n ∧ n ≤ 255 := fun l h n hn => by have := h n hn; unfold isU8 at this; omega
  exact ⟨⟨SA, sc, OA, oc, CA, cc⟩, ⟨ss, os, cs⟩, rfl, ⟨r0, r1, r2⟩, ⟨hu _ u0, hu _ u1, hu _ u2⟩, ⟨m0, m1, m2⟩⟩
end
theorem drawn_draft (x : InstV) (p : IAt) (u : WishV) (a : WishAt) (w : World) (hI : InstIn w w.heap.size p x) (hW : WishIn w w.heap.size a u) (hx : x.Small) (hu : u.ok) (hl : u.L) :
    Calls Try.prog 22 #[.agg (x.cells p), .agg (u.vals a)] w (PlanPost w (draftM x u)) := (draft_any x p u a w hI hW hx hu hl).mono fun _ _ h => draft_read h
theorem drawn_spoilt (TA BA : Option Addr) (tc bc : Nat) (q : PlanV) (what at_ by_ : Int) (w : World) (hP : PlanIn w w.heap.size TA BA q) (hL : PlanS q) (hw : 0 ≤ what ∧ what ≤ 255) (ha : 0 ≤ at_ ∧ at_ ≤ 255) (hb : -128 ≤ by_ ∧ by_ ≤ 127) :
    Calls Try.prog 21 #[.agg #[.slice TA q.trucks.length tc, .slice BA q.bikes.length bc], .int .u8 what, .int .u8 at_, .int .i8 by_] w (SpoilR w) := (spoilt_any TA BA tc bc q what at_ by_ w hP hL hw ha hb).mono fun _ _ h => spoil_read h
end Go.Proofs.Ytpbhbmdghafkmaa
