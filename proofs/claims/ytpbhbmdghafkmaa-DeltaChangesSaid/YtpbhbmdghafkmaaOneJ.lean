/- Draft and Spoilt, told as what may be read; a wish, opened. law11.One: a plain instance. -/
import Derived.Test.YtpbhbmdghafkmaaSpoilt
import Derived.Test.YtpbhbmdghafkmaaSmallOpen
import Derived.Lib.SmallJoins
import Derived.Test.YtpbhbmdghafkmaaMakeW
namespace Go.Proofs.Ytpbhbmdghafkmaa
open Go.ChangeShapes Go.WideShapes Go.Deep Go.Joins Go.RowKit
set_option linter.unusedVariables false
def PlanPost (w : World) (q : PlanV) (e : Ending) (w' : World) : Prop := ∃ TA tc BA bc, e = .returned (.agg #[.slice TA q.trucks.length tc, .slice BA q.bikes.length bc]) ∧ PlanIn w' w'.heap.size TA BA q ∧ TrucksC w' w'.heap.size TA q.trucks ∧ Below w.heap.size w w'
theorem plan_read {w w' : World} {vt vb : Value} {ts : List (List StopV × Value)} {ps : List (BikeV × Value)} (h : SL w w.heap.size ((truckN 88 105).own vt ts ++ (bikeN 44 3).own vb ps) w') : PlanPost w ⟨ts.map (·.1), ps.map (·.1)⟩ (.returned (.agg #[vt, vb])) w' := by
 obtain ⟨TA, tc, rfl, _, _⟩ := (own_outer h (fun r hr => List.mem_append_left _ hr)).slice_
 obtain ⟨BA, bc, rfl, _, _⟩ := (own_outer h (fun r hr => List.mem_append_right _ hr)).slice_
 have h1 := trucks_own h (fun r hr => List.mem_append_left _ hr)
 have h2 := bikes_own h (fun r hr => List.mem_append_right _ hr)
 exact ⟨TA, tc, BA, bc, by simp, ⟨h1.plain, h2⟩, h1, h.below⟩
theorem draft_read {w w' : World} {q : PlanV} {e : Ending} (h : ClonePost w q e w') : PlanPost w q e w' := by
 obtain ⟨vt, vb, ts, ps, rfl, h1, h2, h3⟩ := h
 have := plan_read h3
 rw [h1, h2] at this
 exact this
def SpoilT (w : World) (e : Ending) (w' : World) : Prop := ∃ q, PlanT q ∧ PlanPost w q e w'
theorem spoil_readT {w w' : World} {e : Ending} (h : SpoilPost w e w') : SpoilT w e w' := by
 obtain ⟨vt, vb, ts, ps, rfl, h1, h3⟩ := h
 exact ⟨_, h1, plan_read h3⟩
theorem draft_S {x : InstV} {u : WishV} (hx : x.Small) : PlanS (draftM x u) := by
 have hc : ∀ c ∈ x.custs, 1 ≤ c.load ∧ c.load ≤ 20 := fun c hc => (hx.custsIn c hc).1
 have h1 := hx.sats
 have h2 := hx.custs
 have hT := trucksM_in (x := x) (w := u) (L := loadsM x u (orderM u.order x.custs.length) x.custs.length) hx.tr.1 (fun s => by have := (loadsM_in hc u (orderM u.order x.custs.length) x.custs.length s).2; omega) x.sats.length
 have hB := bikesM_in (x := x) u (ord := orderM u.order x.custs.length) (by omega) (orderM_in _ _) x.custs.length (by rw [orderM_len]; exact Nat.le_refl _)
 have g1 := hT.len
 have g2 := hT.stops
 have g3 := hB.len
 have g4 := hB.stops
 exact ⟨by unfold draftM; simp only; omega, by unfold draftM; simp only; omega, by unfold draftM; simp only; omega, by unfold draftM; simp only; omega⟩
theorem wishIn_more {w : World} {B B' : Nat} {a : WishAt} {u : WishV} (h : WishIn w B a u) (hB : B ≤ B') : WishIn w B' a u := ⟨reads_more h.sats hB, reads_more h.order hB, reads_more h.cuts hB⟩
theorem WishIn.below {w w' : World} {B : Nat} {a : WishAt} {u : WishV} (h : WishIn w B a u) (hb : Below B w w') : WishIn w' B a u := ⟨Reads.below h.sats hb, Reads.below h.order hb, Reads.below h.cuts hb⟩
section
variable {H : Type} {enc : TypeId × Value → H} {W : World} {base : Nat} {v : Value} {d : DataW H} {p : List MemPlace}
set_option maxRecDepth 100000 in
theorem wish_open (o : Value.okWide Try.prog W .any base 51 v) (k : DataW.Trod enc Try.prog W 0 (fun _ => true) true 51 v d p) : ∃ (a : WishAt) (u : WishV), v = .agg (u.vals a) ∧ WishIn W W.heap.size a u ∧ u.ok ∧ u.L := by
 obtain ⟨v0, v1, v2, y0, y1, y2, n, rfl, _, _, h0, h1, h2⟩ := open_agg3 Try.underlying51 (by kernel_rfl) (by kernel_rfl) o k
 obtain ⟨SA, sc, ss, rfl, r0, m0, u0⟩ := bytes_open h0
 obtain ⟨OA, oc, os, rfl, r1, m1, u1⟩ := bytes_open h1
 obtain ⟨CA, cc, cs, rfl, r2, m2, u2⟩ := bytes_open h2
 have hu : ∀ (l : List Int), (∀ a ∈ l, isU8 a) → ∀ n ∈ l, 0 ≤ n ∧ n ≤ 255 := fun l h n hn => by have := h n hn; unfold isU8 at this; omega
 exact ⟨⟨SA, sc, OA, oc, CA, cc⟩, ⟨ss, os, cs⟩, rfl, ⟨r0, r1, r2⟩, ⟨hu _ u0, hu _ u1, hu _ u2⟩, ⟨m0, m1, m2⟩⟩
end
theorem drawn_draft (x : InstV) (p : IAt) (u : WishV) (a : WishAt) (w : World) (hI : InstIn w w.heap.size p x) (hW : WishIn w w.heap.size a u) (hx : x.Small) (hu : u.ok) (hl : u.L) :
 Calls Try.prog 22 #[.agg (x.cells p), .agg (u.vals a)] w (PlanPost w (draftM x u)) := (draft_any x p u a w hI hW hx hu hl).mono fun _ _ h => draft_read h
theorem drawn_spoiltT (TA BA : Option Addr) (tc bc : Nat) (q : PlanV) (what at_ by_ : Int) (w : World) (hP : PlanIn w w.heap.size TA BA q) (hL : PlanS q) (hw : 0 ≤ what ∧ what ≤ 255) (ha : 0 ≤ at_ ∧ at_ ≤ 255) (hb : -128 ≤ by_ ∧ by_ ≤ 127) :
 Calls Try.prog 21 #[.agg #[.slice TA q.trucks.length tc, .slice BA q.bikes.length bc], .int .u8 what, .int .u8 at_, .int .i8 by_] w (SpoilT w) := (spoilt_any TA BA tc bc q what at_ by_ w hP hL hw ha hb).mono fun _ _ h => spoil_readT h
end Go.Proofs.Ytpbhbmdghafkmaa
namespace Go.Proofs.Ytpbhbmdghafkmaa
open Go.ChangeShapes Go.WideShapes Go.ChangeAt Go.RowKit
set_option linter.unusedVariables false
def oneInst : InstV := ⟨40, 1, 5, 1, 3, [⟨60, 2⟩], [⟨2, 5, 90, 1⟩], [[0, 0, 0], [0, 0, 0], [0, 0, 0]], [[0, 0, 0], [0, 0, 0], [0, 0, 0]]⟩
def noSmall : SmallV := ⟨0, 0, 0, 0, 0, [], [], [], [], false, false⟩
theorem one_is : noSmall.mk_ = oneInst := by
 unfold SmallV.mk_ noSmall oneInst SmallV.wide SmallV.n SmallV.mkSats SmallV.mkCusts
 rfl
theorem noSmall_ok : noSmall.ok := by
 unfold noSmall
 refine ⟨?_, ?_, ?_, ?_, ?_, by simp, by simp, by simp, by simp⟩ <;> simp [isU8]
set_option maxRecDepth 100000 in
set_option maxHeartbeats 1000000 in
theorem one_any (w : World) : Calls Try.prog 41 #[] w (MakePost w oneInst) := by
 have HMK : Hid (∀ wx, Calls Try.prog 20 #[.agg #[.int .u8 0, .int .u8 0, .int .u8 0, .int .u8 0, .int .u8 0, .slice none 0 0, .slice none 0 0, .slice none 0 0, .slice none 0 0, .bool false, .bool false]] wx (MakePost wx oneInst)) := Lib.hid (fun wx => by
  have h := make_any noSmall ⟨none, 0, none, 0, none, 0, none, 0⟩ wx ⟨⟨rfl, fun h => absurd h (by simp [noSmall])⟩, ⟨rfl, fun h => absurd h (by simp [noSmall])⟩, ⟨rfl, fun h => absurd h (by simp [noSmall])⟩, ⟨rfl, fun h => absurd h (by simp [noSmall])⟩⟩ ⟨by simp [noSmall, maxLen], by simp [noSmall, maxLen], by simp [noSmall, maxLen], by simp [noSmall, maxLen]⟩ noSmall_ok
  rw [one_is] at h
  exact h)
 have HS0 := Lib.hid ((SL.start (Nat.le_refl w.heap.size)).alloc #[.int .i64 0, .int .i64 0, .int .i64 0, .int .i64 0, .int .i64 0, .slice none 0 0, .slice none 0 0, .slice none 0 0, .slice none 0 0] 58)
 go_enter Try.func41, Try.ntmps41
 go_wp2_with fail
 (with_reducible refine (HMK.out _).mono ?_)
 rintro e w1 ⟨p, hk, ht, he, h1, h2, hS⟩
 obtain ⟨ic, hic⟩ : ∃ ic, oneInst.cells p = ic := ⟨_, rfl⟩
 rw [hic] at he
 subst he
 have HS1 := Lib.hid ((HS0.out.join hS).perm List.perm_append_comm)
 have HH := Lib.hid (And.intro h1 h2)
 have HIC := Lib.hid hic
 have H1C : Hid (ic.all (·.oneCell') = true) := Lib.hid (by rw [← hic]; simp [InstV.cells, Value.oneCell'])
 have HSZ : Hid (ic.size = 9) := Lib.hid (by rw [← hic]; rfl)
 clear hS h1 h2 hic HS0 HMK
 go_wp2_with (refine wpList_store_abs rfl 58 (.tmp 0) (.tmp 2) rfl rfl w.heap.size ic rfl rfl 58 _ (HS1.out.blk 0 rfl) (by rw [HSZ.out]; kernel_rfl) (by rw [HSZ.out]; rfl) H1C.out ?_; intro w10 ho10 hg10; have HS2 := Lib.hid (HS1.out.only 0 rfl ho10 hg10).tail; have HG := Lib.hid hg10; clear ho10 hg10)
 refine retArr rfl _ _ w.heap.size 58 ic _ rfl HG.out Try.underlying58 rfl (by rw [HSZ.out]; kernel_rfl) ?_
 exact ⟨p, hk, ht, by rw [HIC.out], HH.out.1, HH.out.2, HS2.out⟩
end Go.Proofs.Ytpbhbmdghafkmaa
