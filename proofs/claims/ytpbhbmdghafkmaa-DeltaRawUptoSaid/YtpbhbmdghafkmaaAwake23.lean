/- law23.Awake. (printed by gen/awake23.py) -/
import Derived.Test.YtpbhbmdghafkmaaSameB
namespace Go.Proofs.Ytpbhbmdghafkmaa
open Go.ChangeShapes Go.WideShapes Go.ChangeAt Go.RowKit
set_option linter.unusedVariables false
theorem reads_blk {w : World} {g n size : Nat} {cs : Array Value} {t : TypeId} (h : w.heap[g]? = some (.cells cs t (0, 0))) (hc : cs.size = n * size) : Reads w w.heap.size size (some ⟨g, 0, none⟩) n cs.toList := by
 refine ⟨by simpa using hc, fun _ => ⟨_, rfl, (Array.getElem?_eq_some_iff.1 h).1, fun j u hu => ?_⟩⟩
 rw [Addr.add_mid, Nat.zero_add, cell_of_row _ _ _ _ _ _ h]
 simpa using hu
def exB : List BikeV := [⟨0, [1, 2]⟩, ⟨1, [3]⟩]
theorem exB_in {w : World} {n : Nat} {t1 t2 t3 : TypeId} (h0 : w.heap[n]? = some (.cells #[.int .i64 1, .int .i64 2] t1 (0, 0))) (h1 : w.heap[n + 1]? = some (.cells #[.int .i64 3] t2 (0, 0)))
 (h2 : w.heap[n + 2]? = some (.cells #[.int .i64 0, .slice (some ⟨n, 0, none⟩) 2 2, .int .i64 1, .slice (some ⟨n + 1, 0, none⟩) 1 1] t3 (0, 0))) : Bikes w w.heap.size (some ⟨n + 2, 0, none⟩) exB := by
 refine ⟨fun i => if i = 0 then ⟨some ⟨n, 0, none⟩, 2⟩ else ⟨some ⟨n + 1, 0, none⟩, 1⟩, reads_blk (n := 2) (size := 2) h2 rfl, fun i hi => ?_⟩
 have : i = 0 ∨ i = 1 := by simp [exB] at hi; omega
 rcases this with rfl | rfl
 · exact reads_blk (n := 2) (size := 1) h0 rfl
 · exact reads_blk (n := 1) (size := 1) h1 rfl
theorem exB_apply : applyM 2 exB ⟨3, 0, 1, 1, 0⟩ = some [⟨0, [1, 3]⟩, ⟨1, [2]⟩] := by rfl
theorem list2 {α : Type} {l : List α} (h : l.length = 2) : ∃ a b, l = [a, b] := by
 match l, h with
 | [a, b], _ => exact ⟨a, b, rfl⟩
set_option maxRecDepth 100000 in
set_option maxHeartbeats 4000000 in
theorem awake23 (w : World) : Calls Try.prog 12 #[] w fun e w' => e = .returned (.bool true) ∧ Below w.heap.size w w' := by
 have hS := (((SL.start (W := w) (Nat.le_refl w.heap.size)).alloc #[.int .i64 1, .int .i64 2] 3).alloc #[.int .i64 3] 3).alloc #[.int .i64 0, .slice (some ⟨w.heap.size, 0, none⟩) 2 2, .int .i64 1, .slice (some ⟨w.heap.size + 1, 0, none⟩) 1 1] 44
 have e1 : (w.alloc (.cells #[.int .i64 1, .int .i64 2] 3)).heap.size = w.heap.size + 1 := Array.size_push _
 have e2 : ((w.alloc (.cells #[.int .i64 1, .int .i64 2] 3)).alloc (.cells #[.int .i64 3] 3)).heap.size = w.heap.size + 2 := (Array.size_push _).trans (by rw [e1])
 have hb0 := hS.blk 2 rfl
 have hb1 := hS.blk 1 rfl
 have hb2 := hS.blk 0 rfl
 rw [e1] at hb1
 rw [e2] at hb2
 have HAP : Hid (Calls Try.prog 13 #[.int .i64 2, .slice (some ⟨w.heap.size + 1 + 1, 0, none⟩) 2 2, .agg #[.int .i64 3, .int .i64 0, .int .i64 1, .int .i64 1, .int .i64 0]] (((w.alloc (.cells #[.int .i64 1, .int .i64 2] 3)).alloc (.cells #[.int .i64 3] 3)).alloc (.cells #[.int .i64 0, .slice (some ⟨w.heap.size, 0, none⟩) 2 2, .int .i64 1, .slice (some ⟨w.heap.size + 1, 0, none⟩) 1 1] 44)) (ApplyPost (((w.alloc (.cells #[.int .i64 1, .int .i64 2] 3)).alloc (.cells #[.int .i64 3] 3)).alloc (.cells #[.int .i64 0, .slice (some ⟨w.heap.size, 0, none⟩) 2 2, .int .i64 1, .slice (some ⟨w.heap.size + 1, 0, none⟩) 1 1] 44)) (some [⟨0, [1, 3]⟩, ⟨1, [2]⟩]))) := Lib.hid (by
  have h := apply_any 2 (some ⟨w.heap.size + 2, 0, none⟩) 2 exB 3 0 1 1 0 _ (exB_in hb0 hb1 hb2) (by decide) (by decide)
  rw [exB_apply] at h
  exact h)
 have HB := Lib.hid hS.below
 clear hS e1 e2 hb0 hb1 hb2
 go_enter Try.func12, Try.ntmps12
 go_wp2_with fail
 (with_reducible refine HAP.out.mono ?_)
 rintro e w4 ⟨v, ps, rfl, hps, hS4⟩
 obtain ⟨q0, q1, rfl⟩ := list2 (show ps.length = 2 by rw [← List.length_map (f := (·.1)), hps]; rfl)
 have hS4' := hS4
 rw [← List.append_nil (Nest.own _ _ _)] at hS4'
 obtain ⟨A4, c4, rfl, _⟩ := own_open (P := []) hS4'
 have HS4 := Lib.hid hS4'
 have HPS := Lib.hid hps
 clear hps hS4 hS4' HAP
 obtain ⟨h0, h1⟩ : q0.1 = ⟨0, [1, 3]⟩ ∧ q1.1 = ⟨1, [2]⟩ := by
  have := HPS.out
  simp only [List.map_cons, List.map_nil, List.cons.injEq, and_true] at this
  exact this
 obtain ⟨g, off, rfl⟩ := own_addr (P := []) HS4.out rfl (show 0 < 2 by decide)
 obtain ⟨a0, c0, v0, _⟩ := own_val (P := []) (ps := [q0, q1]) (k := 0) (show 0 < 2 by decide) HS4.out
 obtain ⟨a1, c1, v1, _⟩ := own_val (P := []) (ps := [q0, q1]) (k := 1) (show 1 < 2 by decide) HS4.out
 have v0' : q0.2 = .slice a0 2 c0 := by have := v0; simp only [List.getElem_cons_zero, h0] at this; exact this
 have v1' : q1.2 = .slice a1 1 c1 := by have := v1; simp only [List.getElem_cons_succ, List.getElem_cons_zero, h1] at this; exact this
 have HF : Hid (∀ wx, SL (((w.alloc (.cells #[.int .i64 1, .int .i64 2] 3)).alloc (.cells #[.int .i64 3] 3)).alloc (.cells #[.int .i64 0, .slice (some ⟨w.heap.size, 0, none⟩) 2 2, .int .i64 1, .slice (some ⟨w.heap.size + 1, 0, none⟩) 1 1] 44)) (((w.alloc (.cells #[.int .i64 1, .int .i64 2] 3)).alloc (.cells #[.int .i64 3] 3)).alloc (.cells #[.int .i64 0, .slice (some ⟨w.heap.size, 0, none⟩) 2 2, .int .i64 1, .slice (some ⟨w.heap.size + 1, 0, none⟩) 1 1] 44)).heap.size ([] ++ ((bikeN 44 3).own (.slice (some ⟨g, off, none⟩) 2 c4) [q0, q1] ++ [])) wx → Reads wx wx.heap.size 1 a0 2 ([1, 3].map (.int .i64)) ∧ Reads wx wx.heap.size 1 a1 1 ([2].map (.int .i64)) ∧ wx.cell? ⟨g, off + 1, none⟩ = some (.slice a0 2 c0) ∧ wx.cell? ⟨g, off + 2 + 1, none⟩ = some (.slice a1 1 c1)) := Lib.hid (fun wx h => by
  have r0 := h.reads (A := a0) (n := 2) (c := c0) (e := 3) (size := 1) (xs := [1, 3].map (.int .i64)) 1 (by show some (Rs.row _ 1 q0.2 q0.1.stops.length (q0.1.stops.map (.int .i64))) = _; rw [h0, v0']; rfl)
  have r1 := h.reads (A := a1) (n := 1) (c := c1) (e := 3) (size := 1) (xs := [2].map (.int .i64)) 2 (by show some (Rs.row _ 1 q1.2 q1.1.stops.length (q1.1.stops.map (.int .i64))) = _; rw [h1, v1']; rfl)
  have x0 := own_sl (P := []) (ps := [q0, q1]) rfl (k := 0) (show 0 < 2 by decide) h
  have x1 := own_sl (P := []) (ps := [q0, q1]) rfl (k := 1) (show 1 < 2 by decide) h
  simp only [List.getElem_cons_zero, List.getElem_cons_succ] at x0 x1
  rw [v0'] at x0
  rw [v1'] at x1
  exact ⟨r0, r1, by simpa using x0, by simpa using x1⟩)
 have z0 := (HF.out w4 HS4.out).2.2.1
 have z1 := (HF.out w4 HS4.out).2.2.2
 have hg4 : g < w4.heap.size := World.block_lt_of_cell? w4 _ z0
 have HEQ : Hid (∀ (wx : World) (l : List Int) (a : Option Addr) (c : Nat), Reads wx wx.heap.size 1 a l.length (l.map (.int .i64)) → l.length ≤ 10 → Calls Try.prog 28 #[.slice a l.length c, .slice (some ⟨wx.heap.size, 0, none⟩) l.length l.length] (wx.alloc (.cells (l.map (.int .i64)).toArray 3)) fun e w' => e = .returned (.bool true) ∧ Below (wx.alloc (.cells (l.map (.int .i64)).toArray 3)).heap.size (wx.alloc (.cells (l.map (.int .i64)).toArray 3)) w') := Lib.hid (fun wx l a c hr hl => by
  have hs := (SL.start (W := wx) (Nat.le_refl wx.heap.size)).alloc (l.map (.int .i64)).toArray 3
  have h2 := reads_blk (n := l.length) (size := 1) (hs.blk 0 rfl) (by simp)
  rw [List.toList_toArray] at h2
  have h := equalA_ints a (some ⟨wx.heap.size, 0, none⟩) c l.length l l _ (reads_more (Reads.below hr hs.below) hs.size) h2 (by unfold maxLen; omega) (by unfold maxLen; omega)
  rw [decide_eq_true rfl] at h
  exact h)
 have HE1 := Lib.hid (HEQ.out w4 [1, 3] a0 c0 (HF.out w4 HS4.out).1 (by decide))
 have HE2 := Lib.hid (fun (wx : World) (h : SL (((w.alloc (.cells #[.int .i64 1, .int .i64 2] 3)).alloc (.cells #[.int .i64 3] 3)).alloc (.cells #[.int .i64 0, .slice (some ⟨w.heap.size, 0, none⟩) 2 2, .int .i64 1, .slice (some ⟨w.heap.size + 1, 0, none⟩) 1 1] 44)) (((w.alloc (.cells #[.int .i64 1, .int .i64 2] 3)).alloc (.cells #[.int .i64 3] 3)).alloc (.cells #[.int .i64 0, .slice (some ⟨w.heap.size, 0, none⟩) 2 2, .int .i64 1, .slice (some ⟨w.heap.size + 1, 0, none⟩) 1 1] 44)).heap.size ([] ++ ((bikeN 44 3).own (.slice (some ⟨g, off, none⟩) 2 c4) [q0, q1] ++ [])) wx) => HEQ.out wx [2] a1 c1 (HF.out wx h).2.1 (by decide))
 have HS5 := Lib.hid (HS4.out.alloc #[.int .i64 1, .int .i64 3] 3).tail
 clear h0 h1 v0 v1 v0' v1' HEQ
 go_wp2_with fail
 refine HE1.out.mono ?_
 rintro e w6 ⟨rfl, hb6⟩
 have HS6 := Lib.hid (HS5.out.call hb6)
 have y1 := (HF.out w6 HS6.out).2.2.2
 have hg6 : g < w6.heap.size := World.block_lt_of_cell? w6 _ y1
 clear hb6 z0 z1
 go_wp2_with fail
 refine (HE2.out w6 HS6.out).mono ?_
 rintro e w7 ⟨rfl, hb7⟩
 have HS7 := Lib.hid ((HS6.out.alloc #[.int .i64 2] 3).tail.call hb7)
 clear hb7 y1
 go_wp2_with fail
 go_ret
 exact ⟨rfl, HB.out.trans (HS7.out.below.mono HB.out.size)⟩
end Go.Proofs.Ytpbhbmdghafkmaa
