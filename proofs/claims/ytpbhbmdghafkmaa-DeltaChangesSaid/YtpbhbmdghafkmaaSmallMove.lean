/- law23.Small.Move. (printed by gen/smallmove.py) -/
import Derived.Test.YtpbhbmdghafkmaaBikes23
namespace Go.Proofs.Ytpbhbmdghafkmaa
open Go.ChangeShapes Go.WideShapes Go.ChangeAt Go.RowKit
set_option linter.unusedVariables false
theorem asz (w : World) (o : Obj) : (w.alloc o).heap.size = w.heap.size + 1 := Array.size_push _
structure SmV where
 kind : Int
 a : Int
 i : Int
 b : Int
 j : Int
def SmV.cells (s : SmV) : Array Value := #[.int .u8 s.kind, .int .i8 s.a, .int .i8 s.i, .int .i8 s.b, .int .i8 s.j]
structure SmV.Ok (s : SmV) : Prop where
 kind : 0 ≤ s.kind ∧ s.kind ≤ 255
 a : -128 ≤ s.a ∧ s.a ≤ 127
 i : -128 ≤ s.i ∧ s.i ≤ 127
 b : -128 ≤ s.b ∧ s.b ≤ 127
 j : -128 ≤ s.j ∧ s.j ≤ 127
def SmV.move (s : SmV) : MoveV := ⟨s.kind % 7, s.a, if s.kind % 7 = 5 ∧ s.kind < 200 then 0 else s.i, if s.kind % 7 = 2 ∧ s.kind < 200 then s.a else s.b, if s.kind % 7 = 5 ∧ s.kind < 200 then 0 else s.j⟩
def SmPost (W : World) (m : MoveV) (e : Ending) (w' : World) : Prop := e = .returned (.agg m.cells) ∧ Below W.heap.size W w'
set_option maxRecDepth 100000 in
set_option maxHeartbeats 4000000 in
theorem smove_any (K a i b j : Int) (w : World) (h : SmV.Ok ⟨K, a, i, b, j⟩) :
 Calls Try.prog 15 #[.agg #[.int .u8 K, .int .i8 a, .int .i8 i, .int .i8 b, .int .i8 j]] w (SmPost w (SmV.move ⟨K, a, i, b, j⟩)) := by
 obtain ⟨⟨hk1, hk2⟩, ⟨ha1, ha2⟩, ⟨hi1, hi2⟩, ⟨hb1, hb2⟩, ⟨hj1, hj2⟩⟩ := h
 simp only at hk1 hk2 ha1 ha2 hi1 hi2 hb1 hb2 hj1 hj2
 obtain ⟨q, hq⟩ : ∃ q, K % 7 = q := ⟨_, rfl⟩
 have hq0 : 0 ≤ q ∧ q < 7 := by omega
 obtain ⟨m, hm⟩ : ∃ m, SmV.move ⟨K, a, i, b, j⟩ = m := ⟨_, rfl⟩
 have HM : Hid (m = ⟨q, a, if q = 5 ∧ K < 200 then 0 else i, if q = 2 ∧ K < 200 then a else b, if q = 5 ∧ K < 200 then 0 else j⟩) := Lib.hid (by rw [← hm, ← hq]; rfl)
 rw [hm]
 have HSZ := Lib.hid move_size
 have hS := (((SL.start (W := w) (Nat.le_refl w.heap.size)).alloc #[.int .u8 K, .int .i8 a, .int .i8 i, .int .i8 b, .int .i8 j] 25).alloc #[.int .i64 0, .int .i64 0, .int .i64 0, .int .i64 0, .int .i64 0] 33).alloc #[.int .i64 q, .int .i64 a, .int .i64 i, .int .i64 b, .int .i64 j] 33
 simp only [asz] at hS
 obtain ⟨n0, hn0⟩ : ∃ n, w.heap.size = n := ⟨_, rfl⟩
 rw [hn0] at hS
 obtain ⟨w3, hw3⟩ : ∃ w3, (((w.alloc (.cells #[.int .u8 K, .int .i8 a, .int .i8 i, .int .i8 b, .int .i8 j] 25)).alloc (.cells #[.int .i64 0, .int .i64 0, .int .i64 0, .int .i64 0, .int .i64 0] 33)).alloc (.cells #[.int .i64 q, .int .i64 a, .int .i64 i, .int .i64 b, .int .i64 j] 33)) = w3 := ⟨_, rfl⟩
 rw [hw3] at hS
 have HS := Lib.hid hS
 have HN := Lib.hid hn0
 have HW := Lib.hid hw3
 clear hm hS hn0 hw3
 go_enter Try.func15, Try.ntmps15
 go_upto_region 2 with fail
 rw [HW.out, HN.out]
 have y0 : w3.cell? ⟨n0 + 1 + 1, 0, none⟩ = some (.int .i64 q) := HS.out.cell 0 rfl 0 rfl
 have y1 : w3.cell? ⟨n0 + 1 + 1, 1, none⟩ = some (.int .i64 a) := HS.out.cell 0 rfl 1 rfl
 have k0 : w3.cell? ⟨n0, 0, none⟩ = some (.int .u8 K) := HS.out.cell 2 rfl 0 rfl
 have z3 : w3.frozen? ⟨n0 + 1 + 1, 3, none⟩ = false := HS.out.free 0 rfl 3
 have z2 : w3.frozen? ⟨n0 + 1 + 1, 2, none⟩ = false := HS.out.free 0 rfl 2
 have z4 : w3.frozen? ⟨n0 + 1 + 1, 4, none⟩ = false := HS.out.free 0 rfl 4
 have y3 : w3.cell? ⟨n0 + 1 + 1, 3, none⟩ = some (.int .i64 b) := HS.out.cell 0 rfl 3 rfl
 have y2 : w3.cell? ⟨n0 + 1 + 1, 2, none⟩ = some (.int .i64 i) := HS.out.cell 0 rfl 2 rfl
 have y4 : w3.cell? ⟨n0 + 1 + 1, 4, none⟩ = some (.int .i64 j) := HS.out.cell 0 rfl 4 rfl
 have hbn : ¬ (n0 + 1 + 1 = n0) := by omega
 by_cases h2 : q = 2
 · subst h2
   by_cases h3 : K < 200
   · skip
     have HX : Hid ((⟨2, a, if (2 : Int) = 5 ∧ K < 200 then 0 else i, if (2 : Int) = 2 ∧ K < 200 then a else b, if (2 : Int) = 5 ∧ K < 200 then 0 else j⟩ : MoveV) = ⟨2, a, i, a, j⟩) := Lib.hid (by simp [h3])
     have HS9 := Lib.hid (HS.out.setCell 0 rfl 3 (.int .i64 a))
     go_wp2_with first
      | (refine wpList_load_row rfl 33 _ rfl (n0 + 1 + 1) rfl _ #[.int .i64 2, .int .i64 a, .int .i64 i, .int .i64 a, .int .i64 j] _ _ (HS9.out.blk 0 rfl) Try.underlying33 rfl HSZ.out ?_)
      | (refine wpList_store_abs rfl 33 _ _ rfl rfl (n0 + 1) #[.int .i64 2, .int .i64 a, .int .i64 i, .int .i64 a, .int .i64 j] rfl rfl _ _ (HS9.out.blk 1 rfl) HSZ.out rfl (by simp [Value.oneCell']) ?_
         intro w9 ho9 hh9)
     refine retArr rfl _ _ (n0 + 1) 33 #[.int .i64 2, .int .i64 a, .int .i64 i, .int .i64 a, .int .i64 j] _ rfl hh9 Try.underlying33 rfl HSZ.out ?_
     exact ⟨by rw [HM.out, HX.out]; rfl, by rw [HN.out]; exact (HS9.out.only 1 rfl ho9 hh9).below⟩
   · skip
     have HX : Hid ((⟨2, a, if (2 : Int) = 5 ∧ K < 200 then 0 else i, if (2 : Int) = 2 ∧ K < 200 then a else b, if (2 : Int) = 5 ∧ K < 200 then 0 else j⟩ : MoveV) = ⟨2, a, i, b, j⟩) := Lib.hid (by simp [h3])
     have h3' : decide (K < 200) = false := decide_eq_false h3
     have HS9 := Lib.hid (HS.out)
     go_wp2_with first
      | (refine wpList_load_row rfl 33 _ rfl (n0 + 1 + 1) rfl _ #[.int .i64 2, .int .i64 a, .int .i64 i, .int .i64 b, .int .i64 j] _ _ (HS9.out.blk 0 rfl) Try.underlying33 rfl HSZ.out ?_)
      | (refine wpList_store_abs rfl 33 _ _ rfl rfl (n0 + 1) #[.int .i64 2, .int .i64 a, .int .i64 i, .int .i64 b, .int .i64 j] rfl rfl _ _ (HS9.out.blk 1 rfl) HSZ.out rfl (by simp [Value.oneCell']) ?_
         intro w9 ho9 hh9)
     refine retArr rfl _ _ (n0 + 1) 33 #[.int .i64 2, .int .i64 a, .int .i64 i, .int .i64 b, .int .i64 j] _ rfl hh9 Try.underlying33 rfl HSZ.out ?_
     exact ⟨by rw [HM.out, HX.out]; rfl, by rw [HN.out]; exact (HS9.out.only 1 rfl ho9 hh9).below⟩
 by_cases h5 : q = 5
 · subst h5
   by_cases h3 : K < 200
   · skip
     have HX : Hid ((⟨5, a, if (5 : Int) = 5 ∧ K < 200 then 0 else i, if (5 : Int) = 2 ∧ K < 200 then a else b, if (5 : Int) = 5 ∧ K < 200 then 0 else j⟩ : MoveV) = ⟨5, a, 0, b, 0⟩) := Lib.hid (by simp [h3])
     have HS9 := Lib.hid ((HS.out.setCell 0 rfl 2 (.int .i64 0)).setCell 0 rfl 4 (.int .i64 0))
     go_wp2_with first
      | (refine wpList_load_row rfl 33 _ rfl (n0 + 1 + 1) rfl _ #[.int .i64 5, .int .i64 a, .int .i64 0, .int .i64 b, .int .i64 0] _ _ (HS9.out.blk 0 rfl) Try.underlying33 rfl HSZ.out ?_)
      | (refine wpList_store_abs rfl 33 _ _ rfl rfl (n0 + 1) #[.int .i64 5, .int .i64 a, .int .i64 0, .int .i64 b, .int .i64 0] rfl rfl _ _ (HS9.out.blk 1 rfl) HSZ.out rfl (by simp [Value.oneCell']) ?_
         intro w9 ho9 hh9)
     refine retArr rfl _ _ (n0 + 1) 33 #[.int .i64 5, .int .i64 a, .int .i64 0, .int .i64 b, .int .i64 0] _ rfl hh9 Try.underlying33 rfl HSZ.out ?_
     exact ⟨by rw [HM.out, HX.out]; rfl, by rw [HN.out]; exact (HS9.out.only 1 rfl ho9 hh9).below⟩
   · skip
     have HX : Hid ((⟨5, a, if (5 : Int) = 5 ∧ K < 200 then 0 else i, if (5 : Int) = 2 ∧ K < 200 then a else b, if (5 : Int) = 5 ∧ K < 200 then 0 else j⟩ : MoveV) = ⟨5, a, i, b, j⟩) := Lib.hid (by simp [h3])
     have h3' : decide (K < 200) = false := decide_eq_false h3
     have HS9 := Lib.hid (HS.out)
     go_wp2_with first
      | (refine wpList_load_row rfl 33 _ rfl (n0 + 1 + 1) rfl _ #[.int .i64 5, .int .i64 a, .int .i64 i, .int .i64 b, .int .i64 j] _ _ (HS9.out.blk 0 rfl) Try.underlying33 rfl HSZ.out ?_)
      | (refine wpList_store_abs rfl 33 _ _ rfl rfl (n0 + 1) #[.int .i64 5, .int .i64 a, .int .i64 i, .int .i64 b, .int .i64 j] rfl rfl _ _ (HS9.out.blk 1 rfl) HSZ.out rfl (by simp [Value.oneCell']) ?_
         intro w9 ho9 hh9)
     refine retArr rfl _ _ (n0 + 1) 33 #[.int .i64 5, .int .i64 a, .int .i64 i, .int .i64 b, .int .i64 j] _ rfl hh9 Try.underlying33 rfl HSZ.out ?_
     exact ⟨by rw [HM.out, HX.out]; rfl, by rw [HN.out]; exact (HS9.out.only 1 rfl ho9 hh9).below⟩
 · skip
   have HX : Hid ((⟨q, a, if (q : Int) = 5 ∧ K < 200 then 0 else i, if (q : Int) = 2 ∧ K < 200 then a else b, if (q : Int) = 5 ∧ K < 200 then 0 else j⟩ : MoveV) = ⟨q, a, i, b, j⟩) := Lib.hid (by simp [h2, h5])
   have e2 : (q == 2) = false := by rw [beq_eq_false_iff_ne]; exact h2
   have e5 : (q == 5) = false := by rw [beq_eq_false_iff_ne]; exact h5
   clear h2 h5
   have HS9 := Lib.hid (HS.out)
   go_wp2_with first
    | (refine wpList_load_row rfl 33 _ rfl (n0 + 1 + 1) rfl _ #[.int .i64 q, .int .i64 a, .int .i64 i, .int .i64 b, .int .i64 j] _ _ (HS9.out.blk 0 rfl) Try.underlying33 rfl HSZ.out ?_)
    | (refine wpList_store_abs rfl 33 _ _ rfl rfl (n0 + 1) #[.int .i64 q, .int .i64 a, .int .i64 i, .int .i64 b, .int .i64 j] rfl rfl _ _ (HS9.out.blk 1 rfl) HSZ.out rfl (by simp [Value.oneCell']) ?_
       intro w9 ho9 hh9)
   refine retArr rfl _ _ (n0 + 1) 33 #[.int .i64 q, .int .i64 a, .int .i64 i, .int .i64 b, .int .i64 j] _ rfl hh9 Try.underlying33 rfl HSZ.out ?_
   exact ⟨by rw [HM.out, HX.out]; rfl, by rw [HN.out]; exact (HS9.out.only 1 rfl ho9 hh9).below⟩
end Go.Proofs.Ytpbhbmdghafkmaa
