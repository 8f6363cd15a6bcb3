/- The walk of graph.Reach. -/
import Derived.Test.YthdjmljoiflkjaaReachM
import Derived.Test.YthdjmljoiflkjaaQueue
import Derived.Deep.LoopGhost
namespace Go.Proofs.Ythdjmljoiflkjaa
open Go.ChangeShapes Go.WideShapes Go.ChangeAt Go.RowKit
set_option linter.unusedVariables false
theorem bool_info : (Try.prog.info? 4).map (fun i => (i.zero, i.size, i.bytes)) = some (some (.bool false), 1, 1) := by kernel_rfl
/-- No graph, or no such node: nil. -/
theorem reach_none (N : Int) (A : Option Addr) (cap : Nat) (l : List ArcV) (s : Int) (w : World) (hr : Arcs w w.heap.size A l) (hl : l.length ≤ maxLen) (h : checkG N l ≠ 0 ∨ s < 0 ∨ N ≤ s) :
    Calls Try.prog 27 #[.agg #[.int .i64 N, .slice A l.length cap], .int .i64 s] w fun e w' => e = .returned (.slice none 0 0) ∧ Below w.heap.size w w' := by
  have hr1 : Arcs (w.alloc (.cells #[.int .i64 N, .slice A l.length cap] 51)) (w.alloc (.cells #[.int .i64 N, .slice A l.length cap] 51)).heap.size A l := by
    have h1 := Reads.below hr ((Below.refl w.heap.size w).alloc (Nat.le_refl _) (.cells #[.int .i64 N, .slice A l.length cap] 51))
    exact ⟨h1.1, fun hn => by obtain ⟨ad, e, hb, hc⟩ := h1.2 hn; exact ⟨ad, e, by simp; omega, hc⟩⟩
  by_cases hc : checkG N l = 0
  · have hs : s < 0 ∨ N ≤ s := by omega
    clear h
    have Hc := Lib.hid hc
    clear hc
    go_enter Try.func27, Try.ntmps27
    go_wp2_with (first
      | (go_at_call 25; (with_reducible refine (checkG_any N A cap l _ hr1 hl).mono ?_); rintro e w2 ⟨rfl, hb⟩
         rw [Hc.out]
         have hc0 : w2.cell? ⟨w.heap.size, 0, none⟩ = some (.int .i64 N) := (hb.cell (by simp)).trans (cell_of_row _ _ _ _ _ _ (heap_alloc_new w _))
         have hc1 : w2.cell? ⟨w.heap.size, 1, none⟩ = some (.slice A l.length cap) := (hb.cell (by simp)).trans (cell_of_row _ _ _ _ _ _ (heap_alloc_new w _)))
      | (go_at_call 26; (with_reducible refine (has_no N s A l.length cap _ hs).mono ?_); rintro e w3 ⟨rfl, rfl⟩))
    go_ret
    have hb2 : Below w.heap.size w w2 := ((Below.refl _ _).alloc (Nat.le_refl _) _).trans (hb.mono (by simp))
    exact ⟨rfl, hb2.alloc hb2.size _⟩
  · have hne : (checkG N l != 0) = true := by simpa using hc
    clear h
    go_enter Try.func27, Try.ntmps27
    go_wp2_with (go_at_call 25; (with_reducible refine (checkG_any N A cap l _ hr1 hl).mono ?_); rintro e w2 ⟨rfl, hb⟩)
    go_ret
    exact ⟨rfl, ((Below.refl _ _).alloc (Nat.le_refl _) _).trans (hb.mono (by simp))⟩
/-- What is handed back: a row of N booleans, true just where one comes to. -/
def ReachPost (W : World) (N : Nat) (l : List ArcV) (s : Int) (e : Ending) (w' : World) : Prop :=
  ∃ (f : Nat → Bool) (g : Nat), e = .returned (.slice (some ⟨g, 0, none⟩) N N) ∧ w'.heap[g]? = some (.cells (barr f N) 4 (0, 0)) ∧ Below W.heap.size W w' ∧ ∀ j, j < N → (f j = true ↔ Rch l s j)
/-- Memory at the head of a round. -/
structure RMem (w wr : World) (box : Array Value) (bs : Nat) (seen : Nat → Bool) (N : Nat) (v : Value) (q : List Int) : Prop where
  box : wr.heap[w.heap.size]? = some (.cells box 51 (0, 0))
  seen : wr.heap[bs]? = some (.cells (barr seen N) 4 (0, 0))
  row : OwnsQ wr (bs + 1) 3 1 v q.length (q.map (.int .i64))
  below : Below w.heap.size w wr
  lt : w.heap.size < bs
theorem RMem.size {w wr : World} {box : Array Value} {bs : Nat} {seen : Nat → Bool} {N : Nat} {v : Value} {q : List Int} (h : RMem w wr box bs seen N v q) : bs < wr.heap.size := by
  rcases Nat.lt_or_ge bs wr.heap.size with hlt | hge
  · exact hlt
  · have := h.seen; rw [Array.getElem?_eq_none hge] at this; cases this
theorem rmem_add {w wr w' : World} {box : Array Value} {bs : Nat} {seen : Nat → Bool} {N : Nat} {v v' : Value} {q : List Int} {j : Int} (hm : RMem w wr box bs seen N v q)
    (ho : OwnsQ w' (bs + 1) 3 1 v' (q.length + 1) (q.map (.int .i64) ++ [.int .i64 j])) (hg : (wr.setCell ⟨bs, j.toNat, none⟩ (.bool true)).grownBy w' v.ownBlock) : RMem w w' box bs (setB seen j.toNat) N v' (q ++ [j]) := by
  have hs : (wr.setCell ⟨bs, j.toNat, none⟩ (.bool true)).heap.size = wr.heap.size := by simp [World.setCell]
  have hsz := hm.size
  have hlt := hm.lt
  have hrow : ∀ k, v.ownBlock = some k → bs + 1 ≤ k := hm.row.block
  refine ⟨?_, ?_, by simpa using ho, ?_, hm.lt⟩
  · rw [hg.block _ (by rw [hs]; omega) (fun h => by have := hrow _ h.symm; omega), heap_setCell_other _ _ _ _ (by show w.heap.size ≠ bs; omega)]
    exact hm.box
  · rw [hg.block _ (by rw [hs]; omega) (fun h => by have := hrow _ h.symm; omega), heap_setCell_same _ _ _ _ _ _ hm.seen, barr_set]; rfl
  · exact (hm.below.setCell (p := ⟨bs, j.toNat, none⟩) (by show _ ≤ bs; omega) _).trans (grown_below hg (by rw [hs]; omega) (fun k hk => by have := hrow k hk; omega))
theorem reads_lt {w : World} {B size n : Nat} {A : Option Addr} {xs : List Value} (h : Reads w B size A n xs) (hn : 0 < n) {ad : Addr} (had : A = some ad) (hs : 0 < size := by omega) : ad.block < w.heap.size := by
  obtain ⟨ad', e, _, hc⟩ := h.2 hn
  rw [had] at e; injection e with e; subst e
  have hl : 0 < xs.length := by rw [h.1]; exact Nat.mul_pos hn hs
  have := World.block_lt_of_cell? w _ (hc 0 xs[0] (List.getElem?_eq_getElem hl))
  rwa [block_of_add] at this
theorem reads_grown {w w' : World} {bs j B size n : Nat} {u : Value} {A : Option Addr} {xs : List Value} {row : Option Nat} (h : Reads w B size A n xs) (hg : (w.setCell ⟨bs, j, none⟩ u).grownBy w' row) (hA : ∀ ad, A = some ad → ad.block ≠ bs ∧ row ≠ some ad.block) : Reads w' B size A n xs := by
  refine ⟨h.1, fun hn => ?_⟩
  obtain ⟨ad, e, hb, hc⟩ := h.2 hn
  obtain ⟨h1, h2⟩ := hA ad e
  refine ⟨ad, e, hb, fun i v hv => ?_⟩
  have hcv := hc i v hv
  have hl := World.block_lt_of_cell? w _ hcv
  rw [block_of_add] at hl
  have h3 : w'.heap[(ad.add i).block]? = w.heap[(ad.add i).block]? := by
    rw [block_of_add, hg.block _ (by simpa [World.setCell] using hl) (fun h => h2 h.symm), heap_setCell_other _ _ _ _ h1]
  rw [World.cell?_of_block h3]
  exact hcv
theorem queue_cons {w : World} {base : Nat} {v : Value} {x : Int} {q : List Int} (h : OwnsQ w base 3 1 v (x :: q).length ((x :: q).map (.int .i64))) :
    ∃ g off c, v = .slice (some ⟨g, off, none⟩) (q.length + 1) c ∧ base ≤ g ∧ g < w.heap.size ∧ w.cell? ⟨g, off, none⟩ = some (.int .i64 x) ∧ q.length + 1 ≤ c ∧
      OwnsQ w base 3 1 (.slice (some (if c = 1 then ⟨g, off, none⟩ else ⟨g, off + 1, none⟩)) q.length (c - 1)) q.length (q.map (.int .i64)) := by
  have h0 := h
  rcases h.2 with ⟨hn, _⟩ | ⟨g, off, cap, cur, rfl, hb, hg, hnc, hcm, hcs, ht⟩
  · simp at hn
  · have hlt : g < w.heap.size := by
      rcases Nat.lt_or_ge g w.heap.size with hlt | hge
      · exact hlt
      · rw [Array.getElem?_eq_none hge] at hg; cases hg
    refine ⟨g, off, cap, rfl, hb, hlt, ?_, by simpa using hnc, OwnsQ.tail (x := .int .i64 x) h0⟩
    obtain ⟨ad, e, _, hc⟩ := h0.reads.2 (by simp)
    injection e with e
    subst e
    have := hc 0 (.int .i64 x) (by simp)
    simpa [Addr.add] using this
theorem slice_elem : Try.prog.underlying 63 = some (.slice (Try.prog.elem 63)) := by kernel_rfl
theorem run_tail (w : World) (g off n c : Nat) (h : n + 1 ≤ c) : (Instr.slice 63 (.slice (some ⟨g, off, none⟩) (n + 1) c) (some (.int .i64 1)) none none).run Try.prog w = .ok (.slice (some (if c = 1 then ⟨g, off, none⟩ else ⟨g, off + 1, none⟩)) n (c - 1)) w := by
  have hs : (sizeOf (Try.prog.elem 63)).run Try.prog w = .ok 1 w := by kernel_rfl
  rw [run_slice_l (P := Try.prog) w 63 _ (n + 1) c slice_elem .i64 1 (by omega) (by omega), hs]
  simp only [Result.andThen_ok, sliced]
  by_cases h1 : c = 1
  · simp [h1]
  · simp [h1, Addr.add]
set_option maxHeartbeats 1000000 in
theorem reach_ok (N : Nat) (A : Option Addr) (cap : Nat) (l : List ArcV) (s : Int) (w : World) (hr : Arcs w w.heap.size A l) (hc : checkG N l = 0) (h0 : 0 ≤ s) (h1 : s < N) :
    Calls Try.prog 27 #[.agg #[.int .i64 N, .slice A l.length cap], .int .i64 s] w (ReachPost w N l s) := by
  obtain ⟨_, hN1, hl2, hin⟩ := inN_of_check hc
  have hin' : InN N l := by simpa using hin
  have HIN := Lib.hid hin'
  have hr1 : Arcs (w.alloc (.cells #[.int .i64 N, .slice A l.length cap] 51)) (w.alloc (.cells #[.int .i64 N, .slice A l.length cap] 51)).heap.size A l := by
    have h1 := Reads.below hr ((Below.refl w.heap.size w).alloc (Nat.le_refl _) (.cells #[.int .i64 N, .slice A l.length cap] 51))
    exact ⟨h1.1, fun hn => by obtain ⟨ad, e, hb, hc⟩ := h1.2 hn; exact ⟨ad, e, by simp; omega, hc⟩⟩
  obtain ⟨ib, hib, hbz0, hbz1, hbz2⟩ := info_parts bool_info
  obtain ⟨i0, hi0, hz0, hz1, hz2⟩ := info_parts int_info
  have HB := Lib.hid (And.intro hib (And.intro hbz0 (And.intro hbz1 hbz2)))
  have HI := Lib.hid (And.intro hi0 (And.intro hz0 (And.intro hz1 hz2)))
  have Hc := Lib.hid hc
  clear hc hin hin' hib hbz0 hbz1 hbz2 hi0 hz0 hz1 hz2
  have hsN : ((s.toNat : Nat) : Int) = s := by omega
  have HSN := Lib.hid hsN
  clear hsN
  go_enter Try.func27, Try.ntmps27
  go_wp2_with (first
    | (go_at_call 25; (with_reducible refine (checkG_any N A cap l _ hr1 (by unfold maxLen; omega)).mono ?_); rintro e w2 ⟨rfl, hb⟩
       rw [Hc.out]
       have hc0 : w2.cell? ⟨w.heap.size, 0, none⟩ = some (.int .i64 N) := (hb.cell (by simp)).trans (cell_of_row _ _ _ _ _ _ (heap_alloc_new w _))
       have hc1 : w2.cell? ⟨w.heap.size, 1, none⟩ = some (.slice A l.length cap) := (hb.cell (by simp)).trans (cell_of_row _ _ _ _ _ _ (heap_alloc_new w _))
       have hz2 : w.heap.size < w2.heap.size := by have := hb.size; simp at this; omega)
    | (go_at_call 26; (with_reducible refine (has_yes N s A l.length cap _ h0 h1).mono ?_); rintro e w3 ⟨rfl, rfl⟩)
    | (at_make; refine wpList_make_rep _ rfl _ _ 56 rfl 4 ib (.bool false) Try.underlying56 HB.out.1 HB.out.2.1 HB.out.2.2.1 rfl .i64 .i64 N N N rfl rfl rfl rfl ?b2 ?b3 ?_
       case b2 => rw [HB.out.2.2.2]; omega
       case b3 => unfold maxLen; omega
       intro w4 hg4 hb4 hz4
       have hg5 : w4.heap[w2.heap.size + 1]? = some (.cells (barr (fun _ => false) N) 4 (0, 0)) := by rw [barr_rep]; simpa using hg4
       have hcs : w4.cell? ⟨w2.heap.size + 1, s.toNat, none⟩ = some (.bool false) := by rw [cell_of_row _ _ _ _ _ _ hg5]; exact barr_get _ _ _ (by omega)
       have hfs : w4.frozen? ⟨w2.heap.size + 1, s.toNat, none⟩ = false := frozen_of_row _ _ _ _ _ hg5
       have hz5 : w2.heap.size + 1 < w4.heap.size := by simpa using hz4
       have HG5 := Lib.hid hg5
       have HB4 := Lib.hid hb4
       have HB2 := Lib.hid hb
       have hboxc : w2.heap[w.heap.size]? = some (.cells #[.int .i64 N, .slice A l.length cap] 51 (0, 0)) := (hb.block _ (by simp)).trans (heap_alloc_new w _)
       have HBX := Lib.hid hboxc
       clear hg4 hg5 hb4 hb hboxc hc0 hc1))
  have HSt : Hid (RMem w ((w4.setCell ⟨w2.heap.size + 1, s.toNat, none⟩ (.bool true)).alloc (.cells #[.int .i64 s] 3)) #[.int .i64 N, .slice A l.length cap] (w2.heap.size + 1) (setB (fun _ => false) s.toNat) N (.slice (some ⟨w4.heap.size, 0, none⟩) 1 1) [s]) := by
    have hs4 : (w4.setCell ⟨w2.heap.size + 1, s.toNat, none⟩ (.bool true)).heap.size = w4.heap.size := by simp [World.setCell]
    have hbw : Below w.heap.size w w4 := (((Below.refl w.heap.size w).alloc (Nat.le_refl _) _).trans (HB2.out.mono (by simp))).trans (((Below.refl _ _).alloc (by omega) _).trans (HB4.out.mono (by simp; omega)))
    refine ⟨?_, ?_, ?_, ?_, by omega⟩
    · rw [Below.heap_alloc _ _ _ (by rw [hs4]; omega), heap_setCell_other _ _ _ _ (by show w.heap.size ≠ w2.heap.size + 1; omega), HB4.out.block _ (by simp; omega), Below.heap_alloc _ _ _ hz2]
      exact HBX.out
    · rw [Below.heap_alloc _ _ _ (by rw [hs4]; omega), heap_setCell_same _ _ _ _ _ _ HG5.out, barr_set]; rfl
    · refine OwnsQ.of_own ?_
      have h := World.ownsRow_lit (base := w2.heap.size + 1 + 1) (e := 3) (size := 1) (w4.setCell ⟨w2.heap.size + 1, s.toNat, none⟩ (.bool true)) #[.int .i64 s] 1 (by rw [hs4]; omega) (by unfold maxLen; omega) rfl
      rw [hs4] at h
      exact h
    · exact (hbw.setCell (p := ⟨w2.heap.size + 1, s.toNat, none⟩) (by show _ ≤ w2.heap.size + 1; omega) _).alloc (by rw [hs4]; omega) _
  clear HB2 HB4 HG5 HBX hcs hfs hz2 hz5 hz4
  generalize (w4.setCell ⟨w2.heap.size + 1, s.toNat, none⟩ (.bool true)).alloc (.cells #[.int .i64 s] 3) = w6 at *
  generalize w2.heap.size + 1 = bs at *
  generalize w4.heap.size = g6 at *
  clear w2 w4
  have HN := Lib.hid (And.intro h0 h1)
  clear h0 h1
  go_loopg [6] (2 * N + 2) (fun gk v wr => ∃ (seen : Nat → Bool) (q : List Int), RMem w wr #[.int .i64 N, .slice A l.length cap] bs seen N v q ∧ Bfs N l s seen q (fun _ => False) ∧ 2 * unseen seen N + q.length ≤ gk ∧ gk ≤ 2 * N + 2)
  case atStart => exact ⟨_, _, HSt.out, bfs_start HN.out.1 HN.out.2, by have := unseen_le (setB (fun _ => false) s.toNat) N; simp; omega, Nat.le_refl _⟩
  case round =>
    clear HSt
    obtain ⟨seen, q, hm, hbfs, hms, hg2⟩ := hrel
    cases q with
    | nil =>
      obtain ⟨A', c, rfl, hnc, _⟩ := hm.row.slice_
      have HM := Lib.hid (And.intro hm hbfs)
      clear hm hbfs hms
      go_wp2
      go_ret
      exact ⟨seen, bs, rfl, HM.out.1.seen, HM.out.1.below, fun j hj => bfs_end HM.out.2 HIN.out HN.out.1 HN.out.2 j hj⟩
    | cons x q =>
      obtain ⟨g, off, c, hv, hgb, hgl, hcell, hnc, hrow⟩ := queue_cons hm.row
      subst hv
      obtain ⟨hx0, hxN, hxs⟩ := hbfs.queue x (by simp)
      have hbx1 : wr.cell? ⟨w.heap.size, 0, none⟩ = some (.int .i64 N) := cell_of_row _ _ _ _ _ _ hm.box
      have hbx2 : wr.cell? ⟨w.heap.size, 1, none⟩ = some (.slice A l.length cap) := cell_of_row _ _ _ _ _ _ hm.box
      have hwz : w.heap.size < wr.heap.size := by have := hm.size; have := hm.lt; omega
      have HM := Lib.hid (And.intro hm (And.intro (bfs_pop hbfs) (And.intro hx0 (And.intro hxN hxs))))
      have HR := Lib.hid hrow
      have HA : Hid (Arcs wr wr.heap.size A l) := reads_more (Reads.below hr hm.below) (by omega)
      have hlq : (x :: q).length = q.length + 1 := rfl
      have HMS : Hid (2 * unseen seen N + q.length + 1 ≤ gk) := Lib.hid (by rw [hlq] at hms; omega)
      obtain ⟨A', hA'⟩ : ∃ A', A' = (if c = 1 then (⟨g, off, none⟩ : Addr) else ⟨g, off + 1, none⟩) := ⟨_, rfl⟩
      have hsl : ∀ w' : World, (Instr.slice 63 (.slice (some ⟨g, off, none⟩) (q.length + 1) c) (some (.int .i64 1)) none none).run Try.prog w' = .ok (.slice (some A') q.length (c - 1)) w' := fun w' => by
        rw [hA']; exact run_tail w' _ _ _ _ hnc
      rw [← hA'] at hrow
      have HRow := Lib.hid hrow
      have HA' : Hid (A'.block = g) := by rw [hA']; split <;> rfl
      have hl0 : (0 : Int) < ((q.length + 1 : Nat) : Int) := by omega
      clear hm hbfs hms hrow HR hA' hx0 hxN hxs hlq
      have hol := outK_len l x l.length
      obtain ⟨ks, HK⟩ : ∃ ks, Hid (ks = outK l x l.length) := ⟨_, rfl⟩
      have hco : Hid (∀ w', Arcs w' w'.heap.size A l → Calls Try.prog 33 #[.agg #[.int .i64 N, .slice A l.length cap], .int .i64 x] w' (MadeInts w' ks)) := fun w' h => by rw [HK.out]; exact out_any N A cap l x w' h (by omega)
      rw [← HK.out] at hol
      have hks : ks.length ≤ 20000 := by omega
      clear hol
      go_wp2_with (go_at_call 33; (with_reducible refine (hco.out _ HA.out).mono ?_); rintro e w5 ⟨v5, rfl, hown5, hb5⟩; obtain ⟨A5, c5, rfl, hc5⟩ := ownsRow_slice hown5; have HO5 := Lib.hid (And.intro hown5 hb5); clear hown5 hb5)
      have HS5 : Hid (RMem w w5 #[.int .i64 N, .slice A l.length cap] bs seen N (.slice (some A') q.length (c - 1)) q ∧ Reads w5 w5.heap.size 1 A5 ks.length (ks.map (.int .i64)) ∧ (∀ ad, A5 = some ad → ad.block ≠ g ∧ bs < ad.block) ∧ wr.heap.size ≤ w5.heap.size) := by
        obtain ⟨hown5, hb5⟩ := HO5.out
        obtain ⟨hm, _⟩ := HM.out
        refine ⟨⟨(hb5.block _ hwz).trans hm.box, (hb5.block _ hm.size).trans hm.seen, HRow.out.below hb5 (Nat.le_refl _), hm.below.trans (hb5.mono (by omega)), hm.lt⟩, reads_own hown5, fun ad had => ?_, hb5.size⟩
        have h5 := (hown5.lt ad.block (by rw [had]; rfl)).1
        exact ⟨by omega, by have := hm.size; omega⟩
      clear HO5 hbx1 hbx2 hcell hsl
      obtain ⟨wo, rfl⟩ : ∃ wo : World, wo = wr := ⟨_, rfl⟩
      obtain ⟨gO, rfl⟩ : ∃ gO : Nat, gO = gk := ⟨_, rfl⟩
      go_loopg [6, 40] (ks.length + 1) (fun gk' v i wi => ∃ (t : Nat) (seen' : Nat → Bool) (q' : List Int), t ≤ ks.length ∧ i = .int .i64 t ∧ ks.length - t < gk' ∧
        RMem w wi #[.int .i64 N, .slice A l.length cap] bs seen' N v q' ∧ Bfs N l s seen' q' (fun j => j = x) ∧ seen' x.toNat = true ∧ 2 * unseen seen' N + q'.length < gO ∧
        (∀ t' k : Nat, ∀ ht : t' < ks.length, t' < t → ks[t'] = (k : Int) → ∀ hk : k < l.length, seen' l[k].to.toNat = true) ∧
        Reads wi w5.heap.size 1 A5 ks.length (ks.map (.int .i64)) ∧ (∀ ad, A5 = some ad → v.ownBlock ≠ some ad.block) ∧ w5.heap.size ≤ wi.heap.size)
      case atStart =>
        obtain ⟨_, hbfs, _, _, hxs⟩ := HM.out
        exact ⟨0, seen, q, by omega, rfl, by omega, HS5.out.1, hbfs, hxs, by have := HMS.out; omega, fun t' k ht h => absurd h (by omega), HS5.out.2.1, fun ad had h => by
          simp [Value.ownBlock] at h; have := (HS5.out.2.2.1 ad had).1; have := HA'.out; omega, Nat.le_refl _⟩
      case round =>
        obtain ⟨t, seen', q', ht, rfl, hgk, hm', hbfs', hxs', hms', hdone, hrk, hne, hz5⟩ := hrel
        by_cases hlt : t < ks.length
        · obtain ⟨k, hkt, hkl, hkf⟩ := outK_mem (l := l) (x := x) (t := t) (by rw [← HK.out]; exact hlt)
          have hkt' : ks[t] = (k : Int) := by rw [← hkt]; congr 1
          obtain ⟨b5, o5, hA5, hb5, hc5'⟩ := reads_plain hrk (by omega) Nat.one_pos
          have hk5 : wr.cell? ⟨b5, o5 + t, none⟩ = some (.int .i64 (k : Int)) := hc5' t _ (by simp [hlt, hkt'])
          have hbx2 : wr.cell? ⟨w.heap.size, 1, none⟩ = some (.slice A l.length cap) := cell_of_row _ _ _ _ _ _ hm'.box
          have hwi : w.heap.size < wr.heap.size := by have := hm'.size; have := hm'.lt; omega
          have hbi : bs < wr.heap.size := hm'.size
          obtain ⟨b, o, hAe, hbb, d0, d1, d2⟩ := arcs_at (Reads.below hr hm'.below) hkl
          obtain ⟨_, ht0, htN⟩ := HIN.out _ (List.getElem_mem hkl)
          have hsc : wr.cell? ⟨bs, (l[k].to).toNat, none⟩ = some (.bool (seen' (l[k].to).toNat)) := by rw [cell_of_row _ _ _ _ _ _ hm'.seen]; exact barr_get _ _ _ (by omega)
          have hsf : wr.frozen? ⟨bs, (l[k].to).toNat, none⟩ = false := frozen_of_row _ _ _ _ _ hm'.seen
          have hkl' : (k : Int) < (l.length : Int) := by omega
          subst hA5 hAe
          have HI2 := Lib.hid (And.intro hm' (And.intro hbfs' (And.intro hxs' (And.intro hms' (And.intro hdone (And.intro hrk hne))))))
          have HX := Lib.hid (And.intro hkt' hkf)
          clear hm' hbfs' hxs' hms' hdone hrk hne hkt hkt' hkf hc5' d0 d2
          obtain ⟨A'', c'', hv'', hnc'', _⟩ := HI2.out.1.row.slice_
          subst hv''
          cases hsn : seen' (l[k].to).toNat
          · rw [hsn] at hsc
            have HSN := Lib.hid hsn
            clear hsn
            go_wp2_with (at_builtin; refine wpList_append_q rfl _ _ 63 rfl (bs + 1) i0 (.int .i64 0) 1 8 Try.underlying63 HI.out.1 HI.out.2.1 HI.out.2.2.1 HI.out.2.2.2 rfl (by decide) _ _ _ rfl (HI2.out.1.row.only (only_setCell wr bs (l[k].to).toNat (.bool true)) (by omega)) _ rfl ?c0 rfl ?c1 ?c2 ?c3 ?c4 ?_)
            case c0 => simp [World.setCell]
            case c1 => simp [Value.oneCell']
            case c2 => have := HI2.out.2.2.2.1; omega
            case c3 => omega
            case c4 => simp [World.setCell]; omega
            intro v' w' hown' hgr' hblk'
            have HO := Lib.hid (And.intro hown' (And.intro hgr' hblk'))
            clear hown' hgr' hblk'
            go_wp2
            go_roundg (ks.length - t)
            case measure => omega
            case rel =>
              obtain ⟨hown', hgr', hblk'⟩ := HO.out
              obtain ⟨hm', hbfs', hxs', hms', hdone, hrk, hne⟩ := HI2.out
              obtain ⟨hkt', hkf⟩ := HX.out
              have hxN := HM.out.2.2
              have hu := unseen_set (n := N) (by omega : (l[k].to).toNat < N) HSN.out
              refine ⟨t + 1, setB seen' (l[k].to).toNat, q' ++ [l[k].to], by omega, by go_num, by omega, rmem_add hm' hown' hgr', bfs_add hbfs' hxs' ⟨hxN.1, hxN.2.1⟩ (List.getElem_mem hkl) hkf ⟨ht0, htN⟩, setB_mono hxs', by simp; omega, ?_, ?_, ?_, ?_⟩
              · intro t' k' ht' hlt' hk' hkl2
                by_cases e : t' = t
                · subst e
                  have : k' = k := by rw [hkt'] at hk'; omega
                  subst this
                  simp [setB]
                · exact setB_mono (hdone t' k' ht' (by omega) hk' hkl2)
              · refine reads_grown hrk hgr' ?_
                intro ad had
                have h1 := HS5.out.2.2.1 ad had
                exact ⟨by omega, hne ad had⟩
              · intro ad had
                rcases hblk' with h1 | ⟨k1, h1, h2⟩
                · rw [h1]; exact hne ad had
                · rw [h1]
                  intro h3
                  injection h3 with h3
                  have := reads_lt hrk (by omega) had
                  have e1 : (wr.setCell ⟨bs, (l[k].to).toNat, none⟩ (.bool true)).heap.size = wr.heap.size := by simp [World.setCell]
                  omega
              · have := hgr'.size
                simp [World.setCell] at this
                omega
          · rw [hsn] at hsc
            have HSN := Lib.hid hsn
            clear hsn
            go_wp2
            go_roundg (ks.length - t)
            case measure => omega
            case rel =>
              obtain ⟨hm', hbfs', hxs', hms', hdone, hrk, hne⟩ := HI2.out
              obtain ⟨hkt', hkf⟩ := HX.out
              refine ⟨t + 1, seen', q', by omega, by go_num, by omega, hm', hbfs', hxs', hms', ?_, hrk, hne, hz5⟩
              intro t' k' ht' hlt' hk' hkl2
              by_cases e : t' = t
              · subst e
                have : k' = k := by rw [hkt'] at hk'; omega
                subst this
                exact HSN.out
              · exact hdone t' k' ht' (by omega) hk' hkl2
        · obtain rfl : t = ks.length := by omega
          have HI2 := Lib.hid (And.intro hm' (And.intro hbfs' (And.intro hxs' (And.intro hms' hdone))))
          obtain ⟨A'', c'', hv'', hnc'', _⟩ := hm'.row.slice_
          subst hv''
          clear hm' hbfs' hxs' hms' hdone hrk hne
          go_wp2
          go_roundg (2 * unseen seen' N + q'.length)
          case measure => exact HI2.out.2.2.2.1
          case rel =>
            obtain ⟨hm', hbfs', hxs', hms', hdone⟩ := HI2.out
            refine ⟨seen', q', hm', bfs_done hbfs' (closed_of_out fun t' k ht hk hkl => ?_), Nat.le_refl _, by omega⟩
            refine hdone t' k (by rw [HK.out]; exact ht) (by rw [HK.out]; exact ht) ?_ hkl
            rw [← hk]; congr 1
end Go.Proofs.Ythdjmljoiflkjaa
