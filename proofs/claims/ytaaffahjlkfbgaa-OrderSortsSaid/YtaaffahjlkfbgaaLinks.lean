/- law06.Graph: a graph of few nodes, all of whose arcs are there. -/
import Derived.Test.YtaaffahjlkfbgaaGraphA
import Derived.Test.YtaaffahjlkfbgaaIarr
import Derived.Deep.LoopGhost
namespace Go.Proofs.Ytaaffahjlkfbgaa
open Go.ChangeShapes Go.WideShapes Go.ChangeAt Go.RowKit
set_option linter.unusedVariables false
/-- A link: from, to (bytes), weight. -/
structure LinkV where
  fr : Int
  to : Int
  wt : Int
def LinkV.ok (a : LinkV) : Prop := (0 ≤ a.fr ∧ a.fr ≤ 255) ∧ (0 ≤ a.to ∧ a.to ≤ 255) ∧ -32768 ≤ a.wt ∧ a.wt ≤ 32767
def LinkV.cells (a : LinkV) : List Value := [.int .u8 a.fr, .int .u8 a.to, .int .i16 a.wt]
def linkCells (l : List LinkV) : List Value := l.flatMap LinkV.cells
def Links (w : World) (B : Nat) (A : Option Addr) (l : List LinkV) : Prop := Reads w B 3 A l.length (linkCells l)
theorem linkCells_get (l : List LinkV) (k : Nat) (h : k < l.length) : (linkCells l)[k * 3]? = some (.int .u8 l[k].fr) ∧ (linkCells l)[k * 3 + 1]? = some (.int .u8 l[k].to) ∧ (linkCells l)[k * 3 + 2]? = some (.int .i16 l[k].wt) := by
  induction l generalizing k with
  | nil => simp at h
  | cons a r ih =>
    cases k with
    | zero => exact ⟨rfl, rfl, rfl⟩
    | succ k =>
      have := ih k (by simpa using h)
      unfold linkCells at this ⊢
      rw [List.flatMap_cons]
      have e0 : (k + 1) * 3 = a.cells.length + k * 3 := by simp [LinkV.cells]; omega
      rw [e0, List.getElem?_append_right (by omega), List.getElem?_append_right (by omega), List.getElem?_append_right (by omega)]
      simp only [Nat.add_sub_cancel_left, List.getElem_cons_succ]
      have e1 : a.cells.length + k * 3 + 1 - a.cells.length = k * 3 + 1 := by omega
      have e2 : a.cells.length + k * 3 + 2 - a.cells.length = k * 3 + 2 := by omega
      rw [e1, e2]
      exact this
theorem links_at {w : World} {B : Nat} {A : Option Addr} {l : List LinkV} (h : Links w B A l) {k : Nat} (hk : k < l.length) :
    ∃ b o, A = some ⟨b, o, none⟩ ∧ b < B ∧ w.cell? ⟨b, o + k * 3, none⟩ = some (.int .u8 l[k].fr) ∧ w.cell? ⟨b, o + k * 3 + 1, none⟩ = some (.int .u8 l[k].to) ∧ w.cell? ⟨b, o + k * 3 + 2, none⟩ = some (.int .i16 l[k].wt) := by
  obtain ⟨b, o, e, hb, hc⟩ := reads_plain h (by omega) (by omega)
  obtain ⟨g0, g1, g2⟩ := linkCells_get l k hk
  exact ⟨b, o, e, hb, hc _ _ g0, hc _ _ g1, hc _ _ g2⟩
def arcOf (N : Int) (a : LinkV) : ArcV := ⟨a.fr % N, a.to % N, a.wt⟩
def nodesOf (n : Int) : Int := 1 + n % 8
/-- The arcs, out of the first k links. -/
def arcsK (N : Int) (l : List LinkV) (k : Nat) : List ArcV := (l.take (min k 24)).map (arcOf N)
def arcsOf (N : Int) (l : List LinkV) : List ArcV := (l.take 24).map (arcOf N)
theorem arcsK_yes {N : Int} {l : List LinkV} {k : Nat} (hk : k < l.length) (h : k < 24) : arcsK N l (k + 1) = arcsK N l k ++ [arcOf N l[k]] := by
  unfold arcsK
  rw [show min (k + 1) 24 = k + 1 by omega, show min k 24 = k by omega, List.take_succ_eq_append_getElem hk, List.map_append]
  rfl
theorem arcsK_no {N : Int} {l : List LinkV} {k : Nat} (h : ¬ k < 24) : arcsK N l (k + 1) = arcsK N l k := by
  unfold arcsK
  rw [show min (k + 1) 24 = 24 by omega, show min k 24 = 24 by omega]
theorem arcsK_all {N : Int} {l : List LinkV} : arcsK N l l.length = arcsOf N l := by
  unfold arcsK arcsOf
  by_cases h : l.length ≤ 24
  · rw [show min l.length 24 = l.length by omega, List.take_of_length_le (Nat.le_refl _), List.take_of_length_le h]
  · rw [show min l.length 24 = 24 by omega]
theorem arcsK_len (N : Int) (l : List LinkV) (k : Nat) : (arcsK N l k).length ≤ 24 := by
  unfold arcsK
  simp; omega
theorem arcCells_snoc (l : List ArcV) (a : ArcV) : arcCells (l ++ [a]) = arcCells l ++ a.cells := by
  unfold arcCells
  simp
theorem arcCells_len (l : List ArcV) : (arcCells l).length = l.length * 3 := by
  induction l with
  | nil => rfl
  | cons x r ih => unfold arcCells at ih ⊢; rw [List.flatMap_cons, List.length_append, ih]; simp [ArcV.cells]; omega
theorem arc_info : (Try.prog.info? 55).map (fun i => (i.zero, i.size, i.bytes)) = some (some (.agg #[.int .i64 0, .int .i64 0, .int .i64 0]), 3, 24) := by kernel_rfl
/-- A graph that the call made. -/
def GraphPost (W : World) (N : Int) (L : List ArcV) (e : Ending) (w' : World) : Prop :=
  ∃ v, e = .returned (.agg #[.int .i64 N, v]) ∧ SL W W.heap.size [.row 55 3 v L.length (arcCells L)] w'
set_option maxHeartbeats 800000 in
theorem graph06_any (n : Int) (A : Option Addr) (cap : Nat) (l : List LinkV) (w : World) (hr : Links w w.heap.size A l) (hl : l.length ≤ maxLen) (h0 : 0 ≤ n) (h1 : n ≤ 255) (hok : ∀ a ∈ l, a.ok) :
    Calls Try.prog 23 #[.int .u8 n, .slice A l.length cap] w (GraphPost w (nodesOf n) (arcsOf (nodesOf n) l)) := by
  unfold maxLen at hl
  obtain ⟨N, hN⟩ : ∃ N : Int, 1 + n % 8 = N := ⟨_, rfl⟩
  have hN1 : 1 ≤ N := by omega
  have hN8 : N ≤ 8 := by omega
  rw [show nodesOf n = N from hN]
  obtain ⟨i0, hi0, hz0, hz1, hz2⟩ := info_parts arc_info
  have HI := Lib.hid (And.intro hi0 (And.intro hz0 (And.intro hz1 hz2)))
  clear hi0 hz0 hz1 hz2
  go_enter Try.func23, Try.ntmps23
  go_wp2_with fail
  go_loopw [15] (fun i wr => ∃ (k : Nat) (v : Value), k ≤ l.length ∧ i = .int .i64 k ∧ SL w w.heap.size [.row 55 3 v (arcsK N l k).length (arcCells (arcsK N l k)), .blk (w.heap.size + 1) #[.int .i64 N, v] 45, .blk w.heap.size #[.int .i64 0, .slice none 0 0] 45] wr) (fun i _ => l.length - (intOf i).toNat)
  case atStart => exact ⟨0, _, by omega, rfl, by simpa [arcsK, arcCells] using (((SL.start (Nat.le_refl _)).alloc #[.int .i64 0, .slice none 0 0] 45).alloc #[.int .i64 N, .slice none 0 0] 45).nil 55 3⟩
  case round =>
    obtain ⟨k, v, hk, rfl, hS⟩ := hrel
    have c0 : wr.cell? ⟨w.heap.size + 1, 0, none⟩ = some (.int .i64 N) := hS.cell 1 rfl 0 rfl
    have c1 : wr.cell? ⟨w.heap.size + 1, 1, none⟩ = some v := hS.cell 1 rfl 1 rfl
    have hzs := (hS.lt 1 rfl).2
    by_cases hlt : k < l.length
    · obtain ⟨b, o, rfl, hb, d0, d1, d2⟩ := links_at (Reads.below hr hS.below) hlt
      obtain ⟨⟨f0, f1⟩, ⟨t0, t1⟩, w0, w1⟩ := hok _ (List.getElem_mem hlt)
      by_cases h24 : k < 24
      · have HQ := Lib.hid (arcsK_yes (N := N) hlt h24)
        have hS2 := hS.alloc #[.int .u8 l[k].fr, .int .u8 l[k].to, .int .i16 l[k].wt] 42
        go_wp2_with fail
        generalize hw9 : (wr.alloc (.cells #[.int .u8 l[k].fr, .int .u8 l[k].to, .int .i16 l[k].wt] 42)) = w9 at *
        refine wp_region_sl [0,1,2,3,4,5,6,7,8,9,10,11,12,13,14,15,16,17] [18,19] [20,21] [.blk wr.heap.size #[.int .u8 l[k].fr, .int .u8 l[k].to, .int .i16 l[k].wt] 42, .blk (w.heap.size + 1) #[.int .i64 N, v] 45] hS2 (by simp) (by kernel_rfl) (by kernel_rfl) (.cons rfl (.cons rfl .nil)) (fun C cw _ hC => ?_)
        have q0 : ∀ c, (cw c).cell? ⟨wr.heap.size, 0, none⟩ = some (.int .u8 l[k].fr) := fun c => (hC c).cell 0 rfl 0 rfl
        have q1 : ∀ c, (cw c).cell? ⟨wr.heap.size, 1, none⟩ = some (.int .u8 l[k].to) := fun c => (hC c).cell 0 rfl 1 rfl
        have q2 : ∀ c, (cw c).cell? ⟨wr.heap.size, 2, none⟩ = some (.int .i16 l[k].wt) := fun c => (hC c).cell 0 rfl 2 rfl
        have q3 : ∀ c, (cw c).cell? ⟨w.heap.size + 1, 0, none⟩ = some (.int .i64 N) := fun c => (hC c).cell 1 rfl 0 rfl
        have q4 : ∀ c, (cw c).cell? ⟨w.heap.size + 1, 1, none⟩ = some v := fun c => (hC c).cell 1 rfl 1 rfl
        repeat (refine pl_look rfl rfl rfl (fun Kv hK => ?_); go_big_quiet_op; refine hK _ ?_; clear hK Kv)
        clear q0 q1 q2 q3 q4
        refine pl_end ?_
        intro w1 hS4
        refine pm_eff rfl rfl fun Kv hK => ?_
        go_simp
        refine ⟨(hS4.alloc _ _).sub (by simp), hK _ _ ?_⟩
        clear hK Kv
        refine pm_append rfl rfl (.tmp 23) (.tmp 40) 43 rfl hS4 1 i0 _ 3 24 Try.underlying43 HI.out.1 HI.out.2.1 HI.out.2.2.1 HI.out.2.2.2 rfl (by decide) v _ 1 _ rfl rfl _ rfl rfl (by decide) rfl (by simp [Value.oneCell']) ?_ (by decide) ?_
        · have := arcsK_len N l k; omega
        intro v' w' hS5 hz5
        refine ⟨hS5.sub (by simp), fun Kv hK => hK _ _ ?_⟩
        refine pm_end ?_
        have hS6 : SL w w.heap.size [.blk wr.heap.size #[.int .u8 l[k].fr, .int .u8 l[k].to, .int .i16 l[k].wt] 42, .row 55 3 v' ((arcsK N l k).length + 1) (arcCells (arcsK N l k) ++ (arcOf N l[k]).cells), .blk (w.heap.size + 1) #[.int .i64 N, v] 45, .blk w.heap.size #[.int .i64 0, .slice none 0 0] 45] w' := hS5
        obtain ⟨A', c', rfl, _, _⟩ := (hS6.row 1 rfl).slice_
        have e1 : w'.cell? ⟨w.heap.size + 1, 1, none⟩ = some v := hS6.cell 2 rfl 1 rfl
        have e2 := hS6.free 2 rfl 1
        clear hS5 hS4 hS2 hS c0 c1 d0 d1 d2
        go_wp2
        go_roundw
        case rel =>
          refine ⟨k + 1, .slice A' ((arcsK N l k).length + 1) c', by omega, by go_num, ?_⟩
          rw [HQ.out, arcCells_snoc, List.length_append]
          exact (hS6.setCell 2 rfl 1 _).tail
        case measure => simp [intOf]; omega
      · have HQ := Lib.hid (arcsK_no (N := N) (l := l) h24)
        clear c0 c1
        go_wp2
        go_roundw
        case rel => exact ⟨k + 1, v, by omega, by go_num, by rw [HQ.out]; exact (hS.alloc _ _).tail⟩
        case measure => simp [intOf]; omega
    · obtain rfl : k = l.length := by omega
      rw [arcsK_all] at hS
      obtain ⟨A', c', rfl, _, _⟩ := (hS.row 0 rfl).slice_
      have H1C : Hid ((#[Value.int .i64 N, Value.slice A' (arcsOf N l).length c'] : Array Value).all (·.oneCell') = true) := Lib.hid (by simp [Value.oneCell'])
      have HB := Lib.hid (hS.blk 2 rfl)
      go_wp2_with (refine wpList_store_abs rfl 45 (.tmp 4) (.tmp 44) rfl rfl w.heap.size #[.int .i64 N, .slice A' (arcsOf N l).length c'] rfl rfl 45 _ HB.out (by kernel_rfl) rfl H1C.out ?_; intro w5 ho5 hg5)
      refine retArr rfl _ _ w.heap.size 45 #[.int .i64 N, .slice A' (arcsOf N l).length c'] _ rfl hg5 Try.underlying45 rfl (by kernel_rfl) ?_
      exact ⟨_, rfl, (hS.only 2 rfl ho5 hg5).sub (by simp)⟩
end Go.Proofs.Ytaaffahjlkfbgaa
