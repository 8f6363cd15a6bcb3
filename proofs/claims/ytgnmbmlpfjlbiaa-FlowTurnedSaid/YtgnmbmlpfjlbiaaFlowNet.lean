/- law09.Net: a net of few nodes, all of whose pipes are there; law09.Ends. -/
import Derived.Test.YtgnmbmlpfjlbiaaFlowAwake
namespace Go.Proofs.Ytgnmbmlpfjlbiaa
open Go.ChangeShapes Go.WideShapes Go.ChangeAt Go.RowKit
set_option linter.unusedVariables false
/-- A pipe by small numbers. -/
structure TubeV where
  fr : Int
  dst : Int
  room : Int
  cost : Int
def TubeV.ok (a : TubeV) : Prop := (0 ≤ a.fr ∧ a.fr ≤ 255) ∧ (0 ≤ a.dst ∧ a.dst ≤ 255) ∧ (0 ≤ a.room ∧ a.room ≤ 255) ∧ 0 ≤ a.cost ∧ a.cost ≤ 255
def TubeV.cells (a : TubeV) : List Value := [.int .u8 a.fr, .int .u8 a.dst, .int .u8 a.room, .int .u8 a.cost]
def tubeCells (l : List TubeV) : List Value := l.flatMap TubeV.cells
def Tubes (w : World) (B : Nat) (A : Option Addr) (l : List TubeV) : Prop := Reads w B 4 A l.length (tubeCells l)
theorem tubeCells_get (l : List TubeV) (k : Nat) (h : k < l.length) : (tubeCells l)[k * 4]? = some (.int .u8 l[k].fr) ∧ (tubeCells l)[k * 4 + 1]? = some (.int .u8 l[k].dst) ∧ (tubeCells l)[k * 4 + 2]? = some (.int .u8 l[k].room) ∧ (tubeCells l)[k * 4 + 3]? = some (.int .u8 l[k].cost) := by
  induction l generalizing k with
  | nil => simp at h
  | cons a r ih =>
    cases k with
    | zero => exact ⟨rfl, rfl, rfl, rfl⟩
    | succ k =>
      have := ih k (by simpa using h)
      unfold tubeCells at this ⊢
      rw [List.flatMap_cons]
      have e0 : (k + 1) * 4 = a.cells.length + k * 4 := by simp [TubeV.cells]; omega
      rw [e0, List.getElem?_append_right (by omega), List.getElem?_append_right (by omega), List.getElem?_append_right (by omega), List.getElem?_append_right (by omega)]
      simp only [Nat.add_sub_cancel_left, List.getElem_cons_succ]
      have e1 : a.cells.length + k * 4 + 1 - a.cells.length = k * 4 + 1 := by omega
      have e2 : a.cells.length + k * 4 + 2 - a.cells.length = k * 4 + 2 := by omega
      have e3 : a.cells.length + k * 4 + 3 - a.cells.length = k * 4 + 3 := by omega
      rw [e1, e2, e3]
      exact this
theorem tubes_at {w : World} {B : Nat} {A : Option Addr} {l : List TubeV} (h : Tubes w B A l) {k : Nat} (hk : k < l.length) :
    ∃ b o, A = some ⟨b, o, none⟩ ∧ b < B ∧ w.cell? ⟨b, o + k * 4, none⟩ = some (.int .u8 l[k].fr) ∧ w.cell? ⟨b, o + k * 4 + 1, none⟩ = some (.int .u8 l[k].dst) ∧ w.cell? ⟨b, o + k * 4 + 2, none⟩ = some (.int .u8 l[k].room) ∧ w.cell? ⟨b, o + k * 4 + 3, none⟩ = some (.int .u8 l[k].cost) := by
  obtain ⟨b, o, e, hb, hc⟩ := reads_plain h (by omega) (by omega)
  obtain ⟨g0, g1, g2, g3⟩ := tubeCells_get l k hk
  exact ⟨b, o, e, hb, hc _ _ g0, hc _ _ g1, hc _ _ g2, hc _ _ g3⟩
def pipeOf (N : Int) (a : TubeV) : PipeV := ⟨a.fr % N, a.dst % N, a.room, a.cost⟩
def nodesF (n : Int) : Nat := 2 + (n % 5).toNat
def pipesK (N : Int) (l : List TubeV) (k : Nat) : List PipeV := (l.take (min k 14)).map (pipeOf N)
def pipesOf (N : Int) (l : List TubeV) : List PipeV := (l.take 14).map (pipeOf N)
theorem pipesK_yes {N : Int} {l : List TubeV} {k : Nat} (hk : k < l.length) (h : k < 14) : pipesK N l (k + 1) = pipesK N l k ++ [pipeOf N l[k]] := by
  unfold pipesK
  rw [show min (k + 1) 14 = k + 1 by omega, show min k 14 = k by omega, List.take_succ_eq_append_getElem hk, List.map_append]
  rfl
theorem pipesK_no {N : Int} {l : List TubeV} {k : Nat} (h : ¬ k < 14) : pipesK N l (k + 1) = pipesK N l k := by
  unfold pipesK
  rw [show min (k + 1) 14 = 14 by omega, show min k 14 = 14 by omega]
theorem pipesK_all {N : Int} {l : List TubeV} : pipesK N l l.length = pipesOf N l := by
  unfold pipesK pipesOf
  by_cases h : l.length ≤ 14
  · rw [show min l.length 14 = l.length by omega, List.take_of_length_le (Nat.le_refl _), List.take_of_length_le h]
  · rw [show min l.length 14 = 14 by omega]
theorem pipesK_len (N : Int) (l : List TubeV) (k : Nat) : (pipesK N l k).length ≤ 14 := by
  unfold pipesK
  simp; omega
theorem pipesOf_len (N : Int) (l : List TubeV) : (pipesOf N l).length ≤ 14 := by
  unfold pipesOf
  simp; omega
theorem pipesOf_in {N : Nat} {l : List TubeV} (hN : 0 < N) (hok : ∀ a ∈ l, a.ok) : InP N (pipesOf N l) ∧ (∀ p ∈ pipesOf N l, p.room ≤ 255) ∧ ∀ p ∈ pipesOf N l, -1099511627776 ≤ p.cost ∧ p.cost ≤ 1099511627776 := by
  have key : ∀ p ∈ pipesOf N l, ∃ a : TubeV, a.ok ∧ p = pipeOf N a := by
    intro p hp
    obtain ⟨a, ha, rfl⟩ := List.mem_map.1 hp
    exact ⟨a, hok a (List.mem_of_mem_take ha), rfl⟩
  refine ⟨fun p hp => ?_, fun p hp => ?_, fun p hp => ?_⟩
  · obtain ⟨a, ⟨h1, h2, h3, h4⟩, rfl⟩ := key p hp
    have := Int.emod_nonneg a.fr (b := (N : Int)) (by omega)
    have := Int.emod_lt_of_pos a.fr (b := (N : Int)) (by omega)
    have := Int.emod_nonneg a.dst (b := (N : Int)) (by omega)
    have := Int.emod_lt_of_pos a.dst (b := (N : Int)) (by omega)
    show (0 ≤ a.fr % N ∧ a.fr % N < N) ∧ (0 ≤ a.dst % N ∧ a.dst % N < N) ∧ 0 ≤ a.room ∧ a.room ≤ 1099511627776
    omega
  · obtain ⟨a, ⟨h1, h2, h3, h4⟩, rfl⟩ := key p hp
    exact h3.2
  · obtain ⟨a, ⟨h1, h2, h3, h4⟩, rfl⟩ := key p hp
    show -1099511627776 ≤ a.cost ∧ a.cost ≤ 1099511627776
    omega
theorem pipe_info : (Try.prog.info? 40).map (fun i => (i.zero, i.size, i.bytes)) = some (some (.agg #[.int .i64 0, .int .i64 0, .int .i64 0, .int .i64 0]), 4, 32) := by kernel_rfl
/-- A net that the call made. -/
def NetPost (W : World) (N : Nat) (L : List PipeV) (e : Ending) (w' : World) : Prop :=
  ∃ v, e = .returned (.agg #[.int .i64 N, v]) ∧ SL W W.heap.size [.row 40 4 v L.length (pipeCells L)] w'
set_option maxHeartbeats 800000 in
theorem net09_any (n : Int) (A : Option Addr) (cap : Nat) (l : List TubeV) (w : World) (hr : Tubes w w.heap.size A l) (hl : l.length ≤ maxLen) (h0 : 0 ≤ n) (h1 : n ≤ 255) (hok : ∀ a ∈ l, a.ok) :
    Calls Try.prog 14 #[.int .u8 n, .slice A l.length cap] w (NetPost w (nodesF n) (pipesOf (nodesF n) l)) := by
  unfold maxLen at hl
  obtain ⟨N, hN⟩ : ∃ N : Int, 2 + n % 5 = N := ⟨_, rfl⟩
  have hN1 : 2 ≤ N := by omega
  have hN8 : N ≤ 6 := by omega
  have HNF : Hid ((nodesF n : Int) = N) := Lib.hid (by unfold nodesF; omega)
  unfold NetPost
  rw [HNF.out]
  obtain ⟨i0, hi0, hz0, hz1, hz2⟩ := info_parts pipe_info
  have HI := Lib.hid (And.intro hi0 (And.intro hz0 (And.intro hz1 hz2)))
  clear hi0 hz0 hz1 hz2
  go_enter Try.func14, Try.ntmps14
  go_wp2_with fail
  go_loopw [15] (fun i wr => ∃ (k : Nat) (v : Value), k ≤ l.length ∧ i = .int .i64 k ∧ SL w w.heap.size [.row 40 4 v (pipesK N l k).length (pipeCells (pipesK N l k)), .blk (w.heap.size + 1) #[.int .i64 N, v] 26, .blk w.heap.size #[.int .i64 0, .slice none 0 0] 26] wr) (fun i _ => l.length - (intOf i).toNat)
  case atStart => exact ⟨0, _, by omega, rfl, by simpa [pipesK, pipeCells] using (((SL.start (Nat.le_refl _)).alloc #[.int .i64 0, .slice none 0 0] 26).alloc #[.int .i64 N, .slice none 0 0] 26).nil 40 4⟩
  case round =>
    obtain ⟨k, v, hk, rfl, hS⟩ := hrel
    have c0 : wr.cell? ⟨w.heap.size + 1, 0, none⟩ = some (.int .i64 N) := hS.cell 1 rfl 0 rfl
    have c1 : wr.cell? ⟨w.heap.size + 1, 1, none⟩ = some v := hS.cell 1 rfl 1 rfl
    have hzs := (hS.lt 1 rfl).2
    by_cases hlt : k < l.length
    · obtain ⟨b, o, rfl, hb, d0, d1, d2, d3⟩ := tubes_at (Reads.below hr hS.below) hlt
      obtain ⟨⟨f0, f1⟩, ⟨t0, t1⟩, ⟨r0, r1⟩, w0, w1⟩ := hok _ (List.getElem_mem hlt)
      by_cases h14 : k < 14
      · have HQ := Lib.hid (pipesK_yes (N := N) hlt h14)
        have hS2 := hS.alloc #[.int .u8 l[k].fr, .int .u8 l[k].dst, .int .u8 l[k].room, .int .u8 l[k].cost] 61
        go_wp2_with fail
        generalize hw9 : (wr.alloc (.cells #[.int .u8 l[k].fr, .int .u8 l[k].dst, .int .u8 l[k].room, .int .u8 l[k].cost] 61)) = w9 at *
        refine wp_region_sl [0,1,2,3,4,5,6,7,8,9,10,11,12,13,14,15,16,17,18,19,20] [21,22] [23,24] [.blk wr.heap.size #[.int .u8 l[k].fr, .int .u8 l[k].dst, .int .u8 l[k].room, .int .u8 l[k].cost] 61, .blk (w.heap.size + 1) #[.int .i64 N, v] 26] hS2 (by simp) (by kernel_rfl) (by kernel_rfl) (.cons rfl (.cons rfl .nil)) (fun C cw _ hC => ?_)
        have q0 : ∀ c, (cw c).cell? ⟨wr.heap.size, 0, none⟩ = some (.int .u8 l[k].fr) := fun c => (hC c).cell 0 rfl 0 rfl
        have q1 : ∀ c, (cw c).cell? ⟨wr.heap.size, 1, none⟩ = some (.int .u8 l[k].dst) := fun c => (hC c).cell 0 rfl 1 rfl
        have q2 : ∀ c, (cw c).cell? ⟨wr.heap.size, 2, none⟩ = some (.int .u8 l[k].room) := fun c => (hC c).cell 0 rfl 2 rfl
        have q5 : ∀ c, (cw c).cell? ⟨wr.heap.size, 3, none⟩ = some (.int .u8 l[k].cost) := fun c => (hC c).cell 0 rfl 3 rfl
        have q3 : ∀ c, (cw c).cell? ⟨w.heap.size + 1, 0, none⟩ = some (.int .i64 N) := fun c => (hC c).cell 1 rfl 0 rfl
        have q4 : ∀ c, (cw c).cell? ⟨w.heap.size + 1, 1, none⟩ = some v := fun c => (hC c).cell 1 rfl 1 rfl
        repeat (refine pl_look rfl rfl rfl (fun Kv hK => ?_); go_big_quiet_op; refine hK _ ?_; clear hK Kv)
        clear q0 q1 q2 q3 q4 q5
        refine pl_end ?_
        intro w1 hS4
        refine pm_eff rfl rfl fun Kv hK => ?_
        go_simp
        refine ⟨(hS4.alloc _ _).sub (by simp), hK _ _ ?_⟩
        clear hK Kv
        refine pm_append rfl rfl (.tmp 23) (.tmp 43) 24 rfl hS4 1 i0 _ 4 32 Try.underlying24 HI.out.1 HI.out.2.1 HI.out.2.2.1 HI.out.2.2.2 rfl (by decide) v _ 1 _ rfl rfl _ rfl rfl (by decide) rfl (by simp [Value.oneCell']) ?_ (by decide) ?_
        · have := pipesK_len N l k; omega
        intro v' w' hS5 hz5
        refine ⟨hS5.sub (by simp), fun Kv hK => hK _ _ ?_⟩
        refine pm_end ?_
        have hS6 : SL w w.heap.size [.blk wr.heap.size #[.int .u8 l[k].fr, .int .u8 l[k].dst, .int .u8 l[k].room, .int .u8 l[k].cost] 61, .row 40 4 v' ((pipesK N l k).length + 1) (pipeCells (pipesK N l k) ++ (pipeOf N l[k]).cells), .blk (w.heap.size + 1) #[.int .i64 N, v] 26, .blk w.heap.size #[.int .i64 0, .slice none 0 0] 26] w' := hS5
        obtain ⟨A', c', rfl, _, _⟩ := (hS6.row 1 rfl).slice_
        have e1 : w'.cell? ⟨w.heap.size + 1, 1, none⟩ = some v := hS6.cell 2 rfl 1 rfl
        have e2 := hS6.free 2 rfl 1
        clear hS5 hS4 hS2 hS c0 c1 d0 d1 d2 d3
        go_wp2
        go_roundw
        case rel =>
          refine ⟨k + 1, .slice A' ((pipesK N l k).length + 1) c', by omega, by go_num, ?_⟩
          rw [HQ.out, pipeCells_snoc, List.length_append]
          exact (hS6.setCell 2 rfl 1 _).tail
        case measure => simp [intOf]; omega
      · have HQ := Lib.hid (pipesK_no (N := N) (l := l) h14)
        clear c0 c1
        go_wp2
        go_roundw
        case rel => exact ⟨k + 1, v, by omega, by go_num, by rw [HQ.out]; exact (hS.alloc _ _).tail⟩
        case measure => simp [intOf]; omega
    · obtain rfl : k = l.length := by omega
      rw [pipesK_all] at hS
      obtain ⟨A', c', rfl, _, _⟩ := (hS.row 0 rfl).slice_
      have H1C : Hid ((#[Value.int .i64 N, Value.slice A' (pipesOf N l).length c'] : Array Value).all (·.oneCell') = true) := Lib.hid (by simp [Value.oneCell'])
      have HB := Lib.hid (hS.blk 2 rfl)
      go_wp2_with (refine wpList_store_abs rfl 26 (.tmp 4) (.tmp 47) rfl rfl w.heap.size #[.int .i64 N, .slice A' (pipesOf N l).length c'] rfl rfl 26 _ HB.out (by kernel_rfl) rfl H1C.out ?_; intro w5 ho5 hg5)
      refine retArr rfl _ _ w.heap.size 26 #[.int .i64 N, .slice A' (pipesOf N l).length c'] _ rfl hg5 Try.underlying26 rfl (by kernel_rfl) ?_
      exact ⟨_, rfl, (hS.only 2 rfl ho5 hg5).sub (by simp)⟩
end Go.Proofs.Ytgnmbmlpfjlbiaa
