/- Contracts of package graph: Out, Turned, Joined, Reach. -/
import Derived.Test.YtjpejclfppbboaaGraphA
import Derived.OwnWalk
import Derived.Laws.OwnMore
import Derived.Carry
namespace Go.Proofs.Ytjpejclfppbboaa
open Go.ChangeShapes Go.WideShapes Go.ChangeAt Go.RowKit
set_option linter.unusedVariables false
theorem int_info : (Try.prog.info? 3).map (fun i => (i.zero, i.size, i.bytes)) = some (some (.int .i64 0), 1, 8) := by kernel_rfl
/-- The numbers of the arcs from i, out of the first k arcs. -/
def outK (l : List ArcV) (i : Int) (k : Nat) : List Int := ((List.range k).filter fun j => (l[j]?.map ArcV.fr) == some i).map Int.ofNat
theorem outK_yes {l : List ArcV} {i : Int} {k : Nat} (hk : k < l.length) (h : l[k].fr = i) : outK l i (k + 1) = outK l i k ++ [(k : Int)] := by
 unfold outK
 rw [List.range_succ, List.filter_append, List.map_append]
 simp [hk, h]
theorem outK_no {l : List ArcV} {i : Int} {k : Nat} (hk : k < l.length) (h : ¬ l[k].fr = i) : outK l i (k + 1) = outK l i k := by
 unfold outK
 rw [List.range_succ, List.filter_append, List.map_append]
 simp [hk, h]
theorem outK_len (l : List ArcV) (i : Int) (k : Nat) : (outK l i k).length ≤ k := by
 unfold outK
 rw [List.length_map]
 exact Nat.le_trans (List.length_filter_le _ _) (by simp)
/-- A slice that the call made (or nil) holds just these numbers; memory that was there is as it was. -/
def MadeInts (W : World) (zs : List Int) (e : Ending) (w' : World) : Prop := ∃ v, e = .returned v ∧ w'.ownsRow W.heap.size 3 1 v zs.length (zs.map (.int .i64)) ∧ Below W.heap.size W w'
set_option maxHeartbeats 400000 in
theorem out_any (N : Int) (A : Option Addr) (cap : Nat) (l : List ArcV) (i : Int) (w : World) (hr : Arcs w w.heap.size A l) (hl : l.length ≤ 30000) :
 Calls Try.prog 86 #[.agg #[.int .i64 N, .slice A l.length cap], .int .i64 i] w (MadeInts w (outK l i l.length)) := by
 obtain ⟨i0, hi0, hz0, hz1, hz2⟩ := info_parts int_info
 have HI := Lib.hid hi0
 have HZ0 := Lib.hid hz0
 have HZ1 := Lib.hid hz1
 have HZ2 := Lib.hid hz2
 clear hi0 hz0 hz1 hz2
 go_enter Try.func86, Try.ntmps86
 go_wp2
 go_loopw [5, 11] (fun v i' wr => ∃ k : Nat, k ≤ l.length ∧ i' = .int .i64 k ∧ wr.ownsRow (w.heap.size + 1) 3 1 v (outK l i k).length ((outK l i k).map (.int .i64)) ∧ Below (w.heap.size + 1) (w.alloc (.cells #[.int .i64 N, .slice A l.length cap] 111)) wr) (fun _ i' _ => l.length - (intOf i').toNat)
 case atStart => exact ⟨0, by omega, rfl, by exact World.ownsRow_nil _ _ _ _, Below.refl _ _⟩
 case round =>
  obtain ⟨k, hk, rfl, hown, hB⟩ := hrel
  have hB0 : Below w.heap.size w wr := ((Below.refl _ _).alloc (Nat.le_refl _) _).trans (hB.mono (by omega))
  have hzz : w.heap.size + 1 ≤ wr.heap.size := by have := hB.size; simpa using this
  have hol := outK_len l i k
  by_cases hlt : k < l.length
  · obtain ⟨b, o, rfl, hb, d0, d1, d2⟩ := arcs_at (Reads.below hr hB0) hlt
    have hz : w.heap.size < wr.heap.size := hzz
    have hbz : b < wr.heap.size := by omega
    by_cases hf : l[k].fr = i
    · have HR := Lib.hid (outK_yes hlt hf)
      have hf' : (l[k].fr == i) = true := by simpa using hf
      clear hf
      go_wp2_with (at_builtin; refine wpList_append_new rfl _ _ 44 rfl (w.heap.size + 1) i0 (.int .i64 0) 1 8 Try.underlying44 HI.out HZ0.out HZ1.out HZ2.out rfl (by decide) _ _ _ rfl (hown.alloc _) _ rfl ?c0 rfl ?c1 ?c2 ?c3 ?c4 ?_)
      case c0 => simp
      case c1 => simp [Value.oneCell']
      case c2 => omega
      case c3 => omega
      case c4 => simp; omega
      intro v' w' hown' hb' hz'
      have HO := Lib.hid hown'
      clear hown' hown
      go_wp2
      go_roundw
      case rel => exact ⟨k + 1, by omega, by go_num, by rw [HR.out]; simpa using HO.out, hB.trans (((Below.refl _ _).alloc hzz _).trans hb')⟩
      case measure => simp [intOf]; omega
    · have HR := Lib.hid (outK_no hlt hf)
      have hf' : (l[k].fr == i) = false := by simpa using hf
      have HO := Lib.hid hown
      clear hf hown
      go_wp2
      go_roundw
      case rel => exact ⟨k + 1, by omega, by go_num, by rw [HR.out]; exact HO.out.alloc _, hB.trans ((Below.refl _ _).alloc hzz _)⟩
      case measure => simp [intOf]; omega
  · obtain rfl : k = l.length := by omega
    have HO := Lib.hid hown
    clear hown
    go_wp2
    go_ret
    exact ⟨_, rfl, ownsRow_mono HO.out (by omega), hB0⟩
end Go.Proofs.Ytjpejclfppbboaa
