/- The walk of Graph.Joined at arcs that lead from a node to another one. -/
import Derived.Test.YtaaffahjlkfbgaaPathOk
import Derived.Test.YtaaffahjlkfbgaaIarr
namespace Go.Proofs.Ytaaffahjlkfbgaa
open Go.ChangeShapes Go.WideShapes Go.ChangeAt Go.RowKit
set_option linter.unusedVariables false
set_option maxRecDepth 100000 in
set_option maxHeartbeats 4000000 in
theorem joined_ok (N : Int) (A AW : Option Addr) (cap cw_ : Nat) (l : List ArcV) (way : List Int) (u v c : Int) (w : World) (hr : Arcs w w.heap.size A l) (hwr : Reads w w.heap.size 1 AW way.length (way.map (.int .i64))) (hp : Pth l way u v c) (hl : l.length ≤ 20000) (hwl : way.length ≤ 2000) (hw : ∀ a ∈ l, -1099511627776 ≤ a.wt ∧ a.wt ≤ 1099511627776) :
    Calls Try.prog 29 #[.agg #[.int .i64 N, .slice A l.length cap], .slice AW way.length cw_, .int .i64 u, .int .i64 v] w fun e w' => e = .returned (.tuple #[.int .i64 c, .bool true]) ∧ Below w.heap.size w w' := by
  have hS0 := (SL.start (Nat.le_refl w.heap.size)).alloc #[.int .i64 N, .slice A l.length cap] 45
  have HR : Hid (∀ (rs : List Rs) w', SL w w.heap.size rs w' → Arcs w' w'.heap.size A l) := Lib.hid (fun rs w' h => reads_more (Reads.below hr h.below) h.below.size)
  have HRW : Hid (∀ (rs : List Rs) w', SL w w.heap.size rs w' → Reads w' w'.heap.size 1 AW way.length (way.map (.int .i64))) := Lib.hid (fun rs w' h => reads_more (Reads.below hwr h.below) h.below.size)
  have HS0 := Lib.hid hS0
  have HW := Lib.hid hw
  have HP := Lib.hid hp
  clear hr hwr hS0 hw hp
  go_enter Try.func29, Try.ntmps29
  go_wp2_with fail
  go_loopw [15, 2, 10] (fun i at_ sum wr => ∃ (k : Nat) (at' s c' : Int), k ≤ way.length ∧ i = .int .i64 k ∧ at_ = .int .i64 at' ∧ sum = .int .i64 s ∧ Pth l (way.drop k) at' v c' ∧ s + c' = c ∧ -1099511627776 * k ≤ s ∧ s ≤ 1099511627776 * k ∧ SL w w.heap.size [.blk w.heap.size #[.int .i64 N, .slice A l.length cap] 45] wr) (fun i _ _ _ => way.length - (intOf i).toNat)
  case atStart => exact ⟨0, u, 0, c, by omega, rfl, rfl, rfl, HP.out, by omega, by omega, by omega, HS0.out⟩
  case round =>
    clear HS0 HP
    obtain ⟨k, at', s, c', hk, rfl, rfl, rfl, hp, hsum, hs1, hs2, hS⟩ := hrel
    by_cases hlt : k < way.length
    · rw [List.drop_eq_getElem_cons hlt] at hp
      obtain ⟨x, hx⟩ : ∃ x, way[k] = x := ⟨_, rfl⟩
      obtain ⟨ks, hks⟩ : ∃ ks, way.drop (k + 1) = ks := ⟨_, rfl⟩
      have HX := Lib.hid hks
      obtain ⟨bw, ow, e1, hbw, dw⟩ := ints_at (HRW.out _ _ hS) hlt
      rw [hx] at dw hp
      rw [hks] at hp
      clear hx hks
      cases hp with
      | @cons n _ _ _ c2 hn hfr hp =>
        subst e1
        obtain ⟨b, p, rfl, hb, d0, d1, d2⟩ := arcs_at (HR.out _ _ hS) hn
        have hwt := HW.out _ (List.getElem_mem hn)
        have HPP := Lib.hid hp
        obtain ⟨a, ha⟩ : ∃ a, l[n] = a := ⟨_, rfl⟩
        rw [ha] at d0 d1 d2 hwt HPP hsum hfr
        rw [hfr] at d0
        have c1 : wr.cell? ⟨w.heap.size, 1, none⟩ = some (.slice (some ⟨b, p, none⟩) l.length cap) := hS.cell 0 rfl 1 rfl
        have hnl : (n : Int) < (l.length : Int) := by omega
        have hne : (at' != at') = false := by simp
        have HS := Lib.hid hS
        clear hS hp ha hfr
        go_wp2_with fail
        go_roundw
        case rel => exact ⟨k + 1, a.to, s + a.wt, c2, by omega, by go_num, rfl, rfl, by rw [HX.out]; exact HPP.out, by omega, by omega, by omega, HS.out⟩
        case measure => simp [intOf]; omega
    · obtain rfl : k = way.length := by omega
      rw [List.drop_length] at hp
      cases hp with
      | nil =>
        obtain rfl : s = c := by omega
        have hne : (v != v) = false := by simp
        go_wp2_with fail
        go_ret2
        exact ⟨rfl, hS.below⟩
end Go.Proofs.Ytaaffahjlkfbgaa
