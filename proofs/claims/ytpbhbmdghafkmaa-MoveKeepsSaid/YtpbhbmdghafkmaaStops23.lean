/- law23.stops. (printed by gen/stops23.py) -/
import Derived.Test.YtpbhbmdghafkmaaKeepM
import Derived.Test.YtpbhbmdghafkmaaBikes23
import Derived.Test.YtpbhbmdghafkmaaSortNil
import Derived.Test.YtpbhbmdghafkmaaAppendAny
namespace Go.Proofs.Ytpbhbmdghafkmaa
open Go.ChangeShapes Go.WideShapes Go.ChangeAt Go.RowKit
set_option linter.unusedVariables false
def StopsPost (W : World) (l : List Int) (e : Ending) (w' : World) : Prop := ∃ v, e = .returned v ∧ SL W W.heap.size [.row 3 1 v l.length (l.map (.int .i64))] w'
theorem sortM_len (l : List Int) : (sortM l).length = l.length := by unfold sortM; exact List.length_mergeSort _
set_option maxRecDepth 100000 in
set_option maxHeartbeats 4000000 in
theorem stops_any (A : Option Addr) (c : Nat) (bs : List BikeV) (w : World) (hB : Bikes w w.heap.size A bs) (hl : bs.length ≤ 100000) (hs : (allStops bs).length ≤ 100000) :
    Calls Try.prog 29 #[.slice A bs.length c] w (StopsPost w (sortM (allStops bs))) := by
  have H1 := Lib.hid hB
  have HSL := Lib.hid hs
  obtain ⟨N, hN⟩ : ∃ N, bs.length = N := ⟨_, rfl⟩
  have HN := Lib.hid hN
  rw [hN] at hl ⊢
  obtain ⟨i0, hi0, hy1, hyz, hyb⟩ := info_parts info_intE
  have HI0 := Lib.hid (And.intro hi0 (And.intro hy1 (And.intro hyz hyb)))
  have HS0 := Lib.hid ((SL.start (W := w) (Nat.le_refl w.heap.size)).nil 3 1)
  clear hB hs hN hi0 hy1 hyz hyb
  go_enter Try.func29, Try.ntmps29
  go_upto_region 3 with fail
  go_loopw [3, 8] (fun ov iv wr => ∃ (k : Nat) (A' : Option Addr) (c' n : Nat), k ≤ N ∧ iv = .int .i64 k ∧ ov = .slice A' n c' ∧ Hid (n = (allStops (bs.take k)).length ∧ n ≤ c' ∧ (n = 0 → A' = none ∧ c' = 0)) ∧ SL w w.heap.size [.row 3 1 (.slice A' n c') n ((allStops (bs.take k)).map (.int .i64))] wr) (fun _ iv _ => N - (intOf iv).toNat)
  case atStart => exact ⟨0, none, 0, 0, by omega, rfl, rfl, Lib.hid ⟨rfl, by omega, fun _ => ⟨rfl, rfl⟩⟩, HS0.out⟩
  case round =>
    clear HS0
    obtain ⟨k, A', c', n, hk, rfl, rfl, HQ, hS⟩ := hrel
    by_cases hlt : k < N
    · have hkb : k < bs.length := by rw [HN.out]; exact hlt
      obtain ⟨b1, o1, a1, c1, e1, hl1, d00, d10, hr1⟩ := bikes_at H1.out hkb
      have d0 := (hS.below.cell (p := ⟨b1, o1 + k * 2, none⟩) hl1).trans d00
      have d1 := (hS.below.cell (p := ⟨b1, o1 + k * 2 + 1, none⟩) hl1).trans d10
      have HTK : Hid (allStops (bs.take (k + 1)) = allStops (bs.take k) ++ bs[k].stops ∧ (allStops (bs.take (k + 1))).length ≤ 100000) := Lib.hid ⟨allStops_succ hkb, Nat.le_trans (allStops_take bs (k + 1)) HSL.out⟩
      obtain ⟨t, ht⟩ : ∃ t, bs[k] = t := ⟨_, rfl⟩
      rw [ht] at d0 d1 hr1 HTK
      have HR : Hid (Reads w w.heap.size 1 a1 t.stops.length (t.stops.map (.int .i64))) := Lib.hid hr1
      subst e1
      have hS4 := hS.alloc #[.int .i64 t.sat, .slice a1 t.stops.length c1] 44
      clear d00 d10 hr1 ht hS
      go_upto_region 5 with fail
      obtain ⟨tb, htb⟩ : ∃ tb, wr.heap.size = tb := ⟨_, rfl⟩
      rw [htb] at hS4 ⊢
      generalize (wr.alloc (.cells #[.int .i64 t.sat, .slice a1 t.stops.length c1] 44)) = w4 at *
      have HS4 := Lib.hid hS4
      have t1 : w4.cell? ⟨tb, 1, none⟩ = some (.slice a1 t.stops.length c1) := hS4.cell 0 rfl 1 rfl
      clear hS4 htb d0 d1
      obtain ⟨L, hL⟩ : ∃ L, t.stops.length = L := ⟨_, rfl⟩
      have HL := Lib.hid hL
      rw [hL] at t1 HR
      rw [hL] at HS4
      rw [hL]
      clear hL
      have HNL : Hid (n + L ≤ 100000) := Lib.hid (by have h := HTK.out.2; rw [HTK.out.1, List.length_append, ← HQ.out.1, HL.out] at h; exact h)
      have HRR := Lib.hid (reads_more (Reads.below HR.out HS4.out.below) HS4.out.size)
      have hun : ∀ u ∈ t.stops.map (Value.int .i64), u.oneCell' = true := fun u hu => by
        obtain ⟨x, _, rfl⟩ := List.mem_map.1 hu; rfl
      have HUN := Lib.hid hun
      clear hun
      by_cases hz : L = 0
      · have hrun := run_append_zero (P := Try.prog) (w := w4) (t := 42) (ty := 42) Try.underlying42 HI0.out.1 A' a1 n c' c1 HQ.out.2.1
        subst hz
        have HRN := Lib.hid hrun
        have HS7 := Lib.hid HS4.out.tail
        clear hrun
        go_wp2_with (at_builtin; refine stopHere ?_)
        show wpList _ _ _ _ _ _
        refine wpList_append_run rfl _ _ 42 rfl _ _ rfl rfl HRN.out ?_
        clear HRN HRR HS4 t1
        go_wp2_with fail
        go_roundw
        case rel =>
          have h0 : t.stops = [] := List.eq_nil_of_length_eq_zero HL.out
          refine ⟨k + 1, A', c', n, by omega, by go_num, rfl, Lib.hid ⟨by rw [HTK.out.1, h0, List.append_nil]; exact HQ.out.1, HQ.out.2⟩, ?_⟩
          rw [HTK.out.1, h0, List.append_nil]
          exact HS7.out
        case measure => simp [intOf]; omega
      · have hrun := run_append_reads (P := Try.prog) 42 42 HS4.out 1 i0 (.int .i64 0) 1 8 Try.underlying42 HI0.out.1 HI0.out.2.1 HI0.out.2.2.1 HI0.out.2.2.2 rfl (by decide) (.slice A' n c') n L c1 ((allStops (bs.take k)).map (.int .i64)) (t.stops.map (.int .i64)) rfl a1 HRR.out HUN.out (by have := HNL.out; omega) (by decide)
        obtain ⟨v7, w7, hrun, hS7⟩ := hrun
        obtain ⟨A7, c7, rfl, hc7, _⟩ := (hS7.row 1 rfl).slice_
        have HRN := Lib.hid hrun
        have HS7 := Lib.hid hS7.tail
        have HC7 := Lib.hid hc7
        have HZ := Lib.hid hz
        clear hrun hS7 hc7 hz
        go_wp2_with (at_builtin; refine stopHere ?_)
        show wpList _ _ _ _ _ _
        refine wpList_append_run rfl _ _ 42 rfl _ _ rfl rfl HRN.out ?_
        clear HRN HRR HS4 t1
        go_wp2_with fail
        go_roundw
        case rel =>
          refine ⟨k + 1, A7, c7, n + L, by omega, by go_num, rfl, Lib.hid ⟨by rw [HTK.out.1, List.length_append, HL.out, ← HQ.out.1], HC7.out, fun h => absurd (by omega) HZ.out⟩, ?_⟩
          have h := HS7.out
          rw [HTK.out.1, List.map_append]
          exact h
        case measure => simp [intOf]; omega
    · obtain rfl : k = N := by omega
      have e1 : bs.take k = bs := List.take_of_length_le (by rw [HN.out]; exact Nat.le_refl _)
      rw [e1] at hS HQ
      have HS := Lib.hid hS
      clear hS e1
      by_cases hz : n = 0
      · obtain ⟨rfl, rfl⟩ := HQ.out.2.2 hz
        subst hz
        go_wp2_with (go_at_call 57; (with_reducible refine (sort_nil _).mono ?_); rintro e w7 ⟨rfl, rfl⟩)
        go_ret
        have h0 : allStops bs = [] := List.eq_nil_of_length_eq_zero HQ.out.1.symm
        refine ⟨.slice none 0 0, rfl, ?_⟩
        have h := HS.out
        rw [h0] at h ⊢
        rw [show sortM [] = [] by unfold sortM; simp]
        exact h
      · have hn0 : 0 < n := by omega
        have HN9 : Hid (n ≤ 1000000000) := Lib.hid (by have := HQ.out.1; have := HSL.out; omega)
        obtain ⟨g, off, rfl⟩ : ∃ g off, A' = some ⟨g, off, none⟩ := by
          rcases (HS.out.row 0 rfl).in_ with h | ⟨g, off, cap, h, _⟩
          · omega
          · simp only [Value.slice.injEq] at h; exact ⟨g, off, h.1⟩
        have HSO := Lib.hid (sort_row w w.heap.size _ wr 0 n c' g off (allStops bs) HS.out rfl hn0 HN9.out)
        clear hz
        go_wp2_with (go_at_call 57; (with_reducible refine HSO.out.mono ?_); rintro e w7 ⟨rfl, hS7⟩
                     have HS7 := Lib.hid hS7
                     clear hS7 HSO HS)
        go_ret
        refine ⟨.slice (some ⟨g, off, none⟩) n c', rfl, ?_⟩
        rw [sortM_len, ← HQ.out.1]
        exact HS7.out
end Go.Proofs.Ytpbhbmdghafkmaa
