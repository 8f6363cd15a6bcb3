/- law23.Apply's helpers: lists, one behind the other; some of a list; how long one is. (printed by gen/lawall.py) -/
import Derived.Test.YtpbhbmdghafkmaaApply
import Derived.Test.YtpbhbmdghafkmaaPhase
import Derived.Deep.CutBlock
import Derived.Deep.CutRange
import Derived.Deep.DeepCutAuto
namespace Go.Proofs.Ytpbhbmdghafkmaa
open Go.ChangeShapes Go.WideShapes Go.ChangeAt Go.RowKit
set_option linter.unusedVariables false
set_option linter.unusedSimpArgs false
def RowL (w : World) (l : List Int) (e : Ending) (w' : World) : Prop := ∃ v, e = .returned v ∧ SL w w.heap.size [.row 3 1 v l.length (l.map (.int .i64))] w'
theorem info_intL : (Try.prog.info? 3).map (fun i => (i.zero, i.size, i.bytes)) = some (some (.int .i64 0), 1, 8) := by kernel_rfl
theorem mat_blk {w : World} {g : Nat} {t : TypeId} (m : List (List Int)) (hs : List Value) (h : w.heap[g]? = some (.cells hs.toArray t (0, 0))) (hl : hs.length = m.length) (hr : ∀ i (hi : i < m.length), ∃ a c, hs[i]? = some (.slice a m[i].length c) ∧ Reads w w.heap.size 1 a m[i].length (m[i].map (.int .i64))) : Mat w w.heap.size (some ⟨g, 0, none⟩) m := by
 refine ⟨hs, ⟨by rw [hl, Nat.mul_one], fun _ => ⟨_, rfl, (Array.getElem?_eq_some_iff.1 h).1, fun j u hu => ?_⟩⟩, hr⟩
 rw [Addr.add_mid, Nat.zero_add, cell_of_row _ _ _ _ _ _ h]
 simpa using hu
set_option maxRecDepth 100000 in
set_option maxHeartbeats 2000000 in
theorem all_any (A : Option Addr) (c : Nat) (m : List (List Int)) (w : World) (hM : Mat w w.heap.size A m) (hl : m.length ≤ 100000) (hs : m.flatten.length ≤ 1000000) :
 Calls Try.prog 37 #[.slice A m.length c] w (RowL w m.flatten) := by
 have HM := Lib.hid hM
 obtain ⟨n, hn⟩ : ∃ n, m.length = n := ⟨_, rfl⟩
 have HN := Lib.hid hn
 have HFL := Lib.hid hs
 rw [hn] at hl ⊢
 obtain ⟨i0, hi0, hy1, hyz, hyb⟩ := info_parts info_intL
 have HI0 := Lib.hid (And.intro hi0 (And.intro hy1 (And.intro hyz hyb)))
 clear hM hn hs hi0 hy1 hyz hyb
 go_enter Try.func37, Try.ntmps37
 go_upto_region 3 with fail
 go_loopw [8, 3] (fun i v3 wr => ∃ k : Nat, k ≤ n ∧ i = .int .i64 k ∧ SL w w.heap.size [.row 3 1 v3 (m.take k).flatten.length ((m.take k).flatten.map (.int .i64))] wr) (fun i _ _ => n - (intOf i).toNat)
 case atStart => exact ⟨0, by omega, rfl, (SL.start (Nat.le_refl _)).nil _ _⟩
 case round =>
  obtain ⟨k, hk, rfl, hS⟩ := hrel
  obtain ⟨A3, c3, rfl, _, _⟩ := (hS.row 0 rfl).slice_
  by_cases hlt : k < n
  · have hkm : k < m.length := by rw [HN.out]; exact hlt
    obtain ⟨b, o, a, c4, hA, hb, d00, hst⟩ := mat_at HM.out hkm
    have d0 := (hS.below.cell (p := ⟨b, o + k, none⟩) hb).trans d00
    have HTK : Hid ((m.take (k + 1)).flatten = (m.take k).flatten ++ m[k]) := Lib.hid (by rw [List.take_succ_eq_append_getElem hkm, List.flatten_append]; simp)
    have HLE : Hid ((m.take k).flatten.length + m[k].length ≤ 1000000) := Lib.hid (by
     have h1 := congrArg List.length HTK.out
     rw [List.length_append] at h1
     have h2 : (m.take (k + 1)).flatten.length ≤ m.flatten.length := by
      have e : m.flatten = (m.take (k + 1)).flatten ++ (m.drop (k + 1)).flatten := by rw [← List.flatten_append, List.take_append_drop]
      rw [e, List.length_append]; omega
     have := HFL.out
     omega)
    obtain ⟨t, ht⟩ : ∃ t, m[k] = t := ⟨_, rfl⟩
    rw [ht] at d0 hst HTK HLE
    obtain ⟨v', w2, hr, hS2⟩ := run_append_reads (P := Try.prog) 42 42 hS 0 i0 (.int .i64 0) 1 8 Try.underlying42 HI0.out.1 HI0.out.2.1 HI0.out.2.2.1 HI0.out.2.2.2 rfl (by decide) _ _ t.length c4 _ (t.map (.int .i64)) rfl a (Reads.below hst hS.below) (ints_one t .i64) (by have := HLE.out; omega) (by decide)
    have HR := Lib.hid hr
    have HS2 := Lib.hid hS2
    obtain ⟨q, hq⟩ : ∃ q, (m.take k).flatten.length = q := ⟨_, rfl⟩
    have HQ := Lib.hid hq
    rw [hq] at HR ⊢
    rw [hA]
    clear hr hS2 hS ht hst hA d00 hq
    go_wp2_with (at_builtin; refine wpList_append_run rfl _ _ 42 rfl _ _ rfl rfl HR.out ?_)
    go_roundw
    case rel =>
     refine ⟨k + 1, by omega, by go_num, ?_⟩
     have h := HS2.out
     rw [HTK.out, List.length_append, List.map_append]
     exact h
    case measure => simp [intOf]; omega
  · obtain rfl : k = n := by omega
    have HTK : Hid ((m.take k).flatten = m.flatten) := Lib.hid (by rw [List.take_of_length_le (by rw [HN.out]; exact Nat.le_refl _)])
    have HS := Lib.hid hS
    clear hS hlt
    go_wp2_with fail
    go_ret
    have h := HS.out
    rw [HTK.out] at h ⊢
    exact ⟨_, rfl, h⟩
set_option maxRecDepth 100000 in
set_option maxHeartbeats 2000000 in
theorem part_any (A : Option Addr) (c : Nat) (l : List Int) (a b : Nat) (w : World) (hR : IntsAt w w.heap.size A l) (hab : a ≤ b) (hb : b ≤ l.length) (hl : l.length ≤ 1000000) :
 Calls Try.prog 39 #[.slice A l.length c, .int .i64 a, .int .i64 b] w (RowL w ((l.drop a).take (b - a))) := by
 have HR := Lib.hid hR
 obtain ⟨n, hn⟩ : ∃ n, l.length = n := ⟨_, rfl⟩
 have HN := Lib.hid hn
 rw [hn] at hl hb ⊢
 obtain ⟨i0, hi0, hy1, hyz, hyb⟩ := info_parts info_intL
 have HI0 := Lib.hid (And.intro hi0 (And.intro hy1 (And.intro hyz hyb)))
 clear hR hn hi0 hy1 hyz hyb
 go_enter Try.func39, Try.ntmps39
 go_upto_region 3 with fail
 go_loopw [8, 7] (fun i v7 wr => ∃ k : Nat, a + k ≤ b ∧ i = .int .i64 ((a + k : Nat) : Int) ∧ SL w w.heap.size [.row 3 1 v7 k (((l.drop a).take k).map (.int .i64))] wr) (fun i _ _ => b - (intOf i).toNat)
 case atStart => exact ⟨0, by omega, by first | rfl | simp, by simpa using (SL.start (Nat.le_refl _)).nil _ _⟩
 case round =>
  obtain ⟨k, hk, rfl, hS⟩ := hrel
  obtain ⟨A7, c7, rfl, _, _⟩ := (hS.row 0 rfl).slice_
  by_cases hlt : a + k < b
  · have hkm : a + k < l.length := by rw [HN.out]; omega
    obtain ⟨b2, o2, hA, hlb, d00⟩ := ints_at HR.out hkm
    have d0 := (hS.below.cell (p := ⟨b2, o2 + (a + k), none⟩) hlb).trans d00
    have HTK : Hid ((l.drop a).take (k + 1) = (l.drop a).take k ++ [l[a + k]]) := Lib.hid (by
     rw [List.take_succ_eq_append_getElem (by rw [List.length_drop]; omega)]
     simp)
    obtain ⟨t, ht⟩ : ∃ t, l[a + k] = t := ⟨_, rfl⟩
    rw [ht] at d0 HTK
    obtain ⟨z, hz⟩ : ∃ z, a + k = z := ⟨_, rfl⟩
    rw [hz] at d0 hlt ⊢
    have hzn : z < n := by omega
    have HS := Lib.hid hS
    have HZ := Lib.hid hz
    have hk9 : k ≤ 1000000 := by omega
    rw [hA]
    clear hS ht hA d00 hz hkm hk
    go_wp2_with (at_builtin; refine stopHere ?_)
    show wpList _ _ _ _ _ _
    refine wpList_append_sl rfl _ _ 42 rfl HS.out 0 i0 (.int .i64 0) 1 8 Try.underlying42 HI0.out.1 HI0.out.2.1 HI0.out.2.2.1 HI0.out.2.2.2 rfl (by decide) _ _ 1 _ rfl rfl _ rfl rfl (by decide) rfl (by simp [Value.oneCell']) (by omega) (by decide) ?_
    intro v8 w8 hS8 hz8
    have HS8 := Lib.hid hS8
    clear hS8 hz8
    go_wp2_with fail
    go_roundw
    case rel =>
     refine ⟨k + 1, by have := HZ.out; omega, by have := HZ.out; first | (rw [← HZ.out]; go_num) | go_num, ?_⟩
     have h := HS8.out
     rw [HTK.out, List.map_append]
     exact h
    case measure => simp [intOf]; omega
  · have HE : Hid (k = b - a) := Lib.hid (by omega)
    have HS := Lib.hid hS
    obtain ⟨z, hz⟩ : ∃ z, a + k = z := ⟨_, rfl⟩
    rw [hz] at hlt ⊢
    clear hS hz hk
    go_wp2_with fail
    go_ret
    have h := HS.out
    rw [HE.out] at h
    refine ⟨_, rfl, ?_⟩
    have e : ((l.drop a).take (b - a)).length = b - a := by rw [List.length_take, List.length_drop, HN.out]; omega
    rw [e, HE.out]
    exact h
def longI (l : List (List Int)) (i : Int) : Int := if 0 ≤ i ∧ i < l.length then ((l.getD i.toNat []).length : Nat) else -1
set_option maxRecDepth 100000 in
theorem long_any (nb lb : Nat) (N : Nat) (A : Option Addr) (c : Nat) (ls : List (List Int)) (i : Int) (w : World) (h1 : w.cell? ⟨nb, 0, none⟩ = some (.int .i64 N)) (h2 : w.cell? ⟨lb, 0, none⟩ = some (.slice A N c)) (hN : ls.length = N) (hM : Mat w w.heap.size A ls) (hl : N ≤ 1000000) :
 Calls Try.prog 38 #[.int .i64 i, .pointer (some ⟨nb, 0, none⟩), .pointer (some ⟨lb, 0, none⟩)] w fun e w' => e = .returned (.int .i64 (longI ls i)) ∧ Below w.heap.size w w' := by
 by_cases c1 : i < 0
 · have HV : Hid (longI ls i = -1) := Lib.hid (by unfold longI; rw [if_neg (by omega)])
   rw [HV.out]
   go_enter Try.func38, Try.ntmps38
   go_wp2_with fail
   go_ret
   exact ⟨rfl, Below.refl _ _⟩
 by_cases c2 : (N : Int) ≤ i
 · have HV : Hid (longI ls i = -1) := Lib.hid (by unfold longI; rw [if_neg (by omega)])
   rw [HV.out]
   have t1 : decide (i < 0) = false := decide_eq_false c1
   go_enter Try.func38, Try.ntmps38
   go_wp2_with fail
   go_ret
   exact ⟨rfl, Below.refl _ _⟩
 · obtain ⟨k, rfl⟩ : ∃ k : Nat, i = k := ⟨i.toNat, by omega⟩
   have hk : k < ls.length := by omega
   obtain ⟨b, o, a, c4, hA, hb, d0, hst⟩ := mat_at hM hk
   have HV : Hid (longI ls k = (ls[k].length : Nat)) := Lib.hid (by unfold longI; rw [if_pos (by omega)]; simp [hk])
   rw [HV.out]
   obtain ⟨L, hL⟩ : ∃ L, ls[k].length = L := ⟨_, rfl⟩
   rw [hL] at d0 ⊢
   rw [hA] at h2
   clear hst hL hM hN hA HV
   go_enter Try.func38, Try.ntmps38
   go_wp2_with fail
   go_ret
   exact ⟨rfl, Below.refl _ _⟩
end Go.Proofs.Ytpbhbmdghafkmaa
