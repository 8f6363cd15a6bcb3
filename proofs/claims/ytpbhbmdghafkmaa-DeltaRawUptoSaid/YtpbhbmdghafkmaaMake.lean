/- The walk of law11.square. -/
import Derived.Test.YtpbhbmdghafkmaaMakeM
import Derived.Test.YtpbhbmdghafkmaaIarr
import Derived.Test.YtpbhbmdghafkmaaRows
import Derived.Outline
import Derived.Deep.LoopGhost
namespace Go.Proofs.Ytpbhbmdghafkmaa
open Go.ChangeShapes Go.WideShapes Go.ChangeAt Go.RowKit
set_option linter.unusedVariables false
theorem info_i64 : (Try.prog.info? 2).map (fun i => (i.zero, i.size, i.bytes)) = some (some (.int .i64 0), 1, 8) := by kernel_rfl
theorem info_rows : (Try.prog.info? 90).map (fun i => (i.zero, i.size, i.bytes)) = some (some (.slice none 0 0), 1, 24) := by kernel_rfl
/-- Rows of rows that the call made. -/
def SqPost (w : World) (n : Nat) (m : List (List Int)) (e : Ending) (w' : World) : Prop :=
 ∃ v hs, e = .returned v ∧ hs.length = n ∧ SL w w.heap.size (.row 90 1 v n hs :: rowRs 2 hs m) w'
def sqF (l : List Int) (n i j : Nat) : Nat → Int := fun q => if q < j then sqCell l n i q else 0
theorem sqF_zero {l : List Int} {n i j : Nat} (h : sqCell l n i j = 0) : iarr (sqF l n i j) n = iarr (sqF l n i (j + 1)) n := iarr_ext fun q hq => by
 unfold sqF
 by_cases e : q = j
 · subst e; rw [if_neg (by omega), if_pos (by omega), h]
 · by_cases h1 : q < j
   · rw [if_pos h1, if_pos (by omega)]
   · rw [if_neg h1, if_neg (by omega)]
theorem sqF_set {l : List Int} {n i j : Nat} : iarr (fun q => if q = j then sqCell l n i j else sqF l n i j q) n = iarr (sqF l n i (j + 1)) n := iarr_ext fun q hq => by
 unfold sqF
 by_cases e : q = j
 · subst e; rw [if_pos rfl, if_pos (by omega)]
 · rw [if_neg e]
   by_cases h1 : q < j
   · rw [if_pos h1, if_pos (by omega)]
   · rw [if_neg h1, if_neg (by omega)]
theorem sqF_all (l : List Int) (n i : Nat) : nums (sqF l n i n) n = (sqRow l n i).map (.int .i64) := by
 unfold nums sqRow
 rw [List.map_map]
 exact List.map_congr_left fun q hq => by
  have : q < n := by simpa using hq
  show Value.int .i64 (sqF l n i n q) = .int .i64 (sqCell l n i q)
  unfold sqF; rw [if_pos this]
theorem sqF_start (l : List Int) (n i : Nat) : Array.replicate n (Value.int .i64 0) = iarr (sqF l n i 0) n := by
 rw [← madeCells_one (.int .i64 0) n rfl]
 show madeCells #[Value.int .i64 0] n = _
 rw [iarr_made]
 exact iarr_ext fun q _ => by unfold sqF; rw [if_neg (by omega)]
theorem sl_back {W w : World} {B : Nat} {a b : Rs} {r : List Rs} (h : SL W B (a :: b :: r) w) : SL W B (b :: (r ++ [a])) w :=
 h.perm ((List.Perm.swap b a r).trans (List.Perm.cons b (List.perm_append_comm (l₁ := [a]) (l₂ := r))))
set_option maxRecDepth 100000 in
set_option maxHeartbeats 2000000 in
theorem square11_any (A : Option Addr) (c : Nat) (l : List Int) (n : Nat) (w : World) (hr : Reads w w.heap.size 1 A l.length (l.map (.int .u8))) (hl : l.length ≤ maxLen) (hu : ∀ x ∈ l, isU8 x) (hn : n ≤ 100) :
 Calls Try.prog 42 #[.slice A l.length c, .int .i64 n] w (SqPost w n (sqRows l n n)) := by
 unfold maxLen at hl
 obtain ⟨i0, hi0, hz0, hz1, hz2⟩ := info_parts info_i64
 obtain ⟨j0, hj0, hy0, hy1, hy2⟩ := info_parts info_rows
 have HI := Lib.hid (And.intro hi0 (And.intro hz0 (And.intro hz1 hz2)))
 have HJ := Lib.hid (And.intro hj0 (And.intro hy0 (And.intro hy1 hy2)))
 have HR := Lib.hid hr
 have HU := Lib.hid hu
 have HS0 := Lib.hid ((SL.start (Nat.le_refl w.heap.size)).nil 90 1)
 clear hi0 hz0 hz1 hz2 hj0 hy0 hy1 hy2 hr hu
 go_enter Try.func42, Try.ntmps42
 go_wp2_with fail
 go_loopw [11, 5, 6] (fun i u5 u6 wr => ∃ (k : Nat) (v : Value) (hs : List Value), k ≤ n ∧ i = .int .i64 k ∧ u5 = v ∧ u6 = .int .i64 (kcount l n k 0 : Nat) ∧ hs.length = k ∧ SL w w.heap.size (.row 90 1 v k hs :: rowRs 2 hs (sqRows l n k)) wr) (fun i _ _ _ => n - (intOf i).toNat)
 case atStart => exact ⟨0, _, [], by omega, rfl, rfl, by unfold kcount; split <;> simp, rfl, HS0.out⟩
 case round =>
  clear HS0
  obtain ⟨k, v, hs, hk, rfl, rfl, rfl, hh, hS⟩ := hrel
  have HH := Lib.hid hh
  obtain ⟨K0, hK0⟩ : ∃ K0, K0 = kcount l n k 0 := ⟨_, rfl⟩
  by_cases hlt : k < n
  · obtain ⟨A5, c5, rfl, _, _⟩ := (hS.row 0 rfl).slice_
    have HS := Lib.hid hS
    have HK0 := Lib.hid hK0
    rw [← hK0]
    clear hS hK0 hh
    go_wp2_with (at_make; refine wpList_make_rep _ rfl _ _ 90 rfl 2 i0 (.int .i64 0) Try.underlying90 HI.out.1 HI.out.2.1 HI.out.2.2.1 rfl .i64 .i64 n n n rfl rfl rfl rfl ?b2 ?b3 ?_
                 case b2 => rw [HI.out.2.2.2]; omega
                 case b3 => unfold maxLen; omega
                 intro w4 hg4 hb4 hz4
                 rw [sqF_start l n k] at hg4
                 have HS4 := Lib.hid (HS.out.made hb4 hg4)
                 clear hg4 hb4 hz4 HS)
    obtain ⟨g, hg⟩ : ∃ g, g = wr.heap.size := ⟨_, rfl⟩
    rw [← hg] at HS4 ⊢
    clear hg
    obtain ⟨wo, rfl⟩ : ∃ wo : World, wo = wr := ⟨_, rfl⟩
    go_loopw [18, 6] (fun i u6 wi => ∃ j : Nat, j ≤ n ∧ i = .int .i64 j ∧ u6 = .int .i64 (kcount l n k j : Nat) ∧ SL w w.heap.size (.blk g (iarr (sqF l n k j) n) 2 :: .row 90 1 (.slice A5 k c5) k hs :: rowRs 2 hs (sqRows l n k)) wi) (fun i _ _ => n - (intOf i).toNat)
    case atStart => exact ⟨0, by omega, rfl, by rw [HK0.out], HS4.out⟩
    case round =>
     clear HS4 HK0
     obtain ⟨j, hj, rfl, rfl, hS⟩ := hrel
     by_cases hltj : j < n
     · by_cases hkj : k = j
       · have hne : ((k : Int) != (j : Int)) = false := by simp; omega
         have HK1 : Hid (kcount l n k j = kcount l n k (j + 1)) := Lib.hid (by subst hkj; exact (kc_eq l n k).symm)
         have HF1 : Hid (iarr (sqF l n k j) n = iarr (sqF l n k (j + 1)) n) := Lib.hid (sqF_zero (by unfold sqCell; rw [if_pos (.inl hkj)]))
         have HS := Lib.hid hS
         obtain ⟨K, hK⟩ : ∃ K, K = kcount l n k j := ⟨_, rfl⟩
         have HK := Lib.hid hK
         rw [← hK]
         clear hkj hS hK
         go_wp2_with fail
         go_roundw
         case rel => exact ⟨j + 1, by omega, by go_num, by rw [HK.out, HK1.out], by rw [← HF1.out]; exact HS.out⟩
         case measure => simp [intOf]; omega
       · have hne : ((k : Int) != (j : Int)) = true := by simp; omega
         by_cases hl0 : l.length = 0
         · have HK1 : Hid (kcount l n k j = kcount l n k (j + 1)) := Lib.hid (by rw [kc_none _ _ _ hl0, kc_none _ _ _ hl0])
           have HF1 : Hid (iarr (sqF l n k j) n = iarr (sqF l n k (j + 1)) n) := Lib.hid (sqF_zero (by unfold sqCell; rw [if_pos (.inr hl0)]))
           have hl1 : ¬ (0 : Int) < (l.length : Int) := by omega
           have HS := Lib.hid hS
           obtain ⟨K, hK⟩ : ∃ K, K = kcount l n k j := ⟨_, rfl⟩
           have HK := Lib.hid hK
           rw [← hK]
           clear hkj hS hK hl0
           go_wp2_with fail
           go_roundw
           case rel => exact ⟨j + 1, by omega, by go_num, by rw [HK.out, HK1.out], by rw [← HF1.out]; exact HS.out⟩
           case measure => simp [intOf]; omega
         · have hl1 : (0 : Int) < (l.length : Int) := by omega
           have HK1 : Hid (kcount l n k j + 1 = kcount l n k (j + 1)) := Lib.hid (kc_ne hkj (by omega)).symm
           obtain ⟨K, hK⟩ : ∃ K, K = kcount l n k j := ⟨_, rfl⟩
           have hKb : K ≤ 10100 := by rw [hK]; exact kc_bound (by omega) (by omega) hn
           obtain ⟨q, hq⟩ : ∃ q, q = K % l.length := ⟨_, rfl⟩
           have hql : q < l.length := by rw [hq]; exact Nat.mod_lt _ (by omega)
           have hm2 : (K : Int) % (l.length : Int) = (q : Int) := by rw [hq]; simp
           have hm1 : (K : Int).tmod (l.length : Int) = (q : Int) := by rw [Int.tmod_eq_emod_of_nonneg (by omega), hm2]
           obtain ⟨b, o, rfl, hb, hc⟩ := reads_plain (HR.out.below hS.below) (by omega) Nat.one_pos
           have d0 : wr.cell? ⟨b, o + q, none⟩ = some (.int .u8 l[q]) := hc q _ (by simp [hql])
           have hx := HU.out _ (List.getElem_mem hql)
           unfold isU8 at hx
           obtain ⟨hx0, hx1⟩ := hx
           have HC : Hid (sqCell l n k j = l[q] % 30) := Lib.hid (by
            unfold sqCell
            rw [if_neg (by rintro (h | h); exact hkj h; exact hl0 h), ← hK, ← hq]
            simp [hql])
           obtain ⟨x, hx⟩ : ∃ x, l[q] = x := ⟨_, rfl⟩
           rw [hx] at d0 hx0 hx1 HC
           have d1 := hS.free 0 rfl j
           have hg1 := hS.lt 0 rfl
           have hS2 := hS.setInt 0 rfl j (sqCell l n k j)
           rw [sqF_set, HC.out] at hS2
           have hne0 : ¬ (l.length : Int) = 0 := by omega
           have d2 : wr.cell? ⟨g, j, none⟩ = some (.int .i64 (sqF l n k j j)) := hS.cell 0 rfl j (iarr_get _ _ _ hltj)
           have HS2 := Lib.hid hS2
           have HK := Lib.hid hK
           rw [← hK]
           clear hkj hS hS2 hK hl0 hq hc hx
           go_wp2_with fail
           go_roundw
           case rel => exact ⟨j + 1, by omega, by go_num, by rw [← HK1.out, ← HK.out]; go_num, HS2.out⟩
           case measure => simp [intOf]; omega
     · obtain rfl : j = n := by omega
       have hS2 := hS.asRow 0 rfl (by unfold maxLen; omega)
       rw [sqF_all] at hS2
       have HS2 := Lib.hid hS2
       have HK1 : Hid (kcount l j k j = kcount l j (k + 1) 0) := Lib.hid (kc_next hlt).symm
       obtain ⟨K, hK⟩ : ∃ K, K = kcount l j k j := ⟨_, rfl⟩
       have HK := Lib.hid hK
       rw [← hK]
       clear hS hS2 hK hltj
       go_wp2_with (at_builtin; refine stopHere ?_)
       show wpList _ _ _ _ _ _
       refine wpList_append_sl rfl _ _ 56 rfl HS2.out 1 j0 (.slice none 0 0) 1 24 Try.underlying56 HJ.out.1 HJ.out.2.1 HJ.out.2.2.1 HJ.out.2.2.2 rfl (by decide) _ _ 1 _ rfl rfl _ rfl rfl (by decide) rfl (by simp [Value.oneCell']) (by omega) (by decide) ?_
       intro v' w' hS5 hz5
       have hS6 := sl_back hS5
       have HS6 := Lib.hid hS6
       clear hS5 hS6 HS2 hz5
       go_wp2_with fail
       go_roundw
       case rel =>
        refine ⟨k + 1, v', hs ++ [.slice (some ⟨g, 0, none⟩) j j], by omega, by go_num, rfl, by rw [HK.out, HK1.out], by simp [HH.out], ?_⟩
        rw [sqRows_succ, rowRs_snoc _ _ _ _ _ (by rw [HH.out, sqRows_len])]
        have := HS6.out
        unfold rowR
        rw [sqRow_len]
        exact this
       case measure => simp [intOf]; omega
  · obtain rfl : k = n := by omega
    have HS := Lib.hid hS
    clear hS hK0
    go_wp2_with fail
    go_ret
    exact ⟨_, hs, rfl, HH.out, HS.out⟩
end Go.Proofs.Ytpbhbmdghafkmaa
