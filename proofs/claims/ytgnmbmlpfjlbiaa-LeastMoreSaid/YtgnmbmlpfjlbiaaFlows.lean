/- The walk of law09.Flows: is that a flow, and how much flows, by definition? -/
import Derived.Test.YtgnmbmlpfjlbiaaLawNet
namespace Go.Proofs.Ytgnmbmlpfjlbiaa
open Go.ChangeShapes Go.WideShapes Go.ChangeAt Go.RowKit
set_option linter.unusedVariables false
/-- It is a flow from s to t. -/
structure Good (N : Nat) (ps : List PipeV) (s t : Int) (X : Nat → Int) : Prop where
  feas : Feas ps X
  pos : 0 ≤ inn ps X t
  kept : ∀ v : Nat, v < N → (v : Int) ≠ s → (v : Int) ≠ t → inn ps X v = 0
/-- What Flows and Right answer. -/
def FlowsPost (W : World) (N : Nat) (ps : List PipeV) (s t : Int) (X : Nat → Int) (e : Ending) (w' : World) : Prop :=
  ((Good N ps s t X ∧ e = .returned (.tuple #[.int .i64 (inn ps X t), .bool true])) ∨ (¬ Good N ps s t X ∧ e = .returned (.tuple #[.int .i64 0, .bool false]))) ∧ Below W.heap.size W w'
theorem flows_len (N : Int) (A AL : Option Addr) (cap n m lc : Nat) (s t : Int) (w : World) (hn : n ≤ maxLen) (hm : m ≤ maxLen) (h : n ≠ m) :
    Calls Try.prog 17 #[.agg #[.int .i64 N, .slice A m cap], .slice AL n lc, .int .i64 s, .int .i64 t] w fun e w' => e = .returned (.tuple #[.int .i64 0, .bool false]) ∧ Below w.heap.size w w' := by
  have hS0 := (SL.start (Nat.le_refl w.heap.size)).alloc #[.int .i64 N, .slice A m cap] 26
  have HS0 := Lib.hid hS0
  have hz : ((n : Int) != (m : Int)) = true := by simp; omega
  unfold maxLen at hn hm
  clear hS0 h
  go_enter Try.func17, Try.ntmps17
  go_wp2
  go_ret2
  exact ⟨rfl, HS0.out.below⟩
set_option maxRecDepth 100000 in
set_option maxHeartbeats 8000000 in
theorem flows_any (N : Nat) (A AL : Option Addr) (cap lc : Nat) (ps : List PipeV) (fl : List Int) (s t : Int) (w : World) (hr : Pipes w w.heap.size A ps) (hf : Reads w w.heap.size 1 AL fl.length (fl.map (.int .i64))) (hfl : fl.length = ps.length) (hN : N ≤ 1000) (hl : ps.length ≤ 20000) (hin : InP N ps) (ht0 : 0 ≤ t) (ht1 : t < N) (X : Nat → Int) (hX : ∀ k, ∀ h : k < fl.length, fl[k] = X k) :
    Calls Try.prog 17 #[.agg #[.int .i64 N, .slice A ps.length cap], .slice AL ps.length lc, .int .i64 s, .int .i64 t] w (FlowsPost w N ps s t X) := by
  have hS0 := (SL.start (Nat.le_refl w.heap.size)).alloc #[.int .i64 N, .slice A ps.length cap] 26
  have HIN := Lib.hid hin
  have HX := Lib.hid hX
  have HFL := Lib.hid (And.intro hf hfl)
  have HR := Lib.hid hr
  have hz : ((ps.length : Int) != (ps.length : Int)) = false := by simp
  clear hin hX hf hfl hr
  go_enter Try.func17, Try.ntmps17
  go_wp2_with fail
  clear hz
  go_loopw [26] (fun i wr => ∃ k : Nat, k ≤ ps.length ∧ i = .int .i64 k ∧ (∀ j, ∀ h : j < ps.length, j < k → 0 ≤ X j ∧ X j ≤ ps[j].room) ∧ SL w w.heap.size [.blk w.heap.size #[.int .i64 N, .slice A ps.length cap] 26] wr) (fun i _ => ps.length - (intOf i).toNat)
  case atStart => exact ⟨0, by omega, rfl, fun j h hj => absurd hj (by omega), hS0⟩
  case round =>
    clear hS0
    obtain ⟨k, hk, rfl, hok, hS⟩ := hrel
    have HOK := Lib.hid hok
    clear hok
    by_cases hlt : k < ps.length
    · obtain ⟨b, o, rfl, hb, d0, d1, d2, d3⟩ := pipes_at (Reads.below HR.out hS.below) hlt
      obtain ⟨b2, o2, rfl, hb2, e0⟩ := ints_at HFL.out.1 (k := k) (by have := HFL.out.2; omega)
      rw [HX.out] at e0
      obtain ⟨p, hp⟩ : ∃ p, ps[k] = p := ⟨_, rfl⟩
      rw [hp] at d0 d1 d2 d3
      have HP : Hid (ps[k] = p) := Lib.hid hp
      have hS2 := hS.alloc #[.int .i64 p.fr, .int .i64 p.to, .int .i64 p.room, .int .i64 p.cost] 40
      have hz1 : b < wr.heap.size := Nat.lt_of_lt_of_le hb hS.size
      clear hp
      go_upto_region 6 with fail
      obtain ⟨ar, har⟩ : ∃ ar, ar = wr.heap.size := ⟨_, rfl⟩
      generalize (wr.alloc (.cells #[.int .i64 p.fr, .int .i64 p.to, .int .i64 p.room, .int .i64 p.cost] 40)) = w9 at *
      rw [← har] at hS2 ⊢
      clear har hS d0 d1 d2 d3 hz1
      by_cases c1 : X k < 0
      · skip
        refine wp_region_sl [0,1,2,3,4,5,6,7,8,9,10,11,12,13] [] [] [.blk ar #[.int .i64 p.fr, .int .i64 p.to, .int .i64 p.room, .int .i64 p.cost] 40] hS2 (by simp) (by kernel_rfl) (by kernel_rfl) .nil (fun C cw _ hC => ?_)
        have q0 : ∀ c, (cw c).cell? ⟨ar, 2, none⟩ = some (.int .i64 p.room) := fun c => (hC c).cell 0 rfl 2 rfl
        have q4 : ∀ c, (cw c).cell? ⟨b2, o2 + k, none⟩ = some (.int .i64 (X k)) := fun c => ((hC c).below.cell hb2).trans e0
        repeat (first | (refine pl_look rfl rfl rfl (fun Kv hK => ?_); go_big_quiet_op; refine hK _ ?_; clear hK Kv) | (refine pl_skip rfl rfl (fun Kv hK => ?_); go_simp; refine hK _ ?_; clear hK Kv))
        clear q0 q4 hC
        refine pl_end ?_
        intro w1 hS4
        refine pm_end ?_
        have HS4 := Lib.hid hS4
        clear hS2 hS4
        go_wp2_with fail
        go_ret2
        exact ⟨.inr ⟨fun h => by have := h.feas k hlt; rw [HP.out] at this; omega, rfl⟩, HS4.out.below⟩
      · by_cases c2 : p.room < X k
        · skip
          refine wp_region_sl [0,1,2,3,4,5,6,7,8,9,10,11,12,13] [] [] [.blk ar #[.int .i64 p.fr, .int .i64 p.to, .int .i64 p.room, .int .i64 p.cost] 40] hS2 (by simp) (by kernel_rfl) (by kernel_rfl) .nil (fun C cw _ hC => ?_)
          have q0 : ∀ c, (cw c).cell? ⟨ar, 2, none⟩ = some (.int .i64 p.room) := fun c => (hC c).cell 0 rfl 2 rfl
          have q4 : ∀ c, (cw c).cell? ⟨b2, o2 + k, none⟩ = some (.int .i64 (X k)) := fun c => ((hC c).below.cell hb2).trans e0
          repeat (first | (refine pl_look rfl rfl rfl (fun Kv hK => ?_); go_big_quiet_op; refine hK _ ?_; clear hK Kv) | (refine pl_skip rfl rfl (fun Kv hK => ?_); go_simp; refine hK _ ?_; clear hK Kv))
          clear q0 q4 hC
          refine pl_end ?_
          intro w1 hS4
          refine pm_end ?_
          have HS4 := Lib.hid hS4
          clear hS2 hS4
          go_wp2_with fail
          go_ret2
          exact ⟨.inr ⟨fun h => by have := h.feas k hlt; rw [HP.out] at this; omega, rfl⟩, HS4.out.below⟩
        · skip
          refine wp_region_sl [0,1,2,3,4,5,6,7,8,9,10,11,12,13] [] [] [.blk ar #[.int .i64 p.fr, .int .i64 p.to, .int .i64 p.room, .int .i64 p.cost] 40] hS2 (by simp) (by kernel_rfl) (by kernel_rfl) .nil (fun C cw _ hC => ?_)
          have q0 : ∀ c, (cw c).cell? ⟨ar, 2, none⟩ = some (.int .i64 p.room) := fun c => (hC c).cell 0 rfl 2 rfl
          have q4 : ∀ c, (cw c).cell? ⟨b2, o2 + k, none⟩ = some (.int .i64 (X k)) := fun c => ((hC c).below.cell hb2).trans e0
          repeat (first | (refine pl_look rfl rfl rfl (fun Kv hK => ?_); go_big_quiet_op; refine hK _ ?_; clear hK Kv) | (refine pl_skip rfl rfl (fun Kv hK => ?_); go_simp; refine hK _ ?_; clear hK Kv))
          clear q0 q4 hC
          refine pl_end ?_
          intro w1 hS4
          refine pm_end ?_
          have HS4 := Lib.hid hS4
          clear hS2 hS4
          go_wp2_with fail
          go_roundw
          case rel => exact ⟨k + 1, by omega, by go_num, fun j h hj => by
            by_cases e : j = k
            · subst e; rw [HP.out]; omega
            · exact HOK.out j h (by omega), HS4.out.tail⟩
          case measure => simp [intOf]; omega
    · obtain rfl : k = ps.length := by omega
      have hF : Feas ps X := fun j h => HOK.out j h h
      have HF := Lib.hid hF
      have HS := Lib.hid hS
      have y0 : wr.cell? ⟨w.heap.size, 0, none⟩ = some (.int .i64 N) := hS.cell 0 rfl 0 rfl
      clear hF hS hk hlt HOK
      go_wp2_with fail
      clear y0
      go_loopw [12, 48] (fun vm vi w2 => ∃ v : Nat, v ≤ N ∧ vi = .int .i64 v ∧ vm = .int .i64 (if t < v then inn ps X t else 0) ∧ (∀ u : Nat, u < v → (u : Int) ≠ s → (u : Int) ≠ t → inn ps X u = 0) ∧ SL w w.heap.size [.blk w.heap.size #[.int .i64 N, .slice A ps.length cap] 26] w2) (fun _ vi _ => N - (intOf vi).toNat)
      case atStart => exact ⟨0, by omega, rfl, by rw [if_neg (by omega)], fun u hu => absurd hu (by omega), HS.out⟩
      case round =>
        clear HS
        obtain ⟨v, hv, rfl, rfl, hkept, hS⟩ := hrel
        have HK := Lib.hid hkept
        clear hkept
        obtain ⟨m, hm⟩ : ∃ m, m = if t < (v : Int) then inn ps X t else 0 := ⟨_, rfl⟩
        rw [← hm]
        have HM := Lib.hid hm
        clear hm
        by_cases hvN : v < N
        · have y1 : wr.cell? ⟨w.heap.size, 1, none⟩ = some (.slice A ps.length cap) := hS.cell 0 rfl 1 rfl
          have HS := Lib.hid hS
          clear hS
          obtain ⟨wo, rfl⟩ : ∃ wo : World, wo = wr := ⟨_, rfl⟩
          go_wp2_with fail
          clear y1
          go_loopw [14, 54] (fun vi vk w3 => ∃ k : Nat, k ≤ ps.length ∧ vk = .int .i64 k ∧ vi = .int .i64 (innK ps X v k) ∧ SL w w.heap.size [.blk w.heap.size #[.int .i64 N, .slice A ps.length cap] 26] w3) (fun _ vk _ => ps.length - (intOf vk).toNat)
          case atStart => exact ⟨0, by omega, rfl, rfl, HS.out⟩
          case round =>
            clear HS
            obtain ⟨k, hk, rfl, rfl, hS⟩ := hrel
            by_cases hlt : k < ps.length
            · obtain ⟨b, o, rfl, hb, d0, d1, d2, d3⟩ := pipes_at (Reads.below HR.out hS.below) hlt
              obtain ⟨b2, o2, rfl, hb2, e0⟩ := ints_at HFL.out.1 (k := k) (by have := HFL.out.2; omega)
              rw [HX.out] at e0
              have e1 : wr.cell? ⟨b2, o2 + k, none⟩ = some (.int .i64 (X k)) := (hS.below.cell hb2).trans e0
              obtain ⟨x0, x1⟩ := HF.out k hlt
              obtain ⟨i1, i2, i3, i4⟩ := innK_le HIN.out HF.out v k hk
              obtain ⟨_, _, _, hro⟩ := HIN.out _ (List.getElem_mem hlt)
              have HC := Lib.hid (cont_at (ps := ps) (x := X) (v := (v : Int)) hlt)
              have HU : Hid (innK ps X v (k + 1) = innK ps X v k + cont ps X v k) := Lib.hid rfl
              obtain ⟨p, hp⟩ : ∃ p, ps[k] = p := ⟨_, rfl⟩
              rw [hp] at d0 d1 d2 d3 x1 hro HC
              have hS2 := hS.alloc #[.int .i64 p.fr, .int .i64 p.to, .int .i64 p.room, .int .i64 p.cost] 40
              have hz1 : b < wr.heap.size := Nat.lt_of_lt_of_le hb hS.size
              have hz2 : b2 < wr.heap.size := Nat.lt_of_lt_of_le hb2 hS.size
              have hkk : (k : Int) ≤ 20000 := by omega
              have HS2 := Lib.hid hS2.tail
              clear hp e0 hS hS2
              generalize innK ps X v k = c at *
              by_cases c1 : p.to = v
              · have z1 : (p.to == (v : Int)) = true := by simpa using c1
                by_cases c2 : p.fr = v
                · have z2 : (p.fr == (v : Int)) = true := by simpa using c2
                  have HV : Hid (innK ps X v (k + 1) = c) := Lib.hid (by rw [HU.out, HC.out, if_pos c1, if_pos c2]; omega)
                  clear c1 c2 HC HU
                  go_wp2
                  go_roundw
                  case rel => exact ⟨k + 1, by omega, by go_num, by rw [HV.out], HS2.out⟩
                  case measure => simp [intOf]; omega
                · have z2 : (p.fr == (v : Int)) = false := by simpa using c2
                  have HV : Hid (innK ps X v (k + 1) = c + X k) := Lib.hid (by rw [HU.out, HC.out, if_pos c1, if_neg c2]; omega)
                  clear c1 c2 HC HU
                  go_wp2
                  go_roundw
                  case rel => exact ⟨k + 1, by omega, by go_num, by rw [HV.out], HS2.out⟩
                  case measure => simp [intOf]; omega
              · have z1 : (p.to == (v : Int)) = false := by simpa using c1
                by_cases c2 : p.fr = v
                · have z2 : (p.fr == (v : Int)) = true := by simpa using c2
                  have HV : Hid (innK ps X v (k + 1) = c - X k) := Lib.hid (by rw [HU.out, HC.out, if_neg c1, if_pos c2]; omega)
                  clear c1 c2 HC HU
                  go_wp2
                  go_roundw
                  case rel => exact ⟨k + 1, by omega, by go_num, by rw [HV.out], HS2.out⟩
                  case measure => simp [intOf]; omega
                · have z2 : (p.fr == (v : Int)) = false := by simpa using c2
                  have HV : Hid (innK ps X v (k + 1) = c) := Lib.hid (by rw [HU.out, HC.out, if_neg c1, if_neg c2]; omega)
                  clear c1 c2 HC HU
                  go_wp2
                  go_roundw
                  case rel => exact ⟨k + 1, by omega, by go_num, by rw [HV.out], HS2.out⟩
                  case measure => simp [intOf]; omega
            · obtain rfl : k = ps.length := by omega
              have HS := Lib.hid hS
              obtain ⟨c, hc⟩ : ∃ c, c = innK ps X v ps.length := ⟨_, rfl⟩
              have HCC : Hid (c = inn ps X v) := Lib.hid hc
              rw [← hc]
              clear hc hS hk hlt
              by_cases c1 : (v : Int) = t
              · have z1 : ((v : Int) == t) = true := by simpa using c1
                have z2 : ((v : Int) != t) = false := by simpa using c1
                have HNX : Hid (c = if t < ((v + 1 : Nat) : Int) then inn ps X t else 0) := Lib.hid (by rw [if_pos (by omega), HCC.out, c1])
                have HKX : Hid (∀ u : Nat, u < v + 1 → (u : Int) ≠ s → (u : Int) ≠ t → inn ps X u = 0) := Lib.hid (fun u hu h1 h2 => HK.out u (by omega) h1 h2)
                cases z3 : ((v : Int) != s)
                all_goals
                  clear c1
                  go_wp2
                  go_roundw
                  case rel => exact ⟨v + 1, by omega, by go_num, by rw [← HNX.out], HKX.out, HS.out⟩
                  case measure => simp [intOf]; omega
              · have z1 : ((v : Int) == t) = false := by simpa using c1
                have z2 : ((v : Int) != t) = true := by simpa using c1
                have HNX : Hid (m = if t < ((v + 1 : Nat) : Int) then inn ps X t else 0) := Lib.hid (by
                  rw [HM.out]
                  by_cases h : t < (v : Int)
                  · rw [if_pos h, if_pos (by omega)]
                  · rw [if_neg h, if_neg (by omega)])
                by_cases c3 : (v : Int) = s
                · have z3 : ((v : Int) != s) = false := by simpa using c3
                  have HKX : Hid (∀ u : Nat, u < v + 1 → (u : Int) ≠ s → (u : Int) ≠ t → inn ps X u = 0) := Lib.hid (fun u hu h1 h2 => HK.out u (by omega) h1 h2)
                  clear c1 c3
                  go_wp2
                  go_roundw
                  case rel => exact ⟨v + 1, by omega, by go_num, by rw [← HNX.out], HKX.out, HS.out⟩
                  case measure => simp [intOf]; omega
                · have z3 : ((v : Int) != s) = true := by simpa using c3
                  by_cases c4 : c = 0
                  · have z4 : (c != 0) = false := by simpa using c4
                    have HKX : Hid (∀ u : Nat, u < v + 1 → (u : Int) ≠ s → (u : Int) ≠ t → inn ps X u = 0) := Lib.hid (fun u hu h1 h2 => by
                      by_cases e : u = v
                      · subst e; rw [← HCC.out]; exact c4
                      · exact HK.out u (by omega) h1 h2)
                    clear c1 c3 c4
                    go_wp2
                    go_roundw
                    case rel => exact ⟨v + 1, by omega, by go_num, by rw [← HNX.out], HKX.out, HS.out⟩
                    case measure => simp [intOf]; omega
                  · have z4 : (c != 0) = true := by simpa using c4
                    have HB : Hid (¬ Good N ps s t X) := Lib.hid (fun h => c4 (by rw [HCC.out]; exact h.kept v hvN c3 c1))
                    clear c1 c3 c4
                    go_wp2
                    go_ret2
                    exact ⟨.inr ⟨HB.out, rfl⟩, HS.out.below⟩
        · obtain rfl : v = N := by omega
          have HS := Lib.hid hS
          rw [if_pos ht1] at HM
          clear hS
          by_cases c1 : m < 0
          · have HB : Hid (¬ Good v ps s t X) := Lib.hid (fun h => by have := h.pos; rw [← HM.out] at this; omega)
            go_wp2
            go_ret2
            exact ⟨.inr ⟨HB.out, rfl⟩, HS.out.below⟩
          · have HB : Hid (Good v ps s t X) := Lib.hid ⟨HF.out, by rw [← HM.out]; omega, fun u hu => HK.out u hu⟩
            go_wp2
            go_ret2
            exact ⟨.inl ⟨HB.out, by rw [HM.out]; rfl⟩, HS.out.below⟩
end Go.Proofs.Ytgnmbmlpfjlbiaa
