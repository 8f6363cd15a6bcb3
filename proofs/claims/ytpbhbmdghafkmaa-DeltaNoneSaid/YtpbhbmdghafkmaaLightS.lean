/- law17.Light of any plan: it answers. (printed by gen/deltanone.py) -/
import Derived.Test.YtpbhbmdghafkmaaPlanP
import Derived.Test.YtpbhbmdghafkmaaNest
import Derived.Deep.CutBlock
import Derived.Deep.CutRange
import Derived.Deep.DeepCutAuto
namespace Go.Proofs.Ytpbhbmdghafkmaa
open Go.ChangeShapes Go.WideShapes Go.ChangeAt Go.RowKit
set_option linter.unusedVariables false
set_option linter.unusedSimpArgs false
set_option maxRecDepth 100000 in
set_option maxHeartbeats 2000000 in
theorem light_some (TA BA : Option Addr) (tc bc : Nat) (q : PlanV) (w : World) (hP : PlanIn w w.heap.size TA BA q) (h1 : q.trucks.length ≤ maxLen) (h2 : q.bikes.length ≤ maxLen) :
    Calls Try.prog 18 #[.agg #[.slice TA q.trucks.length tc, .slice BA q.bikes.length bc]] w fun e w' => (∃ b : Bool, e = .returned (.bool b)) ∧ Below w.heap.size w w' := by
  unfold maxLen at h1 h2
  have HP := Lib.hid hP
  have hS0 := (SL.start (Nat.le_refl w.heap.size)).alloc #[.slice TA q.trucks.length tc, .slice BA q.bikes.length bc] 39
  have HS0 := Lib.hid hS0
  clear hP hS0
  go_enter Try.func18, Try.ntmps18
  go_upto_region 3 with fail
  obtain ⟨pb, hpb⟩ : ∃ pb, pb = w.heap.size := ⟨_, rfl⟩
  obtain ⟨pc, hpc⟩ : ∃ pc : Array Value, pc = #[.slice TA q.trucks.length tc, .slice BA q.bikes.length bc] := ⟨_, rfl⟩
  have HPC := Lib.hid hpc
  have HS1 : Hid (SL w w.heap.size [.blk pb pc 39] (w.alloc (.cells #[.slice TA q.trucks.length tc, .slice BA q.bikes.length bc] 39))) := Lib.hid (by rw [hpb, hpc]; exact HS0.out)
  rw [← hpb]
  clear hpb HS0 hpc
  generalize (w.alloc (.cells #[.slice TA q.trucks.length tc, .slice BA q.bikes.length bc] 39)) = w1 at *
  go_loopw [18, 3] (fun i v3 wr => ∃ (k : Nat) (n : Int), k ≤ q.trucks.length ∧ i = .int .i64 k ∧ v3 = .int .i64 n ∧ SL w w.heap.size [.blk pb pc 39] wr) (fun i _ _ => q.trucks.length - (intOf i).toNat)
  case atStart => exact ⟨0, _, by omega, rfl, rfl, HS1.out⟩
  case round =>
    clear HS1
    obtain ⟨k, n, hk, rfl, rfl, hS⟩ := hrel
    by_cases hlt : k < q.trucks.length
    · obtain ⟨b, o, a, c, hTA, hb, d00, _⟩ := trucks_at HP.out.trucks hlt
      have d0 := (hS.below.cell (p := ⟨b, o + k, none⟩) hb).trans d00
      obtain ⟨t, ht⟩ : ∃ t, q.trucks[k].length = t := ⟨_, rfl⟩
      rw [ht] at d0
      have HS2 := Lib.hid (hS.alloc #[.slice a t c] 88)
      rw [hTA]
      clear ht hS hTA d00
      go_wp2_with fail
      go_roundw
      case rel => exact ⟨k + 1, _, by omega, by go_num, rfl, HS2.out.tail⟩
      case measure => simp [intOf]; omega
    · obtain rfl : k = q.trucks.length := by omega
      have bp1 : wr.cell? ⟨pb, 1, none⟩ = some (.slice BA q.bikes.length bc) := hS.cell 0 rfl 1 (by rw [HPC.out]; rfl)
      have HS := Lib.hid hS
      clear hS hlt
      go_wp2_with fail
      clear bp1
      obtain ⟨wo, rfl⟩ : ∃ wo : World, wo = wr := ⟨_, rfl⟩
      go_loopw [31, 3] (fun i v3 wr => ∃ (k : Nat) (n : Int), k ≤ q.bikes.length ∧ i = .int .i64 k ∧ v3 = .int .i64 n ∧ SL w w.heap.size [.blk pb pc 39] wr) (fun i _ _ => q.bikes.length - (intOf i).toNat)
      case atStart => exact ⟨0, n, by omega, rfl, rfl, HS.out⟩
      case round =>
        clear HS
        obtain ⟨k, n, hk, rfl, rfl, hS⟩ := hrel
        by_cases hlt : k < q.bikes.length
        · obtain ⟨b, o, a, c, hBA, hb, d00, d01, _⟩ := bikes_at HP.out.bikes hlt
          have d0 := (hS.below.cell (p := ⟨b, o + k * 2, none⟩) hb).trans d00
          have d1 := (hS.below.cell (p := ⟨b, o + k * 2 + 1, none⟩) hb).trans d01
          obtain ⟨t, ht⟩ : ∃ t, q.bikes[k].stops.length = t := ⟨_, rfl⟩
          obtain ⟨s, hs⟩ : ∃ s, q.bikes[k].sat = s := ⟨_, rfl⟩
          rw [ht] at d1
          rw [hs] at d0
          have HS2 := Lib.hid (hS.alloc #[.int .i64 s, .slice a t c] 44)
          rw [hBA]
          clear ht hs hS hBA d00 d01
          go_wp2_with fail
          go_roundw
          case rel => exact ⟨k + 1, _, by omega, by go_num, rfl, HS2.out.tail⟩
          case measure => simp [intOf]; omega
        · obtain rfl : k = q.bikes.length := by omega
          have HS := Lib.hid hS
          clear hS hlt
          go_wp2_with fail
          go_ret
          exact ⟨⟨_, rfl⟩, HS.out.below⟩
end Go.Proofs.Ytpbhbmdghafkmaa
