/- law17.Light of a plan whose stops are so many that an int holds their number. (printed by gen/lightw.py) -/
import Derived.Test.YtpbhbmdghafkmaaPlanPJ
import Derived.Test.YtpbhbmdghafkmaaNest
import Derived.Deep.CutBlock
import Derived.Deep.CutRange
import Derived.Deep.DeepCutAuto
namespace Go.Proofs.Ytpbhbmdghafkmaa
open Go.ChangeShapes Go.WideShapes Go.ChangeAt Go.RowKit
set_option linter.unusedVariables false
set_option linter.unusedSimpArgs false
def PlanV.many (q : PlanV) : Nat := q.trucks.length + q.bikes.length + q.trucks.flatten.length + (allStops q.bikes).length
structure PlanW (q : PlanV) : Prop where
 trucks : q.trucks.length ≤ 1099511627776
 bikes : q.bikes.length ≤ 1099511627776
 stops : q.trucks.flatten.length ≤ 72057594037927936
 custs : (allStops q.bikes).length ≤ 72057594037927936
theorem flatten_take {ts : List (List StopV)} {k : Nat} (h : k < ts.length) : (ts.take (k + 1)).flatten.length = (ts.take k).flatten.length + ts[k].length := by
 rw [flatten_succ h, List.length_append]
set_option maxRecDepth 100000 in
set_option maxHeartbeats 2000000 in
theorem light_any (TA BA : Option Addr) (tc bc : Nat) (q : PlanV) (w : World) (hP : PlanIn w w.heap.size TA BA q) (hW : PlanW q) :
 Calls Try.prog 18 #[.agg #[.slice TA q.trucks.length tc, .slice BA q.bikes.length bc]] w fun e w' => e = .returned (.bool (decide (q.many ≤ 200))) ∧ Below w.heap.size w w' := by
 obtain ⟨h1, h2, h3, h4⟩ := hW
 have HP := Lib.hid hP
 have hS0 := (SL.start (Nat.le_refl w.heap.size)).alloc #[.slice TA q.trucks.length tc, .slice BA q.bikes.length bc] 39
 have HS0 := Lib.hid hS0
 have HM : Hid (q.many = q.trucks.length + q.bikes.length + q.trucks.flatten.length + (allStops q.bikes).length) := Lib.hid rfl
 obtain ⟨many, hmany⟩ : ∃ many, q.many = many := ⟨_, rfl⟩
 rw [hmany] at HM ⊢
 clear hP hS0 hmany
 go_enter Try.func18, Try.ntmps18
 go_upto_region 3 with fail
 obtain ⟨pb, hpb⟩ : ∃ pb, pb = w.heap.size := ⟨_, rfl⟩
 obtain ⟨pc, hpc⟩ : ∃ pc : Array Value, pc = #[.slice TA q.trucks.length tc, .slice BA q.bikes.length bc] := ⟨_, rfl⟩
 have HPC := Lib.hid hpc
 have HS1 : Hid (SL w w.heap.size [.blk pb pc 39] (w.alloc (.cells #[.slice TA q.trucks.length tc, .slice BA q.bikes.length bc] 39))) := Lib.hid (by rw [hpb, hpc]; exact HS0.out)
 rw [← hpb]
 clear hpb HS0 hpc
 generalize (w.alloc (.cells #[.slice TA q.trucks.length tc, .slice BA q.bikes.length bc] 39)) = w1 at *
 go_loopw [18, 3] (fun i v3 wr => ∃ (k n : Nat), k ≤ q.trucks.length ∧ i = .int .i64 k ∧ v3 = .int .i64 n ∧ Hid (n = q.trucks.length + q.bikes.length + (q.trucks.take k).flatten.length) ∧ SL w w.heap.size [.blk pb pc 39] wr) (fun i _ _ => q.trucks.length - (intOf i).toNat)
 case atStart => exact ⟨0, q.trucks.length + q.bikes.length, by omega, rfl, by go_num, Lib.hid (by simp), HS1.out⟩
 case round =>
  clear HS1
  obtain ⟨k, n, hk, rfl, rfl, HN, hS⟩ := hrel
  by_cases hlt : k < q.trucks.length
  · obtain ⟨b, o, a, c, hTA, hb, d00, _⟩ := trucks_at HP.out.trucks hlt
    have d0 := (hS.below.cell (p := ⟨b, o + k, none⟩) hb).trans d00
    have hfl := flatten_le hlt
    have hfs := flatten_take hlt
    obtain ⟨t, ht⟩ : ∃ t, q.trucks[k].length = t := ⟨_, rfl⟩
    rw [ht] at d0 hfl hfs
    have HN2 : Hid (n + t = q.trucks.length + q.bikes.length + (q.trucks.take (k + 1)).flatten.length) := Lib.hid (by have := HN.out; omega)
    have hn1 : n + t ≤ 72057594037927936 + 2199023255552 := by have := HN.out; omega
    have HS2 := Lib.hid (hS.alloc #[.slice a t c] 88)
    rw [hTA]
    clear ht hS hTA d00 hfl hfs
    go_wp2_with fail
    go_roundw
    case rel => exact ⟨k + 1, n + t, by omega, by go_num, by go_num, HN2, HS2.out.tail⟩
    case measure => simp [intOf]; omega
  · obtain rfl : k = q.trucks.length := by omega
    have bp1 : wr.cell? ⟨pb, 1, none⟩ = some (.slice BA q.bikes.length bc) := hS.cell 0 rfl 1 (by rw [HPC.out]; rfl)
    have HS := Lib.hid hS
    have HN0 : Hid (n = q.trucks.length + q.bikes.length + q.trucks.flatten.length) := Lib.hid (by have := HN.out; rwa [List.take_length] at this)
    clear hS hlt HN
    go_wp2_with fail
    clear bp1
    obtain ⟨wo, rfl⟩ : ∃ wo : World, wo = wr := ⟨_, rfl⟩
    go_loopw [31, 3] (fun i v3 wr => ∃ (k m : Nat), k ≤ q.bikes.length ∧ i = .int .i64 k ∧ v3 = .int .i64 m ∧ Hid (m = n + (allStops (q.bikes.take k)).length) ∧ SL w w.heap.size [.blk pb pc 39] wr) (fun i _ _ => q.bikes.length - (intOf i).toNat)
    case atStart => exact ⟨0, n, by omega, rfl, rfl, Lib.hid (by simp [allStops]), HS.out⟩
    case round =>
     clear HS
     obtain ⟨k, m, hk, rfl, rfl, HMM, hS⟩ := hrel
     by_cases hlt : k < q.bikes.length
     · obtain ⟨b, o, a, c, hBA, hb, d00, d01, _⟩ := bikes_at HP.out.bikes hlt
       have d0 := (hS.below.cell (p := ⟨b, o + k * 2, none⟩) hb).trans d00
       have d1 := (hS.below.cell (p := ⟨b, o + k * 2 + 1, none⟩) hb).trans d01
       have hfl := stops_le hlt
       have hfs := congrArg List.length (allStops_succ hlt)
       rw [List.length_append] at hfs
       obtain ⟨t, ht⟩ : ∃ t, q.bikes[k].stops.length = t := ⟨_, rfl⟩
       obtain ⟨s, hs⟩ : ∃ s, q.bikes[k].sat = s := ⟨_, rfl⟩
       rw [ht] at d1 hfl hfs
       rw [hs] at d0
       have HN2 : Hid (m + t = n + (allStops (q.bikes.take (k + 1))).length) := Lib.hid (by have := HMM.out; omega)
       have hn1 : m + t ≤ 144115188075855872 + 2199023255552 := by have := HMM.out; have := HN0.out; omega
       have HS2 := Lib.hid (hS.alloc #[.int .i64 s, .slice a t c] 44)
       rw [hBA]
       clear ht hs hS hBA d00 d01 hfl hfs
       go_wp2_with fail
       go_roundw
       case rel => exact ⟨k + 1, m + t, by omega, by go_num, by go_num, HN2, HS2.out.tail⟩
       case measure => simp [intOf]; omega
     · obtain rfl : k = q.bikes.length := by omega
       have HS := Lib.hid hS
       have HMN : Hid (m = many) := Lib.hid (by have h1 := HMM.out; rw [List.take_length] at h1; have := HN0.out; have := HM.out; omega)
       clear hS hlt HMM
       go_wp2_with fail
       go_ret
       exact ⟨retBool (by rw [← HMN.out]; simp; omega), HS.out.below⟩
end Go.Proofs.Ytpbhbmdghafkmaa
