/- law17.Light of a plan whose stops are so many that an int holds their number; plan.Check and law17.Code of a plan with more trucks or bikes than there are. -/
import Derived.Test.YtjpejclfppbboaaPlanNone
import Derived.Test.YtjpejclfppbboaaCode17
namespace Go.Proofs.Ytjpejclfppbboaa
open Go.ChangeShapes Go.WideShapes Go.ChangeAt Go.RowKit
set_option linter.unusedVariables false
def PlanV.many (q : PlanV) : Nat := q.trucks.length + q.bikes.length + q.trucks.flatten.length + (allStops q.bikes).length
structure PlanW (q : PlanV) : Prop where
  trucks : q.trucks.length ≤ 1099511627776
  bikes : q.bikes.length ≤ 1099511627776
  stops : q.trucks.flatten.length ≤ 72057594037927936
  custs : (allStops q.bikes).length ≤ 72057594037927936
theorem PlanW.light {q : PlanV} (h : q.many ≤ 200) : PlanL q := by
  unfold PlanV.many at h
  exact ⟨by omega, by omega, by omega, by omega⟩
theorem flatten_max {α : Type} {l : List (List α)} {m : Nat} (h : ∀ t ∈ l, t.length ≤ m) : l.flatten.length ≤ l.length * m := by
  induction l with
  | nil => simp
  | cons a r ih =>
    have h1 := h a (by simp)
    have h2 := ih (fun t ht => h t (by simp [ht]))
    rw [List.flatten_cons, List.length_append, List.length_cons, Nat.succ_mul]
    omega
theorem allStops_max {l : List BikeV} {m : Nat} (h : ∀ b ∈ l, b.stops.length ≤ m) : (allStops l).length ≤ l.length * m := by
  have := flatten_max (l := l.map (·.stops)) (m := m) (fun t ht => by obtain ⟨b, hb, rfl⟩ := List.mem_map.1 ht; exact h b hb)
  rw [List.length_map] at this
  unfold allStops
  rw [List.flatMap_def]
  exact this
theorem flatten_take {ts : List (List StopV)} {k : Nat} (h : k < ts.length) : (ts.take (k + 1)).flatten.length = (ts.take k).flatten.length + ts[k].length := by
  rw [flatten_succ h, List.length_append]
set_option maxRecDepth 100000 in
set_option maxHeartbeats 2000000 in
theorem light_any (TA BA : Option Addr) (tc bc : Nat) (q : PlanV) (w : World) (hP : PlanIn w w.heap.size TA BA q) (hW : PlanW q) :
    Calls Try.prog 15 #[.agg #[.slice TA q.trucks.length tc, .slice BA q.bikes.length bc]] w fun e w' => e = .returned (.bool (decide (q.many ≤ 200))) ∧ Below w.heap.size w w' := by
  obtain ⟨h1, h2, h3, h4⟩ := hW
  have HP := Lib.hid hP
  have hS0 := (SL.start (Nat.le_refl w.heap.size)).alloc #[.slice TA q.trucks.length tc, .slice BA q.bikes.length bc] 30
  have HS0 := Lib.hid hS0
  have HM : Hid (q.many = q.trucks.length + q.bikes.length + q.trucks.flatten.length + (allStops q.bikes).length) := Lib.hid rfl
  obtain ⟨many, hmany⟩ : ∃ many, q.many = many := ⟨_, rfl⟩
  rw [hmany] at HM ⊢
  clear hP hS0 hmany
  go_enter Try.func15, Try.ntmps15
  go_upto_region 3 with fail
  obtain ⟨pb, hpb⟩ : ∃ pb, pb = w.heap.size := ⟨_, rfl⟩
  obtain ⟨pc, hpc⟩ : ∃ pc : Array Value, pc = #[.slice TA q.trucks.length tc, .slice BA q.bikes.length bc] := ⟨_, rfl⟩
  have HPC := Lib.hid hpc
  have HS1 : Hid (SL w w.heap.size [.blk pb pc 30] (w.alloc (.cells #[.slice TA q.trucks.length tc, .slice BA q.bikes.length bc] 30))) := Lib.hid (by rw [hpb, hpc]; exact HS0.out)
  rw [← hpb]
  clear hpb HS0 hpc
  generalize (w.alloc (.cells #[.slice TA q.trucks.length tc, .slice BA q.bikes.length bc] 30)) = w1 at *
  go_loopw [18, 3] (fun i v3 wr => ∃ (k n : Nat), k ≤ q.trucks.length ∧ i = .int .i64 k ∧ v3 = .int .i64 n ∧ Hid (n = q.trucks.length + q.bikes.length + (q.trucks.take k).flatten.length) ∧ SL w w.heap.size [.blk pb pc 30] wr) (fun i _ _ => q.trucks.length - (intOf i).toNat)
  case atStart => exact ⟨0, q.trucks.length + q.bikes.length, by omega, rfl, by go_num, Lib.hid (by simp), HS1.out⟩
  case round =>
    clear HS1
    obtain ⟨k, n, hk, rfl, rfl, HN, hS⟩ := hrel
    by_cases hlt : k < q.trucks.length
    · obtain ⟨b, o, a, c, hTA, hb, d00, _⟩ := trucks_at HP.out.trucks hlt
      have d0 := (hS.below.cell (p := ⟨b, o + k, none⟩) hb).trans d00
      have hfl := flatten_le hlt
      have hfs := flatten_take hlt
      obtain ⟨t, ht⟩ : ∃ t, q.trucks[k].length = t := ⟨_, rfl⟩
      rw [ht] at d0 hfl hfs
      have HN2 : Hid (n + t = q.trucks.length + q.bikes.length + (q.trucks.take (k + 1)).flatten.length) := Lib.hid (by have := HN.out; omega)
      have hn1 : n + t ≤ 72057594037927936 + 2199023255552 := by have := HN.out; omega
      have HS2 := Lib.hid (hS.alloc #[.slice a t c] 49)
      rw [hTA]
      clear ht hS hTA d00 hfl hfs
      go_wp2_with fail
      go_roundw
      case rel => exact ⟨k + 1, n + t, by omega, by go_num, by go_num, HN2, HS2.out.tail⟩
      case measure => simp [intOf]; omega
    · obtain rfl : k = q.trucks.length := by omega
      have bp1 : wr.cell? ⟨pb, 1, none⟩ = some (.slice BA q.bikes.length bc) := hS.cell 0 rfl 1 (by rw [HPC.out]; rfl)
      have HS := Lib.hid hS
      have HN0 : Hid (n = q.trucks.length + q.bikes.length + q.trucks.flatten.length) := Lib.hid (by have := HN.out; rwa [List.take_length] at this)
      clear hS hlt HN
      go_wp2_with fail
      clear bp1
      obtain ⟨wo, rfl⟩ : ∃ wo : World, wo = wr := ⟨_, rfl⟩
      go_loopw [31, 3] (fun i v3 wr => ∃ (k m : Nat), k ≤ q.bikes.length ∧ i = .int .i64 k ∧ v3 = .int .i64 m ∧ Hid (m = n + (allStops (q.bikes.take k)).length) ∧ SL w w.heap.size [.blk pb pc 30] wr) (fun i _ _ => q.bikes.length - (intOf i).toNat)
      case atStart => exact ⟨0, n, by omega, rfl, rfl, Lib.hid (by simp [allStops]), HS.out⟩
      case round =>
        clear HS
        obtain ⟨k, m, hk, rfl, rfl, HMM, hS⟩ := hrel
        by_cases hlt : k < q.bikes.length
        · obtain ⟨b, o, a, c, hBA, hb, d00, d01, _⟩ := bikes_at HP.out.bikes hlt
          have d0 := (hS.below.cell (p := ⟨b, o + k * 2, none⟩) hb).trans d00
          have d1 := (hS.below.cell (p := ⟨b, o + k * 2 + 1, none⟩) hb).trans d01
          have hfl := stops_le hlt
          have hfs := congrArg List.length (allStops_succ hlt)
          rw [List.length_append] at hfs
          obtain ⟨t, ht⟩ : ∃ t, q.bikes[k].stops.length = t := ⟨_, rfl⟩
          obtain ⟨s, hs⟩ : ∃ s, q.bikes[k].sat = s := ⟨_, rfl⟩
          rw [ht] at d1 hfl hfs
          rw [hs] at d0
          have HN2 : Hid (m + t = n + (allStops (q.bikes.take (k + 1))).length) := Lib.hid (by have := HMM.out; omega)
          have hn1 : m + t ≤ 144115188075855872 + 2199023255552 := by have := HMM.out; have := HN0.out; omega
          have HS2 := Lib.hid (hS.alloc #[.int .i64 s, .slice a t c] 46)
          rw [hBA]
          clear ht hs hS hBA d00 d01 hfl hfs
          go_wp2_with fail
          go_roundw
          case rel => exact ⟨k + 1, m + t, by omega, by go_num, by go_num, HN2, HS2.out.tail⟩
          case measure => simp [intOf]; omega
        · obtain rfl : k = q.bikes.length := by omega
          have HS := Lib.hid hS
          have HMN : Hid (m = many) := Lib.hid (by have h1 := HMM.out; rw [List.take_length] at h1; have := HN0.out; have := HM.out; omega)
          clear hS hlt HMM
          go_wp2_with fail
          go_ret
          exact ⟨retBool (by rw [← HMN.out]; simp; omega), HS.out.below⟩
set_option maxRecDepth 100000 in
theorem planCheck_fleet (x : InstV) (p : IAt) (TA BA : Option Addr) (nt tc nb bc : Nat) (w : World) (hI : InstIn w w.heap.size p x) (hl : InstL x) (hc : x.code = 0) (hf : ¬ ((nt : Int) ≤ x.tm ∧ (nb : Int) ≤ x.bm)) :
    Calls Try.prog 17 #[.agg (x.cells p), .agg #[.slice TA nt tc, .slice BA nb bc]] w fun e w' => e = .returned (.int .i64 11) ∧ Below w.heap.size w w' := by
  have HCK : Hid (∀ wx, Below w.heap.size w wx → Calls Try.prog 24 #[.agg #[.int .i64 x.fin, .int .i64 x.tm, .int .i64 x.tr, .int .i64 x.bm, .int .i64 x.br, .slice p.SA x.sats.length p.sc, .slice p.CA x.custs.length p.cc, .slice p.KA x.cost.length p.kc, .slice p.TA x.time.length p.tc]] wx fun e w' => e = .returned (.int .i64 0) ∧ Below wx.heap.size wx w') := Lib.hid (fun wx hb => by rw [← hc]; exact check_any x p wx (hI.at_ hb) hl)
  have hS0 := ((SL.start (Nat.le_refl w.heap.size)).alloc (x.cells p) 39).alloc #[.slice TA nt tc, .slice BA nb bc] 30
  have HS0 := Lib.hid hS0
  clear hI hl hc hS0
  unfold InstV.cells
  go_enter Try.func17, Try.ntmps17
  go_upto_region 1 with fail
  obtain ⟨ib, hib⟩ : ∃ ib, ib = w.heap.size := ⟨_, rfl⟩
  obtain ⟨pb, hpb⟩ : ∃ pb, pb = w.heap.size + 1 := ⟨_, rfl⟩
  obtain ⟨pc, hpc⟩ : ∃ pc : Array Value, pc = #[.slice TA nt tc, .slice BA nb bc] := ⟨_, rfl⟩
  obtain ⟨ic, hic⟩ : ∃ ic : Array Value, ic = #[.int .i64 x.fin, .int .i64 x.tm, .int .i64 x.tr, .int .i64 x.bm, .int .i64 x.br, .slice p.SA x.sats.length p.sc, .slice p.CA x.custs.length p.cc, .slice p.KA x.cost.length p.kc, .slice p.TA x.time.length p.tc] := ⟨_, rfl⟩
  have HPC := Lib.hid hpc
  have HIC := Lib.hid hic
  have HS1 : Hid (SL w w.heap.size [.blk pb pc 30, .blk ib ic 39] ((w.alloc (.cells #[.int .i64 x.fin, .int .i64 x.tm, .int .i64 x.tr, .int .i64 x.bm, .int .i64 x.br, .slice p.SA x.sats.length p.sc, .slice p.CA x.custs.length p.cc, .slice p.KA x.cost.length p.kc, .slice p.TA x.time.length p.tc] 39)).alloc (.cells #[.slice TA nt tc, .slice BA nb bc] 30))) := Lib.hid (by
    have h := HS0.out
    unfold InstV.cells at h
    rw [hib, hpb, hpc, hic]
    simpa using h)
  rw [← hpb, ← hib]
  clear hpb hib HS0 hpc hic
  generalize ((w.alloc (.cells #[.int .i64 x.fin, .int .i64 x.tm, .int .i64 x.tr, .int .i64 x.bm, .int .i64 x.br, .slice p.SA x.sats.length p.sc, .slice p.CA x.custs.length p.cc, .slice p.KA x.cost.length p.kc, .slice p.TA x.time.length p.tc] 39)).alloc (.cells #[.slice TA nt tc, .slice BA nb bc] 30)) = w1 at *
  have hS1 := HS1.out
  have a0 : w1.cell? ⟨ib, 0, none⟩ = some (.int .i64 x.fin) := hS1.cell 1 rfl 0 (by rw [HIC.out]; rfl)
  have a1 : w1.cell? ⟨ib, 1, none⟩ = some (.int .i64 x.tm) := hS1.cell 1 rfl 1 (by rw [HIC.out]; rfl)
  have a2 : w1.cell? ⟨ib, 2, none⟩ = some (.int .i64 x.tr) := hS1.cell 1 rfl 2 (by rw [HIC.out]; rfl)
  have a3 : w1.cell? ⟨ib, 3, none⟩ = some (.int .i64 x.bm) := hS1.cell 1 rfl 3 (by rw [HIC.out]; rfl)
  have a4 : w1.cell? ⟨ib, 4, none⟩ = some (.int .i64 x.br) := hS1.cell 1 rfl 4 (by rw [HIC.out]; rfl)
  have a5 : w1.cell? ⟨ib, 5, none⟩ = some (.slice p.SA x.sats.length p.sc) := hS1.cell 1 rfl 5 (by rw [HIC.out]; rfl)
  have a6 : w1.cell? ⟨ib, 6, none⟩ = some (.slice p.CA x.custs.length p.cc) := hS1.cell 1 rfl 6 (by rw [HIC.out]; rfl)
  have a7 : w1.cell? ⟨ib, 7, none⟩ = some (.slice p.KA x.cost.length p.kc) := hS1.cell 1 rfl 7 (by rw [HIC.out]; rfl)
  have a8 : w1.cell? ⟨ib, 8, none⟩ = some (.slice p.TA x.time.length p.tc) := hS1.cell 1 rfl 8 (by rw [HIC.out]; rfl)
  have ap0 : w1.cell? ⟨pb, 0, none⟩ = some (.slice TA nt tc) := hS1.cell 0 rfl 0 (by rw [HPC.out]; rfl)
  have ap1 : w1.cell? ⟨pb, 1, none⟩ = some (.slice BA nb bc) := hS1.cell 0 rfl 1 (by rw [HPC.out]; rfl)
  clear hS1
  go_upto_region 4 with (go_at_call 24; (with_reducible refine (HCK.out _ HS1.out.below).mono ?_); rintro e w2 ⟨rfl, hb⟩
                         have HS2 := Lib.hid (HS1.out.call hb)
                         clear hb a0 a1 a2 a3 a4 a5 a6 a7 a8 ap0 ap1)
  have hS2 := HS2.out
  have b0 : w2.cell? ⟨ib, 0, none⟩ = some (.int .i64 x.fin) := hS2.cell 1 rfl 0 (by rw [HIC.out]; rfl)
  have b1 : w2.cell? ⟨ib, 1, none⟩ = some (.int .i64 x.tm) := hS2.cell 1 rfl 1 (by rw [HIC.out]; rfl)
  have b2 : w2.cell? ⟨ib, 2, none⟩ = some (.int .i64 x.tr) := hS2.cell 1 rfl 2 (by rw [HIC.out]; rfl)
  have b3 : w2.cell? ⟨ib, 3, none⟩ = some (.int .i64 x.bm) := hS2.cell 1 rfl 3 (by rw [HIC.out]; rfl)
  have b4 : w2.cell? ⟨ib, 4, none⟩ = some (.int .i64 x.br) := hS2.cell 1 rfl 4 (by rw [HIC.out]; rfl)
  have b5 : w2.cell? ⟨ib, 5, none⟩ = some (.slice p.SA x.sats.length p.sc) := hS2.cell 1 rfl 5 (by rw [HIC.out]; rfl)
  have b6 : w2.cell? ⟨ib, 6, none⟩ = some (.slice p.CA x.custs.length p.cc) := hS2.cell 1 rfl 6 (by rw [HIC.out]; rfl)
  have b7 : w2.cell? ⟨ib, 7, none⟩ = some (.slice p.KA x.cost.length p.kc) := hS2.cell 1 rfl 7 (by rw [HIC.out]; rfl)
  have b8 : w2.cell? ⟨ib, 8, none⟩ = some (.slice p.TA x.time.length p.tc) := hS2.cell 1 rfl 8 (by rw [HIC.out]; rfl)
  have bp0 : w2.cell? ⟨pb, 0, none⟩ = some (.slice TA nt tc) := hS2.cell 0 rfl 0 (by rw [HPC.out]; rfl)
  have bp1 : w2.cell? ⟨pb, 1, none⟩ = some (.slice BA nb bc) := hS2.cell 0 rfl 1 (by rw [HPC.out]; rfl)
  clear hS2 HS1 HCK
  by_cases f1 : (nt : Int) ≤ x.tm
  · have f2 : x.bm < (nb : Int) := by omega
    clear hf
    go_wp2_with fail
    go_ret
    exact ⟨rfl, HS2.out.below⟩
  · have f2 : x.tm < (nt : Int) := by omega
    clear hf f1
    go_wp2_with fail
    go_ret
    exact ⟨rfl, HS2.out.below⟩
set_option maxRecDepth 100000 in
theorem code_fleet (x : InstV) (p : IAt) (TA BA : Option Addr) (nt tc nb bc : Nat) (w : World) (hf : ¬ ((nt : Int) ≤ x.tm ∧ (nb : Int) ≤ x.bm)) :
    Calls Try.prog 18 #[.agg (x.cells p), .agg #[.slice TA nt tc, .slice BA nb bc]] w fun e w' => e = .returned (.int .i64 11) ∧ Below w.heap.size w w' := by
  have hS0 := ((SL.start (Nat.le_refl w.heap.size)).alloc (x.cells p) 39).alloc #[.slice TA nt tc, .slice BA nb bc] 30
  have HS0 := Lib.hid hS0
  have hmf : ∀ (fn : Fn) (first cap : Array Value) (w : World), (Instr.makeFunc fn first cap).run Try.prog w = .ok (.func fn first cap) w := fun _ _ _ _ => rfl
  clear hS0
  unfold InstV.cells
  go_enter Try.func18, Try.ntmps18
  go_upto_region 1 with fail
  obtain ⟨ib, hib⟩ : ∃ ib, ib = w.heap.size := ⟨_, rfl⟩
  obtain ⟨pb, hpb⟩ : ∃ pb, pb = w.heap.size + 1 := ⟨_, rfl⟩
  obtain ⟨pc, hpc⟩ : ∃ pc : Array Value, pc = #[.slice TA nt tc, .slice BA nb bc] := ⟨_, rfl⟩
  obtain ⟨ic, hic⟩ : ∃ ic : Array Value, ic = #[.int .i64 x.fin, .int .i64 x.tm, .int .i64 x.tr, .int .i64 x.bm, .int .i64 x.br, .slice p.SA x.sats.length p.sc, .slice p.CA x.custs.length p.cc, .slice p.KA x.cost.length p.kc, .slice p.TA x.time.length p.tc] := ⟨_, rfl⟩
  have HPC := Lib.hid hpc
  have HIC := Lib.hid hic
  have HS1 : Hid (SL w w.heap.size [.blk pb pc 30, .blk ib ic 39] ((w.alloc (.cells #[.int .i64 x.fin, .int .i64 x.tm, .int .i64 x.tr, .int .i64 x.bm, .int .i64 x.br, .slice p.SA x.sats.length p.sc, .slice p.CA x.custs.length p.cc, .slice p.KA x.cost.length p.kc, .slice p.TA x.time.length p.tc] 39)).alloc (.cells #[.slice TA nt tc, .slice BA nb bc] 30))) := Lib.hid (by
    have h := HS0.out
    unfold InstV.cells at h
    rw [hib, hpb, hpc, hic]
    simpa using h)
  rw [← hpb, ← hib]
  clear hpb hib HS0 hpc hic
  generalize ((w.alloc (.cells #[.int .i64 x.fin, .int .i64 x.tm, .int .i64 x.tr, .int .i64 x.bm, .int .i64 x.br, .slice p.SA x.sats.length p.sc, .slice p.CA x.custs.length p.cc, .slice p.KA x.cost.length p.kc, .slice p.TA x.time.length p.tc] 39)).alloc (.cells #[.slice TA nt tc, .slice BA nb bc] 30)) = w1 at *
  have hS1 := HS1.out
  have a1 : w1.cell? ⟨ib, 1, none⟩ = some (.int .i64 x.tm) := hS1.cell 1 rfl 1 (by rw [HIC.out]; rfl)
  have a3 : w1.cell? ⟨ib, 3, none⟩ = some (.int .i64 x.bm) := hS1.cell 1 rfl 3 (by rw [HIC.out]; rfl)
  have ap0 : w1.cell? ⟨pb, 0, none⟩ = some (.slice TA nt tc) := hS1.cell 0 rfl 0 (by rw [HPC.out]; rfl)
  have ap1 : w1.cell? ⟨pb, 1, none⟩ = some (.slice BA nb bc) := hS1.cell 0 rfl 1 (by rw [HPC.out]; rfl)
  clear hS1
  by_cases f1 : (nt : Int) ≤ x.tm
  · have f2 : x.bm < (nb : Int) := by omega
    clear hf
    go_wp2_with fail
    go_ret
    exact ⟨rfl, HS1.out.below⟩
  · have f2 : x.tm < (nt : Int) := by omega
    clear hf f1
    go_wp2_with fail
    go_ret
    exact ⟨rfl, HS1.out.below⟩
end Go.Proofs.Ytjpejclfppbboaa
