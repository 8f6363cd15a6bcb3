/- The walk of law17.Code. (printed by gen/code17.py) -/
import Derived.Test.YtjpejclfppbboaaCodeP
import Derived.Test.YtjpejclfppbboaaNest
import Derived.Test.YtjpejclfppbboaaPlanC17
import Derived.Test.YtjpejclfppbboaaWay17
namespace Go.Proofs.Ytjpejclfppbboaa
open Go.ChangeShapes Go.WideShapes Go.ChangeAt Go.RowKit
set_option linter.unusedVariables false
theorem make_i64s (N : Nat) (hN : N ≤ 20000) (w : World) : (Instr.makeSlice 51 (.int .i64 (N : Int)) (.int .i64 (N : Int))).run Try.prog w = .ok (.slice (some ⟨w.heap.size, 0, none⟩) N N) (w.alloc (.cells (iarr (fun _ => 0) N) 2)) := by
  obtain ⟨i, h1, h2, h3, h4⟩ := info_parts info_i64
  have := run_make (P := Try.prog) w 51 2 i _ Try.underlying51 h1 h2 .i64 .i64 N N (by omega) (by omega) (by rw [h4]; omega) (by omega)
  rw [this, h3]
  simp only [Int.toNat_natCast, Nat.mul_one]
  rw [← iarr_made]; rfl
theorem make_ints17 (N : Nat) (hN : N ≤ 20000) (w : World) : (Instr.makeSlice 44 (.int .i64 (N : Int)) (.int .i64 (N : Int))).run Try.prog w = .ok (.slice (some ⟨w.heap.size, 0, none⟩) N N) (w.alloc (.cells (iarr (fun _ => 0) N) 3)) := by
  obtain ⟨i, h1, h2, h3, h4⟩ := info_parts info_int
  have := run_make (P := Try.prog) w 44 3 i _ Try.underlying44 h1 h2 .i64 .i64 N N (by omega) (by omega) (by rw [h4]; omega) (by omega)
  rw [this, h3]
  simp only [Int.toNat_natCast, Nat.mul_one]
  rw [← iarr_made]; rfl
/-- Is there such a satellite? -/
theorem there17 (s : Int) (n ib : Nat) (A : Option Addr) (c : Nat) (w : World) (h : w.cell? ⟨ib, 5, none⟩ = some (.slice A n c)) : Calls Try.prog 49 #[.int .i64 s, .pointer (some ⟨ib, 0, none⟩)] w fun e w' => e = .returned (.bool (decide (0 ≤ s ∧ s < n))) ∧ w = w' := by
  by_cases h1 : 0 ≤ s
  · by_cases h2 : s < n
    · have H : Hid (decide (0 ≤ s ∧ s < (n : Int)) = true) := Lib.hid (decide_eq_true ⟨h1, h2⟩)
      go_enter Try.func49, Try.ntmps49
      go_wp2
      go_ret
      exact ⟨retBool (by rw [H.out]), rfl⟩
    · have H : Hid (decide (0 ≤ s ∧ s < (n : Int)) = false) := Lib.hid (decide_eq_false (by omega))
      have h3 : (n : Int) ≤ s := by omega
      obtain ⟨d, hd⟩ : ∃ d, decide (0 ≤ s ∧ s < (n : Int)) = d := ⟨_, rfl⟩
      rw [hd] at H ⊢
      clear h2 hd
      go_enter Try.func49, Try.ntmps49
      go_wp2
      go_ret
      exact ⟨retBool (by rw [H.out]; exact decide_eq_false (by omega)), rfl⟩
  · have H : Hid (decide (0 ≤ s ∧ s < (n : Int)) = false) := Lib.hid (decide_eq_false (by omega))
    have h3 : s < 0 := by omega
    obtain ⟨d, hd⟩ : ∃ d, decide (0 ≤ s ∧ s < (n : Int)) = d := ⟨_, rfl⟩
    rw [hd] at H ⊢
    clear h1 hd
    go_enter Try.func49, Try.ntmps49
    go_wp2
    go_ret
    exact ⟨retBool (by rw [H.out]), rfl⟩
set_option maxRecDepth 100000 in
set_option maxHeartbeats 8000000 in
theorem code_any (x : InstV) (p : IAt) (TA BA : Option Addr) (tc bc : Nat) (q : PlanV) (w : World) (hI : InstIn w w.heap.size p x) (hP : PlanIn w w.heap.size TA BA q) (hTC : TrucksC w w.heap.size TA q.trucks) (hx : x.Small) (hL : PlanL q) :
    Calls Try.prog 18 #[.agg (x.cells p), .agg #[.slice TA q.trucks.length tc, .slice BA q.bikes.length bc]] w fun e w' => e = .returned (.int .i64 (planCode x q)) ∧ Below w.heap.size w w' := by
  have HI := Lib.hid hI
  have HP := Lib.hid hP
  have HTC := Lib.hid hTC
  have HL := Lib.hid hL
  have hns := hx.sats
  obtain ⟨hns0, hns1⟩ := hns
  have hnc := hx.custs
  obtain ⟨hnc0, hnc1⟩ := hnc
  have hlt := hL.trucks
  have hlb := hL.bikes
  have HCL : Hid (∀ c ∈ x.custs, 1 ≤ c.load ∧ c.load ≤ 20) := Lib.hid (fun c hc => (hx.custsIn c hc).1)
  have HTB := Lib.hid (And.intro hx.tr hx.br)
  have hS0 := ((SL.start (Nat.le_refl w.heap.size)).alloc (x.cells p) 39).alloc #[.slice TA q.trucks.length tc, .slice BA q.bikes.length bc] 30
  have HS0 := Lib.hid hS0
  have hmf : ∀ (fn : Fn) (first cap : Array Value) (w : World), (Instr.makeFunc fn first cap).run Try.prog w = .ok (.func fn first cap) w := fun _ _ _ _ => rfl
  clear hI hP hTC hx hL hS0
  unfold InstV.cells
  go_enter Try.func18, Try.ntmps18
  go_upto_region 1 with fail
  obtain ⟨ib, hib⟩ : ∃ ib, ib = w.heap.size := ⟨_, rfl⟩
  obtain ⟨pb, hpb⟩ : ∃ pb, pb = w.heap.size + 1 := ⟨_, rfl⟩
  obtain ⟨pc, hpc⟩ : ∃ pc : Array Value, pc = #[.slice TA q.trucks.length tc, .slice BA q.bikes.length bc] := ⟨_, rfl⟩
  obtain ⟨ic, hic⟩ : ∃ ic : Array Value, ic = #[.int .i64 x.fin, .int .i64 x.tm, .int .i64 x.tr, .int .i64 x.bm, .int .i64 x.br, .slice p.SA x.sats.length p.sc, .slice p.CA x.custs.length p.cc, .slice p.KA x.cost.length p.kc, .slice p.TA x.time.length p.tc] := ⟨_, rfl⟩
  have HPC := Lib.hid hpc
  have HIC := Lib.hid hic
  have HS1 : Hid (SL w w.heap.size [.blk pb pc 30, .blk ib ic 39] ((w.alloc (.cells #[.int .i64 x.fin, .int .i64 x.tm, .int .i64 x.tr, .int .i64 x.bm, .int .i64 x.br, .slice p.SA x.sats.length p.sc, .slice p.CA x.custs.length p.cc, .slice p.KA x.cost.length p.kc, .slice p.TA x.time.length p.tc] 39)).alloc (.cells #[.slice TA q.trucks.length tc, .slice BA q.bikes.length bc] 30))) := Lib.hid (by
    have h := HS0.out
    unfold InstV.cells at h
    rw [hib, hpb, hpc, hic]
    simpa using h)
  rw [← hpb, ← hib]
  clear hpb hib HS0 hpc hic
  generalize ((w.alloc (.cells #[.int .i64 x.fin, .int .i64 x.tm, .int .i64 x.tr, .int .i64 x.bm, .int .i64 x.br, .slice p.SA x.sats.length p.sc, .slice p.CA x.custs.length p.cc, .slice p.KA x.cost.length p.kc, .slice p.TA x.time.length p.tc] 39)).alloc (.cells #[.slice TA q.trucks.length tc, .slice BA q.bikes.length bc] 30)) = w1 at *
  have hS1 := HS1.out
  have a1 : w1.cell? ⟨ib, 1, none⟩ = some (.int .i64 x.tm) := hS1.cell 1 rfl 1 (by rw [HIC.out]; rfl)
  have a3 : w1.cell? ⟨ib, 3, none⟩ = some (.int .i64 x.bm) := hS1.cell 1 rfl 3 (by rw [HIC.out]; rfl)
  have ap0 : w1.cell? ⟨pb, 0, none⟩ = some (.slice TA q.trucks.length tc) := hS1.cell 0 rfl 0 (by rw [HPC.out]; rfl)
  have ap1 : w1.cell? ⟨pb, 1, none⟩ = some (.slice BA q.bikes.length bc) := hS1.cell 0 rfl 1 (by rw [HPC.out]; rfl)
  clear hS1
  by_cases f1 : (q.trucks.length : Int) ≤ x.tm
  case neg =>
    have HV : Hid (planCode x q = 11) := Lib.hid (by unfold planCode fleetB; rw [decide_eq_false f1]; rfl)
    have f1b : x.tm < (q.trucks.length : Int) := by omega
    clear f1
    go_wp2_with fail
    go_ret
    exact ⟨retInt HV.out.symm, HS1.out.below⟩
  case pos =>
  by_cases f2 : (q.bikes.length : Int) ≤ x.bm
  case neg =>
    have HV : Hid (planCode x q = 11) := Lib.hid (by unfold planCode fleetB; rw [decide_eq_true f1, decide_eq_false f2]; rfl)
    have f2b : x.bm < (q.bikes.length : Int) := by omega
    clear f2
    go_wp2_with fail
    go_ret
    exact ⟨retInt HV.out.symm, HS1.out.below⟩
  case pos =>
  have HFL : Hid (fleetB x q = true) := Lib.hid (by unfold fleetB; rw [decide_eq_true f1, decide_eq_true f2]; rfl)
  go_upto_region 3 with fail
  clear f1 f2 a1 a3 ap0 ap1
  refine wp_region_sl [0,1,2,3,4,5,7] [6] [8] _ HS1.out (List.Sublist.refl _) (by kernel_rfl) (by kernel_rfl) (.cons rfl .nil) (fun C cw _ hC => ?_)
  have q0 : ∀ c, (cw c).cell? ⟨ib, 6, none⟩ = some (.slice p.CA x.custs.length p.cc) := fun c => (hC c).cell 1 rfl 6 (by rw [HIC.out]; rfl)
  repeat (first | (refine pl_len _ _ _ _ _ (by kernel_rfl) rfl rfl rfl rfl (fun Kv hK => ?_); go_simp; refine hK _ ?_; clear hK Kv) | (refine pl_look rfl rfl rfl (fun Kv hK => ?_); go_big_quiet_op; refine hK _ ?_; clear hK Kv))
  clear q0 hC
  have hm1 := make_ints17 x.custs.length (by omega)
  refine pl_end ?_
  intro w2 hS2
  refine pm_eff rfl rfl fun Kv hK => ?_
  go_simp
  have hS3 := hS2.alloc (iarr (fun _ => 0) x.custs.length) 3
  refine ⟨hS3.tail, hK _ _ ?_⟩
  clear hK Kv
  refine pm_end ?_
  have HS3 := Lib.hid hS3
  clear hm1 hS2 hS3 HS1
  obtain ⟨vb, hvb⟩ : ∃ vb, vb = w2.heap.size := ⟨_, rfl⟩
  rw [← hvb] at HS3 ⊢
  generalize (w2.alloc (.cells (iarr (fun _ => 0) x.custs.length) 3)) = w3 at *
  clear hvb
  go_upto_region 6 with fail
  clear hmf
  have hS3 := HS3.out
  go_cut [10, 11] (fun s10 s11 wx => ∃ db lb : Nat, s10 = .slice (some ⟨db, 0, none⟩) x.sats.length x.sats.length ∧ s11 = .slice (some ⟨lb, 0, none⟩) x.sats.length x.sats.length ∧ SL w w.heap.size [.blk lb (iarr (fun _ => 0) x.sats.length) 2, .blk db (iarr (fun _ => 0) x.sats.length) 2, .blk vb (iarr (fun _ => 0) x.custs.length) 3, .blk pb pc 30, .blk ib ic 39] wx)
  case first =>
    refine wp_region_slb [0,1,2,4,5,6] [3,7,8] [9] _ hS3 (List.Sublist.refl _) (by kernel_rfl) (by kernel_rfl) (.cons rfl .nil) (fun C cw _ hC => ?_)
    have q0 : ∀ c, (cw c).cell? ⟨ib, 5, none⟩ = some (.slice p.SA x.sats.length p.sc) := fun c => (hC c).cell 2 rfl 5 (by rw [HIC.out]; rfl)
    repeat (first | (refine pl_len _ _ _ _ _ (by kernel_rfl) rfl rfl rfl rfl (fun Kv hK => ?_); go_simp; refine hK _ ?_; clear hK Kv) | (refine pl_look rfl rfl rfl (fun Kv hK => ?_); go_big_quiet_op; refine hK _ ?_; clear hK Kv))
    clear q0 hC
    have hm1 := make_i64s x.sats.length (by omega)
    refine pl_end ?_
    intro w4 hS4
    refine pb_two 3 7 (by kernel_rfl) (by kernel_rfl) (by kernel_rfl) ?_ ?_
    · skip
      refine kOp_eff rfl rfl fun Kv hK => ?_
      go_simp
      have hS5 := hS4.alloc (iarr (fun _ => 0) x.sats.length) 2
      refine ⟨hS5.tail, hK _ _ ?_⟩
      clear hK Kv
      refine pb_two 7 8 (by kernel_rfl) (by kernel_rfl) (by kernel_rfl) ?_ ?_
      · skip
        refine kOp_eff rfl rfl fun Kv hK => ?_
        go_simp
        have hS6 := hS5.alloc (iarr (fun _ => 0) x.sats.length) 2
        refine ⟨hS6.tail.tail, hK _ _ ?_⟩
        clear hK Kv
        refine pb_one 8 (by kernel_rfl) (by kernel_rfl) ?_
        refine kOp_eff rfl rfl fun Kv hK => ?_
        go_simp
        refine ⟨hS6.tail.tail, hK _ _ ?_⟩
        clear hK Kv
        refine pb_end (by kernel_rfl) ?_
        clear hm1
        go_wp2_with fail
        go_meet
        exact ⟨_, _, rfl, rfl, by simpa using hS6⟩
      · skip
        refine kOp_eff rfl rfl fun Kv hK => ?_
        go_simp
        refine ⟨hS5.tail, hK _ _ ?_⟩
        clear hK Kv
        refine pb_one 7 (by kernel_rfl) (by kernel_rfl) ?_
        refine kOp_eff rfl rfl fun Kv hK => ?_
        go_simp
        have hS6 := hS5.alloc (iarr (fun _ => 0) x.sats.length) 2
        refine ⟨hS6.tail.tail, hK _ _ ?_⟩
        clear hK Kv
        refine pb_end (by kernel_rfl) ?_
        clear hm1
        go_wp2_with fail
        go_meet
        exact ⟨_, _, rfl, rfl, by simpa using hS6⟩
    · skip
      refine kOp_eff rfl rfl fun Kv hK => ?_
      go_simp
      have hS5 := hS4.alloc (iarr (fun _ => 0) x.sats.length) 2
      refine ⟨hS5.tail, hK _ _ ?_⟩
      clear hK Kv
      refine pb_one 3 (by kernel_rfl) (by kernel_rfl) ?_
      refine kOp_eff rfl rfl fun Kv hK => ?_
      go_simp
      have hS6 := hS5.alloc (iarr (fun _ => 0) x.sats.length) 2
      refine ⟨hS6.tail.tail, hK _ _ ?_⟩
      clear hK Kv
      refine pb_one 8 (by kernel_rfl) (by kernel_rfl) ?_
      refine kOp_eff rfl rfl fun Kv hK => ?_
      go_simp
      refine ⟨hS6.tail.tail, hK _ _ ?_⟩
      clear hK Kv
      refine pb_end (by kernel_rfl) ?_
      clear hm1
      go_wp2_with fail
      go_meet
      exact ⟨_, _, rfl, rfl, by have h := hS6.perm (List.Perm.swap _ _ _); simpa using h⟩
  case rest =>
    clear hS3 HS3
    obtain ⟨db, lb, rfl, rfl, hS⟩ := hcut
    have HS := Lib.hid hS
    have cp0 : wc.cell? ⟨pb, 0, none⟩ = some (.slice TA q.trucks.length tc) := hS.cell 3 rfl 0 (by rw [HPC.out]; rfl)
    clear hS
    go_upto_region 8 with fail
    clear cp0
    go_loopw [63, 8, 9] (fun i v8 v9 wr => ∃ (k : Nat) (R L : Bool) (F : Nat → Int), k ≤ q.trucks.length ∧ i = .int .i64 k ∧ v8 = .bool R ∧ v9 = .bool L ∧ Hid (TruckI x q.trucks k R L F) ∧ SL w w.heap.size [.blk lb (iarr (fun _ => 0) x.sats.length) 2, .blk db (iarr F x.sats.length) 2, .blk vb (iarr (fun _ => 0) x.custs.length) 3, .blk pb pc 30, .blk ib ic 39] wr) (fun i _ _ _ => q.trucks.length - (intOf i).toNat)
    case atStart => exact ⟨0, true, true, _, by omega, rfl, rfl, rfl, Lib.hid (TruckI.start x q.trucks), HS.out⟩
    case round =>
      clear HS
      obtain ⟨k, R, L, F, hk, rfl, rfl, rfl, HTI, hS⟩ := hrel
      by_cases hlt : k < q.trucks.length
      · as_aux_lemma =>
        obtain ⟨b, o, a, c, hTA, hb, d00, hst, hcap⟩ := trucksC_at HTC.out hlt
        have d0 := (hS.below.cell (p := ⟨b, o + k, none⟩) hb).trans d00
        clear d00
        have HFL2 : Hid ((q.trucks.take k).flatten.length + q.trucks[k].length ≤ 100000) := Lib.hid (by have := flatten_le hlt; have := HL.out.stops; omega)
        have htl : q.trucks[k].length ≤ 100000 := by have := HFL2.out; omega
        have HMEM := Lib.hid (List.getElem_mem hlt)
        have HTK := Lib.hid (List.take_succ_eq_append_getElem hlt)
        obtain ⟨t, ht⟩ : ∃ t, q.trucks[k] = t := ⟨_, rfl⟩
        rw [ht] at d0 hst htl hcap HMEM HTK HFL2
        have HST0 := Lib.hid (StopI.start HTI.out HMEM.out)
        have hS2 := hS.alloc #[.slice a t.length c] 49
        have HST := Lib.hid hst
        have HS2 := Lib.hid hS2
        rw [hTA]
        clear ht hst hS hS2 hTA
        go_upto_region 11 with fail
        obtain ⟨tb, htb⟩ : ∃ tb, tb = wr.heap.size := ⟨_, rfl⟩
        generalize (wr.alloc (.cells #[.slice a t.length c] 49)) = w5 at *
        rw [← htb] at HS2 ⊢
        clear htb d0 hb
        obtain ⟨tv, htv⟩ : ∃ tv : Array Value, tv = #[.slice a t.length c] := ⟨_, rfl⟩
        rw [← htv] at HS2
        have HTV := Lib.hid htv
        clear htv
        obtain ⟨dl, hdl⟩ : ∃ dl, decide (0 < t.length) = dl := ⟨_, rfl⟩
        rw [hdl] at HST0
        have HDL := Lib.hid hdl
        clear hdl
        go_cut [8] (fun v8 wx => v8 = .bool (R && dl) ∧ SL w w.heap.size [.blk tb tv 49, .blk lb (iarr (fun _ => 0) x.sats.length) 2, .blk db (iarr F x.sats.length) 2, .blk vb (iarr (fun _ => 0) x.custs.length) 3, .blk pb pc 30, .blk ib ic 39] wx)
        case first =>
          have tc0 : w5.cell? ⟨tb, 0, none⟩ = some (.slice a t.length c) := HS2.out.cell 0 rfl 0 (by rw [HTV.out]; rfl)
          cases R
          case false =>
            go_wp2_with fail
            go_meet
            exact ⟨rfl, HS2.out⟩
          case true =>
            go_wp2_with fail
            go_meet
            exact ⟨by rw [← HDL.out]; simp, HS2.out⟩
        case rest =>
          clear HS2
          obtain ⟨rfl, hS⟩ := hcut
          have HS := Lib.hid hS
          have tc0 : wc.cell? ⟨tb, 0, none⟩ = some (.slice a t.length c) := hS.cell 0 rfl 0 (by rw [HTV.out]; rfl)
          clear hS
          obtain ⟨R1, hR1⟩ : ∃ R1, (R && dl) = R1 := ⟨_, rfl⟩
          rw [hR1] at HST0 ⊢
          clear hR1
          go_upto_region 13 with fail
          clear tc0
          go_loopw [77, 8, 14] (fun i v8 v14 wi => ∃ (j : Nat) (R2 : Bool) (S : Int) (F2 : Nat → Int), j ≤ t.length ∧ i = .int .i64 j ∧ v8 = .bool R2 ∧ v14 = .int .i64 S ∧ Hid (StopI x q.trucks k t R j R2 S F2) ∧ SL w w.heap.size [.blk tb tv 49, .blk lb (iarr (fun _ => 0) x.sats.length) 2, .blk db (iarr F2 x.sats.length) 2, .blk vb (iarr (fun _ => 0) x.custs.length) 3, .blk pb pc 30, .blk ib ic 39] wi) (fun i _ _ _ => t.length - (intOf i).toNat)
          case atStart => exact ⟨0, R1, 0, F, by omega, rfl, rfl, rfl, HST0, HS.out⟩
          case round =>
            clear HS HST0
            obtain ⟨j, R2, S, F2, hj, rfl, rfl, rfl, HSI, hS⟩ := hrel
            by_cases hltj : j < t.length
            · as_aux_lemma =>
              obtain ⟨b2, o2, ha, hb2, e0, e1⟩ := stops_at (Reads.below HST.out hS.below) hltj
              have HNO := Lib.hid (StopI.no HSI.out HMEM.out hltj)
              have HYES := Lib.hid (StopI.yes HSI.out hltj)
              obtain ⟨s, hs⟩ : ∃ s, t[j] = s := ⟨_, rfl⟩
              rw [hs] at e0 e1 HNO HYES
              have hS2 := hS.alloc #[.int .i64 s.sat, .int .i64 s.load] 54
              have HS2 := Lib.hid hS2
              rw [ha]
              clear hs hS hS2 ha
              go_upto_region 15 with fail
              obtain ⟨qb, hqb⟩ : ∃ qb, qb = wr.heap.size := ⟨_, rfl⟩
              generalize (wr.alloc (.cells #[.int .i64 s.sat, .int .i64 s.load] 54)) = w9 at *
              rw [← hqb] at HS2 ⊢
              clear hqb e0 e1 hb2
              obtain ⟨qv, hqv⟩ : ∃ qv : Array Value, qv = #[.int .i64 s.sat, .int .i64 s.load] := ⟨_, rfl⟩
              rw [← hqv] at HS2
              have HQV := Lib.hid hqv
              clear hqv
              obtain ⟨gd, hgd⟩ : ∃ gd, stopGo x.sats.length s R2 = gd := ⟨_, rfl⟩
              rw [hgd] at HNO HYES
              have HGD := Lib.hid hgd
              clear hgd
              have hcf : ∀ args w', (callFunc 49 args).run Try.prog w' = .ok (.enter 49 args) w' := fun _ _ => by simp [go_sem]
              have y0 : w9.cell? ⟨qb, 0, none⟩ = some (.int .i64 s.sat) := HS2.out.cell 0 rfl 0 (by rw [HQV.out]; rfl)
              have y1 : w9.cell? ⟨qb, 1, none⟩ = some (.int .i64 s.load) := HS2.out.cell 0 rfl 1 (by rw [HQV.out]; rfl)
              go_cut [8] (fun v8 wx => v8 = .bool gd ∧ SL w w.heap.size [.blk qb qv 54, .blk tb tv 49, .blk lb (iarr (fun _ => 0) x.sats.length) 2, .blk db (iarr F2 x.sats.length) 2, .blk vb (iarr (fun _ => 0) x.custs.length) 3, .blk pb pc 30, .blk ib ic 39] wx)
              case first =>
                cases R2
                case false =>
                  go_wp2_with fail
                  go_meet
                  exact ⟨by rw [← HGD.out]; rfl, HS2.out⟩
                case true =>
                  have HCT := Lib.hid (there17 s.sat x.sats.length ib p.SA p.sc w9 (HS2.out.cell 6 rfl 5 (by rw [HIC.out]; rfl)))
                  obtain ⟨th, hth⟩ : ∃ th, decide (0 ≤ s.sat ∧ s.sat < (x.sats.length : Int)) = th := ⟨_, rfl⟩
                  rw [hth] at HCT
                  have HTH := Lib.hid hth
                  clear hth
                  cases th
                  case false =>
                    go_wp2_with (go_at_call 49; (with_reducible refine HCT.out.mono ?_); rintro e w10 ⟨rfl, rfl⟩)
                    go_meet
                    exact ⟨by rw [← HGD.out]; unfold stopGo; rw [HTH.out]; rfl, HS2.out⟩
                  case true =>
                    by_cases z4 : 1 ≤ s.load
                    · go_wp2_with (go_at_call 49; (with_reducible refine HCT.out.mono ?_); rintro e w10 ⟨rfl, rfl⟩)
                      go_meet
                      exact ⟨by rw [← HGD.out]; unfold stopGo; rw [HTH.out]; simp [z4], HS2.out⟩
                    · have z4b : s.load < 1 := by omega
                      have HZ4 := Lib.hid z4
                      clear z4
                      go_wp2_with (go_at_call 49; (with_reducible refine HCT.out.mono ?_); rintro e w10 ⟨rfl, rfl⟩)
                      go_meet
                      exact ⟨by rw [← HGD.out]; unfold stopGo; rw [HTH.out]; simp; omega, HS2.out⟩
              case rest =>
                clear HS2 y0 y1 hcf
                obtain ⟨rfl, hS⟩ := hcut
                have HS2 := Lib.hid hS
                have tc0 : wc.cell? ⟨tb, 0, none⟩ = some (.slice a t.length c) := hS.cell 1 rfl 0 (by rw [HTV.out]; rfl)
                clear hS
                have hjc : j ≤ c := by omega
                go_upto_region 17 with fail
                clear tc0
                go_loopw [104, 8] (fun i v8 wi => ∃ m : Nat, m ≤ j ∧ i = .int .i64 m ∧ v8 = .bool (gd && (t.take m).all (fun o => o.sat != s.sat)) ∧ SL w w.heap.size [.blk qb qv 54, .blk tb tv 49, .blk lb (iarr (fun _ => 0) x.sats.length) 2, .blk db (iarr F2 x.sats.length) 2, .blk vb (iarr (fun _ => 0) x.custs.length) 3, .blk pb pc 30, .blk ib ic 39] wi) (fun i _ _ => j - (intOf i).toNat)
                case atStart => exact ⟨0, by omega, rfl, by simp, HS2.out⟩
                case round =>
                  clear HS2
                  obtain ⟨m, hm, rfl, rfl, hS⟩ := hrel
                  by_cases hltm : m < j
                  · have hmt : m < t.length := by omega
                    obtain ⟨b3, o3, ha3, hb3, g0, g1⟩ := stops_at (Reads.below HST.out hS.below) hmt
                    have HB : Hid ((gd && (t.take (m + 1)).all (fun o => o.sat != s.sat)) = ((gd && (t.take m).all (fun o => o.sat != s.sat)) && (t[m].sat != s.sat))) := Lib.hid (by rw [List.take_succ_eq_append_getElem hmt, List.all_append, Bool.and_assoc]; simp)
                    obtain ⟨u, hu⟩ : ∃ u, t[m] = u := ⟨_, rfl⟩
                    rw [hu] at g0 g1 HB
                    obtain ⟨B, hB⟩ : ∃ B, (gd && (t.take m).all (fun o => o.sat != s.sat)) = B := ⟨_, rfl⟩
                    rw [hB] at HB ⊢
                    have y0 : wr.cell? ⟨qb, 0, none⟩ = some (.int .i64 s.sat) := hS.cell 0 rfl 0 (by rw [HQV.out]; rfl)
                    have hzq := (hS.lt 0 rfl).2
                    have HS2 := Lib.hid (hS.alloc #[.int .i64 u.sat, .int .i64 u.load] 54)
                    rw [ha3]
                    clear hu hB hS ha3
                    cases B
                    case false =>
                      go_wp2_with fail
                      go_roundw
                      case rel => exact ⟨m + 1, by omega, by go_num, by rw [HB.out]; rfl, HS2.out.tail⟩
                      case measure => simp [intOf]; omega
                    case true =>
                      go_wp2_with fail
                      go_roundw
                      case rel => exact ⟨m + 1, by omega, by go_num, by rw [HB.out]; rfl, HS2.out.tail⟩
                      case measure => simp [intOf]; omega
                  · obtain rfl : j = m := by omega
                    obtain ⟨B, hB⟩ : ∃ B, (gd && (t.take j).all (fun o => o.sat != s.sat)) = B := ⟨_, rfl⟩
                    rw [hB] at HNO HYES ⊢
                    have HS2 := Lib.hid hS
                    clear hB hS hltm
                    cases B
                    case false =>
                      have HN := Lib.hid (HNO.out rfl S F2)
                      go_wp2_with fail
                      go_roundw
                      case rel => exact ⟨j + 1, false, S, F2, by omega, by go_num, rfl, rfl, HN, HS2.out.tail⟩
                      case measure => simp [intOf]; omega
                    case true =>
                      obtain ⟨rfl, hsat, hld, hsn⟩ := HYES.out rfl
                      obtain ⟨hbs, hbf⟩ := StopI.bound HSI.out HTI.out hj HFL2.out
                      obtain ⟨hbs0, hbs1⟩ := hbs
                      obtain ⟨ld0, ld1⟩ := hld
                      obtain ⟨sq, hsq⟩ : ∃ sq : Nat, s.sat = sq := ⟨s.sat.toNat, by omega⟩
                      rw [hsq] at hsat hsn
                      rw [Int.toNat_natCast] at hsn
                      have hsl : sq < x.sats.length := by omega
                      have hfb := hbf sq
                      obtain ⟨Fs, hFs⟩ : ∃ Fs, F2 sq = Fs := ⟨_, rfl⟩
                      rw [hFs] at hfb hsn
                      obtain ⟨fb0, fb1⟩ := hfb
                      have HFS := Lib.hid hFs
                      have HSN := Lib.hid hsn
                      have HSQ := Lib.hid hsq
                      have y1 : wr.cell? ⟨qb, 1, none⟩ = some (.int .i64 s.load) := HS2.out.cell 0 rfl 1 (by rw [HQV.out]; rfl)
                      have hs1 : (sq : Int) < (x.sats.length : Int) := by omega
                      have hs2 : (0 : Int) ≤ (sq : Int) := by omega
                      clear hsat hsn hsq hFs hbf
                      go_upto_region 23 with fail
                      clear y1
                      refine wp_region_sl [0,1,2,3,4,5,6,7] [] [8,9] _ HS2.out (List.Sublist.refl _) (by kernel_rfl) (by kernel_rfl) (.cons rfl (.cons rfl .nil)) (fun C cw _ hC => ?_)
                      have q0 : ∀ c, (cw c).cell? ⟨qb, 0, none⟩ = some (.int .i64 sq) := fun c => (hC c).cell 0 rfl 0 (by rw [HQV.out, HSQ.out]; rfl)
                      have q1 : ∀ c, (cw c).cell? ⟨qb, 1, none⟩ = some (.int .i64 s.load) := fun c => (hC c).cell 0 rfl 1 (by rw [HQV.out]; rfl)
                      have q2 : ∀ c, (cw c).cell? ⟨db, sq, none⟩ = some (.int .i64 Fs) := fun c => (hC c).cell 3 rfl sq (by rw [iarr_get _ _ _ hsl, HFS.out])
                      repeat (refine pl_look rfl rfl rfl (fun Kv hK => ?_); go_big_quiet_op; refine hK _ ?_; clear hK Kv)
                      clear q0 q1 q2 hC HS2
                      refine pl_end ?_
                      intro w11 hS5
                      refine pm_end ?_
                      have y3 : w11.cell? ⟨db, sq, none⟩ = some (.int .i64 Fs) := hS5.cell 3 rfl sq (by rw [iarr_get _ _ _ hsl, HFS.out])
                      have y2 := hS5.free 3 rfl sq
                      have HS6 := Lib.hid (hS5.setInt 3 rfl sq (Fs + s.load))
                      clear hS5
                      go_wp2_with fail
                      go_roundw
                      case rel => exact ⟨j + 1, true, S + s.load, _, by omega, by go_num, rfl, by go_num, HSN, HS6.out.tail⟩
                      case measure => simp [intOf]; omega
            · obtain rfl : j = t.length := by omega
              have HNX := Lib.hid (TruckI.next HSI.out HTI.out HTK.out)
              have yi2 : wr.cell? ⟨ib, 2, none⟩ = some (.int .i64 x.tr) := hS.cell 5 rfl 2 (by rw [HIC.out]; rfl)
              have HS2 := Lib.hid hS
              clear hS hltj
              cases L
              case false =>
                go_wp2_with fail
                go_roundw
                case rel => exact ⟨k + 1, R2, false, F2, by omega, by go_num, rfl, rfl, HNX, HS2.out.tail⟩
                case measure => simp [intOf]; omega
              case true =>
                go_wp2_with fail
                go_roundw
                case rel => exact ⟨k + 1, R2, decide (S ≤ x.tr), F2, by omega, by go_num, rfl, rfl, HNX, HS2.out.tail⟩
                case measure => simp [intOf]; omega

      · obtain rfl : k = q.trucks.length := by omega
        have HBI := Lib.hid (BikeI.start HTI.out)
        have bp1 : wr.cell? ⟨pb, 1, none⟩ = some (.slice BA q.bikes.length bc) := hS.cell 3 rfl 1 (by rw [HPC.out]; rfl)
        have HS := Lib.hid hS
        clear hS hlt HTI
        go_upto_region 28 with fail
        clear bp1
        go_loopw [144, 8, 9] (fun i v8 v9 wr => ∃ (k : Nat) (R L : Bool) (G V : Nat → Int), k ≤ q.bikes.length ∧ i = .int .i64 k ∧ v8 = .bool R ∧ v9 = .bool L ∧ Hid (BikeI x q k R L F G V) ∧ SL w w.heap.size [.blk lb (iarr G x.sats.length) 2, .blk db (iarr F x.sats.length) 2, .blk vb (iarr V x.custs.length) 3, .blk pb pc 30, .blk ib ic 39] wr) (fun i _ _ _ => q.bikes.length - (intOf i).toNat)
        case atStart => exact ⟨0, R, L, _, _, by omega, rfl, rfl, rfl, HBI, HS.out⟩
        case round =>
          clear HS HBI
          obtain ⟨k, R, L, G, V, hk, rfl, rfl, rfl, HBI, hS⟩ := hrel
          by_cases hlt : k < q.bikes.length
          · as_aux_lemma =>
            obtain ⟨b, o, a, c, hBA, hb, d00, d01, hst⟩ := bikes_at HP.out.bikes hlt
            have d0 := (hS.below.cell (p := ⟨b, o + k * 2, none⟩) hb).trans d00
            have d1 := (hS.below.cell (p := ⟨b, o + k * 2 + 1, none⟩) hb).trans d01
            clear d00 d01
            have HPL : Hid ((pairsOf (q.bikes.take k)).length + q.bikes[k].stops.length ≤ 100000) := Lib.hid (by have := stops_le hlt; have := pairsOf_len (q.bikes.take k); have := HL.out.custs; omega)
            have htl : q.bikes[k].stops.length ≤ 100000 := by have := HPL.out; omega
            obtain ⟨t, ht⟩ : ∃ t, q.bikes[k] = t := ⟨_, rfl⟩
            have HT := Lib.hid ht
            rw [ht] at d0 d1 hst htl HPL
            have HK := Lib.hid hlt
            have HST0 := Lib.hid (BStopI.start HBI.out hlt ht)
            have HST := Lib.hid hst
            have HS2 := Lib.hid (hS.alloc #[.int .i64 t.sat, .slice a t.stops.length c] 46)
            rw [hBA]
            clear ht hst hS hBA
            go_upto_region 31 with fail
            obtain ⟨tb, htb⟩ : ∃ tb, tb = wr.heap.size := ⟨_, rfl⟩
            generalize (wr.alloc (.cells #[.int .i64 t.sat, .slice a t.stops.length c] 46)) = w5 at *
            rw [← htb] at HS2 ⊢
            clear htb d0 d1 hb
            obtain ⟨tv, htv⟩ : ∃ tv : Array Value, tv = #[.int .i64 t.sat, .slice a t.stops.length c] := ⟨_, rfl⟩
            rw [← htv] at HS2
            have HTV := Lib.hid htv
            clear htv
            obtain ⟨dl, hdl⟩ : ∃ dl, decide (0 < t.stops.length) = dl := ⟨_, rfl⟩
            obtain ⟨th, hth⟩ : ∃ th, decide (0 ≤ t.sat ∧ t.sat < (x.sats.length : Int)) = th := ⟨_, rfl⟩
            rw [hdl, hth] at HST0
            have HDL := Lib.hid hdl
            have HCT0 : Hid (∀ wq : World, wq.cell? ⟨ib, 5, none⟩ = some (.slice p.SA x.sats.length p.sc) → Calls Try.prog 49 #[.int .i64 t.sat, .pointer (some ⟨ib, 0, none⟩)] wq fun e w' => e = .returned (.bool th) ∧ wq = w') := Lib.hid (fun wq h => by
              have := there17 t.sat x.sats.length ib p.SA p.sc wq h
              rw [hth] at this
              exact this)
            clear hdl hth
            go_cut [8] (fun v8 wx => v8 = .bool (R && (dl && th)) ∧ SL w w.heap.size [.blk tb tv 46, .blk lb (iarr G x.sats.length) 2, .blk db (iarr F x.sats.length) 2, .blk vb (iarr V x.custs.length) 3, .blk pb pc 30, .blk ib ic 39] wx)
            case first =>
              have tc0 : w5.cell? ⟨tb, 0, none⟩ = some (.int .i64 t.sat) := HS2.out.cell 0 rfl 0 (by rw [HTV.out]; rfl)
              have tc1 : w5.cell? ⟨tb, 1, none⟩ = some (.slice a t.stops.length c) := HS2.out.cell 0 rfl 1 (by rw [HTV.out]; rfl)
              have HCT := Lib.hid (HCT0.out w5 (HS2.out.cell 5 rfl 5 (by rw [HIC.out]; rfl)))
              have hcf : ∀ args w', (callFunc 49 args).run Try.prog w' = .ok (.enter 49 args) w' := fun _ _ => by simp [go_sem]
              cases R
              case false =>
                go_wp2_with fail
                go_meet
                exact ⟨rfl, HS2.out⟩
              case true =>
                cases dl
                case false =>
                  have hz0 : t.stops.length = 0 := by have := HDL.out; simpa using this
                  have HZ0 := Lib.hid hz0
                  have hz1 : ¬ (0 < t.stops.length) := by omega
                  clear hz0
                  go_wp2_with fail
                  go_meet
                  exact ⟨rfl, HS2.out⟩
                case true =>
                  have hz1 : 0 < t.stops.length := by have := HDL.out; simpa using this
                  go_wp2_with (go_at_call 49; (with_reducible refine HCT.out.mono ?_); rintro e w10 ⟨rfl, rfl⟩)
                  go_meet
                  exact ⟨by simp, HS2.out⟩
            case rest =>
              clear HS2
              obtain ⟨rfl, hS⟩ := hcut
              have HS := Lib.hid hS
              have tc1 : wc.cell? ⟨tb, 1, none⟩ = some (.slice a t.stops.length c) := hS.cell 0 rfl 1 (by rw [HTV.out]; rfl)
              clear hS HCT0
              obtain ⟨R1, hR1⟩ : ∃ R1, (R && (dl && th)) = R1 := ⟨_, rfl⟩
              rw [hR1] at HST0 ⊢
              clear hR1
              go_upto_region 33 with fail
              clear tc1
              go_loopw [164, 8, 21] (fun i v8 v21 wi => ∃ (j : Nat) (R2 : Bool) (S : Int) (G2 V2 : Nat → Int), j ≤ t.stops.length ∧ i = .int .i64 j ∧ v8 = .bool R2 ∧ v21 = .int .i64 S ∧ Hid (BStopI x q k t R j R2 S G2 V2) ∧ SL w w.heap.size [.blk tb tv 46, .blk lb (iarr G2 x.sats.length) 2, .blk db (iarr F x.sats.length) 2, .blk vb (iarr V2 x.custs.length) 3, .blk pb pc 30, .blk ib ic 39] wi) (fun i _ _ _ => t.stops.length - (intOf i).toNat)
              case atStart => exact ⟨0, R1, 0, G, V, by omega, rfl, rfl, rfl, HST0, HS.out⟩
              case round =>
                clear HS HST0
                obtain ⟨j, R2, S, G2, V2, hj, rfl, rfl, rfl, HSI, hS⟩ := hrel
                by_cases hltj : j < t.stops.length
                · as_aux_lemma =>
                  obtain ⟨b2, o2, ha, hb2, e00⟩ := ints_at HST.out hltj
                  have e0 := (hS.below.cell (p := ⟨b2, o2 + j, none⟩) hb2).trans e00
                  clear e00
                  have HNO := Lib.hid (BStopI.no HSI.out HK.out HT.out hltj)
                  obtain ⟨s, hs⟩ : ∃ s, t.stops[j] = s := ⟨_, rfl⟩
                  have HSJ := Lib.hid hs
                  rw [hs] at e0 HNO
                  have HLJ := Lib.hid hltj
                  rw [ha]
                  have HS2 := Lib.hid hS
                  clear hs ha hS
                  cases R2
                  case false =>
                    have HN := Lib.hid (HNO.out (fun h => by cases h) S G2 V2)
                    go_wp2_with fail
                    go_roundw
                    case rel => exact ⟨j + 1, false, S, G2, V2, by omega, by go_num, rfl, rfl, HN, HS2.out⟩
                    case measure => simp [intOf]; omega
                  case true =>
                    by_cases z1 : 0 ≤ s
                    case neg =>
                      have HN := Lib.hid (HNO.out (fun _ h => z1 h.1) S G2 V2)
                      have z1b : s < 0 := by omega
                      clear z1
                      go_wp2_with fail
                      go_roundw
                      case rel => exact ⟨j + 1, false, S, G2, V2, by omega, by go_num, rfl, rfl, HN, HS2.out⟩
                      case measure => simp [intOf]; omega
                    case pos =>
                      by_cases z2 : s < (x.custs.length : Int)
                      case neg =>
                        have HN := Lib.hid (HNO.out (fun _ h => z2 h.2) S G2 V2)
                        have z2b : (x.custs.length : Int) ≤ s := by omega
                        clear z2
                        go_wp2_with fail
                        go_roundw
                        case rel => exact ⟨j + 1, false, S, G2, V2, by omega, by go_num, (by rw [show decide (s < (x.custs.length : Int)) = false from decide_eq_false (by omega)]), rfl, HN, HS2.out⟩
                        case measure => simp [intOf]; omega
                      case pos =>
                        obtain ⟨cq, rfl⟩ : ∃ n : Nat, s = n := ⟨s.toNat, by omega⟩
                        obtain ⟨hbs, hbg, hbv, hsat⟩ := BStopI.bound HSI.out HCL.out HPL.out hj
                        obtain ⟨hbs0, hbs1⟩ := hbs
                        obtain ⟨sq, hsq⟩ : ∃ n : Nat, t.sat = n := ⟨t.sat.toNat, by omega⟩
                        have hcn : cq < x.custs.length := by omega
                        have hsl : sq < x.sats.length := by omega
                        have HY := Lib.hid (BStopI.yes HSI.out HK.out HT.out HLJ.out cq sq HSJ.out hcn hsq)
                        obtain ⟨b3, o3, hCA, hb3, f00, _, _, _⟩ := custs_at HI.out.custs hcn
                        have hld := HCL.out _ (List.getElem_mem hcn)
                        obtain ⟨ld, hld2⟩ : ∃ ld, x.custs[cq].load = ld := ⟨_, rfl⟩
                        rw [hld2] at f00 HY hld
                        obtain ⟨ld0, ld1⟩ := hld
                        have hgb := hbg sq
                        obtain ⟨Gs, hGs⟩ : ∃ Gs, G2 sq = Gs := ⟨_, rfl⟩
                        rw [hGs] at hgb HY
                        have HGS := Lib.hid hGs
                        obtain ⟨gb0, gb1⟩ := hgb
                        have hvb2 := hbv cq
                        obtain ⟨Vc, hVc⟩ : ∃ Vc, V2 cq = Vc := ⟨_, rfl⟩
                        rw [hVc] at hvb2 HY
                        have HVC := Lib.hid hVc
                        obtain ⟨vb0, vb1⟩ := hvb2
                        have HSQ := Lib.hid hsq
                        have HF0 := Lib.hid (And.intro hb3 f00)
                        have HCA := Lib.hid hCA
                        have hs1 : (sq : Int) < (x.sats.length : Int) := by omega
                        have hs2 : (0 : Int) ≤ (sq : Int) := by omega
                        have y1 : wr.cell? ⟨vb, cq, none⟩ = some (.int .i64 Vc) := HS2.out.cell 3 rfl cq (by rw [iarr_get _ _ _ hcn, HVC.out])
                        have y2 := HS2.out.free 3 rfl cq
                        have HS3 := Lib.hid (HS2.out.setInt 3 rfl cq (Vc + 1))
                        clear hbg hbv hsat hsq hld2 hGs hVc f00 hCA hb3
                        go_upto_region 38 with fail
                        generalize (wr.setCell ⟨vb, cq, none⟩ (.int .i64 (Vc + 1))) = w6 at *
                        clear y1 y2 e0 HS2
                        have y3 : w6.cell? ⟨vb, cq, none⟩ = some (.int .i64 (Vc + 1)) := HS3.out.cell 3 rfl cq (by rw [iarr_get _ _ _ hcn, if_pos rfl])
                        have y4 : w6.cell? ⟨ib, 6, none⟩ = some (.slice (some ⟨b3, o3, none⟩) x.custs.length p.cc) := HS3.out.cell 5 rfl 6 (by rw [HIC.out, ← HCA.out]; rfl)
                        have y5 : w6.cell? ⟨b3, o3 + cq * 4, none⟩ = some (.int .i64 ld) := (HS3.out.below.cell (p := ⟨b3, o3 + cq * 4, none⟩) HF0.out.1).trans HF0.out.2
                        go_upto_region 40 with fail
                        clear y3 y4 y5
                        refine wp_region_sl [0,1,2,3,4,5,6,7,8,9,10,11] [] [12,13] _ HS3.out (List.Sublist.refl _) (by kernel_rfl) (by kernel_rfl) (.cons rfl (.cons rfl .nil)) (fun C cw _ hC => ?_)
                        have q0 : ∀ c, (cw c).cell? ⟨tb, 0, none⟩ = some (.int .i64 sq) := fun c => (hC c).cell 0 rfl 0 (by rw [HTV.out, HSQ.out]; rfl)
                        have q1 : ∀ c, (cw c).cell? ⟨lb, sq, none⟩ = some (.int .i64 Gs) := fun c => (hC c).cell 1 rfl sq (by rw [iarr_get _ _ _ hsl, HGS.out])
                        have q2 : ∀ c, (cw c).cell? ⟨ib, 6, none⟩ = some (.slice (some ⟨b3, o3, none⟩) x.custs.length p.cc) := fun c => (hC c).cell 5 rfl 6 (by rw [HIC.out, ← HCA.out]; rfl)
                        have q3 : ∀ c, (cw c).cell? ⟨b3, o3 + cq * 4, none⟩ = some (.int .i64 ld) := fun c => ((hC c).below.cell (p := ⟨b3, o3 + cq * 4, none⟩) HF0.out.1).trans HF0.out.2
                        repeat (refine pl_look rfl rfl rfl (fun Kv hK => ?_); go_big_quiet_op; refine hK _ ?_; clear hK Kv)
                        clear q0 q1 q2 q3 hC HS3
                        refine pl_end ?_
                        intro w11 hS5
                        refine pm_end ?_
                        have y3 : w11.cell? ⟨lb, sq, none⟩ = some (.int .i64 Gs) := hS5.cell 1 rfl sq (by rw [iarr_get _ _ _ hsl, HGS.out])
                        have y2 := hS5.free 1 rfl sq
                        have HS6 := Lib.hid (hS5.setInt 1 rfl sq (Gs + ld))
                        clear hS5
                        go_wp2_with fail
                        go_roundw
                        case rel => exact ⟨j + 1, decide (Vc + 1 = 1), S + ld, _, _, by omega, by go_num, rfl, rfl, HY, HS6.out⟩
                        case measure => simp [intOf]; omega
                · obtain rfl : j = t.stops.length := by omega
                  have HNX := Lib.hid (BikeI.next HSI.out HBI.out HK.out HT.out)
                  have yi2 : wr.cell? ⟨ib, 4, none⟩ = some (.int .i64 x.br) := hS.cell 5 rfl 4 (by rw [HIC.out]; rfl)
                  have HS2 := Lib.hid hS
                  clear hS hltj
                  cases L
                  case false =>
                    go_wp2_with fail
                    go_roundw
                    case rel => exact ⟨k + 1, R2, false, G2, V2, by have := HK.out; omega, by go_num, rfl, rfl, HNX, HS2.out.tail⟩
                    case measure => simp [intOf]; have := HK.out; omega
                  case true =>
                    go_wp2_with fail
                    go_roundw
                    case rel => exact ⟨k + 1, R2, decide (S ≤ x.br), G2, V2, by have := HK.out; omega, by go_num, rfl, rfl, HNX, HS2.out.tail⟩
                    case measure => simp [intOf]; have := HK.out; omega
          · obtain rfl : k = q.bikes.length := by omega
            cases R
            case false =>
              have HV : Hid (planCode x q = 15) := Lib.hid (by have h := HBI.out.2 rfl; unfold planCode; rw [HFL.out, h]; rfl)
              have HS := Lib.hid hS
              clear hS hlt
              go_wp2_with fail
              go_ret
              exact ⟨retInt HV.out.symm, HS.out.below⟩
            case true =>
              as_aux_lemma =>
              obtain ⟨hro, hlo, hF, hG, hV⟩ := BikeI.done HBI.out
              have HRO := Lib.hid hro
              have HLO := Lib.hid hlo
              have HFQ := Lib.hid hF
              have HGQ := Lib.hid hG
              have HVQ := Lib.hid hV
              have HS := Lib.hid hS
              clear hS hlt hro hlo hF hG hV
              go_upto_region 47 with fail
              go_loop [225] (fun i => ∃ k : Nat, k ≤ x.custs.length ∧ i = .int .i64 k ∧ Hid (∀ c, c < k → V c ≠ 0)) (fun i => x.custs.length - (intOf i).toNat)
              case atStart => exact ⟨0, by omega, rfl, Lib.hid (fun s h => absurd h (by omega))⟩
              case round =>
                obtain ⟨k, hk, rfl, HNZ⟩ := hrel
                by_cases hlt : k < x.custs.length
                · have y1 : wr.cell? ⟨vb, k, none⟩ = some (.int .i64 (V k)) := HS.out.cell 2 rfl k (by rw [iarr_get _ _ _ hlt])
                  obtain ⟨vk, hvk⟩ : ∃ vk, V k = vk := ⟨_, rfl⟩
                  rw [hvk] at y1
                  have HVK := Lib.hid hvk
                  clear hvk
                  by_cases hv0 : vk = 0
                  · subst hv0
                    have HV : Hid (planCode x q = 8) := Lib.hid (by
                      have h := all_no (bs := q.bikes) hlt (by rw [← HVQ.out]; exact HVK.out)
                      unfold planCode; rw [HFL.out, HRO.out, h]; rfl)
                    go_wp2_with fail
                    go_ret
                    exact ⟨retInt HV.out.symm, HS.out.below⟩
                  · have HN : Hid (∀ c, c < k + 1 → V c ≠ 0) := Lib.hid (fun c h => by
                      by_cases e : c = k
                      · subst e; rw [HVK.out]; exact hv0
                      · exact HNZ.out c (by omega))
                    go_wp2_with fail
                    go_round
                    case rel => exact ⟨k + 1, by omega, by go_num, HN⟩
                    case measure => simp [intOf]; omega
                · obtain rfl : k = x.custs.length := by omega
                  have HAL : Hid (allB x.custs.length q.bikes = true) := Lib.hid (all_yes (fun c hc => by rw [← HVQ.out]; exact HNZ.out c hc))
                  clear hlt HNZ
                  go_upto_region 53 with fail
                  go_loop [234, 9] (fun i v9 => ∃ k : Nat, k ≤ x.sats.length ∧ i = .int .i64 k ∧ v9 = .bool (L && roomsK x q.bikes k)) (fun i _ => x.sats.length - (intOf i).toNat)
                  case atStart => exact ⟨0, by omega, rfl, by simp [roomsK]⟩
                  case round =>
                    obtain ⟨k, hk, rfl, rfl⟩ := hrel
                    by_cases hlt : k < x.sats.length
                    · have HRS := Lib.hid (roomsK_succ (bs := q.bikes) hlt)
                      have y1 : wr.cell? ⟨lb, k, none⟩ = some (.int .i64 (G k)) := HS.out.cell 0 rfl k (by rw [iarr_get _ _ _ hlt])
                      rw [← HGQ.out] at HRS
                      obtain ⟨b2, o2, hSA, hb2, d0, d1⟩ := sats_at (Reads.below HI.out.sats HS.out.below) hlt
                      obtain ⟨rm, hrm⟩ : ∃ rm, x.sats[k].room = rm := ⟨_, rfl⟩
                      rw [hrm] at d0 HRS
                      obtain ⟨gk, hgk⟩ : ∃ gk, G k = gk := ⟨_, rfl⟩
                      rw [hgk] at y1 HRS
                      have y5 : wr.cell? ⟨ib, 5, none⟩ = some (.slice (some ⟨b2, o2, none⟩) x.sats.length p.sc) := HS.out.cell 4 rfl 5 (by rw [HIC.out, ← hSA]; rfl)
                      obtain ⟨B, hB⟩ : ∃ B, (L && roomsK x q.bikes k) = B := ⟨_, rfl⟩
                      have HB1 : Hid ((L && roomsK x q.bikes (k + 1)) = (B && decide (gk ≤ rm))) := Lib.hid (by rw [HRS.out, ← Bool.and_assoc, hB])
                      rw [hB]
                      clear hrm hgk hSA hB d1
                      cases B
                      case false =>
                        go_wp2_with fail
                        go_round
                        case rel => exact ⟨k + 1, by omega, by go_num, by rw [HB1.out]; rfl⟩
                        case measure => simp [intOf]; omega
                      case true =>
                        go_wp2_with fail
                        go_round
                        case rel => exact ⟨k + 1, by omega, by go_num, by rw [HB1.out]; rfl⟩
                        case measure => simp [intOf]; omega
                    · obtain rfl : k = x.sats.length := by omega
                      have HRK : Hid ((L && roomsK x q.bikes x.sats.length) = (loadsB x q && roomsB x q)) := Lib.hid (by rw [HLO.out]; rfl)
                      rw [HRK.out]
                      obtain ⟨l1, hl1⟩ : ∃ l1, loadsB x q = l1 := ⟨_, rfl⟩
                      obtain ⟨l2, hl2⟩ : ∃ l2, roomsB x q = l2 := ⟨_, rfl⟩
                      have HL1 := Lib.hid hl1
                      have HL2 := Lib.hid hl2
                      have HV10 : Hid ((l1 && l2) = false → planCode x q = 10) := Lib.hid (fun h => by
                        unfold planCode
                        rw [HFL.out, HRO.out, HAL.out, hl1, hl2]
                        cases l1
                        · rfl
                        · cases l2
                          · rfl
                          · cases h)
                      rw [hl1, hl2]
                      obtain ⟨B, hB⟩ : ∃ B, (l1 && l2) = B := ⟨_, rfl⟩
                      rw [hB] at HV10 ⊢
                      have HBB := Lib.hid hB
                      clear hlt hl1 hl2 hB
                      cases B
                      case false =>
                        have HV := Lib.hid (HV10.out rfl)
                        go_wp2_with fail
                        go_ret
                        exact ⟨retInt HV.out.symm, HS.out.below⟩
                      case true =>
                        have HLR : Hid (l1 = true ∧ l2 = true) := Lib.hid (by have := HBB.out; simpa using this)
                        have hS := HS.out
                        have HEQ := Lib.hid (equalA_int64s (some ⟨lb, 0, none⟩) (some ⟨db, 0, none⟩) x.sats.length x.sats.length ((List.range x.sats.length).map G) ((List.range x.sats.length).map F) wr (reads_row (hS.blk 0 rfl)) (reads_row (hS.blk 1 rfl)) (by unfold maxLen; simp; omega) (by unfold maxLen; simp; omega))
                        rw [List.length_map, List.length_range, List.length_map, List.length_range, same_rows] at HEQ
                        have HSAME : Hid (sameB x q = (List.range x.sats.length).all fun s => decide (G s = F s)) := Lib.hid (by unfold sameB; rw [HGQ.out, HFQ.out])
                        obtain ⟨sb, hsb⟩ : ∃ sb, ((List.range x.sats.length).all fun s => decide (G s = F s)) = sb := ⟨_, rfl⟩
                        rw [hsb] at HEQ HSAME
                        clear hS hsb
                        go_wp2_with (go_at_call 27; (with_reducible refine HEQ.out.mono ?_); rintro e w7 ⟨rfl, hb⟩
                                     have HB7 := Lib.hid (HS.out.call hb).below
                                     clear hb
                                     cases sb)
                        · have HV : Hid (planCode x q = 13) := Lib.hid (by unfold planCode; rw [HFL.out, HRO.out, HAL.out, HL1.out, HL2.out, HLR.out.1, HLR.out.2, HSAME.out]; rfl)
                          go_wp2_with fail
                          go_ret
                          exact ⟨retInt HV.out.symm, HB7.out⟩
                        · have HV : Hid (planCode x q = 0) := Lib.hid (by unfold planCode; rw [HFL.out, HRO.out, HAL.out, HL1.out, HL2.out, HLR.out.1, HLR.out.2, HSAME.out]; rfl)
                          go_wp2_with fail
                          go_ret
                          exact ⟨retInt HV.out.symm, HB7.out⟩

end Go.Proofs.Ytjpejclfppbboaa
