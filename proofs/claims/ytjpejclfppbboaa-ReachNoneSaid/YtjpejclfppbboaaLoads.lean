/- The walks of plan.Loads and Plan.drops. (printed by gen/loads.py) -/
import Derived.Test.YtjpejclfppbboaaPlanT
import Derived.Test.YtjpejclfppbboaaIarr
namespace Go.Proofs.Ytjpejclfppbboaa
open Go.ChangeShapes Go.WideShapes Go.ChangeAt Go.RowKit
set_option linter.unusedVariables false
def RowPost (w : World) (n : Nat) (f : Nat → Int) (e : Ending) (w' : World) : Prop :=
  ∃ g, e = .returned (.slice (some ⟨g, 0, none⟩) n n) ∧ SL w w.heap.size [.blk g (iarr f n) 2] w'
theorem loadStep_no {ns : Nat} {cs : List CustV} {f : Nat → Int} {q : Int × Int} (h : (q.1 < 0 ∨ (ns : Int) ≤ q.1) ∨ q.2 < 0 ∨ (cs.length : Int) ≤ q.2) : loadStep ns cs f q = f := by
  unfold loadStep
  rw [if_neg (by omega)]
theorem loadStep_yes {ns : Nat} {cs : List CustV} {f : Nat → Int} {a b : Nat} (h1 : a < ns) (h2 : b < cs.length) : loadStep ns cs f ((a : Int), (b : Int)) = addAt f a cs[b].load := by
  unfold loadStep
  rw [if_pos (by simp; omega)]
  congr 1
  unfold custLoad; simp [h2]
theorem zero_row (n : Nat) : Array.replicate n (Value.int .i64 0) = iarr (fun _ => 0) n := by
  rw [← madeCells_one (.int .i64 0) n rfl]
  show madeCells #[Value.int .i64 0] n = _
  rw [iarr_made]
set_option maxRecDepth 100000 in
set_option maxHeartbeats 8000000 in
theorem loads_any (x : InstV) (p : IAt) (BA : Option Addr) (bc : Nat) (bs : List BikeV) (w : World) (hT : Bikes w w.heap.size BA bs) (hI : InstIn w w.heap.size p x) (hx : x.Small) (hL1 : bs.length ≤ 100000) (hL2 : (allStops bs).length ≤ 100000) :
    Calls Try.prog 40 #[.agg (x.cells p), .slice BA bs.length bc] w (RowPost w x.sats.length (loadsOf x bs)) := by
  have HT := Lib.hid hT
  have HI := Lib.hid hI
  have HL2 := Lib.hid hL2
  have hnc := hx.custs
  obtain ⟨hnc0, hnc1⟩ := hnc
  have hns := hx.sats
  obtain ⟨hns0, hns1⟩ := hns
  have HCL : Hid (∀ c ∈ x.custs, 1 ≤ c.load ∧ c.load ≤ 20) := Lib.hid (fun c hc => (hx.custsIn c hc).1)
  obtain ⟨i0, hi0, hz0, hz1, hz2⟩ := info_parts info_i64
  have HII := Lib.hid (And.intro hi0 (And.intro hz0 (And.intro hz1 hz2)))
  have hS0 := (SL.start (Nat.le_refl w.heap.size)).alloc (x.cells p) 39
  have HS0 := Lib.hid hS0
  obtain ⟨ns, hnsq⟩ : ∃ ns, x.sats.length = ns := ⟨_, rfl⟩
  have HNS := Lib.hid hnsq
  unfold RowPost loadsOf
  rw [hnsq] at hns0 hns1 ⊢
  clear hT hI hL2 hx hS0 hi0 hz0 hz1 hz2
  unfold InstV.cells
  rw [hnsq]
  clear hnsq
  go_enter Try.func40, Try.ntmps40
  go_upto_region 3 with (at_make; refine wpList_make_rep _ rfl _ _ 51 rfl 2 i0 (.int .i64 0) Try.underlying51 HII.out.1 HII.out.2.1 HII.out.2.2.1 rfl .i64 .i64 ns ns ns rfl rfl rfl rfl ?b2 ?b3 ?_
                         case b2 => rw [HII.out.2.2.2]; omega
                         case b3 => unfold maxLen; omega
                         intro w4 hg4 hb4 hz4
                         rw [zero_row] at hg4
                         have hS0 := HS0.out
                         unfold InstV.cells at hS0
                         rw [HNS.out] at hS0
                         have HS4 := Lib.hid (hS0.made hb4 hg4)
                         clear hg4 hb4 hz4 hS0)
  obtain ⟨ib, hib⟩ : ∃ ib, ib = w.heap.size := ⟨_, rfl⟩
  obtain ⟨ob, hob⟩ : ∃ ob, ob = w.heap.size + 1 := ⟨_, rfl⟩
  have HS1 : Hid (SL w w.heap.size [.blk ob (iarr (loadsP ns x.custs []) ns) 2, .blk ib (x.cells p) 39] w4) := Lib.hid (by
    have h := HS4.out
    rw [hib, hob]
    unfold InstV.cells
    rw [HNS.out]
    unfold loadsP; rw [List.foldl_nil]; simpa using h)
  first | rw [← hob] | simp only [← hob]
  first | rw [← hib] | skip
  clear hib hob HS0 HS4
  go_loopw [16] (fun i wr => ∃ k : Nat, k ≤ bs.length ∧ i = .int .i64 k ∧ SL w w.heap.size [.blk ob (iarr (loadsP ns x.custs (pairsOf (bs.take k))) ns) 2, .blk ib (x.cells p) 39] wr) (fun i _ => bs.length - (intOf i).toNat)
  case atStart => exact ⟨0, by omega, rfl, HS1.out⟩
  case round =>
    clear HS1
    obtain ⟨k, hk, rfl, hS⟩ := hrel
    by_cases hlt : k < bs.length
    · obtain ⟨b, o, a, c, hBA, hb, d00, d01, hst⟩ := bikes_at HT.out hlt
      have d0 := (hS.below.cell (p := ⟨b, o + k * 2, none⟩) hb).trans d00
      have d1 := (hS.below.cell (p := ⟨b, o + k * 2 + 1, none⟩) hb).trans d01
      clear d00 d01
      have htl := stops_le hlt
      have hpl := pairsOf_len (bs.take k)
      have HPL : Hid ((pairsOf (bs.take k)).length + bs[k].stops.length ≤ 100000) := Lib.hid (by have := HL2.out; omega)
      have htl2 : bs[k].stops.length ≤ 100000 := by have := HL2.out; omega
      have HPS := Lib.hid (pairsOf_succ hlt)
      clear htl hpl
      obtain ⟨t, ht⟩ : ∃ t, bs[k] = t := ⟨_, rfl⟩
      rw [ht] at d0 d1 hst htl2 HPL HPS
      obtain ⟨PK, hPK⟩ : ∃ PK, pairsOf (bs.take k) = PK := ⟨_, rfl⟩
      rw [hPK] at HPL HPS hS
      have hS2 := hS.alloc #[.int .i64 t.sat, .slice a t.stops.length c] 46
      have HST := Lib.hid hst
      have HS2 := Lib.hid hS2
      rw [hBA]
      clear ht hst hS hS2 hBA hPK
      go_upto_region 6 with fail
      obtain ⟨tb, htb⟩ : ∃ tb, tb = wr.heap.size := ⟨_, rfl⟩
      generalize (wr.alloc (.cells #[.int .i64 t.sat, .slice a t.stops.length c] 46)) = w2 at *
      rw [← htb] at HS2 ⊢
      obtain ⟨tv, htv⟩ : ∃ tv : Array Value, tv = #[.int .i64 t.sat, .slice a t.stops.length c] := ⟨_, rfl⟩
      rw [← htv] at HS2
      have HTV := Lib.hid htv
      clear htb htv d0 d1 hb
      go_loopw [23] (fun i wi => ∃ j : Nat, j ≤ t.stops.length ∧ i = .int .i64 j ∧ SL w w.heap.size [.blk tb tv 46, .blk ob (iarr (loadsP ns x.custs (PK ++ pairsB t j)) ns) 2, .blk ib (x.cells p) 39] wi) (fun i _ => t.stops.length - (intOf i).toNat)
      case atStart => exact ⟨0, by omega, rfl, by simpa [pairsB] using HS2.out⟩
      case round =>
        clear HS2
        obtain ⟨j, hj, rfl, hS⟩ := hrel
        by_cases hltj : j < t.stops.length
        · obtain ⟨b2, o2, ha, hb2, e00⟩ := ints_at HST.out hltj
          have e0 := (hS.below.cell (p := ⟨b2, o2 + j, none⟩) hb2).trans e00
          clear e00
          have HPB : Hid (loadsP ns x.custs (PK ++ pairsB t (j + 1)) = loadStep ns x.custs (loadsP ns x.custs (PK ++ pairsB t j)) (t.sat, t.stops[j])) := Lib.hid (by rw [pairsB_succ hltj, ← List.append_assoc, loadsP_snoc])
          have HFB : Hid (∀ s, 0 ≤ loadsP ns x.custs (PK ++ pairsB t j) s ∧ loadsP ns x.custs (PK ++ pairsB t j) s ≤ 2000000) := Lib.hid (fun s => by
            have h1 := loadsP_bound (ns := ns) HCL.out (PK ++ pairsB t j) s
            have h2 : (PK ++ pairsB t j).length ≤ 100000 := by
              have := HPL.out
              rw [List.length_append]
              have : (pairsB t j).length ≤ t.stops.length := by unfold pairsB; rw [List.length_map, List.length_take]; omega
              omega
            omega)
          obtain ⟨s, hs⟩ : ∃ s, t.stops[j] = s := ⟨_, rfl⟩
          rw [hs] at e0 HPB
          obtain ⟨F, hF⟩ : ∃ F, loadsP ns x.custs (PK ++ pairsB t j) = F := ⟨_, rfl⟩
          rw [hF] at HPB HFB hS
          have y6 : wr.cell? ⟨ib, 6, none⟩ = some (.slice p.CA x.custs.length p.cc) := hS.cell 2 rfl 6 rfl
          have yt : wr.cell? ⟨tb, 0, none⟩ = some (.int .i64 t.sat) := hS.cell 0 rfl 0 (by rw [HTV.out]; rfl)
          obtain ⟨st, hst2⟩ : ∃ st, t.sat = st := ⟨_, rfl⟩
          have HST2 := Lib.hid hst2
          rw [hst2] at yt HPB
          have HS := Lib.hid hS
          rw [ha]
          clear hs hF hS ha hst2
          by_cases z1 : st < 0
          · have HV : Hid (loadStep ns x.custs F (st, s) = F) := Lib.hid (loadStep_no (.inl (.inl z1)))
            go_wp2_with fail
            go_roundw
            case rel => exact ⟨j + 1, by omega, by go_num, by rw [HPB.out, HV.out]; exact HS.out⟩
            case measure => simp [intOf]; omega
          · by_cases z2 : (ns : Int) ≤ st
            · have HV : Hid (loadStep ns x.custs F (st, s) = F) := Lib.hid (loadStep_no (.inl (.inr z2)))
              go_wp2_with fail
              go_roundw
              case rel => exact ⟨j + 1, by omega, by go_num, by rw [HPB.out, HV.out]; exact HS.out⟩
              case measure => simp [intOf]; omega
            · by_cases z3 : s < 0
              · have HV : Hid (loadStep ns x.custs F (st, s) = F) := Lib.hid (loadStep_no (.inr (.inl z3)))
                have z1b : 0 ≤ st := by omega
                have z2b : st < (ns : Int) := by omega
                go_wp2_with fail
                go_roundw
                case rel => exact ⟨j + 1, by omega, by go_num, by rw [HPB.out, HV.out]; exact HS.out⟩
                case measure => simp [intOf]; omega
              · by_cases z4 : (x.custs.length : Int) ≤ s
                · have HV : Hid (loadStep ns x.custs F (st, s) = F) := Lib.hid (loadStep_no (.inr (.inr z4)))
                  have z1b : 0 ≤ st := by omega
                  have z2b : st < (ns : Int) := by omega
                  have z3b : 0 ≤ s := by omega
                  go_wp2_with fail
                  go_roundw
                  case rel => exact ⟨j + 1, by omega, by go_num, by rw [HPB.out, HV.out]; exact HS.out⟩
                  case measure => simp [intOf]; omega
                · obtain ⟨q, rfl⟩ : ∃ q : Nat, s = q := ⟨s.toNat, by omega⟩
                  obtain ⟨sq, rfl⟩ : ∃ q : Nat, st = q := ⟨st.toNat, by omega⟩
                  have hq : q < x.custs.length := by omega
                  have hsq : sq < ns := by omega
                  obtain ⟨b3, o3, hCA, hb3, f00, _, _, _⟩ := custs_at HI.out.custs hq
                  have hld := HCL.out _ (List.getElem_mem hq)
                  have HV := Lib.hid (loadStep_yes (ns := ns) (f := F) hsq hq)
                  obtain ⟨ld, hld2⟩ : ∃ ld, x.custs[q].load = ld := ⟨_, rfl⟩
                  rw [hld2] at f00 HV hld
                  obtain ⟨ld0, ld1⟩ := hld
                  have hfb := HFB.out sq
                  obtain ⟨Fs, hFs⟩ : ∃ Fs, F sq = Fs := ⟨_, rfl⟩
                  rw [hFs] at hfb
                  obtain ⟨fb0, fb1⟩ := hfb
                  have HFS := Lib.hid hFs
                  have HF0 := Lib.hid (And.intro hb3 f00)
                  rw [hCA] at y6
                  have HCA := Lib.hid hCA
                  have hq1 : (q : Int) < (x.custs.length : Int) := by omega
                  have hq2 : (0 : Int) ≤ (q : Int) := by omega
                  have hs1 : (sq : Int) < (ns : Int) := by omega
                  have hs2 : (0 : Int) ≤ (sq : Int) := by omega
                  clear z1 z2 z3 z4 f00 hld2 hFs hCA hb3
                  go_upto_region 9 with fail
                  refine wp_region_sl [0,1,2,3,4,5,6,7,8,9,10,11] [] [12,13] _ HS.out (List.Sublist.refl _) (by kernel_rfl) (by kernel_rfl) (.cons rfl (.cons rfl .nil)) (fun C cw _ hC => ?_)
                  have q0 : ∀ c, (cw c).cell? ⟨tb, 0, none⟩ = some (.int .i64 sq) := fun c => (hC c).cell 0 rfl 0 (by rw [HTV.out, HST2.out]; rfl)
                  have q1 : ∀ c, (cw c).cell? ⟨ob, sq, none⟩ = some (.int .i64 Fs) := fun c => (hC c).cell 1 rfl sq (by rw [iarr_get _ _ _ hsq, HFS.out])
                  have q2 : ∀ c, (cw c).cell? ⟨ib, 6, none⟩ = some (.slice (some ⟨b3, o3, none⟩) x.custs.length p.cc) := fun c => (hC c).cell 2 rfl 6 (by unfold InstV.cells; rw [← HCA.out]; rfl)
                  have q3 : ∀ c, (cw c).cell? ⟨b3, o3 + q * 4, none⟩ = some (.int .i64 ld) := fun c => ((hC c).below.cell (p := ⟨b3, o3 + q * 4, none⟩) HF0.out.1).trans HF0.out.2
                  repeat (refine pl_look rfl rfl rfl (fun Kv hK => ?_); go_big_quiet_op; refine hK _ ?_; clear hK Kv)
                  clear q0 q1 q2 q3 hC HS
                  refine pl_end ?_
                  intro w5 hS5
                  refine pm_end ?_
                  have y1 : w5.cell? ⟨ob, sq, none⟩ = some (.int .i64 Fs) := hS5.cell 1 rfl sq (by rw [iarr_get _ _ _ hsq, HFS.out])
                  have y2 := hS5.free 1 rfl sq
                  have HS6 := Lib.hid (hS5.setInt 1 rfl sq (Fs + ld))
                  clear hS5
                  go_wp2_with fail
                  go_roundw
                  case rel =>
                    refine ⟨j + 1, by omega, by go_num, ?_⟩
                    rw [HPB.out, HV.out]
                    unfold addAt
                    rw [HFS.out]
                    exact HS6.out
                  case measure => simp [intOf]; omega
        · obtain rfl : j = t.stops.length := by omega
          rw [← HPS.out] at hS
          have HS := Lib.hid hS
          clear hS hltj
          go_wp2_with fail
          go_roundw
          case rel => exact ⟨k + 1, by omega, by go_num, HS.out.tail⟩
          case measure => simp [intOf]; omega
    · obtain rfl : k = bs.length := by omega
      rw [List.take_length] at hS
      have HS := Lib.hid hS
      clear hS hlt
      go_wp2_with fail
      go_ret
      exact ⟨ob, rfl, HS.out.sub (.cons_cons _ (.cons _ .slnil))⟩
set_option maxRecDepth 100000 in
set_option maxHeartbeats 8000000 in
theorem drops_any (x : InstV) (p : IAt) (TA BA : Option Addr) (tc bc nb : Nat) (ts : List (List StopV)) (w : World) (hT : Trucks w w.heap.size TA ts) (hx : x.Small) (hL1 : ts.length ≤ 100000) (hL2 : ts.flatten.length ≤ 100000) (hR : routeT x.sats.length ts = true) :
    Calls Try.prog 48 #[.agg #[.slice TA ts.length tc, .slice BA nb bc], .agg (x.cells p)] w (RowPost w x.sats.length (dropsOf ts)) := by
  have HT := Lib.hid hT
  have HL2 := Lib.hid hL2
  have hns := hx.sats
  obtain ⟨hns0, hns1⟩ := hns
  have HIN := Lib.hid (routeT_in hR)
  obtain ⟨i0, hi0, hz0, hz1, hz2⟩ := info_parts info_i64
  have HII := Lib.hid (And.intro hi0 (And.intro hz0 (And.intro hz1 hz2)))
  have hS0 := ((SL.start (Nat.le_refl w.heap.size)).alloc #[.slice TA ts.length tc, .slice BA nb bc] 30).alloc (x.cells p) 39
  have HS0 := Lib.hid hS0
  obtain ⟨ns, hnsq⟩ : ∃ ns, x.sats.length = ns := ⟨_, rfl⟩
  have HNS := Lib.hid hnsq
  unfold RowPost dropsOf
  rw [hnsq] at hns0 hns1 HIN ⊢
  clear hT hL2 hx hS0 hi0 hz0 hz1 hz2 hR
  unfold InstV.cells
  rw [hnsq]
  clear hnsq
  go_enter Try.func48, Try.ntmps48
  go_upto_region 2 with (at_make; refine wpList_make_rep _ rfl _ _ 51 rfl 2 i0 (.int .i64 0) Try.underlying51 HII.out.1 HII.out.2.1 HII.out.2.2.1 rfl .i64 .i64 ns ns ns rfl rfl rfl rfl ?b2 ?b3 ?_
                         case b2 => rw [HII.out.2.2.2]; omega
                         case b3 => unfold maxLen; omega
                         intro w4 hg4 hb4 hz4
                         rw [zero_row] at hg4
                         have hS0 := HS0.out
                         unfold InstV.cells at hS0
                         rw [HNS.out] at hS0
                         have HS4 := Lib.hid (hS0.made hb4 hg4)
                         clear hg4 hb4 hz4 hS0)
  obtain ⟨pb, hpb⟩ : ∃ pb, pb = w.heap.size := ⟨_, rfl⟩
  obtain ⟨ib, hib⟩ : ∃ ib, ib = w.heap.size + 1 := ⟨_, rfl⟩
  obtain ⟨ob, hob⟩ : ∃ ob, ob = w.heap.size + 2 := ⟨_, rfl⟩
  obtain ⟨pc, hpc⟩ : ∃ pc : Array Value, pc = #[.slice TA ts.length tc, .slice BA nb bc] := ⟨_, rfl⟩
  have HS1 : Hid (SL w w.heap.size [.blk ob (iarr (dropsP []) ns) 2, .blk ib (x.cells p) 39, .blk pb pc 30] w4) := Lib.hid (by
    have h := HS4.out
    rw [hib, hob, hpb, hpc]
    unfold InstV.cells
    rw [HNS.out]
    unfold dropsP; rw [List.foldl_nil]; simpa using h)
  have c0 : w4.cell? ⟨pb, 0, none⟩ = some (.slice TA ts.length tc) := HS1.out.cell 2 rfl 0 (by rw [hpc]; rfl)
  rw [← hob, ← hib, ← hpb]
  clear hib hob HS0 HS4 hpb hpc
  go_wp2_with fail
  clear c0
  go_loopw [17] (fun i wr => ∃ k : Nat, k ≤ ts.length ∧ i = .int .i64 k ∧ SL w w.heap.size [.blk ob (iarr (dropsP (ts.take k).flatten) ns) 2, .blk ib (x.cells p) 39, .blk pb pc 30] wr) (fun i _ => ts.length - (intOf i).toNat)
  case atStart => exact ⟨0, by omega, rfl, HS1.out⟩
  case round =>
    clear HS1
    obtain ⟨k, hk, rfl, hS⟩ := hrel
    by_cases hlt : k < ts.length
    · obtain ⟨b, o, a, c, hTA, hb, d00, hst⟩ := trucks_at HT.out hlt
      have d0 := (hS.below.cell (p := ⟨b, o + k, none⟩) hb).trans d00
      clear d00
      have HPL : Hid ((ts.take k).flatten.length + ts[k].length ≤ 100000) := Lib.hid (by have := flatten_le hlt; have := HL2.out; omega)
      have htl2 : ts[k].length ≤ 100000 := by have := HPL.out; omega
      have HPS := Lib.hid (flatten_succ hlt)
      have HIK := Lib.hid (HIN.out _ (List.getElem_mem hlt))
      have HIP : Hid (∀ s ∈ (ts.take k).flatten, 0 ≤ s.load ∧ s.load ≤ 1000000000) := Lib.hid (fun s hs => by
        obtain ⟨u, hu, hsu⟩ := List.mem_flatten.1 hs
        have := HIN.out u (List.mem_of_mem_take hu) s hsu
        omega)
      obtain ⟨t, ht⟩ : ∃ t, ts[k] = t := ⟨_, rfl⟩
      rw [ht] at d0 hst htl2 HPL HPS HIK
      obtain ⟨PK, hPK⟩ : ∃ PK, (ts.take k).flatten = PK := ⟨_, rfl⟩
      rw [hPK] at HPL HPS hS HIP
      have hS2 := hS.alloc #[.slice a t.length c] 49
      have HST := Lib.hid hst
      have HS2 := Lib.hid hS2
      rw [hTA]
      clear ht hst hS hS2 hTA hPK
      go_upto_region 6 with fail
      obtain ⟨tb, htb⟩ : ∃ tb, tb = wr.heap.size := ⟨_, rfl⟩
      generalize (wr.alloc (.cells #[.slice a t.length c] 49)) = w2 at *
      rw [← htb] at HS2 ⊢
      obtain ⟨tv, htv⟩ : ∃ tv : Array Value, tv = #[.slice a t.length c] := ⟨_, rfl⟩
      rw [← htv] at HS2
      clear htb htv d0 hb
      go_loopw [24] (fun i wi => ∃ j : Nat, j ≤ t.length ∧ i = .int .i64 j ∧ SL w w.heap.size [.blk tb tv 49, .blk ob (iarr (dropsP (PK ++ t.take j)) ns) 2, .blk ib (x.cells p) 39, .blk pb pc 30] wi) (fun i _ => t.length - (intOf i).toNat)
      case atStart => exact ⟨0, by omega, rfl, by simpa using HS2.out⟩
      case round =>
        clear HS2
        obtain ⟨j, hj, rfl, hS⟩ := hrel
        by_cases hltj : j < t.length
        · obtain ⟨b2, o2, ha, hb2, e0, e1⟩ := stops_at (Reads.below HST.out hS.below) hltj
          have HPB : Hid (dropsP (PK ++ t.take (j + 1)) = dropStep (dropsP (PK ++ t.take j)) t[j]) := Lib.hid (by rw [List.take_succ_eq_append_getElem hltj, ← List.append_assoc, dropsP_snoc])
          have HFB : Hid (∀ s, 0 ≤ dropsP (PK ++ t.take j) s ∧ dropsP (PK ++ t.take j) s ≤ 100000000000000) := Lib.hid (fun s => by
            have h1 := dropsP_bound (l := PK ++ t.take j) (fun u hu => by
              rcases List.mem_append.1 hu with hu | hu
              · exact HIP.out u hu
              · have := HIK.out u (List.mem_of_mem_take hu)
                omega) s
            have h2 : (PK ++ t.take j).length ≤ 100000 := by
              have := HPL.out
              rw [List.length_append, List.length_take]
              omega
            omega)
          have hin := HIK.out _ (List.getElem_mem hltj)
          obtain ⟨s, hs⟩ : ∃ s, t[j] = s := ⟨_, rfl⟩
          rw [hs] at e0 e1 HPB hin
          obtain ⟨F, hF⟩ : ∃ F, dropsP (PK ++ t.take j) = F := ⟨_, rfl⟩
          rw [hF] at HPB HFB hS
          obtain ⟨⟨hi0, hi1⟩, hi2, hi3⟩ := hin
          obtain ⟨st, ld⟩ := s
          dsimp only at e0 e1 hi0 hi1 hi2 hi3
          obtain ⟨sq, rfl⟩ : ∃ q : Nat, st = q := ⟨st.toNat, by omega⟩
          have hsq : sq < ns := by omega
          have HV : Hid (dropStep F ⟨sq, ld⟩ = fun j => if j = sq then F sq + ld else F j) := Lib.hid (by unfold dropStep addAt; simp)
          have hfb := HFB.out sq
          obtain ⟨Fs, hFs⟩ : ∃ Fs, F sq = Fs := ⟨_, rfl⟩
          rw [hFs] at hfb HV
          obtain ⟨fb0, fb1⟩ := hfb
          have HFS := Lib.hid hFs
          have hS2 := hS.alloc #[.int .i64 sq, .int .i64 ld] 54
          have HS2 := Lib.hid hS2
          rw [ha]
          clear hs hF hS hS2 ha hFs
          go_upto_region 8 with fail
          obtain ⟨qb, hqb⟩ : ∃ qb, qb = wr.heap.size := ⟨_, rfl⟩
          generalize (wr.alloc (.cells #[.int .i64 sq, .int .i64 ld] 54)) = w9 at *
          rw [← hqb] at HS2 ⊢
          clear hqb e0 e1 hb2
          refine wp_region_sl [0,1,2,3,4,5,6,7] [] [8,9] _ HS2.out (List.Sublist.refl _) (by kernel_rfl) (by kernel_rfl) (.cons rfl (.cons rfl .nil)) (fun C cw _ hC => ?_)
          have q0 : ∀ c, (cw c).cell? ⟨qb, 0, none⟩ = some (.int .i64 sq) := fun c => (hC c).cell 0 rfl 0 rfl
          have q1 : ∀ c, (cw c).cell? ⟨qb, 1, none⟩ = some (.int .i64 ld) := fun c => (hC c).cell 0 rfl 1 rfl
          have q2 : ∀ c, (cw c).cell? ⟨ob, sq, none⟩ = some (.int .i64 Fs) := fun c => (hC c).cell 2 rfl sq (by rw [iarr_get _ _ _ hsq, HFS.out])
          repeat (refine pl_look rfl rfl rfl (fun Kv hK => ?_); go_big_quiet_op; refine hK _ ?_; clear hK Kv)
          clear q0 q1 q2 hC HS2
          refine pl_end ?_
          intro w5 hS5
          refine pm_end ?_
          have y1 : w5.cell? ⟨ob, sq, none⟩ = some (.int .i64 Fs) := hS5.cell 2 rfl sq (by rw [iarr_get _ _ _ hsq, HFS.out])
          have y2 := hS5.free 2 rfl sq
          have HS6 := Lib.hid (hS5.setInt 2 rfl sq (Fs + ld))
          clear hS5
          go_wp2_with fail
          go_roundw
          case rel =>
            refine ⟨j + 1, by omega, by go_num, ?_⟩
            rw [HPB.out, HV.out]
            exact HS6.out.tail
          case measure => simp [intOf]; omega
        · obtain rfl : j = t.length := by omega
          rw [List.take_length, ← HPS.out] at hS
          have HS := Lib.hid hS
          clear hS hltj
          go_wp2_with fail
          go_roundw
          case rel => exact ⟨k + 1, by omega, by go_num, HS.out.tail⟩
          case measure => simp [intOf]; omega
    · obtain rfl : k = ts.length := by omega
      rw [List.take_length] at hS
      have HS := Lib.hid hS
      clear hS hlt
      go_wp2_with fail
      go_ret
      exact ⟨ob, rfl, HS.out.sub (.cons_cons _ (.cons _ (.cons _ .slnil)))⟩
end Go.Proofs.Ytjpejclfppbboaa
