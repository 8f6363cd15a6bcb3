/- The walk of Plan.trucks. (printed by gen/plantb.py) -/
import Derived.Test.YtjpejclfppbboaaPlanP
import Derived.Test.YtjpejclfppbboaaMake
import Derived.Test.YtjpejclfppbboaaRowRun
import Derived.Outline
import Derived.Deep.LoopGhost
import Derived.Deep.CutBlock
import Derived.Deep.CutRange
import Derived.Deep.DeepCutAuto
namespace Go.Proofs.Ytjpejclfppbboaa
open Go.ChangeShapes Go.WideShapes Go.ChangeAt Go.RowKit
set_option linter.unusedVariables false
def planBox (TA : Option Addr) (nt tc : Nat) (BA : Option Addr) (nb bc : Nat) : Array Value := #[.slice TA nt tc, .slice BA nb bc]
def hdBox (a : Option Addr) (n c : Nat) : Array Value := #[.slice a n c]
theorem has_list (l : List Int) (n : Int) (w : World) (h : 0 ≤ n ∧ n < 64) : Calls Try.prog 36 #[.int .u64 (seenL l), .int .i64 n] w fun e w' => e = .returned (.bool (l.contains n)) ∧ w = w' :=
  (has_any (seenL l) n w (seenL_lt l)).mono fun _ _ ⟨h1, h2⟩ => ⟨by rw [h1, has_seen h], h2⟩
theorem with_list (l : List Int) (n : Int) (w : World) : Calls Try.prog 63 #[.int .u64 (seenL l), .int .i64 n] w fun e w' => e = .returned (.int .u64 (seenL (l ++ [n]))) ∧ w = w' :=
  (with_any (seenL l) n w (seenL_lt l)).mono fun _ _ ⟨h1, h2⟩ => ⟨by rw [h1, seenL_snoc], h2⟩
def TrucksPost (w : World) (x : InstV) (ts : List (List StopV)) (e : Ending) (w' : World) : Prop :=
  ∃ r l, e = .returned (.tuple #[.bool r, .bool l]) ∧ r = routeT x.sats.length ts ∧ (r = true → l = loadT x.tr ts) ∧ Below w.heap.size w w'
theorem routeT_all {ns : Nat} {ts : List (List StopV)} (h : ∀ t ∈ ts, goodT ns t = true) : ts.all (fun t => decide (0 < t.length)) = routeT ns ts := by
  unfold routeT
  rw [Bool.eq_iff_iff, List.all_eq_true, List.all_eq_true]
  constructor
  · intro h2 t ht; unfold truckB; rw [h t ht, h2 t ht]; rfl
  · intro h2 t ht
    have := h2 t ht
    unfold truckB at this
    rw [Bool.and_eq_true] at this
    exact this.2
theorem sats_snoc {t : List StopV} {j : Nat} (h : j < t.length) : (t.take (j + 1)).map (·.sat) = (t.take j).map (·.sat) ++ [t[j].sat] := by
  rw [List.take_succ_eq_append_getElem h, List.map_append]; rfl
theorem stopB_true {ns : Nat} {prev : List StopV} {s : StopV} (h1 : ¬ s.sat < 0) (h2 : ¬ (ns : Int) ≤ s.sat) (h3 : (prev.map (·.sat)).contains s.sat = false) (h4 : ¬ s.load < 1) (h5 : ¬ 1000000000 < s.load) : stopB ns prev s = true := by
  unfold stopB
  rw [h3, decide_eq_true (show 0 ≤ s.sat ∧ s.sat < ns by omega), decide_eq_true (show 1 ≤ s.load ∧ s.load ≤ 1000000000 by omega)]
  rfl
theorem stopB_false {ns : Nat} {prev : List StopV} {s : StopV} (h : (s.sat < 0 ∨ (ns : Int) ≤ s.sat) ∨ (prev.map (·.sat)).contains s.sat = true ∨ s.load < 1 ∨ 1000000000 < s.load) : stopB ns prev s = false := by
  unfold stopB
  rcases h with h | h | h
  · rw [decide_eq_false (show ¬ (0 ≤ s.sat ∧ s.sat < ns) by omega)]; rfl
  · rw [h]; simp
  · rw [decide_eq_false (show ¬ (1 ≤ s.load ∧ s.load ≤ 1000000000) by omega)]; simp
set_option maxRecDepth 100000 in
set_option maxHeartbeats 8000000 in
theorem trucks_any (x : InstV) (p : IAt) (TA BA : Option Addr) (tc bc nb : Nat) (ts : List (List StopV)) (w : World) (hT : Trucks w w.heap.size TA ts) (hx : x.Small) (hL1 : ts.length ≤ 100000) (hL2 : ts.flatten.length ≤ 100000) :
    Calls Try.prog 46 #[.agg #[.slice TA ts.length tc, .slice BA nb bc], .agg (x.cells p)] w (TrucksPost w x ts) := by
  have HT := Lib.hid hT
  have HL2 := Lib.hid hL2
  have hns := hx.sats
  have htr := hx.tr
  obtain ⟨htr0, htr1⟩ := htr
  obtain ⟨hns0, hns1⟩ := hns
  have hS0 := ((SL.start (Nat.le_refl w.heap.size)).alloc #[.slice TA ts.length tc, .slice BA nb bc] 30).alloc (x.cells p) 39
  have HS0 := Lib.hid hS0
  have c0 : ((w.alloc (.cells #[.slice TA ts.length tc, .slice BA nb bc] 30)).alloc (.cells (x.cells p) 39)).cell? ⟨w.heap.size, 0, none⟩ = some (.slice TA ts.length tc) := hS0.cell 1 rfl 0 rfl
  clear hT hL2 hx hS0
  unfold InstV.cells at c0 ⊢
  go_enter Try.func46, Try.ntmps46
  go_upto_region 3 with fail
  clear c0
  obtain ⟨pb, hpb⟩ : ∃ pb, pb = w.heap.size := ⟨_, rfl⟩
  obtain ⟨ib, hib⟩ : ∃ ib, ib = w.heap.size + 1 := ⟨_, rfl⟩
  obtain ⟨pc, hpc⟩ : ∃ pc : Array Value, pc = #[.slice TA ts.length tc, .slice BA nb bc] := ⟨_, rfl⟩
  have HS1 : Hid (SL w w.heap.size [.blk ib (x.cells p) 39, .blk pb pc 30] ((w.alloc (.cells #[.slice TA ts.length tc, .slice BA nb bc] 30)).alloc (.cells (x.cells p) 39))) := Lib.hid (by rw [hpb, hib, hpc]; simpa using HS0.out)
  unfold InstV.cells at HS1
  rw [← hib, ← hpb]
  generalize ((w.alloc (.cells _ 30)).alloc (.cells _ 39)) = w1 at *
  clear hpb hib HS0 hpc
  go_loopw [15, 4, 5] (fun i v4 v5 wr => ∃ (k : Nat) (R L : Bool), k ≤ ts.length ∧ i = .int .i64 k ∧ v4 = .bool R ∧ v5 = .bool L ∧ Hid (R = (ts.take k).all (fun t => decide (0 < t.length)) ∧ L = loadT x.tr (ts.take k) ∧ ∀ t ∈ ts.take k, goodT x.sats.length t = true) ∧ SL w w.heap.size [.blk ib (x.cells p) 39, .blk pb pc 30] wr) (fun i _ _ _ => ts.length - (intOf i).toNat)
  case atStart => exact ⟨0, true, true, by omega, rfl, rfl, rfl, Lib.hid ⟨rfl, rfl, by simp⟩, HS1.out⟩
  case round =>
    clear HS1
    obtain ⟨k, R, L, hk, rfl, rfl, rfl, HRL, hS⟩ := hrel
    by_cases hlt : k < ts.length
    · obtain ⟨b, o, a, c, hTA, hb, d00, hst⟩ := trucks_at HT.out hlt
      have d0 := (hS.below.cell (p := ⟨b, o + k, none⟩) hb).trans d00
      clear d00
      have htl : ts[k].length ≤ 100000 := by have := flatten_le hlt; have := HL2.out; omega
      have HMEM := Lib.hid (List.getElem_mem hlt)
      have HTK := Lib.hid (List.take_succ_eq_append_getElem hlt)
      obtain ⟨t, ht⟩ : ∃ t, ts[k] = t := ⟨_, rfl⟩
      rw [ht] at d0 hst htl HMEM HTK
      have hS2 := hS.alloc #[.slice a t.length c] 49
      have HST := Lib.hid hst
      have HS2 := Lib.hid hS2
      have q1 : wr.cell? ⟨ib, 2, none⟩ = some (.int .i64 x.tr) := hS.cell 0 rfl 2 rfl
      have hzi := (hS.lt 0 rfl).2
      rw [hTA]
      clear ht hst hS hS2 hTA
      go_upto_region 8 with fail
      obtain ⟨tb, htb⟩ : ∃ tb, tb = wr.heap.size := ⟨_, rfl⟩
      generalize (wr.alloc (.cells #[.slice a t.length c] 49)) = w2 at *
      rw [← htb] at HS2 ⊢
      clear htb d0 q1 hzi hb
      obtain ⟨tv, htv⟩ : ∃ tv : Array Value, tv = #[.slice a t.length c] := ⟨_, rfl⟩
      rw [← htv] at HS2
      have HTV := Lib.hid htv
      clear htv
      go_loopw [25, 8, 9, 4, 5] (fun i v8 v9 v4 v5 wi => ∃ j : Nat, j ≤ t.length ∧ i = .int .i64 j ∧ v4 = .bool R ∧ v5 = .bool L ∧ v8 = .int .u64 (seenL ((t.take j).map (·.sat)) : Nat) ∧ v9 = .int .i64 (x.tr - sumL (t.take j)) ∧ Hid (goodK x.sats.length t j = true) ∧ SL w w.heap.size [.blk tb tv 49, .blk ib (x.cells p) 39, .blk pb pc 30] wi) (fun i _ _ _ _ _ => t.length - (intOf i).toNat)
      case atStart => exact ⟨0, by omega, rfl, rfl, rfl, rfl, by simp [sumL], Lib.hid rfl, HS2.out⟩
      case round =>
        clear HS2
        obtain ⟨j, hj, rfl, rfl, rfl, rfl, rfl, HG, hS⟩ := hrel
        by_cases hltj : j < t.length
        · obtain ⟨b2, o2, ha, hb2, e0, e1⟩ := stops_at (Reads.below HST.out hS.below) hltj
          have HGS := Lib.hid (goodK_succ (ns := x.sats.length) hltj)
          have HGN := Lib.hid (goodK_no (ns := x.sats.length) hltj)
          have HSN := Lib.hid (sats_snoc hltj)
          have HSU := Lib.hid (sumL_succ hltj)
          have hsb := sumL_bound hj HG.out
          obtain ⟨sb0, sb1⟩ := hsb
          have HBF := Lib.hid (@stopB_false x.sats.length (t.take j) t[j])
          have HBT := Lib.hid (@stopB_true x.sats.length (t.take j) t[j])
          obtain ⟨s, hs⟩ : ∃ s, t[j] = s := ⟨_, rfl⟩
          rw [hs] at e0 e1 HGS HGN HSN HSU HBF HBT
          obtain ⟨sm, hsm⟩ : ∃ sm, sumL (t.take j) = sm := ⟨_, rfl⟩
          rw [hsm] at sb0 sb1 HSU
          obtain ⟨ps, hps⟩ : ∃ ps, (t.take j).map (·.sat) = ps := ⟨_, rfl⟩
          rw [hps] at HSN HBF HBT
          obtain ⟨sn, hsn⟩ : ∃ sn, seenL ps = sn := ⟨_, rfl⟩
          have HSEEN := Lib.hid hsn
          have hS2 := hS.alloc #[.int .i64 s.sat, .int .i64 s.load] 54
          have HS2 := Lib.hid hS2
          have y5 : wr.cell? ⟨ib, 5, none⟩ = some (.slice p.SA x.sats.length p.sc) := hS.cell 1 rfl 5 rfl
          have hzi := (hS.lt 1 rfl).2
          have hzt := (hS.lt 0 rfl).2
          have HB := Lib.hid hS2.below
          rw [hsm, hps, hsn, ha]
          clear hs hsm hps hsn hS hS2 ha
          by_cases z1 : s.sat < 0
          · have tok : True := trivial
            have HNO : Hid (routeT x.sats.length ts = false) := Lib.hid (routeT_no HMEM.out (HGN.out (HBF.out (.inl (.inl z1)))))
            go_wp2_with fail
            go_ret2
            exact ⟨false, L, rfl, HNO.out.symm, (fun h => by cases h), HB.out⟩
          · by_cases z2 : (x.sats.length : Int) ≤ s.sat
            · have tok : True := trivial
              have HNO : Hid (routeT x.sats.length ts = false) := Lib.hid (routeT_no HMEM.out (HGN.out (HBF.out (.inl (.inr z2)))))
              go_wp2_with fail
              go_ret2
              exact ⟨false, L, rfl, HNO.out.symm, (fun h => by cases h), HB.out⟩
            · have z1b : 0 ≤ s.sat := by omega
              have z2b : s.sat < (x.sats.length : Int) := by omega
              cases z3 : ps.contains s.sat
              case true =>
                have HNO : Hid (routeT x.sats.length ts = false) := Lib.hid (routeT_no HMEM.out (HGN.out (HBF.out (.inr (.inl z3)))))
                have HHAS : Hid (Calls Try.prog 36 #[.int .u64 (sn : Nat), .int .i64 s.sat] (wr.alloc (.cells #[.int .i64 s.sat, .int .i64 s.load] 54)) fun e w' => e = .returned (.bool true) ∧ (wr.alloc (.cells #[.int .i64 s.sat, .int .i64 s.load] 54)) = w') := Lib.hid (by rw [← HSEEN.out, ← z3]; exact has_list ps s.sat _ (by omega))
                clear z3
                go_wp2_with (go_at_call 36; (with_reducible refine HHAS.out.mono ?_); rintro e w5 ⟨rfl, rfl⟩)
                go_ret2
                exact ⟨false, L, rfl, HNO.out.symm, (fun h => by cases h), HB.out⟩
              case false =>
                have HHAS : Hid (Calls Try.prog 36 #[.int .u64 (sn : Nat), .int .i64 s.sat] (wr.alloc (.cells #[.int .i64 s.sat, .int .i64 s.load] 54)) fun e w' => e = .returned (.bool false) ∧ (wr.alloc (.cells #[.int .i64 s.sat, .int .i64 s.load] 54)) = w') := Lib.hid (by rw [← HSEEN.out, ← z3]; exact has_list ps s.sat _ (by omega))
                by_cases z4 : s.load < 1
                · have tok : True := trivial
                  have HNO : Hid (routeT x.sats.length ts = false) := Lib.hid (routeT_no HMEM.out (HGN.out (HBF.out (.inr (.inr (.inl z4))))))
                  have HH2 := HHAS
                  clear z3 HH2
                  go_wp2_with (go_at_call 36; (with_reducible refine HHAS.out.mono ?_); rintro e w5 ⟨rfl, rfl⟩)
                  go_ret2
                  exact ⟨false, L, rfl, HNO.out.symm, (fun h => by cases h), HB.out⟩
                · by_cases z5 : 1000000000 < s.load
                  · have tok : True := trivial
                    have HNO : Hid (routeT x.sats.length ts = false) := Lib.hid (routeT_no HMEM.out (HGN.out (HBF.out (.inr (.inr (.inr z5))))))
                    have HH2 := HHAS
                    clear z3 HH2
                    go_wp2_with (go_at_call 36; (with_reducible refine HHAS.out.mono ?_); rintro e w5 ⟨rfl, rfl⟩)
                    go_ret2
                    exact ⟨false, L, rfl, HNO.out.symm, (fun h => by cases h), HB.out⟩
                  · have HGOOD := Lib.hid (HBT.out z1 z2 z3 z4 z5)
                    have HWITH : Hid (∀ wx, Calls Try.prog 63 #[.int .u64 (sn : Nat), .int .i64 s.sat] wx fun e w' => e = .returned (.int .u64 (seenL (ps ++ [s.sat]) : Nat)) ∧ wx = w') := Lib.hid (fun wx => by rw [← HSEEN.out]; exact with_list ps s.sat wx)
                    have z4b : 1 ≤ s.load := by omega
                    have z5b : s.load ≤ 1000000000 := by omega
                    clear z3
                    go_wp2_with (first | (go_at_call 36; (with_reducible refine HHAS.out.mono ?_); rintro e w5 ⟨rfl, rfl⟩) | (go_at_call 63; (with_reducible refine (HWITH.out _).mono ?_); rintro e w5 ⟨rfl, rfl⟩))
                    go_roundw
                    case rel => exact ⟨j + 1, by omega, by go_num, rfl, rfl, by rw [HSN.out], by rw [HSU.out]; go_num, Lib.hid (by rw [HGS.out, HG.out, HGOOD.out]; rfl), HS2.out.tail⟩
                    case measure => simp [intOf]; omega
        · obtain rfl : j = t.length := by omega
          rw [List.take_length]
          have HS := Lib.hid hS
          have htc : wr.cell? ⟨tb, 0, none⟩ = some (.slice a t.length c) := hS.cell 0 rfl 0 (by rw [HTV.out]; rfl)
          have hsb := sumL_bound (Nat.le_refl _) HG.out
          rw [List.take_length] at hsb
          obtain ⟨sb0, sb1⟩ := hsb
          have HAG : Hid (∀ u ∈ ts.take (k + 1), goodT x.sats.length u = true) := Lib.hid (by
            intro u hu
            rw [HTK.out] at hu
            rcases List.mem_append.1 hu with hu | hu
            · exact HRL.out.2.2 u hu
            · simp at hu; subst hu; exact HG.out)
          have HR1 : Hid ((ts.take (k + 1)).all (fun t => decide (0 < t.length)) = (R && decide (0 < t.length))) := Lib.hid (by rw [HTK.out, List.all_append, ← HRL.out.1]; simp)
          have HL1 : Hid (loadT x.tr (ts.take (k + 1)) = (L && decide (sumL t ≤ x.tr))) := Lib.hid (by rw [HTK.out]; unfold loadT; rw [List.all_append]; have := HRL.out.2.1; unfold loadT at this; rw [← this]; simp)
          obtain ⟨sm, hsm⟩ : ∃ sm, sumL t = sm := ⟨_, rfl⟩
          rw [hsm] at HL1 sb0 sb1 ⊢
          clear hS hsm hltj
          cases R
          case false =>
            cases L
            case false =>
              go_wp2_with fail
              go_roundw
              case rel => exact ⟨k + 1, false, false, by omega, by go_num, rfl, rfl, Lib.hid ⟨by rw [HR1.out]; simp, by rw [HL1.out]; simp, HAG.out⟩, HS.out.tail⟩
              case measure => simp [intOf]; omega
            case true =>
              go_wp2_with fail
              go_roundw
              case rel => exact ⟨k + 1, false, (decide (sm ≤ x.tr)), by omega, by go_num, rfl, rfl, Lib.hid ⟨by rw [HR1.out]; simp, by rw [HL1.out]; simp, HAG.out⟩, HS.out.tail⟩
              case measure => simp [intOf]; omega
          case true =>
            cases L
            case false =>
              go_wp2_with fail
              go_roundw
              case rel => exact ⟨k + 1, (decide (0 < t.length)), false, by omega, by go_num, rfl, rfl, Lib.hid ⟨by rw [HR1.out]; simp, by rw [HL1.out]; simp, HAG.out⟩, HS.out.tail⟩
              case measure => simp [intOf]; omega
            case true =>
              go_wp2_with fail
              go_roundw
              case rel => exact ⟨k + 1, (decide (0 < t.length)), (decide (sm ≤ x.tr)), by omega, by go_num, rfl, rfl, Lib.hid ⟨by rw [HR1.out]; simp, by rw [HL1.out]; simp, HAG.out⟩, HS.out.tail⟩
              case measure => simp [intOf]; omega
    · obtain rfl : k = ts.length := by omega
      rw [List.take_length] at HRL
      have HS := Lib.hid hS
      clear hS hlt
      go_wp2_with fail
      go_ret2
      exact ⟨R, L, rfl, by rw [HRL.out.1, routeT_all HRL.out.2.2], fun _ => HRL.out.2.1, HS.out.below⟩
end Go.Proofs.Ytjpejclfppbboaa
