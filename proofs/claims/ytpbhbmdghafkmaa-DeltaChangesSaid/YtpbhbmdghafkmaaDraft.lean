/- law17.Draft. (printed by gen/draft.py) -/
import Derived.Test.YtpbhbmdghafkmaaDraftM
import Derived.Test.YtpbhbmdghafkmaaInsInt
import Derived.Test.YtpbhbmdghafkmaaNest
import Derived.Test.YtpbhbmdghafkmaaRowRun
import Derived.Test.YtpbhbmdghafkmaaPlanClone
import Derived.Deep.CutBlock
import Derived.Deep.CutRange
import Derived.Deep.DeepCutAuto
namespace Go.Proofs.Ytpbhbmdghafkmaa
open Go.ChangeShapes Go.WideShapes Go.ChangeAt Go.RowKit
set_option linter.unusedVariables false
set_option linter.unusedSimpArgs false
structure WishAt where
 SA : Option Addr
 sc : Nat
 OA : Option Addr
 oc : Nat
 CA : Option Addr
 cc : Nat
def WishV.vals (u : WishV) (a : WishAt) : Array Value := #[.slice a.SA u.sats.length a.sc, .slice a.OA u.order.length a.oc, .slice a.CA u.cuts.length a.cc]
structure WishIn (w : World) (B : Nat) (a : WishAt) (u : WishV) : Prop where
 sats : Reads w B 1 a.SA u.sats.length (u.sats.map (.int .u8))
 order : Reads w B 1 a.OA u.order.length (u.order.map (.int .u8))
 cuts : Reads w B 1 a.CA u.cuts.length (u.cuts.map (.int .u8))
theorem size_alloc' (w : World) (o : Obj) : (w.alloc o).heap.size = w.heap.size + 1 := Array.size_push _
theorem intE_info : (Try.prog.info? 3).map (fun i => (i.zero, i.size, i.bytes)) = some (some (.int .i64 0), 1, 8) := by kernel_rfl
theorem i64E_info : (Try.prog.info? 2).map (fun i => (i.zero, i.size, i.bytes)) = some (some (.int .i64 0), 1, 8) := by kernel_rfl
theorem bikeE_info : (Try.prog.info? 44).map (fun i => (i.zero, i.size, i.bytes)) = some (some (.agg #[.int .i64 0, .slice none 0 0]), 2, 32) := by kernel_rfl
theorem truckE_info : (Try.prog.info? 88).map (fun i => (i.zero, i.size, i.bytes)) = some (some (.agg #[.slice none 0 0]), 1, 24) := by kernel_rfl
theorem stopE_info : (Try.prog.info? 105).map (fun i => (i.zero, i.size, i.bytes)) = some (some (.agg #[.int .i64 0, .int .i64 0]), 2, 16) := by kernel_rfl
theorem int_cells (l : List Int) : ∀ u ∈ l.map (Value.int .i64), u.oneCell' = true := fun u hu => by
 obtain ⟨x, _, rfl⟩ := List.mem_map.1 hu; rfl
set_option maxRecDepth 100000 in
set_option maxHeartbeats 16000000 in
theorem draft_any (x : InstV) (p : IAt) (u : WishV) (a : WishAt) (w : World) (hI : InstIn w w.heap.size p x) (hW : WishIn w w.heap.size a u) (hx : x.Small) (hu : u.ok) (hl : u.L) :
 Calls Try.prog 22 #[.agg (x.cells p), .agg (u.vals a)] w (ClonePost w (draftM x u)) := by
 have HI := Lib.hid hI
 have HW := Lib.hid hW
 have HU := Lib.hid hu
 have HUL := Lib.hid hl
 have HX := Lib.hid hx
 obtain ⟨hns0, hns1⟩ := hx.sats
 obtain ⟨hnc0, hnc1⟩ := hx.custs
 obtain ⟨SA, sc, OA, oc, CA, cc⟩ := a
 obtain ⟨ns, hns⟩ : ∃ n, x.sats.length = n := ⟨_, rfl⟩
 obtain ⟨nc, hnc⟩ : ∃ n, x.custs.length = n := ⟨_, rfl⟩
 obtain ⟨na, hna⟩ : ∃ n, u.sats.length = n := ⟨_, rfl⟩
 obtain ⟨no, hno⟩ : ∃ n, u.order.length = n := ⟨_, rfl⟩
 obtain ⟨nk, hnk⟩ : ∃ n, u.cuts.length = n := ⟨_, rfl⟩
 have hAT : ∀ (wx : World), Below w.heap.size w wx → (∀ i : Nat, i ≤ 1000000 → Calls Try.prog 47 #[.slice SA na sc, .int .i64 i] wx fun e w' => e = .returned (.int .i64 (atM u.sats i)) ∧ wx = w') ∧ (∀ i : Nat, i ≤ 1000000 → Calls Try.prog 47 #[.slice OA no oc, .int .i64 i] wx fun e w' => e = .returned (.int .i64 (atM u.order i)) ∧ wx = w') ∧ (∀ i : Nat, i ≤ 1000000 → Calls Try.prog 47 #[.slice CA nk cc, .int .i64 i] wx fun e w' => e = .returned (.int .i64 (atM u.cuts i)) ∧ wx = w') := fun wx hb => by
  refine ⟨fun i hi => ?_, fun i hi => ?_, fun i hi => ?_⟩
  · have h := at17_any SA sc i u.sats wx (reads_more (Reads.below hW.sats hb) hb.size) hu.sats hl.sats hi
    rw [hna] at h; exact h
  · have h := at17_any OA oc i u.order wx (reads_more (Reads.below hW.order hb) hb.size) hu.order hl.order hi
    rw [hno] at h; exact h
  · have h := at17_any CA cc i u.cuts wx (reads_more (Reads.below hW.cuts hb) hb.size) hu.cuts hl.cuts hi
    rw [hnk] at h; exact h
 have HAT := Lib.hid hAT
 have HNS := Lib.hid (And.intro hns hnc)
 obtain ⟨i0, hi0, hy1, hyz, hyb⟩ := info_parts intE_info
 have HI0 := Lib.hid (And.intro hi0 (And.intro hy1 (And.intro hyz hyb)))
 obtain ⟨XC, hXC⟩ : ∃ XC : Array Value, #[.int .i64 x.fin, .int .i64 x.tm, .int .i64 x.tr, .int .i64 x.bm, .int .i64 x.br, .slice p.SA ns p.sc, .slice p.CA nc p.cc, .slice p.KA x.cost.length p.kc, .slice p.TA x.time.length p.tc] = XC := ⟨_, rfl⟩
 obtain ⟨WC, hWC⟩ : ∃ WC : Array Value, #[.slice SA na sc, .slice OA no oc, .slice CA nk cc] = WC := ⟨_, rfl⟩
 have HXC := Lib.hid hXC
 have HWC := Lib.hid hWC
 have hS := (((SL.start (W := w) (Nat.le_refl w.heap.size)).alloc XC 58).alloc WC 51).alloc #[.slice none 0 0, .slice none 0 0] 39
 simp only [size_alloc'] at hS
 obtain ⟨ib, hib⟩ : ∃ ib, w.heap.size = ib := ⟨_, rfl⟩
 obtain ⟨wb, hwb⟩ : ∃ wb, ib + 1 = wb := ⟨_, rfl⟩
 obtain ⟨rb, hrb⟩ : ∃ rb, wb + 1 = rb := ⟨_, rfl⟩
 obtain ⟨w1, hw1⟩ : ∃ w1, (((w.alloc (.cells XC 58)).alloc (.cells WC 51)).alloc (.cells #[.slice none 0 0, .slice none 0 0] 39)) = w1 := ⟨_, rfl⟩
 have HS1 : Hid (SL w w.heap.size ([.row 3 1 (.slice none 0 0) 0 ((orderM u.order 0).map (.int .i64))] ++ [.blk rb #[.slice none 0 0, .slice none 0 0] 39, .blk wb WC 51, .blk ib XC 58]) w1) := Lib.hid (by
  rw [← hrb, ← hwb, ← hib, ← hw1]
  exact hS.nil 3 1)
 have HBL := Lib.hid (And.intro hib (And.intro hwb hrb))
 have HW1 := Lib.hid hw1
 unfold InstV.cells WishV.vals
 simp only [hns, hnc, hna, hno, hnk]
 rw [hns] at hns0 hns1
 rw [hnc] at hnc0 hnc1
 clear hI hW hu hl hx hns hnc hna hno hnk hAT hi0 hy1 hyz hyb hS hib hwb hrb hw1 hXC hWC
 go_enter Try.func22, Try.ntmps22
 go_upto_region 2 with fail
 rw [HXC.out, HWC.out, HW1.out, HBL.out.1, HBL.out.2.1, HBL.out.2.2]
 have y4 : w1.cell? ⟨ib, 6, none⟩ = some (.slice p.CA nc p.cc) := HS1.out.cell 3 rfl 6 (by rw [← HXC.out]; rfl)
 go_upto_region 3 with fail
 clear y4
 go_loopw [5, 27] (fun ov iv wr => ∃ (k : Nat) (A' : Option Addr) (c' : Nat), k ≤ nc ∧ iv = .int .i64 k ∧ ov = .slice A' k c' ∧ SL w w.heap.size ([.row 3 1 (.slice A' k c') k ((orderM u.order k).map (.int .i64))] ++ [.blk rb #[.slice none 0 0, .slice none 0 0] 39, .blk wb WC 51, .blk ib XC 58]) wr) (fun _ iv _ => nc - (intOf iv).toNat)
 case atStart => exact ⟨0, none, 0, by omega, rfl, rfl, HS1.out⟩
 case round =>
  clear HS1
  obtain ⟨k, A', c', hk, rfl, rfl, hS⟩ := hrel
  by_cases hlt : k < nc
  · have y1 : wr.cell? ⟨wb, 1, none⟩ = some (.slice OA no oc) := hS.cell 2 rfl 1 (by rw [← HWC.out]; rfl)
    have HA := Lib.hid ((HAT.out wr hS.below).2.1 k (by omega))
    have hin := atM_in HU.out.order k
    have HST : Hid ((orderM u.order (k + 1)).map (Value.int .i64) = ((orderM u.order k).map (.int .i64)).take (ordP u.order k) ++ [.int .i64 k] ++ ((orderM u.order k).map (.int .i64)).drop (ordP u.order k)) := Lib.hid (by
     show ((orderM u.order k).take (ordP u.order k) ++ [(k : Int)] ++ (orderM u.order k).drop (ordP u.order k)).map (Value.int .i64) = _
     rw [List.map_append, List.map_append, List.map_take, List.map_drop]; rfl)
    have hpe : atM u.order k % ((k : Int) + 1) = (ordP u.order k : Int) := by
     unfold ordP
     have := Int.emod_nonneg (atM u.order k) (show ((k : Int) + 1) ≠ 0 by omega)
     omega
    have hpl := ordP_le u.order k
    obtain ⟨q, hq⟩ : ∃ q, ordP u.order k = q := ⟨_, rfl⟩
    obtain ⟨r, hr⟩ : ∃ r, atM u.order k = r := ⟨_, rfl⟩
    rw [hq] at HST hpe hpl
    rw [hr] at hpe HA hin
    have hS4 := (hS.alloc #[.int .i64 k] 3).blkRowC 0 rfl 1 1 1 (by decide) (by decide) (Nat.le_refl 1)
    have HIN := Lib.hid (insert_any w w.heap.size _ _ 1 0 k 1 c' 1 q A' (some ⟨wr.heap.size, 0, none⟩) _ _ hS4 rfl rfl (by decide) (int_cells _) (by intro u hu; simp at hu; subst hu; rfl) hpl (by decide) (by omega))
    obtain ⟨hr1, hr2⟩ := hin
    clear hq hr hS4 hS
    go_wp2_with first
     | (go_at_call 47; (with_reducible refine HA.out.mono ?_); rintro e w4 ⟨rfl, rfl⟩)
     | (go_at_call 46; (with_reducible refine HIN.out.mono ?_); rintro e w5 ⟨v', rfl, hS5⟩
        obtain ⟨A5, c5, rfl, _, _⟩ := (hS5.row 1 rfl).slice_
        have HS5 := Lib.hid hS5.tail
        clear hS5 HIN HA)
    go_roundw
    case rel =>
     refine ⟨k + 1, A5, c5, by omega, by go_num, rfl, ?_⟩
     rw [HST.out]
     exact HS5.out
    case measure => simp [intOf]; omega
  · obtain rfl : k = nc := by omega
    obtain ⟨ord, hord⟩ : ∃ ord, orderM u.order k = ord := ⟨_, rfl⟩
    have HORD : Hid (orderM u.order x.custs.length = ord ∧ ord.length = k ∧ ∀ c ∈ ord, 0 ≤ c ∧ c < k) := Lib.hid (by rw [HNS.out.2, ← hord]; exact ⟨rfl, orderM_len _ _, orderM_in _ _⟩)
    rw [hord] at hS
    have hS2 := hS.alloc #[.slice none 0 0, .slice none 0 0] 39
    obtain ⟨gO, oO, rfl⟩ : ∃ g o, A' = some ⟨g, o, none⟩ := by
     rcases (hS.row 0 rfl).in_ with h | ⟨g, off, cap, h, _⟩
     · omega
     · simp only [Value.slice.injEq] at h; exact ⟨g, off, h.1⟩
    clear hord hS hlt
    obtain ⟨pb, hpb⟩ : ∃ pb, wr.heap.size = pb := ⟨_, rfl⟩
    obtain ⟨w2, hw2⟩ : ∃ w2, wr.alloc (.cells #[.slice none 0 0, .slice none 0 0] 39) = w2 := ⟨_, rfl⟩
    rw [hw2, hpb] at hS2
    have HS2 := Lib.hid hS2
    have HW2 := Lib.hid (And.intro hw2 hpb)
    obtain ⟨i6, hi6, hu1, huz, hub⟩ := info_parts i64E_info
    have HI6 := Lib.hid (And.intro hi6 (And.intro hu1 (And.intro huz hub)))
    clear hw2 hpb hS2 hi6 hu1 huz hub
    go_upto_region 8 with fail
    rw [HW2.out.1, HW2.out.2]
    have y3 : w2.cell? ⟨ib, 5, none⟩ = some (.slice p.SA ns p.sc) := HS2.out.cell 4 rfl 5 (by rw [← HXC.out]; rfl)
    go_upto_region 10 with (at_make; refine wpList_make_rep _ rfl _ _ 90 rfl 2 i6 (.int .i64 0) Try.underlying90 HI6.out.1 HI6.out.2.1 HI6.out.2.2.1 rfl .i64 .i64 ns ns ns rfl rfl rfl rfl ?b2 ?b3 ?_
                            case b2 => rw [HI6.out.2.2.2]; omega
                            case b3 => unfold maxLen; omega
                            intro w4 hg4 hb4 hz4
                            have HS4 := Lib.hid (HS2.out.made hb4 hg4)
                            clear hg4 hb4 hz4)
    obtain ⟨lb, hlb⟩ : ∃ lb, w2.heap.size = lb := ⟨_, rfl⟩
    rw [hlb] at HS4 ⊢
    have HS5 : Hid (SL w w.heap.size ([.row 3 1 (.slice (some ⟨gO, oO, none⟩) k c') k (ord.map (.int .i64)), .blk lb (iarr (loadsM x u ord 0) ns) 2, .blk pb #[.slice none 0 0, .slice none 0 0] 39, .blk rb #[.slice none 0 0, .slice none 0 0] 39, .blk wb WC 51, .blk ib XC 58] ++ ((bikeN 44 3).own (.slice none 0 0) [] ++ [])) w4) := Lib.hid (by
     have h := HS4.out.nil 44 2
     have e : Array.replicate ns (Value.int .i64 0) = iarr (loadsM x u ord 0) ns := by
      rw [← madeCells_one (.int .i64 0) ns rfl]
      show madeCells #[Value.int .i64 0] ns = _
      rw [iarr_made]; rfl
     rw [e] at h
     exact h.perm (by
      unfold Nest.own
      simp only [List.map_nil, List.append_nil, List.length_nil]
      show List.Perm (_ :: _ :: _ :: _ :: _) _
      exact ((List.Perm.cons _ ((List.Perm.cons _ (List.Perm.swap _ _ _)).trans (List.Perm.swap _ _ _))).trans (List.perm_append_comm (l₁ := [_]) (l₂ := [_, _, _, _, _, _]))))
    )
    clear HS2 HS4 hlb y3
    have HCL : Hid (∀ c ∈ x.custs, 1 ≤ c.load ∧ c.load ≤ 20) := Lib.hid (fun c hc => (HX.out.custsIn c hc).1)
    go_loopw [49] (fun iv wr => ∃ (i : Nat) (A' : Option Addr) (m c2 : Nat) (ps : List (BikeV × Value)), i ≤ k ∧ iv = .int .i64 i ∧ Hid (ps.map (·.1) = bikesM x u ord i ∧ ps.length = m ∧ m ≤ i) ∧ SL w w.heap.size ([.row 3 1 (.slice (some ⟨gO, oO, none⟩) k c') k (ord.map (.int .i64)), .blk lb (iarr (loadsM x u ord i) ns) 2, .blk pb #[.slice none 0 0, .slice A' m c2] 39, .blk rb #[.slice none 0 0, .slice none 0 0] 39, .blk wb WC 51, .blk ib XC 58] ++ ((bikeN 44 3).own (.slice A' m c2) ps ++ [])) wr) (fun iv _ => k - (intOf iv).toNat)
    case atStart => exact ⟨0, none, 0, 0, [], by omega, rfl, Lib.hid ⟨rfl, rfl, by omega⟩, HS5.out⟩
    case round =>
     clear HS5
     obtain ⟨wr0, rfl⟩ : ∃ wr0 : World, wr0 = wr := ⟨_, rfl⟩
     obtain ⟨i, A', m, c2, ps, hi, rfl, HQ, hS⟩ := hrel
     by_cases hlt : i < k
     · as_aux_lemma =>
       have hiord : i < ord.length := by rw [HORD.out.2.1]; exact hlt
       have hcin := HORD.out.2.2 _ (List.getElem_mem hiord)
       obtain ⟨cc0, hcc⟩ : ∃ cc0 : Nat, ord[i] = (cc0 : Int) := ⟨ord[i].toNat, by omega⟩
       have hgd : ord.getD i 0 = (cc0 : Int) := by rw [← hcc]; simp [hiord]
       have hcnc : cc0 < k := by omega
       have hcl : cc0 < x.custs.length := by rw [HNS.out.2]; exact hcnc
       have d0 : wr0.cell? ⟨gO, oO + i, none⟩ = some (.int .i64 (cc0 : Int)) := hS.rowCell 0 rfl i (by rw [← hcc]; simp [hiord])
       obtain ⟨gC, oC, hCA, hgC, e0, zz1, zz2, zz3⟩ := custs_at HI.out.custs hcl
       clear zz1 zz2 zz3
       have hld := HCL.out _ (List.getElem_mem hcl)
       have HCU : Hid (custLoad x.custs (cc0 : Int) = x.custs[cc0].load) := Lib.hid (by unfold custLoad; simp [hcl])
       obtain ⟨ld, hldq⟩ : ∃ ld, x.custs[cc0].load = ld := ⟨_, rfl⟩
       rw [hldq] at e0 hld HCU
       have hsl := satM_lt u cc0 (show 0 < x.sats.length by rw [HNS.out.1]; omega)
       have hsat : atM u.sats cc0 % (ns : Int) = (satM x u cc0 : Int) := by
        unfold satM
        rw [HNS.out.1]
        have := Int.emod_nonneg (atM u.sats cc0) (show (ns : Int) ≠ 0 by omega)
        omega
       have hain := atM_in HU.out.sats cc0
       have HLM : Hid (loadsM x u ord (i + 1) = addAt (loadsM x u ord i) (satM x u cc0) ld) := Lib.hid (by
        show addAt (loadsM x u ord i) (satM x u (ord.getD i 0).toNat) (custLoad x.custs (ord.getD i 0)) = _
        rw [hgd, Int.toNat_natCast, HCU.out])
       have HBM : Hid (bikesM x u ord (i + 1) = bikeStep x u i cc0 (bikesM x u ord i)) := Lib.hid (by
        show bikeStep x u i (ord.getD i 0).toNat (bikesM x u ord i) = _
        rw [hgd, Int.toNat_natCast])
       have HLB : Hid (∀ s, 0 ≤ loadsM x u ord i s ∧ loadsM x u ord i s ≤ 20 * i) := Lib.hid (loadsM_in HCL.out u ord i)
       obtain ⟨s, hs⟩ : ∃ s, satM x u cc0 = s := ⟨_, rfl⟩
       have HSA : Hid (satM x u cc0 = s) := Lib.hid hs
       rw [hs] at hsl hsat HLM
       rw [HNS.out.1] at hsl
       obtain ⟨r, hr⟩ : ∃ r, atM u.sats cc0 = r := ⟨_, rfl⟩
       have HAS : Hid (∀ wx, Below w.heap.size w wx → Calls Try.prog 47 #[.slice SA na sc, .int .i64 cc0] wx fun e w' => e = .returned (.int .i64 r) ∧ wx = w') := Lib.hid (fun wx hb => by rw [← hr]; exact (HAT.out wx hb).1 cc0 (by omega))
       rw [hr] at hsat hain
       obtain ⟨hr1, hr2⟩ := hain
       have HE0 := Lib.hid (And.intro hgC e0)
       clear hr hs hldq hgd hcc hcin hgC e0 hcl
       have HCA := Lib.hid hCA
       go_upto_region 12 with fail
       clear d0
       refine wp_region_sq _ hS (by kernel_rfl) (by kernel_rfl) fun C cw _ hC hin => ?_
       have q0 : ∀ d, (cw d).cell? ⟨wb, 0, none⟩ = some (.slice SA na sc) := fun d => (hC d).cell 4 rfl 0 (by rw [← HWC.out]; rfl)
       have q1 : ∀ d, (cw d).cell? ⟨ib, 5, none⟩ = some (.slice p.SA ns p.sc) := fun d => (hC d).cell 5 rfl 5 (by rw [← HXC.out]; rfl)
       have q2 : ∀ d, (cw d).cell? ⟨ib, 6, none⟩ = some (.slice (some ⟨gC, oC, none⟩) k p.cc) := fun d => (hC d).cell 5 rfl 6 (by rw [← HXC.out, ← HCA.out]; rfl)
       have q3 : ∀ d, (cw d).cell? ⟨gC, oC + cc0 * 4, none⟩ = some (.int .i64 ld) := fun d => ((hC d).below.cell (p := ⟨gC, oC + cc0 * 4, none⟩) HE0.out.1).trans HE0.out.2
       have HN : Hid (∀ d, Calls Try.prog 47 #[.slice SA na sc, .int .i64 cc0] (cw d) fun e w' => e = .returned (.int .i64 r) ∧ ∃ c', w' = cw c') := Lib.hid (fun d => (HAS.out (cw d) (hC d).below).mono fun e w' h => ⟨h.1, d, h.2.symm⟩)
       clear hC hin hS hCA
       repeat (go_big_quiet_step (first | (go_at_call 47; with_reducible exact HN.out _)))
       refine wpQuiet_nil ?_
       intro w3 hS3
       clear q0 q1 q2 q3 HN HAS
       have z0 := hS3.cell 1 rfl s (iarr_get _ _ _ hsl)
       have z1 := hS3.free 1 rfl s
       have hlb1 := HLB.out s
       obtain ⟨ls, hls⟩ : ∃ ls, loadsM x u ord i s = ls := ⟨_, rfl⟩
       rw [hls] at z0 hlb1
       have hS6 := hS3.setCell 1 rfl s (.int .i64 (ls + ld))
       rw [iarr_set] at hS6
       have HLE : Hid ((fun j => if j = s then ls + ld else loadsM x u ord i j) = loadsM x u ord (i + 1)) := Lib.hid (by rw [HLM.out, ← hls]; rfl)
       rw [HLE.out] at hS6
       clear hls hS3
       go_upto_region 15 with fail
       generalize (w3.setCell ⟨lb, s, none⟩ (.int .i64 (ls + ld))) = w6 at *
       have HS6 := Lib.hid hS6
       clear hS6 z0 z1
       have x1 : w6.cell? ⟨pb, 1, none⟩ = some (.slice A' m c2) := HS6.out.cell 2 rfl 1 rfl
       go_upto_region 16 with fail
       clear x1
       rw [hsat]
       obtain ⟨bs, hbs⟩ : ∃ bs, bikesM x u ord i = bs := ⟨_, rfl⟩
       have HBS : Hid (bikesM x u ord i = bs ∧ BikesI x bs i) := Lib.hid ⟨hbs, by rw [← hbs]; exact bikesM_in u (by rw [HNS.out.1]; omega) (by rw [HNS.out.2]; exact HORD.out.2.2) i (by omega)⟩
       rw [hbs] at HBM HQ
       obtain ⟨LK, hLK⟩ : ∃ LK, lastK bs (s : Int) = LK := ⟨_, rfl⟩
       have HLK := Lib.hid hLK
       have hmi := HQ.out.2.2
       clear hbs hLK hsat HLE HLM hr1 hr2
       go_loopw [13, 78] (fun lv iv wr => ∃ j : Nat, j ≤ m ∧ iv = .int .i64 j ∧ lv = .int .i64 (LK j) ∧ SL w w.heap.size ([.row 3 1 (.slice (some ⟨gO, oO, none⟩) k c') k (ord.map (.int .i64)), .blk lb (iarr (loadsM x u ord (i + 1)) ns) 2, .blk pb #[.slice none 0 0, .slice A' m c2] 39, .blk rb #[.slice none 0 0, .slice none 0 0] 39, .blk wb WC 51, .blk ib XC 58] ++ ((bikeN 44 3).own (.slice A' m c2) ps ++ [])) wr) (fun _ iv _ => m - (intOf iv).toNat)
       case atStart => exact ⟨0, by omega, rfl, by rw [← HLK.out]; rfl, HS6.out⟩
       case round =>
        clear HS6
        obtain ⟨wr1, rfl⟩ : ∃ wr1 : World, wr1 = wr := ⟨_, rfl⟩
        obtain ⟨j, hj, rfl, rfl, hS⟩ := hrel
        by_cases hjm : j < m
        · have hjp : j < ps.length := by rw [HQ.out.2.1]; exact hjm
          obtain ⟨g, off, rfl⟩ := gn_addr hS HQ.out.2.1 (by omega)
          obtain ⟨va, vc, hv, _⟩ := gn_val hjp hS
          have d0 : wr1.cell? ⟨g, off + j * 2, none⟩ = some (.int .i64 ps[j].1.sat) := gn_head (j := 0) (bikeN_ok _ _) HQ.out.2.1 hjp (Nat.zero_lt_two) rfl hS
          have d1 : wr1.cell? ⟨g, off + j * 2 + 1, none⟩ = some ps[j].2 := gn_sl (bikeN_ok _ _) HQ.out.2.1 hjp hS
          rw [hv] at d1
          have HSTP : Hid (LK (j + 1) = if ps[j].1.sat = (s : Int) then (j : Int) else LK j) := Lib.hid (by
           rw [← HLK.out, lastK, ← HQ.out.1]
           simp [hjp])
          obtain ⟨L, hL⟩ : ∃ L, ((bikeN 44 3).len ps[j].1) = L := ⟨_, rfl⟩
          obtain ⟨sj, hsj⟩ : ∃ sj, ps[j].1.sat = sj := ⟨_, rfl⟩
          rw [hL] at d1
          rw [hsj] at d0 HSTP
          have HS4 := Lib.hid (hS.alloc #[.int .i64 sj, .slice va L vc] 44)
          clear hv hL hsj hS
          go_upto_region 18 with fail
          obtain ⟨tb, htb⟩ : ∃ tb, wr1.heap.size = tb := ⟨_, rfl⟩
          rw [htb] at HS4 ⊢
          generalize (wr1.alloc (.cells #[.int .i64 sj, .slice va L vc] 44)) = w7 at *
          have t0 : w7.cell? ⟨tb, 0, none⟩ = some (.int .i64 sj) := HS4.out.cell 0 rfl 0 rfl
          have HS7 := Lib.hid HS4.out.tail
          clear htb d0 d1 HS4
          by_cases hsq : sj = (s : Int)
          · have hbq : (sj == (s : Int)) = true := by rw [beq_iff_eq]; exact hsq
            have HV := Lib.hid (HSTP.out.trans (if_pos hsq))
            clear hsq
            go_wp2_with fail
            go_roundw
            case rel => exact ⟨j + 1, by omega, by go_num, by rw [HV.out], HS7.out⟩
            case measure => simp [intOf]; omega
          · have hbq : (sj == (s : Int)) = false := by rw [beq_eq_false_iff_ne]; exact hsq
            have HV := Lib.hid (HSTP.out.trans (if_neg hsq))
            clear hsq
            go_wp2_with fail
            go_roundw
            case rel => exact ⟨j + 1, by omega, by go_num, by rw [HV.out], HS7.out⟩
            case measure => simp [intOf]; omega
        · obtain rfl : j = m := by omega
          have hkk := lastK_in bs (s : Int) j
          rw [HLK.out] at hkk
          obtain ⟨kk, hkkq⟩ : ∃ kk, LK j = kk := ⟨_, rfl⟩
          have HKK : Hid (lastK bs (satM x u cc0) bs.length = kk) := Lib.hid (by rw [HSA.out, HLK.out, ← hkkq, ← HQ.out.1, List.length_map, HQ.out.2.1])
          rw [hkkq] at hkk ⊢
          clear hkkq hjm
          have HS := Lib.hid hS
          clear hS
          obtain ⟨i1, hi1, hz1, hzz, hbb⟩ := info_parts bikeE_info
          have HI1 := Lib.hid (And.intro hi1 (And.intro hz1 (And.intro hzz hbb)))
          have hain := atM_in HU.out.cuts i
          obtain ⟨r2, hr2⟩ : ∃ r2, atM u.cuts i = r2 := ⟨_, rfl⟩
          have HR2 := Lib.hid hr2
          have HAC : Hid (∀ wx, Below w.heap.size w wx → Calls Try.prog 47 #[.slice CA nk cc, .int .i64 i] wx fun e w' => e = .returned (.int .i64 r2) ∧ wx = w') := Lib.hid (fun wx hb => by rw [← hr2]; exact (HAT.out wx hb).2.2 i (by omega))
          rw [hr2] at hain
          obtain ⟨ha1, ha2⟩ := hain
          have y2 : wr1.cell? ⟨wb, 2, none⟩ = some (.slice CA nk cc) := HS.out.cell 4 rfl 2 (by rw [← HWC.out]; rfl)
          have HA1 := Lib.hid (HAC.out wr1 HS.out.below)
          clear hr2 hi1 hz1 hzz hbb
          by_cases hk0 : 0 ≤ kk
          case neg =>
           as_aux_lemma =>
           have hk0' : decide (0 ≤ kk) = false := decide_eq_false hk0
           have HJ : Hid (joinB x u bs i cc0 kk = false) := Lib.hid (by unfold joinB; rw [hk0']; rfl)
           clear hk0
           have y1 : wr1.cell? ⟨pb, 1, none⟩ = some (.slice A' j c2) := HS.out.cell 2 rfl 1 rfl
           have HS20 := Lib.hid ((HS.out.alloc #[.int .i64 cc0] 3).blkRowC 0 rfl 1 1 1 (by decide) (by decide) (Nat.le_refl 1))
           go_wp2_with first
            | (go_at_call 47; (with_reducible refine HA1.out.mono ?_); rintro e w21 ⟨rfl, rfl⟩)
            | (at_builtin; refine stopHere ?_)
           show wpList _ _ _ _ _ _
           refine wpList_append_sl rfl _ _ 27 rfl HS20.out 7 i1 (.agg #[.int .i64 0, .slice none 0 0]) 2 32 Try.underlying27 HI1.out.1 HI1.out.2.1 HI1.out.2.2.1 HI1.out.2.2.2 rfl (by decide) _ j 1 _ (by
            have h := gn_outer (bikeN 44 3) [.row 3 1 (.slice (some ⟨wr1.heap.size, 0, none⟩) 1 1) 1 [.int .i64 cc0], .row 3 1 (.slice (some ⟨gO, oO, none⟩) k c') k (ord.map (.int .i64)), .blk lb (iarr (loadsM x u ord (i + 1)) ns) 2, .blk pb #[.slice none 0 0, .slice A' j c2] 39, .blk rb #[.slice none 0 0, .slice none 0 0] 39, .blk wb WC 51, .blk ib XC 58] [] (.slice A' j c2) ps
            rw [HQ.out.2.1] at h
            exact h) rfl _ rfl (size_alloc' _ _) (by decide) rfl (by simp [Value.oneCell']) (by omega) (by decide) ?_
           intro v22 w22 hS22 hz22
           have hS23 : SL w w.heap.size ((bikeN 44 3).inner ((⟨(s : Int), [(cc0 : Int)]⟩ : BikeV), .slice (some ⟨wr1.heap.size, 0, none⟩) 1 1) :: ([.row 3 1 (.slice (some ⟨gO, oO, none⟩) k c') k (ord.map (.int .i64)), .blk lb (iarr (loadsM x u ord (i + 1)) ns) 2, .blk pb #[.slice none 0 0, .slice A' j c2] 39, .blk rb #[.slice none 0 0, .slice none 0 0] 39, .blk wb WC 51, .blk ib XC 58] ++ (.row 44 2 v22 (ps.length + 1) ((bikeN 44 3).heads ps ++ (bikeN 44 3).head ((⟨(s : Int), [(cc0 : Int)]⟩ : BikeV), .slice (some ⟨wr1.heap.size, 0, none⟩) 1 1)) :: (ps.map (bikeN 44 3).inner ++ [])))) w22 := by
            have h := hS22
            rw [HQ.out.2.1]
            exact h
           have z1 := hS23.free 3 rfl 1
           have z2 : w22.cell? ⟨pb, 1, none⟩ = some (.slice A' j c2) := hS23.cell 3 rfl 1 rfl
           obtain ⟨A23, c23, rfl, _, _⟩ := (hS23.row 7 rfl).slice_
           rw [HQ.out.2.1]
           have hS24 := (hS23.setCell 3 rfl 1 (.slice A23 (ps.length + 1) c23))
           have HS25 : Hid (SL w w.heap.size ([.row 3 1 (.slice (some ⟨gO, oO, none⟩) k c') k (ord.map (.int .i64)), .blk lb (iarr (loadsM x u ord (i + 1)) ns) 2, .blk pb #[.slice none 0 0, .slice A23 (j + 1) c23] 39, .blk rb #[.slice none 0 0, .slice none 0 0] 39, .blk wb WC 51, .blk ib XC 58] ++ ((bikeN 44 3).own (.slice A23 (j + 1) c23) (ps ++ [((⟨(s : Int), [(cc0 : Int)]⟩ : BikeV), .slice (some ⟨wr1.heap.size, 0, none⟩) 1 1)]) ++ [])) (w22.setCell ⟨pb, 1, none⟩ (.slice A23 (j + 1) c23))) := Lib.hid (by
            have h := SL.nestSnoc (P := [.row 3 1 (.slice (some ⟨gO, oO, none⟩) k c') k (ord.map (.int .i64)), .blk lb (iarr (loadsM x u ord (i + 1)) ns) 2, .blk pb #[.slice none 0 0, .slice A23 (ps.length + 1) c23] 39, .blk rb #[.slice none 0 0, .slice none 0 0] 39, .blk wb WC 51, .blk ib XC 58]) (R := []) hS24
            rw [HQ.out.2.1] at h
            exact h)
           clear y1 y2 HS20 hS22 hS23 hS24 hz22
           go_wp2_with fail
           go_roundw
           case rel =>
            refine ⟨i + 1, A23, j + 1, c23, _, by omega, by go_num, Lib.hid ⟨?_, by rw [List.length_append, HQ.out.2.1]; rfl, by omega⟩, HS25.out⟩
            rw [HBM.out, List.map_append, HQ.out.1]
            unfold bikeStep
            rw [HKK.out, if_neg (by rw [HJ.out]; simp), HSA.out]; rfl
           case measure => simp [intOf]; omega
          case pos =>
          by_cases hcu : 0 < r2 % 4
          case neg =>
           as_aux_lemma =>
           have hcu' : decide (0 < r2 % 4) = false := decide_eq_false hcu
           have HJ : Hid (joinB x u bs i cc0 kk = false) := Lib.hid (by unfold joinB; rw [HR2.out, hcu']; simp)
           clear hcu
           have y1 : wr1.cell? ⟨pb, 1, none⟩ = some (.slice A' j c2) := HS.out.cell 2 rfl 1 rfl
           have HS20 := Lib.hid ((HS.out.alloc #[.int .i64 cc0] 3).blkRowC 0 rfl 1 1 1 (by decide) (by decide) (Nat.le_refl 1))
           go_wp2_with first
            | (go_at_call 47; (with_reducible refine HA1.out.mono ?_); rintro e w21 ⟨rfl, rfl⟩)
            | (at_builtin; refine stopHere ?_)
           show wpList _ _ _ _ _ _
           refine wpList_append_sl rfl _ _ 27 rfl HS20.out 7 i1 (.agg #[.int .i64 0, .slice none 0 0]) 2 32 Try.underlying27 HI1.out.1 HI1.out.2.1 HI1.out.2.2.1 HI1.out.2.2.2 rfl (by decide) _ j 1 _ (by
            have h := gn_outer (bikeN 44 3) [.row 3 1 (.slice (some ⟨wr1.heap.size, 0, none⟩) 1 1) 1 [.int .i64 cc0], .row 3 1 (.slice (some ⟨gO, oO, none⟩) k c') k (ord.map (.int .i64)), .blk lb (iarr (loadsM x u ord (i + 1)) ns) 2, .blk pb #[.slice none 0 0, .slice A' j c2] 39, .blk rb #[.slice none 0 0, .slice none 0 0] 39, .blk wb WC 51, .blk ib XC 58] [] (.slice A' j c2) ps
            rw [HQ.out.2.1] at h
            exact h) rfl _ rfl (size_alloc' _ _) (by decide) rfl (by simp [Value.oneCell']) (by omega) (by decide) ?_
           intro v22 w22 hS22 hz22
           have hS23 : SL w w.heap.size ((bikeN 44 3).inner ((⟨(s : Int), [(cc0 : Int)]⟩ : BikeV), .slice (some ⟨wr1.heap.size, 0, none⟩) 1 1) :: ([.row 3 1 (.slice (some ⟨gO, oO, none⟩) k c') k (ord.map (.int .i64)), .blk lb (iarr (loadsM x u ord (i + 1)) ns) 2, .blk pb #[.slice none 0 0, .slice A' j c2] 39, .blk rb #[.slice none 0 0, .slice none 0 0] 39, .blk wb WC 51, .blk ib XC 58] ++ (.row 44 2 v22 (ps.length + 1) ((bikeN 44 3).heads ps ++ (bikeN 44 3).head ((⟨(s : Int), [(cc0 : Int)]⟩ : BikeV), .slice (some ⟨wr1.heap.size, 0, none⟩) 1 1)) :: (ps.map (bikeN 44 3).inner ++ [])))) w22 := by
            have h := hS22
            rw [HQ.out.2.1]
            exact h
           have z1 := hS23.free 3 rfl 1
           have z2 : w22.cell? ⟨pb, 1, none⟩ = some (.slice A' j c2) := hS23.cell 3 rfl 1 rfl
           obtain ⟨A23, c23, rfl, _, _⟩ := (hS23.row 7 rfl).slice_
           rw [HQ.out.2.1]
           have hS24 := (hS23.setCell 3 rfl 1 (.slice A23 (ps.length + 1) c23))
           have HS25 : Hid (SL w w.heap.size ([.row 3 1 (.slice (some ⟨gO, oO, none⟩) k c') k (ord.map (.int .i64)), .blk lb (iarr (loadsM x u ord (i + 1)) ns) 2, .blk pb #[.slice none 0 0, .slice A23 (j + 1) c23] 39, .blk rb #[.slice none 0 0, .slice none 0 0] 39, .blk wb WC 51, .blk ib XC 58] ++ ((bikeN 44 3).own (.slice A23 (j + 1) c23) (ps ++ [((⟨(s : Int), [(cc0 : Int)]⟩ : BikeV), .slice (some ⟨wr1.heap.size, 0, none⟩) 1 1)]) ++ [])) (w22.setCell ⟨pb, 1, none⟩ (.slice A23 (j + 1) c23))) := Lib.hid (by
            have h := SL.nestSnoc (P := [.row 3 1 (.slice (some ⟨gO, oO, none⟩) k c') k (ord.map (.int .i64)), .blk lb (iarr (loadsM x u ord (i + 1)) ns) 2, .blk pb #[.slice none 0 0, .slice A23 (ps.length + 1) c23] 39, .blk rb #[.slice none 0 0, .slice none 0 0] 39, .blk wb WC 51, .blk ib XC 58]) (R := []) hS24
            rw [HQ.out.2.1] at h
            exact h)
           clear y1 y2 HS20 hS22 hS23 hS24 hz22
           go_wp2_with fail
           go_roundw
           case rel =>
            refine ⟨i + 1, A23, j + 1, c23, _, by omega, by go_num, Lib.hid ⟨?_, by rw [List.length_append, HQ.out.2.1]; rfl, by omega⟩, HS25.out⟩
            rw [HBM.out, List.map_append, HQ.out.1]
            unfold bikeStep
            rw [HKK.out, if_neg (by rw [HJ.out]; simp), HSA.out]; rfl
           case measure => simp [intOf]; omega
          case pos =>
           obtain ⟨q, rfl⟩ : ∃ q : Nat, kk = q := ⟨kk.toNat, by omega⟩
           have hqj : q < j := by omega
           have hqp : q < ps.length := by rw [HQ.out.2.1]; exact hqj
           obtain ⟨g, off, rfl⟩ := gn_addr HS.out HQ.out.2.1 (by omega)
           obtain ⟨va, vc, hv, hvc⟩ := gn_val hqp HS.out
           have HBQ : Hid (bs.getD q noBike = ps[q].1) := Lib.hid (by rw [← HQ.out.1]; simp [hqp])
           have hbm : ps[q].1 ∈ bs := by rw [← HQ.out.1]; exact List.mem_map_of_mem (List.getElem_mem hqp)
           have HCI : Hid (∀ c ∈ ps[q].1.stops, 0 ≤ c ∧ c < k) := Lib.hid (fun c hc => by have := HBS.out.2.cust _ hbm c hc; rw [HNS.out.2] at this; exact this)
           have hLi : ps[q].1.stops.length ≤ i := Nat.le_trans (all_mem_le hbm) HBS.out.2.stops
           have hv' : ps[q].2 = .slice va ps[q].1.stops.length vc := hv
           have hvc' : ps[q].1.stops.length ≤ vc := hvc
           have d1 : wr1.cell? ⟨g, off + q * 2 + 1, none⟩ = some ps[q].2 := gn_sl (bikeN_ok _ _) HQ.out.2.1 hqp HS.out
           rw [hv'] at d1
           obtain ⟨L, hL⟩ : ∃ L, ps[q].1.stops.length = L := ⟨_, rfl⟩
           rw [hL] at d1 hLi hv' hvc'
           have HL := Lib.hid hL
           have HV := Lib.hid hv'
           have hq0 : (0 : Int) ≤ (q : Int) := hk0
           have hqj' : (q : Int) < (j : Int) := by omega
           have x1 : wr1.cell? ⟨pb, 1, none⟩ = some (.slice (some ⟨g, off, none⟩) j c2) := HS.out.cell 2 rfl 1 rfl
           clear hv hv' hvc hL hbm hk0
           go_upto_region 24 with (go_at_call 47; (with_reducible refine HA1.out.mono ?_); rintro e w21 ⟨rfl, rfl⟩)
           clear x1 y2 d1
           obtain ⟨ST, hST⟩ : ∃ ST, sumK x ps[q].1.stops = ST := ⟨_, rfl⟩
           have HST := Lib.hid hST
           have HSB : Hid (∀ t, 0 ≤ ST t ∧ ST t ≤ 20 * t) := Lib.hid (fun t => by rw [← hST]; exact sumK_in HCL.out _ t)
           clear hST
           go_loopw [16, 107] (fun sv iv wr => ∃ t : Nat, t ≤ L ∧ iv = .int .i64 t ∧ sv = .int .i64 (ld + ST t) ∧ SL w w.heap.size ([.row 3 1 (.slice (some ⟨gO, oO, none⟩) k c') k (ord.map (.int .i64)), .blk lb (iarr (loadsM x u ord (i + 1)) ns) 2, .blk pb #[.slice none 0 0, .slice (some ⟨g, off, none⟩) j c2] 39, .blk rb #[.slice none 0 0, .slice none 0 0] 39, .blk wb WC 51, .blk ib XC 58] ++ ((bikeN 44 3).own (.slice (some ⟨g, off, none⟩) j c2) ps ++ [])) wr) (fun _ iv _ => L - (intOf iv).toNat)
           case atStart => exact ⟨0, by omega, rfl, by rw [← HST.out]; simp [sumK], HS.out⟩
           case round =>
            clear HS HA1
            obtain ⟨wr2, rfl⟩ : ∃ wr2 : World, wr2 = wr := ⟨_, rfl⟩
            obtain ⟨t, ht, rfl, rfl, hS⟩ := hrel
            by_cases htL : t < L
            · have htl : t < ps[q].1.stops.length := by rw [HL.out]; exact htL
              have hdin := HCI.out _ (List.getElem_mem htl)
              obtain ⟨gv, ov, rfl⟩ := gn_vaddr hqp hS HV.out (by show 0 < ps[q].1.stops.length; omega)
              have hrow := gn_row hqp (v := .slice (some ⟨g, off, none⟩) j c2) [.row 3 1 (.slice (some ⟨gO, oO, none⟩) k c') k (ord.map (.int .i64)), .blk lb (iarr (loadsM x u ord (i + 1)) ns) 2, .blk pb #[.slice none 0 0, .slice (some ⟨g, off, none⟩) j c2] 39, .blk rb #[.slice none 0 0, .slice none 0 0] 39, .blk wb WC 51, .blk ib XC 58] [] HV.out (N := (bikeN 44 3))
              have d2 : wr2.cell? ⟨gv, ov + t, none⟩ = some (.int .i64 ps[q].1.stops[t]) := by
               have hr := hrow
               change _ = some (Rs.row _ 1 _ ps[q].1.stops.length (ps[q].1.stops.map (.int .i64))) at hr
               rw [HL.out] at hr
               exact hS.rowCell _ hr t (by simp [htl])
              obtain ⟨d, hd⟩ : ∃ d : Nat, ps[q].1.stops[t] = (d : Int) := ⟨(ps[q].1.stops[t]).toNat, by omega⟩
              rw [hd] at d2 hdin
              have hdk : d < k := by omega
              have hdl : d < x.custs.length := by rw [HNS.out.2]; exact hdk
              obtain ⟨gC2, oC2, hCA2, hgC2, e2, zz1, zz2, zz3⟩ := custs_at HI.out.custs hdl
              clear zz1 zz2 zz3
              have e3 := (hS.below.cell (p := ⟨gC2, oC2 + d * 4, none⟩) hgC2).trans e2
              have hld2 := HCL.out _ (List.getElem_mem hdl)
              have HSN : Hid (ST (t + 1) = ST t + x.custs[d].load) := Lib.hid (by
               rw [← HST.out, sumK]
               congr 1
               unfold custLoad
               simp [htl, hd, hdl])
              obtain ⟨l2, hl2⟩ : ∃ l2, x.custs[d].load = l2 := ⟨_, rfl⟩
              rw [hl2] at e3 hld2 HSN
              have y6 : wr2.cell? ⟨ib, 6, none⟩ = some (.slice (some ⟨gC2, oC2, none⟩) k p.cc) := hS.cell 5 rfl 6 (by rw [← HXC.out, ← hCA2]; rfl)
              have hsb := HSB.out t
              have HS6 := Lib.hid hS
              clear hd hl2 e2 hS hrow hCA2
              go_wp2_with fail
              go_roundw
              case rel => exact ⟨t + 1, by omega, by go_num, by rw [HSN.out, Int.add_assoc], HS6.out⟩
              case measure => simp [intOf]; omega
            · obtain rfl : t = L := by omega
              have y4 : wr2.cell? ⟨ib, 4, none⟩ = some (.int .i64 x.br) := hS.cell 5 rfl 4 (by rw [← HXC.out]; rfl)
              have HJQ : Hid (joinB x u bs i cc0 (q : Int) = decide (ld + ST t ≤ x.br)) := Lib.hid (by
               unfold joinB
               rw [HR2.out, decide_eq_true hq0, decide_eq_true hcu, Int.toNat_natCast, HBQ.out, HST.out, HL.out, HCU.out]; rfl)
              have HS7 := Lib.hid hS
              have hsb := HSB.out t
              obtain ⟨su, hsu⟩ : ∃ su, ld + ST t = su := ⟨_, rfl⟩
              rw [hsu] at HJQ ⊢
              obtain ⟨br, hbr⟩ : ∃ br, x.br = br := ⟨_, rfl⟩
              rw [hbr] at y4 HJQ
              clear hS htL hsu hbr
              by_cases hfit : su ≤ br
              case neg =>
               as_aux_lemma =>
               have hfit' : decide (su ≤ br) = false := decide_eq_false hfit
               have HJ : Hid (joinB x u bs i cc0 (q : Int) = false) := Lib.hid (by rw [HJQ.out, hfit'])
               clear hfit
               have y1 : wr2.cell? ⟨pb, 1, none⟩ = some (.slice (some ⟨g, off, none⟩) j c2) := HS7.out.cell 2 rfl 1 rfl
               have HS20 := Lib.hid ((HS7.out.alloc #[.int .i64 cc0] 3).blkRowC 0 rfl 1 1 1 (by decide) (by decide) (Nat.le_refl 1))
               go_wp2_with first
                | (at_builtin; refine stopHere ?_)
               show wpList _ _ _ _ _ _
               refine wpList_append_sl rfl _ _ 27 rfl HS20.out 7 i1 (.agg #[.int .i64 0, .slice none 0 0]) 2 32 Try.underlying27 HI1.out.1 HI1.out.2.1 HI1.out.2.2.1 HI1.out.2.2.2 rfl (by decide) _ j 1 _ (by
                have h := gn_outer (bikeN 44 3) [.row 3 1 (.slice (some ⟨wr2.heap.size, 0, none⟩) 1 1) 1 [.int .i64 cc0], .row 3 1 (.slice (some ⟨gO, oO, none⟩) k c') k (ord.map (.int .i64)), .blk lb (iarr (loadsM x u ord (i + 1)) ns) 2, .blk pb #[.slice none 0 0, .slice (some ⟨g, off, none⟩) j c2] 39, .blk rb #[.slice none 0 0, .slice none 0 0] 39, .blk wb WC 51, .blk ib XC 58] [] (.slice (some ⟨g, off, none⟩) j c2) ps
                rw [HQ.out.2.1] at h
                exact h) rfl _ rfl (size_alloc' _ _) (by decide) rfl (by simp [Value.oneCell']) (by omega) (by decide) ?_
               intro v22 w22 hS22 hz22
               have hS23 : SL w w.heap.size ((bikeN 44 3).inner ((⟨(s : Int), [(cc0 : Int)]⟩ : BikeV), .slice (some ⟨wr2.heap.size, 0, none⟩) 1 1) :: ([.row 3 1 (.slice (some ⟨gO, oO, none⟩) k c') k (ord.map (.int .i64)), .blk lb (iarr (loadsM x u ord (i + 1)) ns) 2, .blk pb #[.slice none 0 0, .slice (some ⟨g, off, none⟩) j c2] 39, .blk rb #[.slice none 0 0, .slice none 0 0] 39, .blk wb WC 51, .blk ib XC 58] ++ (.row 44 2 v22 (ps.length + 1) ((bikeN 44 3).heads ps ++ (bikeN 44 3).head ((⟨(s : Int), [(cc0 : Int)]⟩ : BikeV), .slice (some ⟨wr2.heap.size, 0, none⟩) 1 1)) :: (ps.map (bikeN 44 3).inner ++ [])))) w22 := by
                have h := hS22
                rw [HQ.out.2.1]
                exact h
               have z1 := hS23.free 3 rfl 1
               have z2 : w22.cell? ⟨pb, 1, none⟩ = some (.slice (some ⟨g, off, none⟩) j c2) := hS23.cell 3 rfl 1 rfl
               obtain ⟨A23, c23, rfl, _, _⟩ := (hS23.row 7 rfl).slice_
               rw [HQ.out.2.1]
               have hS24 := (hS23.setCell 3 rfl 1 (.slice A23 (ps.length + 1) c23))
               have HS25 : Hid (SL w w.heap.size ([.row 3 1 (.slice (some ⟨gO, oO, none⟩) k c') k (ord.map (.int .i64)), .blk lb (iarr (loadsM x u ord (i + 1)) ns) 2, .blk pb #[.slice none 0 0, .slice A23 (j + 1) c23] 39, .blk rb #[.slice none 0 0, .slice none 0 0] 39, .blk wb WC 51, .blk ib XC 58] ++ ((bikeN 44 3).own (.slice A23 (j + 1) c23) (ps ++ [((⟨(s : Int), [(cc0 : Int)]⟩ : BikeV), .slice (some ⟨wr2.heap.size, 0, none⟩) 1 1)]) ++ [])) (w22.setCell ⟨pb, 1, none⟩ (.slice A23 (j + 1) c23))) := Lib.hid (by
                have h := SL.nestSnoc (P := [.row 3 1 (.slice (some ⟨gO, oO, none⟩) k c') k (ord.map (.int .i64)), .blk lb (iarr (loadsM x u ord (i + 1)) ns) 2, .blk pb #[.slice none 0 0, .slice A23 (ps.length + 1) c23] 39, .blk rb #[.slice none 0 0, .slice none 0 0] 39, .blk wb WC 51, .blk ib XC 58]) (R := []) hS24
                rw [HQ.out.2.1] at h
                exact h)
               clear y1 HS20 hS22 hS23 hS24 hz22
               go_wp2_with fail
               go_roundw
               case rel =>
                refine ⟨i + 1, A23, j + 1, c23, _, by omega, by go_num, Lib.hid ⟨?_, by rw [List.length_append, HQ.out.2.1]; rfl, by omega⟩, HS25.out⟩
                rw [HBM.out, List.map_append, HQ.out.1]
                unfold bikeStep
                rw [HKK.out, if_neg (by rw [HJ.out]; simp), HSA.out]; rfl
               case measure => simp [intOf]; omega
              case pos =>
               as_aux_lemma =>
               have HJ : Hid (joinB x u bs i cc0 (q : Int) = true) := Lib.hid (by rw [HJQ.out, decide_eq_true hfit])
               go_upto_region 29 with fail
               have hrow : ([.row 3 1 (.slice (some ⟨gO, oO, none⟩) k c') k (ord.map (.int .i64)), .blk lb (iarr (loadsM x u ord (i + 1)) ns) 2, .blk pb #[.slice none 0 0, .slice (some ⟨g, off, none⟩) j c2] 39, .blk rb #[.slice none 0 0, .slice none 0 0] 39, .blk wb WC 51, .blk ib XC 58] ++ ((bikeN 44 3).own (.slice (some ⟨g, off, none⟩) j c2) ps ++ []))[6 + (q + 1)]? = some (.row 3 1 (.slice va t vc) t (ps[q].1.stops.map (.int .i64))) := by
                have h := gn_row hqp (v := .slice (some ⟨g, off, none⟩) j c2) [.row 3 1 (.slice (some ⟨gO, oO, none⟩) k c') k (ord.map (.int .i64)), .blk lb (iarr (loadsM x u ord (i + 1)) ns) 2, .blk pb #[.slice none 0 0, .slice (some ⟨g, off, none⟩) j c2] 39, .blk rb #[.slice none 0 0, .slice none 0 0] 39, .blk wb WC 51, .blk ib XC 58] [] HV.out (N := (bikeN 44 3))
                change _ = some (Rs.row _ 1 _ ps[q].1.stops.length (ps[q].1.stops.map (.int .i64))) at h
                rw [HL.out] at h
                exact h
               have HROW := Lib.hid hrow
               have hrs := gn_sub (N := (bikeN 44 3)) HQ.out.2.1 (.slice (some ⟨g, off, none⟩) j c2) [.blk pb #[.slice none 0 0, .slice (some ⟨g, off, none⟩) j c2] 39] [.row 3 1 (.slice (some ⟨gO, oO, none⟩) k c') k (ord.map (.int .i64)), .blk lb (iarr (loadsM x u ord (i + 1)) ns) 2, .blk pb #[.slice none 0 0, .slice (some ⟨g, off, none⟩) j c2] 39, .blk rb #[.slice none 0 0, .slice none 0 0] 39, .blk wb WC 51, .blk ib XC 58] [] (.cons _ (.cons _ (.cons_cons _ (List.nil_sublist _))))
               have hrs2 := gn_subset (N := (bikeN 44 3)) HQ.out.2.1 (.slice (some ⟨g, off, none⟩) j c2) [.blk pb #[.slice none 0 0, .slice (some ⟨g, off, none⟩) j c2] 39] [.row 3 1 (.slice (some ⟨gO, oO, none⟩) k c') k (ord.map (.int .i64)), .blk lb (iarr (loadsM x u ord (i + 1)) ns) 2, .blk pb #[.slice none 0 0, .slice (some ⟨g, off, none⟩) j c2] 39, .blk rb #[.slice none 0 0, .slice none 0 0] 39, .blk wb WC 51, .blk ib XC 58] [] (.cons _ (.cons _ (.cons_cons _ (List.nil_sublist _)))) q
               have HRS := Lib.hid hrs
               have HRS2 := Lib.hid hrs2
               clear hrow hrs2
               refine wp_region_sl [0,1,2,3,4,5,6,7,8,9] [10,11] [12,13,14] _ HS7.out hrs (by kernel_rfl) (by kernel_rfl) (.cons rfl (.cons rfl (.cons rfl .nil))) (fun C cw _ hC => ?_)
               have q1 : ∀ d, (cw d).cell? ⟨pb, 1, none⟩ = some (.slice (some ⟨g, off, none⟩) j c2) := fun d => (hC d).cell 0 rfl 1 rfl
               have q2 : ∀ d, (cw d).cell? ⟨g, off + q * 2 + 1, none⟩ = some (.slice va t vc) := fun d => (hC d).rowCell 1 rfl (q * 2 + 1) (by
                have h := gn_heads (bikeN_ok 44 3) ps q 1 hqp Nat.one_lt_two
                rw [← HV.out]
                exact h)
               repeat (refine pl_look rfl rfl rfl (fun Kv hK => ?_); go_big_quiet_op; refine hK _ ?_; clear hK Kv)
               clear q1 q2 hC hrs y4
               refine pl_end ?_
               intro w30 hS30
               refine pm_eff rfl rfl fun Kv hK => ?_
               go_simp
               refine ⟨(hS30.alloc _ _).tail.sub HRS.out, hK _ _ ?_⟩
               clear hK Kv
               refine pm_append rfl rfl (.tmp 133) (.tmp 135) 42 rfl hS30 (6 + (q + 1)) i0 (.int .i64 0) 1 8 Try.underlying42 HI0.out.1 HI0.out.2.1 HI0.out.2.2.1 HI0.out.2.2.2 rfl (by decide) _ t 1 _ HROW.out rfl _ rfl rfl (by decide) rfl (by simp [Value.oneCell']) (by omega) (by decide) ?_
               intro v31 w31 hS31 hz31
               refine ⟨hS31.sub (HRS2.out _), fun Kv hK => hK _ _ ?_⟩
               refine pm_end ?_
               obtain ⟨A31, c31, rfl, _, _⟩ := (hS31.row (6 + (q + 1)) (List.getElem?_set_self (List.getElem?_eq_some_iff.1 HROW.out).1)).slice_
               have d3 : w31.frozen? ⟨g, off + q * 2 + 1, none⟩ = false := (hS31.sub (HRS2.out _)).rowFree 1 rfl _ (by omega)
               have d4 : w31.cell? ⟨g, off + q * 2 + 1, none⟩ = some (.slice va t vc) := (hS31.sub (HRS2.out _)).rowCell 1 rfl (q * 2 + 1) (by
                have h := gn_heads (bikeN_ok 44 3) ps q 1 hqp Nat.one_lt_two
                rw [← HV.out]
                exact h)
               have HSX := Lib.hid (gn_turn (bikeN_ok 44 3) HQ.out.2.1 hqp (⟨ps[q].1.sat, ps[q].1.stops ++ [(cc0 : Int)]⟩ : BikeV) (.slice A31 (t + 1) c31) rfl (P := [.row 3 1 (.slice (some ⟨gO, oO, none⟩) k c') k (ord.map (.int .i64)), .blk lb (iarr (loadsM x u ord (i + 1)) ns) 2, .blk pb #[.slice none 0 0, .slice (some ⟨g, off, none⟩) j c2] 39, .blk rb #[.slice none 0 0, .slice none 0 0] 39, .blk wb WC 51, .blk ib XC 58]) (R := []) (by
                have h := hS31
                rw [show ((bikeN 44 3).len (⟨ps[q].1.sat, ps[q].1.stops ++ [(cc0 : Int)]⟩ : BikeV)) = t + 1 by show (ps[q].1.stops ++ [(cc0 : Int)]).length = t + 1; rw [List.length_append, HL.out]; rfl]
                rw [show ((bikeN 44 3).cells (⟨ps[q].1.sat, ps[q].1.stops ++ [(cc0 : Int)]⟩ : BikeV)) = ps[q].1.stops.map (.int .i64) ++ [.int .i64 (cc0 : Int)] by show (ps[q].1.stops ++ [(cc0 : Int)]).map (Value.int .i64) = _; rw [List.map_append]; rfl]
                exact h))
               clear hS30 hS31 hz31 HROW HRS2 HS7
               go_wp2_with fail
               go_roundw
               case rel =>
                refine ⟨i + 1, some ⟨g, off, none⟩, j, c2, _, by omega, by go_num, Lib.hid ⟨?_, by rw [List.length_set]; exact HQ.out.2.1, by omega⟩, HSX.out⟩
                rw [HBM.out]
                unfold bikeStep
                rw [HKK.out, if_pos HJ.out, Int.toNat_natCast, HBQ.out, List.map_set, HQ.out.1]
               case measure => simp [intOf]; omega
     · as_aux_lemma =>
       obtain rfl : i = k := by omega
       obtain ⟨F, hF⟩ : ∃ F, loadsM x u ord i = F := ⟨_, rfl⟩
       have HFB : Hid (∀ s, F s ≤ 120) := Lib.hid (fun s => by have h := (loadsM_in HCL.out u ord i s).2; rw [hF] at h; omega)
       have HFF := Lib.hid hF
       rw [hF] at hS
       have HS := Lib.hid hS
       have htr := HX.out.tr
       have htm := HX.out.tm
       have HBI : Hid (BikesI x (bikesM x u ord i) i) := Lib.hid (bikesM_in u (by rw [HNS.out.1]; omega) (by rw [HNS.out.2]; exact HORD.out.2.2) i (by rw [HORD.out.2.1]; exact Nat.le_refl _))
       have HS9 : Hid (SL w w.heap.size ([.row 3 1 (.slice (some ⟨gO, oO, none⟩) i c') i (ord.map (.int .i64)), .blk lb (iarr F ns) 2, .blk pb #[.slice none 0 0, .slice A' m c2] 39, .blk rb #[.slice none 0 0, .slice none 0 0] 39, .blk wb WC 51, .blk ib XC 58] ++ ((truckN 88 105).own (.slice none 0 0) [] ++ ((bikeN 44 3).own (.slice A' m c2) ps ++ []))) wr0) := Lib.hid (by
        have h := hS.nil 88 1
        exact h.perm (by
         unfold Nest.own
         simp only [List.map_nil, List.append_nil, List.length_nil]
         exact (List.perm_middle (l₁ := [_, _, _, _, _, _]) (l₂ := _)).symm))
       clear hF hS HS hlt
       go_upto_region 34 with fail
       go_loopw [151, 19] (fun iv lv wr => ∃ (z : Nat) (TA : Option Addr) (nT tc : Nat) (left : Int) (qs : List (List StopV × Value)), z ≤ ns ∧ iv = .int .i64 z ∧ lv = .int .i64 left ∧ Hid ((left, qs.map (·.1)) = trucksM x u F z ∧ qs.length = nT) ∧ SL w w.heap.size ([.row 3 1 (.slice (some ⟨gO, oO, none⟩) i c') i (ord.map (.int .i64)), .blk lb (iarr F ns) 2, .blk pb #[.slice TA nT tc, .slice A' m c2] 39, .blk rb #[.slice none 0 0, .slice none 0 0] 39, .blk wb WC 51, .blk ib XC 58] ++ ((truckN 88 105).own (.slice TA nT tc) qs ++ ((bikeN 44 3).own (.slice A' m c2) ps ++ []))) wr) (fun iv _ _ => ns - (intOf iv).toNat)
       case atStart => exact ⟨0, none, 0, 0, 0, [], by omega, rfl, rfl, Lib.hid ⟨rfl, rfl⟩, HS9.out⟩
       case round =>
        clear HS9
        obtain ⟨wr1, rfl⟩ : ∃ wr1 : World, wr1 = wr := ⟨_, rfl⟩
        obtain ⟨z, TA, nT, tc, left, qs, hz, rfl, rfl, HT, hS⟩ := hrel
        by_cases hlt : z < ns
        · as_aux_lemma =>
          have d0 : wr1.cell? ⟨lb, z, none⟩ = some (.int .i64 (F z)) := hS.cell 1 rfl z (iarr_get _ _ _ hlt)
          have hfb := HFB.out z
          obtain ⟨n0, hn0⟩ : ∃ n0, F z = n0 := ⟨_, rfl⟩
          rw [hn0] at d0 hfb
          have HN0 := Lib.hid hn0
          have HS6 := Lib.hid hS
          have hcin := atM_in HU.out.cuts z
          obtain ⟨cut, hcut⟩ : ∃ cut, atM u.cuts z = cut := ⟨_, rfl⟩
          have HAC : Hid (∀ wx, Below w.heap.size w wx → Calls Try.prog 47 #[.slice CA nk cc, .int .i64 z] wx fun e w' => e = .returned (.int .i64 cut) ∧ wx = w') := Lib.hid (fun wx hb => by rw [← hcut]; exact (HAT.out wx hb).2.2 z (by omega))
          have HRES : Hid (trucksM x u F (z + 1) = fillR x cut z n0.toNat n0 left (qs.map (·.1))) := Lib.hid (by
           show fillR x (atM u.cuts z) z (F z).toNat (F z) (trucksM x u F z).1 (trucksM x u F z).2 = _
           rw [← HT.out.1, hcut, hn0])
          have HTI : Hid (TrucksI x left (qs.map (·.1)) (120 * z)) := Lib.hid (by
           have h := trucksM_in (w := u) htr.1 HFB.out z
           rw [← HT.out.1] at h; exact h)
          rw [hcut] at hcin
          clear hS hn0 hcut
          go_upto_region 36 with fail
          clear d0
          obtain ⟨RES, hRES⟩ : ∃ RES, trucksM x u F (z + 1) = RES := ⟨_, rfl⟩
          have HRS := Lib.hid hRES
          rw [hRES] at HRES
          clear hRES
          go_loopw [21, 19] (fun nv lv wr => ∃ (f mm : Nat) (n left : Int) (TA : Option Addr) (nT tc : Nat) (qs : List (List StopV × Value)), nv = .int .i64 n ∧ lv = .int .i64 left ∧ n ≤ f ∧ mm + f ≤ 480 ∧ n ≤ 120 ∧ Hid (fillR x cut z f n left (qs.map (·.1)) = RES ∧ TrucksI x left (qs.map (·.1)) mm ∧ qs.length = nT) ∧ SL w w.heap.size ([.row 3 1 (.slice (some ⟨gO, oO, none⟩) i c') i (ord.map (.int .i64)), .blk lb (iarr F ns) 2, .blk pb #[.slice TA nT tc, .slice A' m c2] 39, .blk rb #[.slice none 0 0, .slice none 0 0] 39, .blk wb WC 51, .blk ib XC 58] ++ ((truckN 88 105).own (.slice TA nT tc) qs ++ ((bikeN 44 3).own (.slice A' m c2) ps ++ []))) wr) (fun nv _ _ => (intOf nv).toNat)
          case atStart => exact ⟨n0.toNat, 120 * z, n0, left, TA, nT, tc, qs, rfl, rfl, by omega, by omega, hfb, Lib.hid ⟨HRES.out.symm, HTI.out, HT.out.2⟩, HS6.out⟩
          case round =>
           clear HS6 HRES HTI HT
           obtain ⟨wr2, rfl⟩ : ∃ wr2 : World, wr2 = wr := ⟨_, rfl⟩
           obtain ⟨f, mm, n, left, TA, nT, tc, qs, rfl, rfl, hnf, hmf, hn1, HT, hS⟩ := hrel
           by_cases hn : 0 < n
           · have HST2 := Lib.hid (HT.out.2.1.step (n := n) (cut := cut) (s := z) htr.1 hn)
             obtain ⟨htl0, htl1⟩ := HT.out.2.1.lft
             have HS6 := Lib.hid hS
             have y0 : wr2.cell? ⟨pb, 0, none⟩ = some (.slice TA nT tc) := hS.cell 2 rfl 0 rfl
             have y1 : wr2.cell? ⟨ib, 1, none⟩ = some (.int .i64 x.tm) := hS.cell 5 rfl 1 (by rw [← HXC.out]; rfl)
             have yw : wr2.cell? ⟨wb, 2, none⟩ = some (.slice CA nk cc) := hS.cell 4 rfl 2 (by rw [← HWC.out]; rfl)
             have HA1 := Lib.hid (HAC.out wr2 hS.below)
             have hnT : nT ≤ 480 := by have h1 := HT.out.2.1.len; have h2 := HT.out.2.1.stops; rw [List.length_map, HT.out.2.2] at h1; omega
             obtain ⟨tm, htmq⟩ : ∃ tm, x.tm = tm := ⟨_, rfl⟩
             obtain ⟨hcn0, hcn1⟩ := hcin
             rw [htmq] at y1
             have HTM := Lib.hid htmq
             clear hS htmq
             by_cases hl0 : left = 0
             · as_aux_lemma =>
               have hlb0 : (left == 0) = true := by rw [beq_iff_eq]; exact hl0
               have HNB : Hid (newB x cut left nT = true) := Lib.hid (by unfold newB; rw [decide_eq_true hl0]; rfl)
               have HL0 := Lib.hid hl0
               clear hl0
               go_upto_region 38 with fail
               obtain ⟨i5, hi5, hg1, hgz, hgb⟩ := info_parts truckE_info
               have HI5 := Lib.hid (And.intro hi5 (And.intro hg1 (And.intro hgz hgb)))
               have HROWT : Hid (((truckN 88 105).inner (([] : List StopV), Value.slice none 0 0) :: ([.row 3 1 (.slice (some ⟨gO, oO, none⟩) i c') i (ord.map (.int .i64)), .blk lb (iarr F ns) 2, .blk pb #[.slice TA nT tc, .slice A' m c2] 39, .blk rb #[.slice none 0 0, .slice none 0 0] 39, .blk wb WC 51, .blk ib XC 58] ++ ((truckN 88 105).own (.slice TA nT tc) qs ++ ((bikeN 44 3).own (.slice A' m c2) ps ++ []))))[7]? = some (.row 88 1 (.slice TA nT tc) nT ((truckN 88 105).heads qs))) := Lib.hid (by
                have h := gn_outer (truckN 88 105) ((truckN 88 105).inner (([] : List StopV), Value.slice none 0 0) :: [.row 3 1 (.slice (some ⟨gO, oO, none⟩) i c') i (ord.map (.int .i64)), .blk lb (iarr F ns) 2, .blk pb #[.slice TA nT tc, .slice A' m c2] 39, .blk rb #[.slice none 0 0, .slice none 0 0] 39, .blk wb WC 51, .blk ib XC 58]) ((bikeN 44 3).own (.slice A' m c2) ps ++ []) (.slice TA nT tc) qs
                rw [HT.out.2.2] at h
                exact h)
               have HSN := HS6.out.nil 105 2
               clear hi5 hg1 hgz hgb
               refine wp_region_slb [0,2,5,6,7] [1,3,4,8,9] [10] [.blk ib XC 58] HSN (.cons _ (.cons _ (.cons _ (.cons _ (.cons _ (.cons _ (.cons_cons _ (List.nil_sublist _)))))))) (by kernel_rfl) (by kernel_rfl) (.cons rfl .nil) (fun C cw _ hC => ?_)
               have q1 : ∀ d, (cw d).cell? ⟨ib, 2, none⟩ = some (.int .i64 x.tr) := fun d => (hC d).cell 0 rfl 2 (by rw [← HXC.out]; rfl)
               repeat (refine pl_look rfl rfl rfl (fun Kv hK => ?_); go_big_quiet_op; refine hK _ ?_; clear hK Kv)
               clear q1 hC HSN
               refine pl_end ?_
               intro w30 hS30
               have y0' : w30.cell? ⟨pb, 0, none⟩ = some (.slice TA nT tc) := hS30.cell 3 rfl 0 rfl
               refine pb_two 1 3 (by kernel_rfl) (by kernel_rfl) (by kernel_rfl) ?_ ?_
               · skip
                 refine kOp_eff rfl rfl fun Kv hK => ?_
                 go_simp
                 refine ⟨hS30.sub (.cons _ (.cons _ (.cons _ (.cons _ (.cons _ (.cons _ (.cons_cons _ (List.nil_sublist _)))))))), hK _ _ ?_⟩
                 clear hK Kv
                 refine pb_one 3 (by kernel_rfl) (by kernel_rfl) ?_
                 refine kOp_eff rfl rfl fun Kv hK => ?_
                 go_simp
                 refine ⟨(hS30.alloc _ _).tail.sub (.cons _ (.cons _ (.cons _ (.cons _ (.cons _ (.cons _ (.cons_cons _ (List.nil_sublist _)))))))), hK _ _ ?_⟩
                 clear hK Kv
                 refine pb_one 4 (by kernel_rfl) (by kernel_rfl) ?_
                 refine kOp_append rfl rfl (.tmp 178) (.tmp 180) 37 rfl hS30 7 i5 (.agg #[.slice none 0 0]) 1 24 Try.underlying37 HI5.out.1 HI5.out.2.1 HI5.out.2.2.1 HI5.out.2.2.2 rfl (by decide) _ nT 1 _ HROWT.out rfl _ rfl rfl (by decide) rfl (by simp [Value.oneCell']) (by omega) (by decide) ?_
                 intro v31 w31 hS31 hz31
                 have hS32 : SL w w.heap.size ((truckN 88 105).inner (([] : List StopV), Value.slice none 0 0) :: ([.row 3 1 (.slice (some ⟨gO, oO, none⟩) i c') i (ord.map (.int .i64)), .blk lb (iarr F ns) 2, .blk pb #[.slice TA nT tc, .slice A' m c2] 39, .blk rb #[.slice none 0 0, .slice none 0 0] 39, .blk wb WC 51, .blk ib XC 58] ++ (.row 88 1 v31 (qs.length + 1) ((truckN 88 105).heads qs ++ (truckN 88 105).head (([] : List StopV), Value.slice none 0 0)) :: (qs.map (truckN 88 105).inner ++ ((bikeN 44 3).own (.slice A' m c2) ps ++ []))))) w31 := by
                  have h := hS31
                  rw [HT.out.2.2]
                  exact h
                 refine ⟨hS32.sub (.cons _ (.cons _ (.cons _ (.cons _ (.cons _ (.cons _ (.cons_cons _ (List.nil_sublist _))))))) ), ?_⟩
                 obtain ⟨A31, c31, rfl, _, _⟩ := (hS32.row 7 rfl).slice_
                 refine pb_one 8 (by kernel_rfl) (by kernel_rfl) ?_
                 refine kOp_eff rfl rfl fun Kv hK => ?_
                 go_simp
                 refine ⟨hS32.sub (.cons _ (.cons _ (.cons _ (.cons _ (.cons _ (.cons _ (.cons_cons _ (List.nil_sublist _))))))) ), hK _ _ ?_⟩
                 clear hK Kv
                 have z5 := hS32.free 3 rfl 0
                 have z6 : w31.cell? ⟨pb, 0, none⟩ = some (.slice TA nT tc) := hS32.cell 3 rfl 0 rfl
                 have hS33 := hS32.setCell 3 rfl 0 (.slice A31 (qs.length + 1) c31)
                 refine pb_one 9 (by kernel_rfl) (by kernel_rfl) ?_
                 refine kOp_eff rfl rfl fun Kv hK => ?_
                 go_simp
                 refine ⟨hS33.sub (.cons _ (.cons _ (.cons _ (.cons _ (.cons _ (.cons _ (.cons_cons _ (List.nil_sublist _))))))) ), hK _ _ ?_⟩
                 clear hK Kv
                 refine pb_end (by kernel_rfl) ?_
                 have hS34 := SL.nestSnoc (P := [.row 3 1 (.slice (some ⟨gO, oO, none⟩) i c') i (ord.map (.int .i64)), .blk lb (iarr F ns) 2, .blk pb #[.slice A31 (qs.length + 1) c31, .slice A' m c2] 39, .blk rb #[.slice none 0 0, .slice none 0 0] 39, .blk wb WC 51, .blk ib XC 58]) (R := ((bikeN 44 3).own (.slice A' m c2) ps ++ [])) hS33
                 rw [HT.out.2.2] at hS34
                 rw [HT.out.2.2]
                 obtain ⟨q1, hq1⟩ : ∃ q1, q1 = qs ++ [(([] : List StopV), Value.slice none 0 0)] := ⟨_, rfl⟩
                 rw [← hq1] at hS34
                 have hq1l : q1.length = nT + 1 := by rw [hq1, List.length_append, HT.out.2.2]; rfl
                 obtain ⟨gt, ot, rfl⟩ := gn_addr hS34 hq1l (by omega)
                 obtain ⟨z1, rfl⟩ : ∃ z1, z1 = nT := ⟨_, rfl⟩
                 obtain ⟨tc1, rfl⟩ : ∃ tc1, tc1 = c31 := ⟨_, rfl⟩
                 obtain ⟨l1, hl1⟩ : ∃ l1, x.tr = l1 := ⟨_, rfl⟩
                 obtain ⟨wn, hwn⟩ : ∃ wn, (w31.setCell ⟨pb, 0, none⟩ (.slice (some ⟨gt, ot, none⟩) (z1 + 1) tc1)) = wn := ⟨_, rfl⟩
                 rw [hwn] at hS34
                 have HS40 : Hid (SL w w.heap.size ([.row 3 1 (.slice (some ⟨gO, oO, none⟩) i c') i (ord.map (.int .i64)), .blk lb (iarr F ns) 2, .blk pb #[.slice (some ⟨gt, ot, none⟩) (z1 + 1) tc1, .slice A' m c2] 39, .blk rb #[.slice none 0 0, .slice none 0 0] 39, .blk wb WC 51, .blk ib XC 58] ++ ((truckN 88 105).own (.slice (some ⟨gt, ot, none⟩) (z1 + 1) tc1) q1 ++ ((bikeN 44 3).own (.slice A' m c2) ps ++ []))) wn) := Lib.hid hS34
                 have HQ1 : Hid (q1.map (·.1) = tsA x cut left (qs.map (·.1)) ∧ q1.length = z1 + 1 ∧ l1 = leftA x cut left z1) := Lib.hid ⟨by unfold tsA; rw [List.length_map, HT.out.2.2, if_pos HNB.out, hq1, List.map_append]; rfl, hq1l, by unfold leftA; rw [if_pos HNB.out, hl1]⟩
                 rw [hwn, hl1]
                 clear hq1 hq1l hl1 hwn hS30 hS31 hS32 hS33 hS34 HS6 z5 z6 hz31 HROWT y0 y1 yw y0'
                 go_upto_region 39 with fail
                 have hzp : z1 < q1.length := by rw [HQ1.out.2.1]; omega
                 obtain ⟨vs, vcs, hvs, hvcs⟩ := gn_val hzp HS40.out
                 have d1 : wn.cell? ⟨gt, ot + z1, none⟩ = some q1[z1].2 := by
                  have h := gn_sl (truckN_ok _ _) HQ1.out.2.1 hzp HS40.out
                  rw [show ot + (z1 * (truckN 88 105).S + ((truckN 88 105).S - 1)) = ot + z1 by show ot + (z1 * 1 + (1 - 1)) = _; omega] at h
                  exact h
                 rw [hvs] at d1
                 have hslen : (truckN 88 105).len q1[z1].1 ≤ 480 := by
                  show q1[z1].1.length ≤ 480
                  have h1 : q1[z1].1 ∈ q1.map (·.1) := List.mem_map_of_mem (List.getElem_mem hzp)
                  have h2 : q1[z1].1.length ≤ (q1.map (·.1)).flatten.length := by
                   rw [List.length_flatten]
                   exact mem_le_sum (List.mem_map_of_mem h1)
                  rw [HQ1.out.1, tsA_flat] at h2
                  have h3 := HT.out.2.1.stops
                  omega
                 obtain ⟨LS, hLS⟩ : ∃ LS, (truckN 88 105).len q1[z1].1 = LS := ⟨_, rfl⟩
                 rw [hLS] at d1 hslen hvs hvcs
                 have HLS := Lib.hid hLS
                 have HVS := Lib.hid hvs
                 have hmu : 0 < min n l1 ∧ min n l1 ≤ n ∧ min n l1 ≤ l1 ∧ l1 ≤ 3000 := by
                  have h := HST2.out
                  have h2 := HT.out.2.2
                  rw [List.length_map, h2, ← HQ1.out.2.2] at h
                  have h3 := h.2.2.1
                  have h4 := h.2.2.2.1
                  omega
                 obtain ⟨mu, hmuq⟩ : ∃ mu, min n l1 = mu := ⟨_, rfl⟩
                 go_upto_region 40 with fail
                 rw [hmuq] at hmu
                 have HMU := Lib.hid hmuq
                 obtain ⟨hmu0, hmu1, hmu2, hmu3⟩ := hmu
                 have x0 : wn.cell? ⟨pb, 0, none⟩ = some (.slice (some ⟨gt, ot, none⟩) (z1 + 1) tc1) := HS40.out.cell 2 rfl 0 rfl
                 have hrow : ([.row 3 1 (.slice (some ⟨gO, oO, none⟩) i c') i (ord.map (.int .i64)), .blk lb (iarr F ns) 2, .blk pb #[.slice (some ⟨gt, ot, none⟩) (z1 + 1) tc1, .slice A' m c2] 39, .blk rb #[.slice none 0 0, .slice none 0 0] 39, .blk wb WC 51, .blk ib XC 58] ++ ((truckN 88 105).own (.slice (some ⟨gt, ot, none⟩) (z1 + 1) tc1) q1 ++ ((bikeN 44 3).own (.slice A' m c2) ps ++ [])))[6 + (z1 + 1)]? = some (.row 105 2 (.slice vs LS vcs) LS (q1[z1].1.flatMap StopV.cells)) := by
                  have h := gn_row hzp (v := .slice (some ⟨gt, ot, none⟩) (z1 + 1) tc1) [.row 3 1 (.slice (some ⟨gO, oO, none⟩) i c') i (ord.map (.int .i64)), .blk lb (iarr F ns) 2, .blk pb #[.slice (some ⟨gt, ot, none⟩) (z1 + 1) tc1, .slice A' m c2] 39, .blk rb #[.slice none 0 0, .slice none 0 0] 39, .blk wb WC 51, .blk ib XC 58] ((bikeN 44 3).own (.slice A' m c2) ps ++ []) HVS.out (N := (truckN 88 105))
                  rw [HLS.out] at h
                  exact h
                 have HROW := Lib.hid hrow
                 have HRS3 := Lib.hid (gn_subset (N := (truckN 88 105)) HQ1.out.2.1 (.slice (some ⟨gt, ot, none⟩) (z1 + 1) tc1) [.blk pb #[.slice (some ⟨gt, ot, none⟩) (z1 + 1) tc1, .slice A' m c2] 39] [.row 3 1 (.slice (some ⟨gO, oO, none⟩) i c') i (ord.map (.int .i64)), .blk lb (iarr F ns) 2, .blk pb #[.slice (some ⟨gt, ot, none⟩) (z1 + 1) tc1, .slice A' m c2] 39, .blk rb #[.slice none 0 0, .slice none 0 0] 39, .blk wb WC 51, .blk ib XC 58] ((bikeN 44 3).own (.slice A' m c2) ps ++ []) (.cons _ (.cons _ (.cons_cons _ (List.nil_sublist _)))) z1)
                 obtain ⟨i7, hi7, hk1, hkz, hkb⟩ := info_parts stopE_info
                 have HI7 := Lib.hid (And.intro hi7 (And.intro hk1 (And.intro hkz hkb)))
                 clear hrow hvs hvcs hLS hmuq hi7 hk1 hkz hkb
                 go_wp2_with (at_builtin; refine stopHere ?_)
                 show wpList _ _ _ _ _ _
                 refine wpList_append_sl rfl _ _ 86 rfl HS40.out (6 + (z1 + 1)) i7 (.agg #[.int .i64 0, .int .i64 0]) 2 16 Try.underlying86 HI7.out.1 HI7.out.2.1 HI7.out.2.2.1 HI7.out.2.2.2 rfl (by decide) _ LS 1 _ HROW.out rfl _ rfl rfl (by decide) rfl (by simp [Value.oneCell']) (by omega) (by decide) ?_
                 intro v41 w41 hS41 hz41
                 obtain ⟨A41, c41, rfl, _, _⟩ := (hS41.row (6 + (z1 + 1)) (List.getElem?_set_self (List.getElem?_eq_some_iff.1 HROW.out).1)).slice_
                 have d3 : w41.frozen? ⟨gt, ot + z1, none⟩ = false := (hS41.sub (HRS3.out _)).rowFree 1 rfl _ (by omega)
                 have d4 : ∃ v, w41.cell? ⟨gt, ot + z1, none⟩ = some v := by
                  have h := gn_heads (truckN_ok 88 105) q1 z1 0 hzp (Nat.zero_lt_one)
                  have h2 := (hS41.sub (HRS3.out _)).rowCell 1 rfl (z1 * 1 + 0) h
                  rw [show ot + (z1 * 1 + 0) = ot + z1 by omega] at h2
                  exact ⟨_, h2⟩
                 obtain ⟨vv, d4⟩ := d4
                 have HSX : Hid (SL w w.heap.size ([.row 3 1 (.slice (some ⟨gO, oO, none⟩) i c') i (ord.map (.int .i64)), .blk lb (iarr F ns) 2, .blk pb #[.slice (some ⟨gt, ot, none⟩) (z1 + 1) tc1, .slice A' m c2] 39, .blk rb #[.slice none 0 0, .slice none 0 0] 39, .blk wb WC 51, .blk ib XC 58] ++ ((truckN 88 105).own (.slice (some ⟨gt, ot, none⟩) (z1 + 1) tc1) (q1.set z1 (q1[z1].1 ++ [⟨(z : Int), mu⟩], .slice A41 (LS + 1) c41)) ++ ((bikeN 44 3).own (.slice A' m c2) ps ++ []))) (w41.setCell ⟨gt, ot + z1, none⟩ (.slice A41 (LS + 1) c41))) := Lib.hid (by
                  have h := gn_turn (truckN_ok 88 105) HQ1.out.2.1 hzp (q1[z1].1 ++ [⟨(z : Int), mu⟩]) (.slice A41 (LS + 1) c41) rfl (P := [.row 3 1 (.slice (some ⟨gO, oO, none⟩) i c') i (ord.map (.int .i64)), .blk lb (iarr F ns) 2, .blk pb #[.slice (some ⟨gt, ot, none⟩) (z1 + 1) tc1, .slice A' m c2] 39, .blk rb #[.slice none 0 0, .slice none 0 0] 39, .blk wb WC 51, .blk ib XC 58]) (R := ((bikeN 44 3).own (.slice A' m c2) ps ++ [])) (w := w41) (W := w) (B := w.heap.size) (by
                   have h := hS41
                   rw [show ((truckN 88 105).len (q1[z1].1 ++ [⟨(z : Int), mu⟩])) = LS + 1 by rw [← HLS.out]; show (q1[z1].1 ++ [_]).length = q1[z1].1.length + 1; rw [List.length_append]; rfl]
                   rw [show ((truckN 88 105).cells (q1[z1].1 ++ [⟨(z : Int), mu⟩])) = q1[z1].1.flatMap StopV.cells ++ [.int .i64 (z : Int), .int .i64 mu] by show (q1[z1].1 ++ [_]).flatMap StopV.cells = _; rw [List.flatMap_append]; rfl]
                   exact h)
                  rw [show ot + (z1 * (truckN 88 105).S + ((truckN 88 105).S - 1)) = ot + z1 by show ot + (z1 * 1 + (1 - 1)) = _; omega] at h
                  exact h)
                 clear hS41 hz41 HS40 HROW HRS3 x0 d1
                 go_wp2_with fail
                 go_roundw
                 case rel =>
                  have hA : leftA x cut left (qs.map (·.1)).length = l1 := by rw [List.length_map, HT.out.2.2, HQ1.out.2.2]
                  have hB : tsA x cut left (qs.map (·.1)) = q1.map (·.1) := HQ1.out.1.symm
                  obtain ⟨g, rfl, hstep⟩ := fillR_step (x := x) (cut := cut) (s := z) (left := left) (ts := qs.map (·.1)) hn hnf
                  have h2 := HST2.out.2.2.2.2.2
                  rw [hA, hB, HMU.out, fillB_map HQ1.out.2.1 hzp z mu (Value.slice A41 (LS + 1) c41)] at hstep h2
                  exact ⟨g, mm + 1, n - mu, l1 - mu, some ⟨gt, ot, none⟩, z1 + 1, tc1, _, rfl, rfl, by omega, by omega, by omega, Lib.hid ⟨hstep.symm.trans HT.out.1, h2, by rw [List.length_set]; exact HQ1.out.2.1⟩, HSX.out⟩
                 case measure => simp [intOf]; omega
               · skip
                 refine kOp_eff rfl rfl fun Kv hK => ?_
                 go_simp
                 refine ⟨(hS30.alloc _ _).tail.sub (.cons _ (.cons _ (.cons _ (.cons _ (.cons _ (.cons _ (.cons_cons _ (List.nil_sublist _)))))))), hK _ _ ?_⟩
                 clear hK Kv
                 have y0'' : (w30.alloc (.cells #[.slice none 0 0] 88)).cell? ⟨pb, 0, none⟩ = some (.slice TA nT tc) := (hS30.alloc _ _).cell 4 rfl 0 rfl
                 refine pb_one 1 (by kernel_rfl) (by kernel_rfl) ?_
                 refine kOp_eff rfl rfl fun Kv hK => ?_
                 go_simp
                 refine ⟨(hS30.alloc _ _).tail.sub (.cons _ (.cons _ (.cons _ (.cons _ (.cons _ (.cons _ (.cons_cons _ (List.nil_sublist _)))))))), hK _ _ ?_⟩
                 clear hK Kv y0''
                 refine pb_one 4 (by kernel_rfl) (by kernel_rfl) ?_
                 refine kOp_append rfl rfl (.tmp 178) (.tmp 180) 37 rfl hS30 7 i5 (.agg #[.slice none 0 0]) 1 24 Try.underlying37 HI5.out.1 HI5.out.2.1 HI5.out.2.2.1 HI5.out.2.2.2 rfl (by decide) _ nT 1 _ HROWT.out rfl _ rfl rfl (by decide) rfl (by simp [Value.oneCell']) (by omega) (by decide) ?_
                 intro v31 w31 hS31 hz31
                 have hS32 : SL w w.heap.size ((truckN 88 105).inner (([] : List StopV), Value.slice none 0 0) :: ([.row 3 1 (.slice (some ⟨gO, oO, none⟩) i c') i (ord.map (.int .i64)), .blk lb (iarr F ns) 2, .blk pb #[.slice TA nT tc, .slice A' m c2] 39, .blk rb #[.slice none 0 0, .slice none 0 0] 39, .blk wb WC 51, .blk ib XC 58] ++ (.row 88 1 v31 (qs.length + 1) ((truckN 88 105).heads qs ++ (truckN 88 105).head (([] : List StopV), Value.slice none 0 0)) :: (qs.map (truckN 88 105).inner ++ ((bikeN 44 3).own (.slice A' m c2) ps ++ []))))) w31 := by
                  have h := hS31
                  rw [HT.out.2.2]
                  exact h
                 refine ⟨hS32.sub (.cons _ (.cons _ (.cons _ (.cons _ (.cons _ (.cons _ (.cons_cons _ (List.nil_sublist _))))))) ), ?_⟩
                 obtain ⟨A31, c31, rfl, _, _⟩ := (hS32.row 7 rfl).slice_
                 refine pb_one 8 (by kernel_rfl) (by kernel_rfl) ?_
                 refine kOp_eff rfl rfl fun Kv hK => ?_
                 go_simp
                 refine ⟨hS32.sub (.cons _ (.cons _ (.cons _ (.cons _ (.cons _ (.cons _ (.cons_cons _ (List.nil_sublist _))))))) ), hK _ _ ?_⟩
                 clear hK Kv
                 have z5 := hS32.free 3 rfl 0
                 have z6 : w31.cell? ⟨pb, 0, none⟩ = some (.slice TA nT tc) := hS32.cell 3 rfl 0 rfl
                 have hS33 := hS32.setCell 3 rfl 0 (.slice A31 (qs.length + 1) c31)
                 refine pb_one 9 (by kernel_rfl) (by kernel_rfl) ?_
                 refine kOp_eff rfl rfl fun Kv hK => ?_
                 go_simp
                 refine ⟨hS33.sub (.cons _ (.cons _ (.cons _ (.cons _ (.cons _ (.cons _ (.cons_cons _ (List.nil_sublist _))))))) ), hK _ _ ?_⟩
                 clear hK Kv
                 refine pb_end (by kernel_rfl) ?_
                 have hS34 := SL.nestSnoc (P := [.row 3 1 (.slice (some ⟨gO, oO, none⟩) i c') i (ord.map (.int .i64)), .blk lb (iarr F ns) 2, .blk pb #[.slice A31 (qs.length + 1) c31, .slice A' m c2] 39, .blk rb #[.slice none 0 0, .slice none 0 0] 39, .blk wb WC 51, .blk ib XC 58]) (R := ((bikeN 44 3).own (.slice A' m c2) ps ++ [])) hS33
                 rw [HT.out.2.2] at hS34
                 rw [HT.out.2.2]
                 obtain ⟨q1, hq1⟩ : ∃ q1, q1 = qs ++ [(([] : List StopV), Value.slice none 0 0)] := ⟨_, rfl⟩
                 rw [← hq1] at hS34
                 have hq1l : q1.length = nT + 1 := by rw [hq1, List.length_append, HT.out.2.2]; rfl
                 obtain ⟨gt, ot, rfl⟩ := gn_addr hS34 hq1l (by omega)
                 obtain ⟨z1, rfl⟩ : ∃ z1, z1 = nT := ⟨_, rfl⟩
                 obtain ⟨tc1, rfl⟩ : ∃ tc1, tc1 = c31 := ⟨_, rfl⟩
                 obtain ⟨l1, hl1⟩ : ∃ l1, x.tr = l1 := ⟨_, rfl⟩
                 obtain ⟨wn, hwn⟩ : ∃ wn, (w31.setCell ⟨pb, 0, none⟩ (.slice (some ⟨gt, ot, none⟩) (z1 + 1) tc1)) = wn := ⟨_, rfl⟩
                 rw [hwn] at hS34
                 have HS40 : Hid (SL w w.heap.size ([.row 3 1 (.slice (some ⟨gO, oO, none⟩) i c') i (ord.map (.int .i64)), .blk lb (iarr F ns) 2, .blk pb #[.slice (some ⟨gt, ot, none⟩) (z1 + 1) tc1, .slice A' m c2] 39, .blk rb #[.slice none 0 0, .slice none 0 0] 39, .blk wb WC 51, .blk ib XC 58] ++ ((truckN 88 105).own (.slice (some ⟨gt, ot, none⟩) (z1 + 1) tc1) q1 ++ ((bikeN 44 3).own (.slice A' m c2) ps ++ []))) wn) := Lib.hid hS34
                 have HQ1 : Hid (q1.map (·.1) = tsA x cut left (qs.map (·.1)) ∧ q1.length = z1 + 1 ∧ l1 = leftA x cut left z1) := Lib.hid ⟨by unfold tsA; rw [List.length_map, HT.out.2.2, if_pos HNB.out, hq1, List.map_append]; rfl, hq1l, by unfold leftA; rw [if_pos HNB.out, hl1]⟩
                 rw [hwn, hl1]
                 clear hq1 hq1l hl1 hwn hS30 hS31 hS32 hS33 hS34 HS6 z5 z6 hz31 HROWT y0 y1 yw y0'
                 go_upto_region 39 with fail
                 have hzp : z1 < q1.length := by rw [HQ1.out.2.1]; omega
                 obtain ⟨vs, vcs, hvs, hvcs⟩ := gn_val hzp HS40.out
                 have d1 : wn.cell? ⟨gt, ot + z1, none⟩ = some q1[z1].2 := by
                  have h := gn_sl (truckN_ok _ _) HQ1.out.2.1 hzp HS40.out
                  rw [show ot + (z1 * (truckN 88 105).S + ((truckN 88 105).S - 1)) = ot + z1 by show ot + (z1 * 1 + (1 - 1)) = _; omega] at h
                  exact h
                 rw [hvs] at d1
                 have hslen : (truckN 88 105).len q1[z1].1 ≤ 480 := by
                  show q1[z1].1.length ≤ 480
                  have h1 : q1[z1].1 ∈ q1.map (·.1) := List.mem_map_of_mem (List.getElem_mem hzp)
                  have h2 : q1[z1].1.length ≤ (q1.map (·.1)).flatten.length := by
                   rw [List.length_flatten]
                   exact mem_le_sum (List.mem_map_of_mem h1)
                  rw [HQ1.out.1, tsA_flat] at h2
                  have h3 := HT.out.2.1.stops
                  omega
                 obtain ⟨LS, hLS⟩ : ∃ LS, (truckN 88 105).len q1[z1].1 = LS := ⟨_, rfl⟩
                 rw [hLS] at d1 hslen hvs hvcs
                 have HLS := Lib.hid hLS
                 have HVS := Lib.hid hvs
                 have hmu : 0 < min n l1 ∧ min n l1 ≤ n ∧ min n l1 ≤ l1 ∧ l1 ≤ 3000 := by
                  have h := HST2.out
                  have h2 := HT.out.2.2
                  rw [List.length_map, h2, ← HQ1.out.2.2] at h
                  have h3 := h.2.2.1
                  have h4 := h.2.2.2.1
                  omega
                 obtain ⟨mu, hmuq⟩ : ∃ mu, min n l1 = mu := ⟨_, rfl⟩
                 go_upto_region 40 with fail
                 rw [hmuq] at hmu
                 have HMU := Lib.hid hmuq
                 obtain ⟨hmu0, hmu1, hmu2, hmu3⟩ := hmu
                 have x0 : wn.cell? ⟨pb, 0, none⟩ = some (.slice (some ⟨gt, ot, none⟩) (z1 + 1) tc1) := HS40.out.cell 2 rfl 0 rfl
                 have hrow : ([.row 3 1 (.slice (some ⟨gO, oO, none⟩) i c') i (ord.map (.int .i64)), .blk lb (iarr F ns) 2, .blk pb #[.slice (some ⟨gt, ot, none⟩) (z1 + 1) tc1, .slice A' m c2] 39, .blk rb #[.slice none 0 0, .slice none 0 0] 39, .blk wb WC 51, .blk ib XC 58] ++ ((truckN 88 105).own (.slice (some ⟨gt, ot, none⟩) (z1 + 1) tc1) q1 ++ ((bikeN 44 3).own (.slice A' m c2) ps ++ [])))[6 + (z1 + 1)]? = some (.row 105 2 (.slice vs LS vcs) LS (q1[z1].1.flatMap StopV.cells)) := by
                  have h := gn_row hzp (v := .slice (some ⟨gt, ot, none⟩) (z1 + 1) tc1) [.row 3 1 (.slice (some ⟨gO, oO, none⟩) i c') i (ord.map (.int .i64)), .blk lb (iarr F ns) 2, .blk pb #[.slice (some ⟨gt, ot, none⟩) (z1 + 1) tc1, .slice A' m c2] 39, .blk rb #[.slice none 0 0, .slice none 0 0] 39, .blk wb WC 51, .blk ib XC 58] ((bikeN 44 3).own (.slice A' m c2) ps ++ []) HVS.out (N := (truckN 88 105))
                  rw [HLS.out] at h
                  exact h
                 have HROW := Lib.hid hrow
                 have HRS3 := Lib.hid (gn_subset (N := (truckN 88 105)) HQ1.out.2.1 (.slice (some ⟨gt, ot, none⟩) (z1 + 1) tc1) [.blk pb #[.slice (some ⟨gt, ot, none⟩) (z1 + 1) tc1, .slice A' m c2] 39] [.row 3 1 (.slice (some ⟨gO, oO, none⟩) i c') i (ord.map (.int .i64)), .blk lb (iarr F ns) 2, .blk pb #[.slice (some ⟨gt, ot, none⟩) (z1 + 1) tc1, .slice A' m c2] 39, .blk rb #[.slice none 0 0, .slice none 0 0] 39, .blk wb WC 51, .blk ib XC 58] ((bikeN 44 3).own (.slice A' m c2) ps ++ []) (.cons _ (.cons _ (.cons_cons _ (List.nil_sublist _)))) z1)
                 obtain ⟨i7, hi7, hk1, hkz, hkb⟩ := info_parts stopE_info
                 have HI7 := Lib.hid (And.intro hi7 (And.intro hk1 (And.intro hkz hkb)))
                 clear hrow hvs hvcs hLS hmuq hi7 hk1 hkz hkb
                 go_wp2_with (at_builtin; refine stopHere ?_)
                 show wpList _ _ _ _ _ _
                 refine wpList_append_sl rfl _ _ 86 rfl HS40.out (6 + (z1 + 1)) i7 (.agg #[.int .i64 0, .int .i64 0]) 2 16 Try.underlying86 HI7.out.1 HI7.out.2.1 HI7.out.2.2.1 HI7.out.2.2.2 rfl (by decide) _ LS 1 _ HROW.out rfl _ rfl rfl (by decide) rfl (by simp [Value.oneCell']) (by omega) (by decide) ?_
                 intro v41 w41 hS41 hz41
                 obtain ⟨A41, c41, rfl, _, _⟩ := (hS41.row (6 + (z1 + 1)) (List.getElem?_set_self (List.getElem?_eq_some_iff.1 HROW.out).1)).slice_
                 have d3 : w41.frozen? ⟨gt, ot + z1, none⟩ = false := (hS41.sub (HRS3.out _)).rowFree 1 rfl _ (by omega)
                 have d4 : ∃ v, w41.cell? ⟨gt, ot + z1, none⟩ = some v := by
                  have h := gn_heads (truckN_ok 88 105) q1 z1 0 hzp (Nat.zero_lt_one)
                  have h2 := (hS41.sub (HRS3.out _)).rowCell 1 rfl (z1 * 1 + 0) h
                  rw [show ot + (z1 * 1 + 0) = ot + z1 by omega] at h2
                  exact ⟨_, h2⟩
                 obtain ⟨vv, d4⟩ := d4
                 have HSX : Hid (SL w w.heap.size ([.row 3 1 (.slice (some ⟨gO, oO, none⟩) i c') i (ord.map (.int .i64)), .blk lb (iarr F ns) 2, .blk pb #[.slice (some ⟨gt, ot, none⟩) (z1 + 1) tc1, .slice A' m c2] 39, .blk rb #[.slice none 0 0, .slice none 0 0] 39, .blk wb WC 51, .blk ib XC 58] ++ ((truckN 88 105).own (.slice (some ⟨gt, ot, none⟩) (z1 + 1) tc1) (q1.set z1 (q1[z1].1 ++ [⟨(z : Int), mu⟩], .slice A41 (LS + 1) c41)) ++ ((bikeN 44 3).own (.slice A' m c2) ps ++ []))) (w41.setCell ⟨gt, ot + z1, none⟩ (.slice A41 (LS + 1) c41))) := Lib.hid (by
                  have h := gn_turn (truckN_ok 88 105) HQ1.out.2.1 hzp (q1[z1].1 ++ [⟨(z : Int), mu⟩]) (.slice A41 (LS + 1) c41) rfl (P := [.row 3 1 (.slice (some ⟨gO, oO, none⟩) i c') i (ord.map (.int .i64)), .blk lb (iarr F ns) 2, .blk pb #[.slice (some ⟨gt, ot, none⟩) (z1 + 1) tc1, .slice A' m c2] 39, .blk rb #[.slice none 0 0, .slice none 0 0] 39, .blk wb WC 51, .blk ib XC 58]) (R := ((bikeN 44 3).own (.slice A' m c2) ps ++ [])) (w := w41) (W := w) (B := w.heap.size) (by
                   have h := hS41
                   rw [show ((truckN 88 105).len (q1[z1].1 ++ [⟨(z : Int), mu⟩])) = LS + 1 by rw [← HLS.out]; show (q1[z1].1 ++ [_]).length = q1[z1].1.length + 1; rw [List.length_append]; rfl]
                   rw [show ((truckN 88 105).cells (q1[z1].1 ++ [⟨(z : Int), mu⟩])) = q1[z1].1.flatMap StopV.cells ++ [.int .i64 (z : Int), .int .i64 mu] by show (q1[z1].1 ++ [_]).flatMap StopV.cells = _; rw [List.flatMap_append]; rfl]
                   exact h)
                  rw [show ot + (z1 * (truckN 88 105).S + ((truckN 88 105).S - 1)) = ot + z1 by show ot + (z1 * 1 + (1 - 1)) = _; omega] at h
                  exact h)
                 clear hS41 hz41 HS40 HROW HRS3 x0 d1
                 go_wp2_with fail
                 go_roundw
                 case rel =>
                  have hA : leftA x cut left (qs.map (·.1)).length = l1 := by rw [List.length_map, HT.out.2.2, HQ1.out.2.2]
                  have hB : tsA x cut left (qs.map (·.1)) = q1.map (·.1) := HQ1.out.1.symm
                  obtain ⟨g, rfl, hstep⟩ := fillR_step (x := x) (cut := cut) (s := z) (left := left) (ts := qs.map (·.1)) hn hnf
                  have h2 := HST2.out.2.2.2.2.2
                  rw [hA, hB, HMU.out, fillB_map HQ1.out.2.1 hzp z mu (Value.slice A41 (LS + 1) c41)] at hstep h2
                  exact ⟨g, mm + 1, n - mu, l1 - mu, some ⟨gt, ot, none⟩, z1 + 1, tc1, _, rfl, rfl, by omega, by omega, by omega, Lib.hid ⟨hstep.symm.trans HT.out.1, h2, by rw [List.length_set]; exact HQ1.out.2.1⟩, HSX.out⟩
                 case measure => simp [intOf]; omega
             · have hlb0 : (left == 0) = false := by rw [beq_eq_false_iff_ne]; exact hl0
               by_cases hc6 : cut % 7 = 6
               · have hcb : (cut % 7 == 6) = true := by rw [beq_iff_eq]; exact hc6
                 by_cases htn : (nT : Int) < tm
                 · as_aux_lemma =>
                   have HNB : Hid (newB x cut left nT = true) := Lib.hid (by unfold newB; rw [decide_eq_false hl0, decide_eq_true hc6, HTM.out, decide_eq_true htn]; rfl)
                   clear hl0 hc6
                   go_upto_region 38 with (go_at_call 47; (with_reducible refine HA1.out.mono ?_); rintro e w21 ⟨rfl, rfl⟩)
                   obtain ⟨i5, hi5, hg1, hgz, hgb⟩ := info_parts truckE_info
                   have HI5 := Lib.hid (And.intro hi5 (And.intro hg1 (And.intro hgz hgb)))
                   have HROWT : Hid (((truckN 88 105).inner (([] : List StopV), Value.slice none 0 0) :: ([.row 3 1 (.slice (some ⟨gO, oO, none⟩) i c') i (ord.map (.int .i64)), .blk lb (iarr F ns) 2, .blk pb #[.slice TA nT tc, .slice A' m c2] 39, .blk rb #[.slice none 0 0, .slice none 0 0] 39, .blk wb WC 51, .blk ib XC 58] ++ ((truckN 88 105).own (.slice TA nT tc) qs ++ ((bikeN 44 3).own (.slice A' m c2) ps ++ []))))[7]? = some (.row 88 1 (.slice TA nT tc) nT ((truckN 88 105).heads qs))) := Lib.hid (by
                    have h := gn_outer (truckN 88 105) ((truckN 88 105).inner (([] : List StopV), Value.slice none 0 0) :: [.row 3 1 (.slice (some ⟨gO, oO, none⟩) i c') i (ord.map (.int .i64)), .blk lb (iarr F ns) 2, .blk pb #[.slice TA nT tc, .slice A' m c2] 39, .blk rb #[.slice none 0 0, .slice none 0 0] 39, .blk wb WC 51, .blk ib XC 58]) ((bikeN 44 3).own (.slice A' m c2) ps ++ []) (.slice TA nT tc) qs
                    rw [HT.out.2.2] at h
                    exact h)
                   have HSN := HS6.out.nil 105 2
                   clear hi5 hg1 hgz hgb
                   refine wp_region_slb [0,2,5,6,7] [1,3,4,8,9] [10] [.blk ib XC 58] HSN (.cons _ (.cons _ (.cons _ (.cons _ (.cons _ (.cons _ (.cons_cons _ (List.nil_sublist _)))))))) (by kernel_rfl) (by kernel_rfl) (.cons rfl .nil) (fun C cw _ hC => ?_)
                   have q1 : ∀ d, (cw d).cell? ⟨ib, 2, none⟩ = some (.int .i64 x.tr) := fun d => (hC d).cell 0 rfl 2 (by rw [← HXC.out]; rfl)
                   repeat (refine pl_look rfl rfl rfl (fun Kv hK => ?_); go_big_quiet_op; refine hK _ ?_; clear hK Kv)
                   clear q1 hC HSN
                   refine pl_end ?_
                   intro w30 hS30
                   have y0' : w30.cell? ⟨pb, 0, none⟩ = some (.slice TA nT tc) := hS30.cell 3 rfl 0 rfl
                   refine pb_two 1 3 (by kernel_rfl) (by kernel_rfl) (by kernel_rfl) ?_ ?_
                   · skip
                     refine kOp_eff rfl rfl fun Kv hK => ?_
                     go_simp
                     refine ⟨hS30.sub (.cons _ (.cons _ (.cons _ (.cons _ (.cons _ (.cons _ (.cons_cons _ (List.nil_sublist _)))))))), hK _ _ ?_⟩
                     clear hK Kv
                     refine pb_one 3 (by kernel_rfl) (by kernel_rfl) ?_
                     refine kOp_eff rfl rfl fun Kv hK => ?_
                     go_simp
                     refine ⟨(hS30.alloc _ _).tail.sub (.cons _ (.cons _ (.cons _ (.cons _ (.cons _ (.cons _ (.cons_cons _ (List.nil_sublist _)))))))), hK _ _ ?_⟩
                     clear hK Kv
                     refine pb_one 4 (by kernel_rfl) (by kernel_rfl) ?_
                     refine kOp_append rfl rfl (.tmp 178) (.tmp 180) 37 rfl hS30 7 i5 (.agg #[.slice none 0 0]) 1 24 Try.underlying37 HI5.out.1 HI5.out.2.1 HI5.out.2.2.1 HI5.out.2.2.2 rfl (by decide) _ nT 1 _ HROWT.out rfl _ rfl rfl (by decide) rfl (by simp [Value.oneCell']) (by omega) (by decide) ?_
                     intro v31 w31 hS31 hz31
                     have hS32 : SL w w.heap.size ((truckN 88 105).inner (([] : List StopV), Value.slice none 0 0) :: ([.row 3 1 (.slice (some ⟨gO, oO, none⟩) i c') i (ord.map (.int .i64)), .blk lb (iarr F ns) 2, .blk pb #[.slice TA nT tc, .slice A' m c2] 39, .blk rb #[.slice none 0 0, .slice none 0 0] 39, .blk wb WC 51, .blk ib XC 58] ++ (.row 88 1 v31 (qs.length + 1) ((truckN 88 105).heads qs ++ (truckN 88 105).head (([] : List StopV), Value.slice none 0 0)) :: (qs.map (truckN 88 105).inner ++ ((bikeN 44 3).own (.slice A' m c2) ps ++ []))))) w31 := by
                      have h := hS31
                      rw [HT.out.2.2]
                      exact h
                     refine ⟨hS32.sub (.cons _ (.cons _ (.cons _ (.cons _ (.cons _ (.cons _ (.cons_cons _ (List.nil_sublist _))))))) ), ?_⟩
                     obtain ⟨A31, c31, rfl, _, _⟩ := (hS32.row 7 rfl).slice_
                     refine pb_one 8 (by kernel_rfl) (by kernel_rfl) ?_
                     refine kOp_eff rfl rfl fun Kv hK => ?_
                     go_simp
                     refine ⟨hS32.sub (.cons _ (.cons _ (.cons _ (.cons _ (.cons _ (.cons _ (.cons_cons _ (List.nil_sublist _))))))) ), hK _ _ ?_⟩
                     clear hK Kv
                     have z5 := hS32.free 3 rfl 0
                     have z6 : w31.cell? ⟨pb, 0, none⟩ = some (.slice TA nT tc) := hS32.cell 3 rfl 0 rfl
                     have hS33 := hS32.setCell 3 rfl 0 (.slice A31 (qs.length + 1) c31)
                     refine pb_one 9 (by kernel_rfl) (by kernel_rfl) ?_
                     refine kOp_eff rfl rfl fun Kv hK => ?_
                     go_simp
                     refine ⟨hS33.sub (.cons _ (.cons _ (.cons _ (.cons _ (.cons _ (.cons _ (.cons_cons _ (List.nil_sublist _))))))) ), hK _ _ ?_⟩
                     clear hK Kv
                     refine pb_end (by kernel_rfl) ?_
                     have hS34 := SL.nestSnoc (P := [.row 3 1 (.slice (some ⟨gO, oO, none⟩) i c') i (ord.map (.int .i64)), .blk lb (iarr F ns) 2, .blk pb #[.slice A31 (qs.length + 1) c31, .slice A' m c2] 39, .blk rb #[.slice none 0 0, .slice none 0 0] 39, .blk wb WC 51, .blk ib XC 58]) (R := ((bikeN 44 3).own (.slice A' m c2) ps ++ [])) hS33
                     rw [HT.out.2.2] at hS34
                     rw [HT.out.2.2]
                     obtain ⟨q1, hq1⟩ : ∃ q1, q1 = qs ++ [(([] : List StopV), Value.slice none 0 0)] := ⟨_, rfl⟩
                     rw [← hq1] at hS34
                     have hq1l : q1.length = nT + 1 := by rw [hq1, List.length_append, HT.out.2.2]; rfl
                     obtain ⟨gt, ot, rfl⟩ := gn_addr hS34 hq1l (by omega)
                     obtain ⟨z1, rfl⟩ : ∃ z1, z1 = nT := ⟨_, rfl⟩
                     obtain ⟨tc1, rfl⟩ : ∃ tc1, tc1 = c31 := ⟨_, rfl⟩
                     obtain ⟨l1, hl1⟩ : ∃ l1, x.tr = l1 := ⟨_, rfl⟩
                     obtain ⟨wn, hwn⟩ : ∃ wn, (w31.setCell ⟨pb, 0, none⟩ (.slice (some ⟨gt, ot, none⟩) (z1 + 1) tc1)) = wn := ⟨_, rfl⟩
                     rw [hwn] at hS34
                     have HS40 : Hid (SL w w.heap.size ([.row 3 1 (.slice (some ⟨gO, oO, none⟩) i c') i (ord.map (.int .i64)), .blk lb (iarr F ns) 2, .blk pb #[.slice (some ⟨gt, ot, none⟩) (z1 + 1) tc1, .slice A' m c2] 39, .blk rb #[.slice none 0 0, .slice none 0 0] 39, .blk wb WC 51, .blk ib XC 58] ++ ((truckN 88 105).own (.slice (some ⟨gt, ot, none⟩) (z1 + 1) tc1) q1 ++ ((bikeN 44 3).own (.slice A' m c2) ps ++ []))) wn) := Lib.hid hS34
                     have HQ1 : Hid (q1.map (·.1) = tsA x cut left (qs.map (·.1)) ∧ q1.length = z1 + 1 ∧ l1 = leftA x cut left z1) := Lib.hid ⟨by unfold tsA; rw [List.length_map, HT.out.2.2, if_pos HNB.out, hq1, List.map_append]; rfl, hq1l, by unfold leftA; rw [if_pos HNB.out, hl1]⟩
                     rw [hwn, hl1]
                     clear hq1 hq1l hl1 hwn hS30 hS31 hS32 hS33 hS34 HS6 z5 z6 hz31 HROWT y0 y1 yw y0'
                     go_upto_region 39 with fail
                     have hzp : z1 < q1.length := by rw [HQ1.out.2.1]; omega
                     obtain ⟨vs, vcs, hvs, hvcs⟩ := gn_val hzp HS40.out
                     have d1 : wn.cell? ⟨gt, ot + z1, none⟩ = some q1[z1].2 := by
                      have h := gn_sl (truckN_ok _ _) HQ1.out.2.1 hzp HS40.out
                      rw [show ot + (z1 * (truckN 88 105).S + ((truckN 88 105).S - 1)) = ot + z1 by show ot + (z1 * 1 + (1 - 1)) = _; omega] at h
                      exact h
                     rw [hvs] at d1
                     have hslen : (truckN 88 105).len q1[z1].1 ≤ 480 := by
                      show q1[z1].1.length ≤ 480
                      have h1 : q1[z1].1 ∈ q1.map (·.1) := List.mem_map_of_mem (List.getElem_mem hzp)
                      have h2 : q1[z1].1.length ≤ (q1.map (·.1)).flatten.length := by
                       rw [List.length_flatten]
                       exact mem_le_sum (List.mem_map_of_mem h1)
                      rw [HQ1.out.1, tsA_flat] at h2
                      have h3 := HT.out.2.1.stops
                      omega
                     obtain ⟨LS, hLS⟩ : ∃ LS, (truckN 88 105).len q1[z1].1 = LS := ⟨_, rfl⟩
                     rw [hLS] at d1 hslen hvs hvcs
                     have HLS := Lib.hid hLS
                     have HVS := Lib.hid hvs
                     have hmu : 0 < min n l1 ∧ min n l1 ≤ n ∧ min n l1 ≤ l1 ∧ l1 ≤ 3000 := by
                      have h := HST2.out
                      have h2 := HT.out.2.2
                      rw [List.length_map, h2, ← HQ1.out.2.2] at h
                      have h3 := h.2.2.1
                      have h4 := h.2.2.2.1
                      omega
                     obtain ⟨mu, hmuq⟩ : ∃ mu, min n l1 = mu := ⟨_, rfl⟩
                     go_upto_region 40 with fail
                     rw [hmuq] at hmu
                     have HMU := Lib.hid hmuq
                     obtain ⟨hmu0, hmu1, hmu2, hmu3⟩ := hmu
                     have x0 : wn.cell? ⟨pb, 0, none⟩ = some (.slice (some ⟨gt, ot, none⟩) (z1 + 1) tc1) := HS40.out.cell 2 rfl 0 rfl
                     have hrow : ([.row 3 1 (.slice (some ⟨gO, oO, none⟩) i c') i (ord.map (.int .i64)), .blk lb (iarr F ns) 2, .blk pb #[.slice (some ⟨gt, ot, none⟩) (z1 + 1) tc1, .slice A' m c2] 39, .blk rb #[.slice none 0 0, .slice none 0 0] 39, .blk wb WC 51, .blk ib XC 58] ++ ((truckN 88 105).own (.slice (some ⟨gt, ot, none⟩) (z1 + 1) tc1) q1 ++ ((bikeN 44 3).own (.slice A' m c2) ps ++ [])))[6 + (z1 + 1)]? = some (.row 105 2 (.slice vs LS vcs) LS (q1[z1].1.flatMap StopV.cells)) := by
                      have h := gn_row hzp (v := .slice (some ⟨gt, ot, none⟩) (z1 + 1) tc1) [.row 3 1 (.slice (some ⟨gO, oO, none⟩) i c') i (ord.map (.int .i64)), .blk lb (iarr F ns) 2, .blk pb #[.slice (some ⟨gt, ot, none⟩) (z1 + 1) tc1, .slice A' m c2] 39, .blk rb #[.slice none 0 0, .slice none 0 0] 39, .blk wb WC 51, .blk ib XC 58] ((bikeN 44 3).own (.slice A' m c2) ps ++ []) HVS.out (N := (truckN 88 105))
                      rw [HLS.out] at h
                      exact h
                     have HROW := Lib.hid hrow
                     have HRS3 := Lib.hid (gn_subset (N := (truckN 88 105)) HQ1.out.2.1 (.slice (some ⟨gt, ot, none⟩) (z1 + 1) tc1) [.blk pb #[.slice (some ⟨gt, ot, none⟩) (z1 + 1) tc1, .slice A' m c2] 39] [.row 3 1 (.slice (some ⟨gO, oO, none⟩) i c') i (ord.map (.int .i64)), .blk lb (iarr F ns) 2, .blk pb #[.slice (some ⟨gt, ot, none⟩) (z1 + 1) tc1, .slice A' m c2] 39, .blk rb #[.slice none 0 0, .slice none 0 0] 39, .blk wb WC 51, .blk ib XC 58] ((bikeN 44 3).own (.slice A' m c2) ps ++ []) (.cons _ (.cons _ (.cons_cons _ (List.nil_sublist _)))) z1)
                     obtain ⟨i7, hi7, hk1, hkz, hkb⟩ := info_parts stopE_info
                     have HI7 := Lib.hid (And.intro hi7 (And.intro hk1 (And.intro hkz hkb)))
                     clear hrow hvs hvcs hLS hmuq hi7 hk1 hkz hkb
                     go_wp2_with (at_builtin; refine stopHere ?_)
                     show wpList _ _ _ _ _ _
                     refine wpList_append_sl rfl _ _ 86 rfl HS40.out (6 + (z1 + 1)) i7 (.agg #[.int .i64 0, .int .i64 0]) 2 16 Try.underlying86 HI7.out.1 HI7.out.2.1 HI7.out.2.2.1 HI7.out.2.2.2 rfl (by decide) _ LS 1 _ HROW.out rfl _ rfl rfl (by decide) rfl (by simp [Value.oneCell']) (by omega) (by decide) ?_
                     intro v41 w41 hS41 hz41
                     obtain ⟨A41, c41, rfl, _, _⟩ := (hS41.row (6 + (z1 + 1)) (List.getElem?_set_self (List.getElem?_eq_some_iff.1 HROW.out).1)).slice_
                     have d3 : w41.frozen? ⟨gt, ot + z1, none⟩ = false := (hS41.sub (HRS3.out _)).rowFree 1 rfl _ (by omega)
                     have d4 : ∃ v, w41.cell? ⟨gt, ot + z1, none⟩ = some v := by
                      have h := gn_heads (truckN_ok 88 105) q1 z1 0 hzp (Nat.zero_lt_one)
                      have h2 := (hS41.sub (HRS3.out _)).rowCell 1 rfl (z1 * 1 + 0) h
                      rw [show ot + (z1 * 1 + 0) = ot + z1 by omega] at h2
                      exact ⟨_, h2⟩
                     obtain ⟨vv, d4⟩ := d4
                     have HSX : Hid (SL w w.heap.size ([.row 3 1 (.slice (some ⟨gO, oO, none⟩) i c') i (ord.map (.int .i64)), .blk lb (iarr F ns) 2, .blk pb #[.slice (some ⟨gt, ot, none⟩) (z1 + 1) tc1, .slice A' m c2] 39, .blk rb #[.slice none 0 0, .slice none 0 0] 39, .blk wb WC 51, .blk ib XC 58] ++ ((truckN 88 105).own (.slice (some ⟨gt, ot, none⟩) (z1 + 1) tc1) (q1.set z1 (q1[z1].1 ++ [⟨(z : Int), mu⟩], .slice A41 (LS + 1) c41)) ++ ((bikeN 44 3).own (.slice A' m c2) ps ++ []))) (w41.setCell ⟨gt, ot + z1, none⟩ (.slice A41 (LS + 1) c41))) := Lib.hid (by
                      have h := gn_turn (truckN_ok 88 105) HQ1.out.2.1 hzp (q1[z1].1 ++ [⟨(z : Int), mu⟩]) (.slice A41 (LS + 1) c41) rfl (P := [.row 3 1 (.slice (some ⟨gO, oO, none⟩) i c') i (ord.map (.int .i64)), .blk lb (iarr F ns) 2, .blk pb #[.slice (some ⟨gt, ot, none⟩) (z1 + 1) tc1, .slice A' m c2] 39, .blk rb #[.slice none 0 0, .slice none 0 0] 39, .blk wb WC 51, .blk ib XC 58]) (R := ((bikeN 44 3).own (.slice A' m c2) ps ++ [])) (w := w41) (W := w) (B := w.heap.size) (by
                       have h := hS41
                       rw [show ((truckN 88 105).len (q1[z1].1 ++ [⟨(z : Int), mu⟩])) = LS + 1 by rw [← HLS.out]; show (q1[z1].1 ++ [_]).length = q1[z1].1.length + 1; rw [List.length_append]; rfl]
                       rw [show ((truckN 88 105).cells (q1[z1].1 ++ [⟨(z : Int), mu⟩])) = q1[z1].1.flatMap StopV.cells ++ [.int .i64 (z : Int), .int .i64 mu] by show (q1[z1].1 ++ [_]).flatMap StopV.cells = _; rw [List.flatMap_append]; rfl]
                       exact h)
                      rw [show ot + (z1 * (truckN 88 105).S + ((truckN 88 105).S - 1)) = ot + z1 by show ot + (z1 * 1 + (1 - 1)) = _; omega] at h
                      exact h)
                     clear hS41 hz41 HS40 HROW HRS3 x0 d1
                     go_wp2_with fail
                     go_roundw
                     case rel =>
                      have hA : leftA x cut left (qs.map (·.1)).length = l1 := by rw [List.length_map, HT.out.2.2, HQ1.out.2.2]
                      have hB : tsA x cut left (qs.map (·.1)) = q1.map (·.1) := HQ1.out.1.symm
                      obtain ⟨g, rfl, hstep⟩ := fillR_step (x := x) (cut := cut) (s := z) (left := left) (ts := qs.map (·.1)) hn hnf
                      have h2 := HST2.out.2.2.2.2.2
                      rw [hA, hB, HMU.out, fillB_map HQ1.out.2.1 hzp z mu (Value.slice A41 (LS + 1) c41)] at hstep h2
                      exact ⟨g, mm + 1, n - mu, l1 - mu, some ⟨gt, ot, none⟩, z1 + 1, tc1, _, rfl, rfl, by omega, by omega, by omega, Lib.hid ⟨hstep.symm.trans HT.out.1, h2, by rw [List.length_set]; exact HQ1.out.2.1⟩, HSX.out⟩
                     case measure => simp [intOf]; omega
                   · skip
                     refine kOp_eff rfl rfl fun Kv hK => ?_
                     go_simp
                     refine ⟨(hS30.alloc _ _).tail.sub (.cons _ (.cons _ (.cons _ (.cons _ (.cons _ (.cons _ (.cons_cons _ (List.nil_sublist _)))))))), hK _ _ ?_⟩
                     clear hK Kv
                     have y0'' : (w30.alloc (.cells #[.slice none 0 0] 88)).cell? ⟨pb, 0, none⟩ = some (.slice TA nT tc) := (hS30.alloc _ _).cell 4 rfl 0 rfl
                     refine pb_one 1 (by kernel_rfl) (by kernel_rfl) ?_
                     refine kOp_eff rfl rfl fun Kv hK => ?_
                     go_simp
                     refine ⟨(hS30.alloc _ _).tail.sub (.cons _ (.cons _ (.cons _ (.cons _ (.cons _ (.cons _ (.cons_cons _ (List.nil_sublist _)))))))), hK _ _ ?_⟩
                     clear hK Kv y0''
                     refine pb_one 4 (by kernel_rfl) (by kernel_rfl) ?_
                     refine kOp_append rfl rfl (.tmp 178) (.tmp 180) 37 rfl hS30 7 i5 (.agg #[.slice none 0 0]) 1 24 Try.underlying37 HI5.out.1 HI5.out.2.1 HI5.out.2.2.1 HI5.out.2.2.2 rfl (by decide) _ nT 1 _ HROWT.out rfl _ rfl rfl (by decide) rfl (by simp [Value.oneCell']) (by omega) (by decide) ?_
                     intro v31 w31 hS31 hz31
                     have hS32 : SL w w.heap.size ((truckN 88 105).inner (([] : List StopV), Value.slice none 0 0) :: ([.row 3 1 (.slice (some ⟨gO, oO, none⟩) i c') i (ord.map (.int .i64)), .blk lb (iarr F ns) 2, .blk pb #[.slice TA nT tc, .slice A' m c2] 39, .blk rb #[.slice none 0 0, .slice none 0 0] 39, .blk wb WC 51, .blk ib XC 58] ++ (.row 88 1 v31 (qs.length + 1) ((truckN 88 105).heads qs ++ (truckN 88 105).head (([] : List StopV), Value.slice none 0 0)) :: (qs.map (truckN 88 105).inner ++ ((bikeN 44 3).own (.slice A' m c2) ps ++ []))))) w31 := by
                      have h := hS31
                      rw [HT.out.2.2]
                      exact h
                     refine ⟨hS32.sub (.cons _ (.cons _ (.cons _ (.cons _ (.cons _ (.cons _ (.cons_cons _ (List.nil_sublist _))))))) ), ?_⟩
                     obtain ⟨A31, c31, rfl, _, _⟩ := (hS32.row 7 rfl).slice_
                     refine pb_one 8 (by kernel_rfl) (by kernel_rfl) ?_
                     refine kOp_eff rfl rfl fun Kv hK => ?_
                     go_simp
                     refine ⟨hS32.sub (.cons _ (.cons _ (.cons _ (.cons _ (.cons _ (.cons _ (.cons_cons _ (List.nil_sublist _))))))) ), hK _ _ ?_⟩
                     clear hK Kv
                     have z5 := hS32.free 3 rfl 0
                     have z6 : w31.cell? ⟨pb, 0, none⟩ = some (.slice TA nT tc) := hS32.cell 3 rfl 0 rfl
                     have hS33 := hS32.setCell 3 rfl 0 (.slice A31 (qs.length + 1) c31)
                     refine pb_one 9 (by kernel_rfl) (by kernel_rfl) ?_
                     refine kOp_eff rfl rfl fun Kv hK => ?_
                     go_simp
                     refine ⟨hS33.sub (.cons _ (.cons _ (.cons _ (.cons _ (.cons _ (.cons _ (.cons_cons _ (List.nil_sublist _))))))) ), hK _ _ ?_⟩
                     clear hK Kv
                     refine pb_end (by kernel_rfl) ?_
                     have hS34 := SL.nestSnoc (P := [.row 3 1 (.slice (some ⟨gO, oO, none⟩) i c') i (ord.map (.int .i64)), .blk lb (iarr F ns) 2, .blk pb #[.slice A31 (qs.length + 1) c31, .slice A' m c2] 39, .blk rb #[.slice none 0 0, .slice none 0 0] 39, .blk wb WC 51, .blk ib XC 58]) (R := ((bikeN 44 3).own (.slice A' m c2) ps ++ [])) hS33
                     rw [HT.out.2.2] at hS34
                     rw [HT.out.2.2]
                     obtain ⟨q1, hq1⟩ : ∃ q1, q1 = qs ++ [(([] : List StopV), Value.slice none 0 0)] := ⟨_, rfl⟩
                     rw [← hq1] at hS34
                     have hq1l : q1.length = nT + 1 := by rw [hq1, List.length_append, HT.out.2.2]; rfl
                     obtain ⟨gt, ot, rfl⟩ := gn_addr hS34 hq1l (by omega)
                     obtain ⟨z1, rfl⟩ : ∃ z1, z1 = nT := ⟨_, rfl⟩
                     obtain ⟨tc1, rfl⟩ : ∃ tc1, tc1 = c31 := ⟨_, rfl⟩
                     obtain ⟨l1, hl1⟩ : ∃ l1, x.tr = l1 := ⟨_, rfl⟩
                     obtain ⟨wn, hwn⟩ : ∃ wn, (w31.setCell ⟨pb, 0, none⟩ (.slice (some ⟨gt, ot, none⟩) (z1 + 1) tc1)) = wn := ⟨_, rfl⟩
                     rw [hwn] at hS34
                     have HS40 : Hid (SL w w.heap.size ([.row 3 1 (.slice (some ⟨gO, oO, none⟩) i c') i (ord.map (.int .i64)), .blk lb (iarr F ns) 2, .blk pb #[.slice (some ⟨gt, ot, none⟩) (z1 + 1) tc1, .slice A' m c2] 39, .blk rb #[.slice none 0 0, .slice none 0 0] 39, .blk wb WC 51, .blk ib XC 58] ++ ((truckN 88 105).own (.slice (some ⟨gt, ot, none⟩) (z1 + 1) tc1) q1 ++ ((bikeN 44 3).own (.slice A' m c2) ps ++ []))) wn) := Lib.hid hS34
                     have HQ1 : Hid (q1.map (·.1) = tsA x cut left (qs.map (·.1)) ∧ q1.length = z1 + 1 ∧ l1 = leftA x cut left z1) := Lib.hid ⟨by unfold tsA; rw [List.length_map, HT.out.2.2, if_pos HNB.out, hq1, List.map_append]; rfl, hq1l, by unfold leftA; rw [if_pos HNB.out, hl1]⟩
                     rw [hwn, hl1]
                     clear hq1 hq1l hl1 hwn hS30 hS31 hS32 hS33 hS34 HS6 z5 z6 hz31 HROWT y0 y1 yw y0'
                     go_upto_region 39 with fail
                     have hzp : z1 < q1.length := by rw [HQ1.out.2.1]; omega
                     obtain ⟨vs, vcs, hvs, hvcs⟩ := gn_val hzp HS40.out
                     have d1 : wn.cell? ⟨gt, ot + z1, none⟩ = some q1[z1].2 := by
                      have h := gn_sl (truckN_ok _ _) HQ1.out.2.1 hzp HS40.out
                      rw [show ot + (z1 * (truckN 88 105).S + ((truckN 88 105).S - 1)) = ot + z1 by show ot + (z1 * 1 + (1 - 1)) = _; omega] at h
                      exact h
                     rw [hvs] at d1
                     have hslen : (truckN 88 105).len q1[z1].1 ≤ 480 := by
                      show q1[z1].1.length ≤ 480
                      have h1 : q1[z1].1 ∈ q1.map (·.1) := List.mem_map_of_mem (List.getElem_mem hzp)
                      have h2 : q1[z1].1.length ≤ (q1.map (·.1)).flatten.length := by
                       rw [List.length_flatten]
                       exact mem_le_sum (List.mem_map_of_mem h1)
                      rw [HQ1.out.1, tsA_flat] at h2
                      have h3 := HT.out.2.1.stops
                      omega
                     obtain ⟨LS, hLS⟩ : ∃ LS, (truckN 88 105).len q1[z1].1 = LS := ⟨_, rfl⟩
                     rw [hLS] at d1 hslen hvs hvcs
                     have HLS := Lib.hid hLS
                     have HVS := Lib.hid hvs
                     have hmu : 0 < min n l1 ∧ min n l1 ≤ n ∧ min n l1 ≤ l1 ∧ l1 ≤ 3000 := by
                      have h := HST2.out
                      have h2 := HT.out.2.2
                      rw [List.length_map, h2, ← HQ1.out.2.2] at h
                      have h3 := h.2.2.1
                      have h4 := h.2.2.2.1
                      omega
                     obtain ⟨mu, hmuq⟩ : ∃ mu, min n l1 = mu := ⟨_, rfl⟩
                     go_upto_region 40 with fail
                     rw [hmuq] at hmu
                     have HMU := Lib.hid hmuq
                     obtain ⟨hmu0, hmu1, hmu2, hmu3⟩ := hmu
                     have x0 : wn.cell? ⟨pb, 0, none⟩ = some (.slice (some ⟨gt, ot, none⟩) (z1 + 1) tc1) := HS40.out.cell 2 rfl 0 rfl
                     have hrow : ([.row 3 1 (.slice (some ⟨gO, oO, none⟩) i c') i (ord.map (.int .i64)), .blk lb (iarr F ns) 2, .blk pb #[.slice (some ⟨gt, ot, none⟩) (z1 + 1) tc1, .slice A' m c2] 39, .blk rb #[.slice none 0 0, .slice none 0 0] 39, .blk wb WC 51, .blk ib XC 58] ++ ((truckN 88 105).own (.slice (some ⟨gt, ot, none⟩) (z1 + 1) tc1) q1 ++ ((bikeN 44 3).own (.slice A' m c2) ps ++ [])))[6 + (z1 + 1)]? = some (.row 105 2 (.slice vs LS vcs) LS (q1[z1].1.flatMap StopV.cells)) := by
                      have h := gn_row hzp (v := .slice (some ⟨gt, ot, none⟩) (z1 + 1) tc1) [.row 3 1 (.slice (some ⟨gO, oO, none⟩) i c') i (ord.map (.int .i64)), .blk lb (iarr F ns) 2, .blk pb #[.slice (some ⟨gt, ot, none⟩) (z1 + 1) tc1, .slice A' m c2] 39, .blk rb #[.slice none 0 0, .slice none 0 0] 39, .blk wb WC 51, .blk ib XC 58] ((bikeN 44 3).own (.slice A' m c2) ps ++ []) HVS.out (N := (truckN 88 105))
                      rw [HLS.out] at h
                      exact h
                     have HROW := Lib.hid hrow
                     have HRS3 := Lib.hid (gn_subset (N := (truckN 88 105)) HQ1.out.2.1 (.slice (some ⟨gt, ot, none⟩) (z1 + 1) tc1) [.blk pb #[.slice (some ⟨gt, ot, none⟩) (z1 + 1) tc1, .slice A' m c2] 39] [.row 3 1 (.slice (some ⟨gO, oO, none⟩) i c') i (ord.map (.int .i64)), .blk lb (iarr F ns) 2, .blk pb #[.slice (some ⟨gt, ot, none⟩) (z1 + 1) tc1, .slice A' m c2] 39, .blk rb #[.slice none 0 0, .slice none 0 0] 39, .blk wb WC 51, .blk ib XC 58] ((bikeN 44 3).own (.slice A' m c2) ps ++ []) (.cons _ (.cons _ (.cons_cons _ (List.nil_sublist _)))) z1)
                     obtain ⟨i7, hi7, hk1, hkz, hkb⟩ := info_parts stopE_info
                     have HI7 := Lib.hid (And.intro hi7 (And.intro hk1 (And.intro hkz hkb)))
                     clear hrow hvs hvcs hLS hmuq hi7 hk1 hkz hkb
                     go_wp2_with (at_builtin; refine stopHere ?_)
                     show wpList _ _ _ _ _ _
                     refine wpList_append_sl rfl _ _ 86 rfl HS40.out (6 + (z1 + 1)) i7 (.agg #[.int .i64 0, .int .i64 0]) 2 16 Try.underlying86 HI7.out.1 HI7.out.2.1 HI7.out.2.2.1 HI7.out.2.2.2 rfl (by decide) _ LS 1 _ HROW.out rfl _ rfl rfl (by decide) rfl (by simp [Value.oneCell']) (by omega) (by decide) ?_
                     intro v41 w41 hS41 hz41
                     obtain ⟨A41, c41, rfl, _, _⟩ := (hS41.row (6 + (z1 + 1)) (List.getElem?_set_self (List.getElem?_eq_some_iff.1 HROW.out).1)).slice_
                     have d3 : w41.frozen? ⟨gt, ot + z1, none⟩ = false := (hS41.sub (HRS3.out _)).rowFree 1 rfl _ (by omega)
                     have d4 : ∃ v, w41.cell? ⟨gt, ot + z1, none⟩ = some v := by
                      have h := gn_heads (truckN_ok 88 105) q1 z1 0 hzp (Nat.zero_lt_one)
                      have h2 := (hS41.sub (HRS3.out _)).rowCell 1 rfl (z1 * 1 + 0) h
                      rw [show ot + (z1 * 1 + 0) = ot + z1 by omega] at h2
                      exact ⟨_, h2⟩
                     obtain ⟨vv, d4⟩ := d4
                     have HSX : Hid (SL w w.heap.size ([.row 3 1 (.slice (some ⟨gO, oO, none⟩) i c') i (ord.map (.int .i64)), .blk lb (iarr F ns) 2, .blk pb #[.slice (some ⟨gt, ot, none⟩) (z1 + 1) tc1, .slice A' m c2] 39, .blk rb #[.slice none 0 0, .slice none 0 0] 39, .blk wb WC 51, .blk ib XC 58] ++ ((truckN 88 105).own (.slice (some ⟨gt, ot, none⟩) (z1 + 1) tc1) (q1.set z1 (q1[z1].1 ++ [⟨(z : Int), mu⟩], .slice A41 (LS + 1) c41)) ++ ((bikeN 44 3).own (.slice A' m c2) ps ++ []))) (w41.setCell ⟨gt, ot + z1, none⟩ (.slice A41 (LS + 1) c41))) := Lib.hid (by
                      have h := gn_turn (truckN_ok 88 105) HQ1.out.2.1 hzp (q1[z1].1 ++ [⟨(z : Int), mu⟩]) (.slice A41 (LS + 1) c41) rfl (P := [.row 3 1 (.slice (some ⟨gO, oO, none⟩) i c') i (ord.map (.int .i64)), .blk lb (iarr F ns) 2, .blk pb #[.slice (some ⟨gt, ot, none⟩) (z1 + 1) tc1, .slice A' m c2] 39, .blk rb #[.slice none 0 0, .slice none 0 0] 39, .blk wb WC 51, .blk ib XC 58]) (R := ((bikeN 44 3).own (.slice A' m c2) ps ++ [])) (w := w41) (W := w) (B := w.heap.size) (by
                       have h := hS41
                       rw [show ((truckN 88 105).len (q1[z1].1 ++ [⟨(z : Int), mu⟩])) = LS + 1 by rw [← HLS.out]; show (q1[z1].1 ++ [_]).length = q1[z1].1.length + 1; rw [List.length_append]; rfl]
                       rw [show ((truckN 88 105).cells (q1[z1].1 ++ [⟨(z : Int), mu⟩])) = q1[z1].1.flatMap StopV.cells ++ [.int .i64 (z : Int), .int .i64 mu] by show (q1[z1].1 ++ [_]).flatMap StopV.cells = _; rw [List.flatMap_append]; rfl]
                       exact h)
                      rw [show ot + (z1 * (truckN 88 105).S + ((truckN 88 105).S - 1)) = ot + z1 by show ot + (z1 * 1 + (1 - 1)) = _; omega] at h
                      exact h)
                     clear hS41 hz41 HS40 HROW HRS3 x0 d1
                     go_wp2_with fail
                     go_roundw
                     case rel =>
                      have hA : leftA x cut left (qs.map (·.1)).length = l1 := by rw [List.length_map, HT.out.2.2, HQ1.out.2.2]
                      have hB : tsA x cut left (qs.map (·.1)) = q1.map (·.1) := HQ1.out.1.symm
                      obtain ⟨g, rfl, hstep⟩ := fillR_step (x := x) (cut := cut) (s := z) (left := left) (ts := qs.map (·.1)) hn hnf
                      have h2 := HST2.out.2.2.2.2.2
                      rw [hA, hB, HMU.out, fillB_map HQ1.out.2.1 hzp z mu (Value.slice A41 (LS + 1) c41)] at hstep h2
                      exact ⟨g, mm + 1, n - mu, l1 - mu, some ⟨gt, ot, none⟩, z1 + 1, tc1, _, rfl, rfl, by omega, by omega, by omega, Lib.hid ⟨hstep.symm.trans HT.out.1, h2, by rw [List.length_set]; exact HQ1.out.2.1⟩, HSX.out⟩
                     case measure => simp [intOf]; omega
                 · as_aux_lemma =>
                   have htn' : decide ((nT : Int) < tm) = false := decide_eq_false htn
                   have HNB : Hid (newB x cut left nT = false) := Lib.hid (by unfold newB; rw [decide_eq_false hl0, decide_eq_true hc6, HTM.out, htn']; rfl)
                   have HL0 := Lib.hid hl0
                   clear hl0 hc6 htn
                   go_upto_region 39 with (go_at_call 47; (with_reducible refine HA1.out.mono ?_); rintro e w21 ⟨rfl, rfl⟩)
                   have hnp : 0 < nT := by have h := HT.out.2.1.has HL0.out; rw [List.length_map, HT.out.2.2] at h; exact h
                   obtain ⟨gt, ot, rfl⟩ := gn_addr HS6.out HT.out.2.2 hnp
                   obtain ⟨z1, rfl⟩ : ∃ z1, nT = z1 + 1 := ⟨nT - 1, by omega⟩
                   obtain ⟨tc1, rfl⟩ : ∃ tc1, tc1 = tc := ⟨_, rfl⟩
                   obtain ⟨q1, hq1⟩ : ∃ q1, q1 = qs := ⟨_, rfl⟩
                   obtain ⟨l1, hl1⟩ : ∃ l1, l1 = left := ⟨_, rfl⟩
                   obtain ⟨wn, hwn⟩ : ∃ wn, wn = wr2 := ⟨_, rfl⟩
                   have HQ1 : Hid (q1.map (·.1) = tsA x cut left (qs.map (·.1)) ∧ q1.length = z1 + 1 ∧ l1 = leftA x cut left (z1 + 1)) := Lib.hid ⟨by unfold tsA; rw [List.length_map, HT.out.2.2, if_neg (by rw [HNB.out]; simp), hq1], by rw [hq1]; exact HT.out.2.2, by unfold leftA; rw [if_neg (by rw [HNB.out]; simp), hl1]⟩
                   have HS40 : Hid (SL w w.heap.size ([.row 3 1 (.slice (some ⟨gO, oO, none⟩) i c') i (ord.map (.int .i64)), .blk lb (iarr F ns) 2, .blk pb #[.slice (some ⟨gt, ot, none⟩) (z1 + 1) tc1, .slice A' m c2] 39, .blk rb #[.slice none 0 0, .slice none 0 0] 39, .blk wb WC 51, .blk ib XC 58] ++ ((truckN 88 105).own (.slice (some ⟨gt, ot, none⟩) (z1 + 1) tc1) q1 ++ ((bikeN 44 3).own (.slice A' m c2) ps ++ []))) wn) := Lib.hid (by rw [hq1, hwn]; exact HS6.out)
                   rw [← hl1, ← hwn]
                   clear hq1 hl1 hwn HS6 y0 y1 yw
                   have hzp : z1 < q1.length := by rw [HQ1.out.2.1]; omega
                   obtain ⟨vs, vcs, hvs, hvcs⟩ := gn_val hzp HS40.out
                   have d1 : wn.cell? ⟨gt, ot + z1, none⟩ = some q1[z1].2 := by
                    have h := gn_sl (truckN_ok _ _) HQ1.out.2.1 hzp HS40.out
                    rw [show ot + (z1 * (truckN 88 105).S + ((truckN 88 105).S - 1)) = ot + z1 by show ot + (z1 * 1 + (1 - 1)) = _; omega] at h
                    exact h
                   rw [hvs] at d1
                   have hslen : (truckN 88 105).len q1[z1].1 ≤ 480 := by
                    show q1[z1].1.length ≤ 480
                    have h1 : q1[z1].1 ∈ q1.map (·.1) := List.mem_map_of_mem (List.getElem_mem hzp)
                    have h2 : q1[z1].1.length ≤ (q1.map (·.1)).flatten.length := by
                     rw [List.length_flatten]
                     exact mem_le_sum (List.mem_map_of_mem h1)
                    rw [HQ1.out.1, tsA_flat] at h2
                    have h3 := HT.out.2.1.stops
                    omega
                   obtain ⟨LS, hLS⟩ : ∃ LS, (truckN 88 105).len q1[z1].1 = LS := ⟨_, rfl⟩
                   rw [hLS] at d1 hslen hvs hvcs
                   have HLS := Lib.hid hLS
                   have HVS := Lib.hid hvs
                   have hmu : 0 < min n l1 ∧ min n l1 ≤ n ∧ min n l1 ≤ l1 ∧ l1 ≤ 3000 := by
                    have h := HST2.out
                    have h2 := HT.out.2.2
                    rw [List.length_map, h2, ← HQ1.out.2.2] at h
                    have h3 := h.2.2.1
                    have h4 := h.2.2.2.1
                    omega
                   obtain ⟨mu, hmuq⟩ : ∃ mu, min n l1 = mu := ⟨_, rfl⟩
                   go_upto_region 40 with fail
                   rw [hmuq] at hmu
                   have HMU := Lib.hid hmuq
                   obtain ⟨hmu0, hmu1, hmu2, hmu3⟩ := hmu
                   have x0 : wn.cell? ⟨pb, 0, none⟩ = some (.slice (some ⟨gt, ot, none⟩) (z1 + 1) tc1) := HS40.out.cell 2 rfl 0 rfl
                   have hrow : ([.row 3 1 (.slice (some ⟨gO, oO, none⟩) i c') i (ord.map (.int .i64)), .blk lb (iarr F ns) 2, .blk pb #[.slice (some ⟨gt, ot, none⟩) (z1 + 1) tc1, .slice A' m c2] 39, .blk rb #[.slice none 0 0, .slice none 0 0] 39, .blk wb WC 51, .blk ib XC 58] ++ ((truckN 88 105).own (.slice (some ⟨gt, ot, none⟩) (z1 + 1) tc1) q1 ++ ((bikeN 44 3).own (.slice A' m c2) ps ++ [])))[6 + (z1 + 1)]? = some (.row 105 2 (.slice vs LS vcs) LS (q1[z1].1.flatMap StopV.cells)) := by
                    have h := gn_row hzp (v := .slice (some ⟨gt, ot, none⟩) (z1 + 1) tc1) [.row 3 1 (.slice (some ⟨gO, oO, none⟩) i c') i (ord.map (.int .i64)), .blk lb (iarr F ns) 2, .blk pb #[.slice (some ⟨gt, ot, none⟩) (z1 + 1) tc1, .slice A' m c2] 39, .blk rb #[.slice none 0 0, .slice none 0 0] 39, .blk wb WC 51, .blk ib XC 58] ((bikeN 44 3).own (.slice A' m c2) ps ++ []) HVS.out (N := (truckN 88 105))
                    rw [HLS.out] at h
                    exact h
                   have HROW := Lib.hid hrow
                   have HRS3 := Lib.hid (gn_subset (N := (truckN 88 105)) HQ1.out.2.1 (.slice (some ⟨gt, ot, none⟩) (z1 + 1) tc1) [.blk pb #[.slice (some ⟨gt, ot, none⟩) (z1 + 1) tc1, .slice A' m c2] 39] [.row 3 1 (.slice (some ⟨gO, oO, none⟩) i c') i (ord.map (.int .i64)), .blk lb (iarr F ns) 2, .blk pb #[.slice (some ⟨gt, ot, none⟩) (z1 + 1) tc1, .slice A' m c2] 39, .blk rb #[.slice none 0 0, .slice none 0 0] 39, .blk wb WC 51, .blk ib XC 58] ((bikeN 44 3).own (.slice A' m c2) ps ++ []) (.cons _ (.cons _ (.cons_cons _ (List.nil_sublist _)))) z1)
                   obtain ⟨i7, hi7, hk1, hkz, hkb⟩ := info_parts stopE_info
                   have HI7 := Lib.hid (And.intro hi7 (And.intro hk1 (And.intro hkz hkb)))
                   clear hrow hvs hvcs hLS hmuq hi7 hk1 hkz hkb
                   go_wp2_with (at_builtin; refine stopHere ?_)
                   show wpList _ _ _ _ _ _
                   refine wpList_append_sl rfl _ _ 86 rfl HS40.out (6 + (z1 + 1)) i7 (.agg #[.int .i64 0, .int .i64 0]) 2 16 Try.underlying86 HI7.out.1 HI7.out.2.1 HI7.out.2.2.1 HI7.out.2.2.2 rfl (by decide) _ LS 1 _ HROW.out rfl _ rfl rfl (by decide) rfl (by simp [Value.oneCell']) (by omega) (by decide) ?_
                   intro v41 w41 hS41 hz41
                   obtain ⟨A41, c41, rfl, _, _⟩ := (hS41.row (6 + (z1 + 1)) (List.getElem?_set_self (List.getElem?_eq_some_iff.1 HROW.out).1)).slice_
                   have d3 : w41.frozen? ⟨gt, ot + z1, none⟩ = false := (hS41.sub (HRS3.out _)).rowFree 1 rfl _ (by omega)
                   have d4 : ∃ v, w41.cell? ⟨gt, ot + z1, none⟩ = some v := by
                    have h := gn_heads (truckN_ok 88 105) q1 z1 0 hzp (Nat.zero_lt_one)
                    have h2 := (hS41.sub (HRS3.out _)).rowCell 1 rfl (z1 * 1 + 0) h
                    rw [show ot + (z1 * 1 + 0) = ot + z1 by omega] at h2
                    exact ⟨_, h2⟩
                   obtain ⟨vv, d4⟩ := d4
                   have HSX : Hid (SL w w.heap.size ([.row 3 1 (.slice (some ⟨gO, oO, none⟩) i c') i (ord.map (.int .i64)), .blk lb (iarr F ns) 2, .blk pb #[.slice (some ⟨gt, ot, none⟩) (z1 + 1) tc1, .slice A' m c2] 39, .blk rb #[.slice none 0 0, .slice none 0 0] 39, .blk wb WC 51, .blk ib XC 58] ++ ((truckN 88 105).own (.slice (some ⟨gt, ot, none⟩) (z1 + 1) tc1) (q1.set z1 (q1[z1].1 ++ [⟨(z : Int), mu⟩], .slice A41 (LS + 1) c41)) ++ ((bikeN 44 3).own (.slice A' m c2) ps ++ []))) (w41.setCell ⟨gt, ot + z1, none⟩ (.slice A41 (LS + 1) c41))) := Lib.hid (by
                    have h := gn_turn (truckN_ok 88 105) HQ1.out.2.1 hzp (q1[z1].1 ++ [⟨(z : Int), mu⟩]) (.slice A41 (LS + 1) c41) rfl (P := [.row 3 1 (.slice (some ⟨gO, oO, none⟩) i c') i (ord.map (.int .i64)), .blk lb (iarr F ns) 2, .blk pb #[.slice (some ⟨gt, ot, none⟩) (z1 + 1) tc1, .slice A' m c2] 39, .blk rb #[.slice none 0 0, .slice none 0 0] 39, .blk wb WC 51, .blk ib XC 58]) (R := ((bikeN 44 3).own (.slice A' m c2) ps ++ [])) (w := w41) (W := w) (B := w.heap.size) (by
                     have h := hS41
                     rw [show ((truckN 88 105).len (q1[z1].1 ++ [⟨(z : Int), mu⟩])) = LS + 1 by rw [← HLS.out]; show (q1[z1].1 ++ [_]).length = q1[z1].1.length + 1; rw [List.length_append]; rfl]
                     rw [show ((truckN 88 105).cells (q1[z1].1 ++ [⟨(z : Int), mu⟩])) = q1[z1].1.flatMap StopV.cells ++ [.int .i64 (z : Int), .int .i64 mu] by show (q1[z1].1 ++ [_]).flatMap StopV.cells = _; rw [List.flatMap_append]; rfl]
                     exact h)
                    rw [show ot + (z1 * (truckN 88 105).S + ((truckN 88 105).S - 1)) = ot + z1 by show ot + (z1 * 1 + (1 - 1)) = _; omega] at h
                    exact h)
                   clear hS41 hz41 HS40 HROW HRS3 x0 d1
                   go_wp2_with fail
                   go_roundw
                   case rel =>
                    have hA : leftA x cut left (qs.map (·.1)).length = l1 := by rw [List.length_map, HT.out.2.2, HQ1.out.2.2]
                    have hB : tsA x cut left (qs.map (·.1)) = q1.map (·.1) := HQ1.out.1.symm
                    obtain ⟨g, rfl, hstep⟩ := fillR_step (x := x) (cut := cut) (s := z) (left := left) (ts := qs.map (·.1)) hn hnf
                    have h2 := HST2.out.2.2.2.2.2
                    rw [hA, hB, HMU.out, fillB_map HQ1.out.2.1 hzp z mu (Value.slice A41 (LS + 1) c41)] at hstep h2
                    exact ⟨g, mm + 1, n - mu, l1 - mu, some ⟨gt, ot, none⟩, z1 + 1, tc1, _, rfl, rfl, by omega, by omega, by omega, Lib.hid ⟨hstep.symm.trans HT.out.1, h2, by rw [List.length_set]; exact HQ1.out.2.1⟩, HSX.out⟩
                   case measure => simp [intOf]; omega
               · as_aux_lemma =>
                 have hcb : (cut % 7 == 6) = false := by rw [beq_eq_false_iff_ne]; exact hc6
                 have HNB : Hid (newB x cut left nT = false) := Lib.hid (by unfold newB; rw [decide_eq_false hl0, decide_eq_false hc6]; rfl)
                 have HL0 := Lib.hid hl0
                 clear hl0 hc6
                 go_upto_region 39 with (go_at_call 47; (with_reducible refine HA1.out.mono ?_); rintro e w21 ⟨rfl, rfl⟩)
                 have hnp : 0 < nT := by have h := HT.out.2.1.has HL0.out; rw [List.length_map, HT.out.2.2] at h; exact h
                 obtain ⟨gt, ot, rfl⟩ := gn_addr HS6.out HT.out.2.2 hnp
                 obtain ⟨z1, rfl⟩ : ∃ z1, nT = z1 + 1 := ⟨nT - 1, by omega⟩
                 obtain ⟨tc1, rfl⟩ : ∃ tc1, tc1 = tc := ⟨_, rfl⟩
                 obtain ⟨q1, hq1⟩ : ∃ q1, q1 = qs := ⟨_, rfl⟩
                 obtain ⟨l1, hl1⟩ : ∃ l1, l1 = left := ⟨_, rfl⟩
                 obtain ⟨wn, hwn⟩ : ∃ wn, wn = wr2 := ⟨_, rfl⟩
                 have HQ1 : Hid (q1.map (·.1) = tsA x cut left (qs.map (·.1)) ∧ q1.length = z1 + 1 ∧ l1 = leftA x cut left (z1 + 1)) := Lib.hid ⟨by unfold tsA; rw [List.length_map, HT.out.2.2, if_neg (by rw [HNB.out]; simp), hq1], by rw [hq1]; exact HT.out.2.2, by unfold leftA; rw [if_neg (by rw [HNB.out]; simp), hl1]⟩
                 have HS40 : Hid (SL w w.heap.size ([.row 3 1 (.slice (some ⟨gO, oO, none⟩) i c') i (ord.map (.int .i64)), .blk lb (iarr F ns) 2, .blk pb #[.slice (some ⟨gt, ot, none⟩) (z1 + 1) tc1, .slice A' m c2] 39, .blk rb #[.slice none 0 0, .slice none 0 0] 39, .blk wb WC 51, .blk ib XC 58] ++ ((truckN 88 105).own (.slice (some ⟨gt, ot, none⟩) (z1 + 1) tc1) q1 ++ ((bikeN 44 3).own (.slice A' m c2) ps ++ []))) wn) := Lib.hid (by rw [hq1, hwn]; exact HS6.out)
                 rw [← hl1, ← hwn]
                 clear hq1 hl1 hwn HS6 y0 y1 yw
                 have hzp : z1 < q1.length := by rw [HQ1.out.2.1]; omega
                 obtain ⟨vs, vcs, hvs, hvcs⟩ := gn_val hzp HS40.out
                 have d1 : wn.cell? ⟨gt, ot + z1, none⟩ = some q1[z1].2 := by
                  have h := gn_sl (truckN_ok _ _) HQ1.out.2.1 hzp HS40.out
                  rw [show ot + (z1 * (truckN 88 105).S + ((truckN 88 105).S - 1)) = ot + z1 by show ot + (z1 * 1 + (1 - 1)) = _; omega] at h
                  exact h
                 rw [hvs] at d1
                 have hslen : (truckN 88 105).len q1[z1].1 ≤ 480 := by
                  show q1[z1].1.length ≤ 480
                  have h1 : q1[z1].1 ∈ q1.map (·.1) := List.mem_map_of_mem (List.getElem_mem hzp)
                  have h2 : q1[z1].1.length ≤ (q1.map (·.1)).flatten.length := by
                   rw [List.length_flatten]
                   exact mem_le_sum (List.mem_map_of_mem h1)
                  rw [HQ1.out.1, tsA_flat] at h2
                  have h3 := HT.out.2.1.stops
                  omega
                 obtain ⟨LS, hLS⟩ : ∃ LS, (truckN 88 105).len q1[z1].1 = LS := ⟨_, rfl⟩
                 rw [hLS] at d1 hslen hvs hvcs
                 have HLS := Lib.hid hLS
                 have HVS := Lib.hid hvs
                 have hmu : 0 < min n l1 ∧ min n l1 ≤ n ∧ min n l1 ≤ l1 ∧ l1 ≤ 3000 := by
                  have h := HST2.out
                  have h2 := HT.out.2.2
                  rw [List.length_map, h2, ← HQ1.out.2.2] at h
                  have h3 := h.2.2.1
                  have h4 := h.2.2.2.1
                  omega
                 obtain ⟨mu, hmuq⟩ : ∃ mu, min n l1 = mu := ⟨_, rfl⟩
                 go_upto_region 40 with fail
                 rw [hmuq] at hmu
                 have HMU := Lib.hid hmuq
                 obtain ⟨hmu0, hmu1, hmu2, hmu3⟩ := hmu
                 have x0 : wn.cell? ⟨pb, 0, none⟩ = some (.slice (some ⟨gt, ot, none⟩) (z1 + 1) tc1) := HS40.out.cell 2 rfl 0 rfl
                 have hrow : ([.row 3 1 (.slice (some ⟨gO, oO, none⟩) i c') i (ord.map (.int .i64)), .blk lb (iarr F ns) 2, .blk pb #[.slice (some ⟨gt, ot, none⟩) (z1 + 1) tc1, .slice A' m c2] 39, .blk rb #[.slice none 0 0, .slice none 0 0] 39, .blk wb WC 51, .blk ib XC 58] ++ ((truckN 88 105).own (.slice (some ⟨gt, ot, none⟩) (z1 + 1) tc1) q1 ++ ((bikeN 44 3).own (.slice A' m c2) ps ++ [])))[6 + (z1 + 1)]? = some (.row 105 2 (.slice vs LS vcs) LS (q1[z1].1.flatMap StopV.cells)) := by
                  have h := gn_row hzp (v := .slice (some ⟨gt, ot, none⟩) (z1 + 1) tc1) [.row 3 1 (.slice (some ⟨gO, oO, none⟩) i c') i (ord.map (.int .i64)), .blk lb (iarr F ns) 2, .blk pb #[.slice (some ⟨gt, ot, none⟩) (z1 + 1) tc1, .slice A' m c2] 39, .blk rb #[.slice none 0 0, .slice none 0 0] 39, .blk wb WC 51, .blk ib XC 58] ((bikeN 44 3).own (.slice A' m c2) ps ++ []) HVS.out (N := (truckN 88 105))
                  rw [HLS.out] at h
                  exact h
                 have HROW := Lib.hid hrow
                 have HRS3 := Lib.hid (gn_subset (N := (truckN 88 105)) HQ1.out.2.1 (.slice (some ⟨gt, ot, none⟩) (z1 + 1) tc1) [.blk pb #[.slice (some ⟨gt, ot, none⟩) (z1 + 1) tc1, .slice A' m c2] 39] [.row 3 1 (.slice (some ⟨gO, oO, none⟩) i c') i (ord.map (.int .i64)), .blk lb (iarr F ns) 2, .blk pb #[.slice (some ⟨gt, ot, none⟩) (z1 + 1) tc1, .slice A' m c2] 39, .blk rb #[.slice none 0 0, .slice none 0 0] 39, .blk wb WC 51, .blk ib XC 58] ((bikeN 44 3).own (.slice A' m c2) ps ++ []) (.cons _ (.cons _ (.cons_cons _ (List.nil_sublist _)))) z1)
                 obtain ⟨i7, hi7, hk1, hkz, hkb⟩ := info_parts stopE_info
                 have HI7 := Lib.hid (And.intro hi7 (And.intro hk1 (And.intro hkz hkb)))
                 clear hrow hvs hvcs hLS hmuq hi7 hk1 hkz hkb
                 go_wp2_with (at_builtin; refine stopHere ?_)
                 show wpList _ _ _ _ _ _
                 refine wpList_append_sl rfl _ _ 86 rfl HS40.out (6 + (z1 + 1)) i7 (.agg #[.int .i64 0, .int .i64 0]) 2 16 Try.underlying86 HI7.out.1 HI7.out.2.1 HI7.out.2.2.1 HI7.out.2.2.2 rfl (by decide) _ LS 1 _ HROW.out rfl _ rfl rfl (by decide) rfl (by simp [Value.oneCell']) (by omega) (by decide) ?_
                 intro v41 w41 hS41 hz41
                 obtain ⟨A41, c41, rfl, _, _⟩ := (hS41.row (6 + (z1 + 1)) (List.getElem?_set_self (List.getElem?_eq_some_iff.1 HROW.out).1)).slice_
                 have d3 : w41.frozen? ⟨gt, ot + z1, none⟩ = false := (hS41.sub (HRS3.out _)).rowFree 1 rfl _ (by omega)
                 have d4 : ∃ v, w41.cell? ⟨gt, ot + z1, none⟩ = some v := by
                  have h := gn_heads (truckN_ok 88 105) q1 z1 0 hzp (Nat.zero_lt_one)
                  have h2 := (hS41.sub (HRS3.out _)).rowCell 1 rfl (z1 * 1 + 0) h
                  rw [show ot + (z1 * 1 + 0) = ot + z1 by omega] at h2
                  exact ⟨_, h2⟩
                 obtain ⟨vv, d4⟩ := d4
                 have HSX : Hid (SL w w.heap.size ([.row 3 1 (.slice (some ⟨gO, oO, none⟩) i c') i (ord.map (.int .i64)), .blk lb (iarr F ns) 2, .blk pb #[.slice (some ⟨gt, ot, none⟩) (z1 + 1) tc1, .slice A' m c2] 39, .blk rb #[.slice none 0 0, .slice none 0 0] 39, .blk wb WC 51, .blk ib XC 58] ++ ((truckN 88 105).own (.slice (some ⟨gt, ot, none⟩) (z1 + 1) tc1) (q1.set z1 (q1[z1].1 ++ [⟨(z : Int), mu⟩], .slice A41 (LS + 1) c41)) ++ ((bikeN 44 3).own (.slice A' m c2) ps ++ []))) (w41.setCell ⟨gt, ot + z1, none⟩ (.slice A41 (LS + 1) c41))) := Lib.hid (by
                  have h := gn_turn (truckN_ok 88 105) HQ1.out.2.1 hzp (q1[z1].1 ++ [⟨(z : Int), mu⟩]) (.slice A41 (LS + 1) c41) rfl (P := [.row 3 1 (.slice (some ⟨gO, oO, none⟩) i c') i (ord.map (.int .i64)), .blk lb (iarr F ns) 2, .blk pb #[.slice (some ⟨gt, ot, none⟩) (z1 + 1) tc1, .slice A' m c2] 39, .blk rb #[.slice none 0 0, .slice none 0 0] 39, .blk wb WC 51, .blk ib XC 58]) (R := ((bikeN 44 3).own (.slice A' m c2) ps ++ [])) (w := w41) (W := w) (B := w.heap.size) (by
                   have h := hS41
                   rw [show ((truckN 88 105).len (q1[z1].1 ++ [⟨(z : Int), mu⟩])) = LS + 1 by rw [← HLS.out]; show (q1[z1].1 ++ [_]).length = q1[z1].1.length + 1; rw [List.length_append]; rfl]
                   rw [show ((truckN 88 105).cells (q1[z1].1 ++ [⟨(z : Int), mu⟩])) = q1[z1].1.flatMap StopV.cells ++ [.int .i64 (z : Int), .int .i64 mu] by show (q1[z1].1 ++ [_]).flatMap StopV.cells = _; rw [List.flatMap_append]; rfl]
                   exact h)
                  rw [show ot + (z1 * (truckN 88 105).S + ((truckN 88 105).S - 1)) = ot + z1 by show ot + (z1 * 1 + (1 - 1)) = _; omega] at h
                  exact h)
                 clear hS41 hz41 HS40 HROW HRS3 x0 d1
                 go_wp2_with fail
                 go_roundw
                 case rel =>
                  have hA : leftA x cut left (qs.map (·.1)).length = l1 := by rw [List.length_map, HT.out.2.2, HQ1.out.2.2]
                  have hB : tsA x cut left (qs.map (·.1)) = q1.map (·.1) := HQ1.out.1.symm
                  obtain ⟨g, rfl, hstep⟩ := fillR_step (x := x) (cut := cut) (s := z) (left := left) (ts := qs.map (·.1)) hn hnf
                  have h2 := HST2.out.2.2.2.2.2
                  rw [hA, hB, HMU.out, fillB_map HQ1.out.2.1 hzp z mu (Value.slice A41 (LS + 1) c41)] at hstep h2
                  exact ⟨g, mm + 1, n - mu, l1 - mu, some ⟨gt, ot, none⟩, z1 + 1, tc1, _, rfl, rfl, by omega, by omega, by omega, Lib.hid ⟨hstep.symm.trans HT.out.1, h2, by rw [List.length_set]; exact HQ1.out.2.1⟩, HSX.out⟩
                 case measure => simp [intOf]; omega
           · have hn' : decide (0 < n) = false := decide_eq_false hn
             have HT2 : Hid ((left, qs.map (·.1)) = trucksM x u F (z + 1) ∧ qs.length = nT) := Lib.hid ⟨by rw [HRS.out, ← HT.out.1, fillR_end hn], HT.out.2.2⟩
             have HS7 := Lib.hid hS
             clear hS hn HT
             go_wp2_with fail
             go_roundw
             case rel => exact ⟨z + 1, TA, nT, tc, left, qs, by omega, by go_num, rfl, HT2, HS7.out⟩
             case measure => simp [intOf]; omega
        · obtain rfl : z = ns := by omega
          have HS := Lib.hid hS
          have HPS : Hid ((Try.prog.info? 39).map (·.size) = some 2) := Lib.hid (by kernel_rfl)
          have HTQ : Hid (qs.map (·.1) = (draftM x u).trucks ∧ ps.map (·.1) = (draftM x u).bikes) := Lib.hid ⟨by
           unfold draftM
           simp only
           rw [HORD.out.1, HNS.out.2, HNS.out.1, HFF.out, ← HT.out.1], by
           unfold draftM
           simp only
           rw [HORD.out.1, HNS.out.2]; exact HQ.out.1⟩
          clear hS hlt
          go_wp2_with first
           | (refine wpList_load_row rfl 39 _ rfl pb rfl _ #[.slice TA nT tc, .slice A' m c2] _ _ (HS.out.blk 2 rfl) Try.underlying39 rfl HPS.out ?_)
           | (refine wpList_store_abs rfl 39 _ _ rfl rfl rb #[.slice TA nT tc, .slice A' m c2] rfl rfl _ _ (HS.out.blk 3 rfl) HPS.out rfl (by simp [Value.oneCell']) ?_
              intro w9 ho9 hh9)
          refine retArr rfl _ _ rb 39 #[.slice TA nT tc, .slice A' m c2] _ rfl hh9 Try.underlying39 rfl HPS.out ?_
          refine ⟨_, _, qs, ps, rfl, HTQ.out.1, HTQ.out.2, ?_⟩
          have h := HS.out.only 3 rfl ho9 hh9
          rw [List.append_nil] at h
          exact h.sub (.cons _ (.cons _ (.cons _ (.cons _ (.cons _ (.cons _ (List.Sublist.refl _))))))) 
end Go.Proofs.Ytpbhbmdghafkmaa
