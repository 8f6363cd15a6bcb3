/- The walk of law PlanLoads. (printed by gen/planloads.py) -/
import Derived.Test.YtjpejclfppbboaaDrawn
import Derived.Test.YtjpejclfppbboaaAwake17
import Derived.Test.YtjpejclfppbboaaLoads
import Derived.Test.YtjpejclfppbboaaEqualAny
namespace Go.Proofs.Ytjpejclfppbboaa
open Go.ChangeShapes Go.WideShapes Go.ChangeAt Go.RowKit
set_option linter.unusedVariables false
theorem reads_blk17 {w : World} {g n size : Nat} {cs : Array Value} {t : TypeId} (h : w.heap[g]? = some (.cells cs t (0, 0))) (hc : cs.size = n * size) : Reads w w.heap.size size (some ⟨g, 0, none⟩) n cs.toList := by
  refine ⟨by simpa using hc, fun _ => ⟨_, rfl, (Array.getElem?_eq_some_iff.1 h).1, fun j u hu => ?_⟩⟩
  rw [Addr.add_mid, Nat.zero_add, cell_of_row _ _ _ _ _ _ h]
  simpa using hu
theorem equal_rows_same (F : Nat → Int) (ns g1 g2 : Nat) (t : TypeId) (w : World) (h1 : w.heap[g1]? = some (.cells (iarr F ns) t (0, 0))) (h2 : w.heap[g2]? = some (.cells (iarr F ns) t (0, 0))) (hn : ns ≤ 1000) :
    Calls Try.prog 27 #[.slice (some ⟨g1, 0, none⟩) ns ns, .slice (some ⟨g2, 0, none⟩) ns ns] w fun e w' => e = .returned (.bool true) ∧ Below w.heap.size w w' := by
  have r1 := reads_blk17 (n := ns) (size := 1) h1 (by rw [iarr_size, Nat.mul_one])
  have r2 := reads_blk17 (n := ns) (size := 1) h2 (by rw [iarr_size, Nat.mul_one])
  rw [iarr_list] at r1 r2
  have hl : ((List.range ns).map F).length = ns := by simp
  have h := equalA_int64s (some ⟨g1, 0, none⟩) (some ⟨g2, 0, none⟩) ns ns ((List.range ns).map F) ((List.range ns).map F) w (by rw [hl]; exact r1) (by rw [hl]; exact r2) (by rw [hl]; unfold maxLen; omega) (by rw [hl]; unfold maxLen; omega)
  rw [hl, decide_eq_true rfl] at h
  exact h
set_option maxRecDepth 100000 in
set_option maxHeartbeats 16000000 in
theorem planLoads_any (sp : IAt) (s : SmallV) (a : WishAt) (u : WishV) (what at_ by_ : Int) (w : World) (hI0 : SmallIn w w.heap.size sp s) (hL0 : SmallL s) (hok : s.ok) (hW : WishIn w w.heap.size a u) (hu : u.ok) (hl : u.L) (hw : 0 ≤ what ∧ what ≤ 255) (ha : 0 ≤ at_ ∧ at_ ≤ 255) (hb : -128 ≤ by_ ∧ by_ ≤ 127) :
    Calls Try.prog 12 #[.agg (s.vals sp), .agg (u.vals a), .int .u8 what, .int .u8 at_, .int .i8 by_] w fun e w' => e = .returned (.bool true) ∧ Below w.heap.size w w' := by
  have hx := SmallV.small hok
  have HX := Lib.hid hx
  have HI0 := Lib.hid hI0
  have HW := Lib.hid (And.intro hW (And.intro hu hl))
  have HNUM := Lib.hid (And.intro hw (And.intro ha hb))
  have HPS : Hid ((Try.prog.info? 30).map (·.size) = some 2) := Lib.hid (by kernel_rfl)
  have HIS : Hid ((Try.prog.info? 39).map (·.size) = some 9) := Lib.hid (by kernel_rfl)
  have HSS : Hid ((Try.prog.info? 26).map (·.size) = some 11) := Lib.hid (by kernel_rfl)
  have HWS : Hid ((Try.prog.info? 83).map (·.size) = some 3) := Lib.hid (by kernel_rfl)
  have HMK : Hid (∀ wx, Below w.heap.size w wx → Calls Try.prog 16 #[.agg (s.vals sp)] wx (MakePost wx s.mk_)) := Lib.hid (fun wx hb => make_any s sp wx ((hI0.below hb).more hb.size) hL0 hok)
  unfold SmallV.vals at HMK
  unfold SmallV.vals WishV.vals
  have hS := ((SL.start (W := w) (Nat.le_refl w.heap.size)).alloc #[.int .u8 s.fin, .int .u8 s.trucks, .int .u8 s.troom, .int .u8 s.bikes, .int .u8 s.broom, .slice sp.SA s.sats.length sp.sc, .slice sp.CA s.custs.length sp.cc, .slice sp.KA s.cost.length sp.kc, .slice sp.TA s.time.length sp.tc, .bool s.tight, .bool s.loose] 26).alloc #[.slice a.SA u.sats.length a.sc, .slice a.OA u.order.length a.oc, .slice a.CA u.cuts.length a.cc] 83
  simp only [size_alloc'] at hS
  obtain ⟨sb, hsb⟩ : ∃ sb, w.heap.size = sb := ⟨_, rfl⟩
  obtain ⟨wb, hwb⟩ : ∃ wb, sb + 1 = wb := ⟨_, rfl⟩
  obtain ⟨w1, hw1⟩ : ∃ w1, ((w.alloc (.cells #[.int .u8 s.fin, .int .u8 s.trucks, .int .u8 s.troom, .int .u8 s.bikes, .int .u8 s.broom, .slice sp.SA s.sats.length sp.sc, .slice sp.CA s.custs.length sp.cc, .slice sp.KA s.cost.length sp.kc, .slice sp.TA s.time.length sp.tc, .bool s.tight, .bool s.loose] 26)).alloc (.cells #[.slice a.SA u.sats.length a.sc, .slice a.OA u.order.length a.oc, .slice a.CA u.cuts.length a.cc] 83)) = w1 := ⟨_, rfl⟩
  have HS1 : Hid (SL w w.heap.size [.blk wb #[.slice a.SA u.sats.length a.sc, .slice a.OA u.order.length a.oc, .slice a.CA u.cuts.length a.cc] 83, .blk sb #[.int .u8 s.fin, .int .u8 s.trucks, .int .u8 s.troom, .int .u8 s.bikes, .int .u8 s.broom, .slice sp.SA s.sats.length sp.sc, .slice sp.CA s.custs.length sp.cc, .slice sp.KA s.cost.length sp.kc, .slice sp.TA s.time.length sp.tc, .bool s.tight, .bool s.loose] 26] w1) := Lib.hid (by rw [← hwb, ← hsb, ← hw1]; exact hS)
  have HBL := Lib.hid (And.intro hsb (And.intro hwb hw1))
  clear hx hI0 hL0 hok hW hu hl hw ha hb hS hsb hwb hw1
  go_enter Try.func12, Try.ntmps12
  go_upto_region 1 with fail
  rw [HBL.out.2.2, HBL.out.1, HBL.out.2.1]
  go_upto_region 3 with (go_at_call 14; (with_reducible refine (awake17 _).mono ?_); rintro e w2 ⟨rfl, hb2⟩)
  have HS2 : Hid (SL w w.heap.size [.blk wb #[.slice a.SA u.sats.length a.sc, .slice a.OA u.order.length a.oc, .slice a.CA u.cuts.length a.cc] 83, .blk sb #[.int .u8 s.fin, .int .u8 s.trucks, .int .u8 s.troom, .int .u8 s.bikes, .int .u8 s.broom, .slice sp.SA s.sats.length sp.sc, .slice sp.CA s.custs.length sp.cc, .slice sp.KA s.cost.length sp.kc, .slice sp.TA s.time.length sp.tc, .bool s.tight, .bool s.loose] 26] w2) := Lib.hid (HS1.out.call hb2)
  clear hb2 HS1
  go_upto_region 4 with first
    | (refine wpList_load_row rfl 26 _ rfl sb rfl _ #[.int .u8 s.fin, .int .u8 s.trucks, .int .u8 s.troom, .int .u8 s.bikes, .int .u8 s.broom, .slice sp.SA s.sats.length sp.sc, .slice sp.CA s.custs.length sp.cc, .slice sp.KA s.cost.length sp.kc, .slice sp.TA s.time.length sp.tc, .bool s.tight, .bool s.loose] _ _ (HS2.out.blk 1 rfl) Try.underlying26 rfl HSS.out ?_)
    | (go_at_call 16; (with_reducible refine (HMK.out _ HS2.out.below).mono ?_); rintro e w3 ⟨p, hk, ht, rfl, hl1, hl2, hq⟩
       have HI3 := Lib.hid (made_in hl1 hl2 hq).1
       have HS3 := Lib.hid (HS2.out.call hq.below)
       clear hq hl1 hl2 HMK HS2
       unfold InstV.cells)
  obtain ⟨x, hxq⟩ : ∃ x, s.mk_ = x := ⟨_, rfl⟩
  rw [hxq] at HX HI3 ⊢
  obtain ⟨XC, hXC⟩ : ∃ XC : Array Value, #[.int .i64 x.fin, .int .i64 x.tm, .int .i64 x.tr, .int .i64 x.bm, .int .i64 x.br, .slice p.SA x.sats.length p.sc, .slice p.CA x.custs.length p.cc, .slice p.KA x.cost.length p.kc, .slice p.TA x.time.length p.tc] = XC := ⟨_, rfl⟩
  have HXC : Hid (x.cells p = XC) := Lib.hid hXC
  rw [hXC]
  have HXS : Hid (XC.size = 9) := Lib.hid (by rw [← hXC]; rfl)
  have HXI : Hid ((Try.prog.info? 39).map (·.size) = some XC.size) := Lib.hid (by rw [HXS.out]; exact HIS.out)
  have HS4 := Lib.hid (HS3.out.alloc XC 39)
  have HI4 : Hid (InstIn (w3.alloc (.cells XC 39)) w3.heap.size p x) := Lib.hid (HI3.out.below ((Below.refl _ _).alloc (Nat.le_refl _) _))
  have HB4 : Hid (Below w3.heap.size w3 (w3.alloc (.cells XC 39))) := Lib.hid ((Below.refl _ _).alloc (Nat.le_refl _) _)
  obtain ⟨ib, hib⟩ : ∃ ib, w3.heap.size = ib := ⟨_, rfl⟩
  rw [hib] at HS4 HI4 HB4 ⊢
  have HIB := Lib.hid hib
  generalize (w3.alloc (.cells XC 39)) = w4 at *
  clear hxq hXC hib HI3 HS3
  have HI4' : Hid (InstIn w4 w4.heap.size p x) := Lib.hid (HI4.out.more (Nat.le_of_lt (HS4.out.lt 0 rfl).2))
  have HDR : Hid (Calls Try.prog 38 #[.agg XC, .agg #[.slice a.SA u.sats.length a.sc, .slice a.OA u.order.length a.oc, .slice a.CA u.cuts.length a.cc]] w4 (PlanPost w4 (draftM x u))) := Lib.hid (by
    have h := drawn_draft x p u a w4 HI4'.out (wishIn_more (HW.out.1.below HS4.out.below) HS4.out.below.size) HX.out HW.out.2.1 HW.out.2.2
    rw [HXC.out] at h; exact h)
  obtain ⟨q0, hq0⟩ : ∃ q0, draftM x u = q0 := ⟨_, rfl⟩
  have HQ0 : Hid (PlanS q0) := Lib.hid (by rw [← hq0]; exact draft_S HX.out)
  rw [hq0] at HDR
  clear hq0 HI4
  go_upto_region 5 with first
    | (refine wpList_load_row rfl 39 _ rfl ib rfl _ XC _ _ (HS4.out.blk 0 rfl) Try.underlying39 rfl HXI.out ?_)
    | (refine wpList_load_row rfl 83 _ rfl wb rfl _ #[.slice a.SA u.sats.length a.sc, .slice a.OA u.order.length a.oc, .slice a.CA u.cuts.length a.cc] _ _ (HS4.out.blk 1 rfl) Try.underlying83 rfl HWS.out ?_)
    | (go_at_call 38; (with_reducible refine HDR.out.mono ?_); rintro e w5 ⟨TA0, tc0, BA0, bc0, rfl, hP0, hT0, hB0⟩
       have HP0 := Lib.hid hP0
       have HS5 := Lib.hid (HS4.out.call hB0)
       have HB5 := Lib.hid hB0
       clear hP0 hT0 hB0 HDR)
    | (go_at_call 37; (with_reducible refine (drawn_spoilt _ _ _ _ q0 _ _ _ _ HP0.out HQ0.out HNUM.out.1 HNUM.out.2.1 HNUM.out.2.2).mono ?_); rintro e w6 ⟨q, hQL, TA, tc, BA, bc, rfl, hP6, hT6, hB6⟩
       have HP6 := Lib.hid (And.intro hP6 (And.intro hT6 hQL))
       have HS6 := Lib.hid (HS5.out.call hB6)
       have HI6 := Lib.hid ((HI4'.out.below HB5.out).below (hB6.mono HB5.out.size))
       have HZ6 := Lib.hid (Nat.le_trans HB5.out.size hB6.size)
       clear hP6 hT6 hQL hB6 HP0 HQ0 HNUM)
  obtain ⟨nt, hnt⟩ : ∃ n, q.trucks.length = n := ⟨_, rfl⟩
  obtain ⟨nb, hnb⟩ : ∃ n, q.bikes.length = n := ⟨_, rfl⟩
  have HNQ := Lib.hid (And.intro hnt hnb)
  rw [hnt, hnb]
  have hS7 := HS6.out.alloc #[.slice TA nt tc, .slice BA nb bc] 30
  have HB7 : Hid (Below w6.heap.size w6 (w6.alloc (.cells #[.slice TA nt tc, .slice BA nb bc] 30))) := Lib.hid ((Below.refl _ _).alloc (Nat.le_refl _) _)
  obtain ⟨pb, hpb⟩ : ∃ pb, w6.heap.size = pb := ⟨_, rfl⟩
  rw [hpb] at hS7 ⊢
  generalize (w6.alloc (.cells #[.slice TA nt tc, .slice BA nb bc] 30)) = w7 at *
  have HS7 := Lib.hid hS7
  have HI7 : Hid (InstIn w7 w7.heap.size p x) := Lib.hid ((HI6.out.below (HB7.out.mono HZ6.out)).more (Nat.le_trans HZ6.out HB7.out.size))
  have HP7 : Hid (PlanIn w7 w7.heap.size TA BA q ∧ TrucksC w7 w7.heap.size TA q.trucks ∧ PlanL q) := Lib.hid ⟨(HP6.out.1.below HB7.out).more HB7.out.size, TrucksC.more (TrucksC.below HP6.out.2.1 HB7.out) HB7.out.size, HP6.out.2.2⟩
  have HIBX : Hid (∀ wx, Below w7.heap.size w7 wx → wx.heap[ib]? = some (.cells XC 39 (0, 0))) := Lib.hid (fun wx hb => (hb.block ib (HS7.out.lt 1 rfl).2).trans (HS7.out.blk 1 rfl))
  have HPBX : Hid (∀ wx, Below w7.heap.size w7 wx → wx.heap[pb]? = some (.cells #[.slice TA nt tc, .slice BA nb bc] 30 (0, 0))) := Lib.hid (fun wx hb => (hb.block pb (HS7.out.lt 0 rfl).2).trans (HS7.out.blk 0 rfl))
  have HB0 : Hid (Below w.heap.size w w7) := Lib.hid HS7.out.below
  clear hnt hnb hpb hS7 HS7 HS6 HS5 HS4 HB5 HB7 HP6 HI6 HZ6 HI4' HB4 HI0 HW HBL HIB
  have HCI : Hid (∀ wx, Below w7.heap.size w7 wx → ∀ (j : Nat) v, (x.cells p)[j]? = some v → wx.cell? ⟨ib, j, none⟩ = some v) := Lib.hid (fun wx hb j v h => by rw [cell_of_row _ _ _ _ _ _ (HIBX.out wx hb), ← HXC.out]; exact h)
  have HCP : Hid (∀ wx, Below w7.heap.size w7 wx → wx.cell? ⟨pb, 1, none⟩ = some (.slice BA nb bc)) := Lib.hid (fun wx hb => by rw [cell_of_row _ _ _ _ _ _ (HPBX.out wx hb)]; rfl)
  obtain ⟨bs, hbs⟩ : ∃ bs, q.bikes = bs := ⟨_, rfl⟩
  have HT : Hid (Bikes w7 w7.heap.size BA bs) := Lib.hid (by rw [← hbs]; exact HP7.out.1.bikes)
  have HL2 : Hid ((allStops bs).length ≤ 100000) := Lib.hid (by rw [← hbs]; exact HP7.out.2.2.custs)
  have HNB : Hid (bs.length = nb ∧ nb ≤ 100000) := Lib.hid (by rw [← hbs]; exact ⟨HNQ.out.2, by rw [← HNQ.out.2]; exact HP7.out.2.2.bikes⟩)
  have hnb1 := HNB.out.2
  obtain ⟨hnc0, hnc1⟩ := HX.out.custs
  obtain ⟨hns0, hns1⟩ := HX.out.sats
  have HCL : Hid (∀ c ∈ x.custs, 1 ≤ c.load ∧ c.load ≤ 20) := Lib.hid (fun c hc => (HX.out.custsIn c hc).1)
  obtain ⟨i0, hi0, hz0, hz1, hz2⟩ := info_parts info_i64
  have HII := Lib.hid (And.intro hi0 (And.intro hz0 (And.intro hz1 hz2)))
  obtain ⟨ns, hnsq⟩ : ∃ ns, x.sats.length = ns := ⟨_, rfl⟩
  have HNS := Lib.hid hnsq
  rw [hnsq] at hns0 hns1
  have y5 : w7.cell? ⟨ib, 5, none⟩ = some (.slice p.SA ns p.sc) := HCI.out w7 (Below.refl _ _) 5 _ (by rw [← hnsq]; rfl)
  clear hbs hi0 hz0 hz1 hz2 hnsq
  go_upto_region 6 with (at_make; refine wpList_make_rep _ rfl _ _ 51 rfl 2 i0 (.int .i64 0) Try.underlying51 HII.out.1 HII.out.2.1 HII.out.2.2.1 rfl .i64 .i64 ns ns ns rfl rfl rfl rfl ?b2 ?b3 ?_
                         case b2 => rw [HII.out.2.2.2]; omega
                         case b3 => unfold maxLen; omega
                         intro w8 hg8 hb8 hz8
                         rw [zero_row] at hg8
                         have HS8 := Lib.hid ((SL.start (W := w7) (Nat.le_refl w7.heap.size)).made hb8 hg8)
                         clear hg8 hb8 hz8)
  obtain ⟨ob, hob⟩ : ∃ ob, ob = w7.heap.size := ⟨_, rfl⟩
  have HS1 : Hid (SL w7 w7.heap.size [.blk ob (iarr (loadsP ns x.custs []) ns) 2] w8) := Lib.hid (by
    have h := HS8.out
    rw [hob]
    unfold loadsP; rw [List.foldl_nil]; exact h)
  rw [← hob]
  clear hob HS8 y5
  have y9 : w8.cell? ⟨pb, 1, none⟩ = some (.slice BA nb bc) := HCP.out w8 HS1.out.below
  go_upto_region 7 with fail
  clear y9
  go_loopw [36] (fun i wr => ∃ k : Nat, k ≤ nb ∧ i = .int .i64 k ∧ SL w7 w7.heap.size [.blk ob (iarr (loadsP ns x.custs (pairsOf (bs.take k))) ns) 2] wr) (fun i _ => nb - (intOf i).toNat)
  case atStart => exact ⟨0, by omega, rfl, HS1.out⟩
  case round =>
    clear HS1
    obtain ⟨k, hk, rfl, hS⟩ := hrel
    by_cases hlt : k < nb
    · have hltb : k < bs.length := by rw [HNB.out.1]; exact hlt
      obtain ⟨b, o, a1, c, hBA, hb, d00, d01, hst⟩ := bikes_at HT.out hltb
      have d0 := (hS.below.cell (p := ⟨b, o + k * 2, none⟩) hb).trans d00
      have d1 := (hS.below.cell (p := ⟨b, o + k * 2 + 1, none⟩) hb).trans d01
      clear d00 d01
      have htl := stops_le hltb
      have hpl := pairsOf_len (bs.take k)
      have HPL : Hid ((pairsOf (bs.take k)).length + bs[k].stops.length ≤ 100000) := Lib.hid (by have := HL2.out; omega)
      have htl2 : bs[k].stops.length ≤ 100000 := by have := HL2.out; omega
      have HPSU := Lib.hid (pairsOf_succ hltb)
      clear htl hpl
      obtain ⟨t, ht⟩ : ∃ t, bs[k] = t := ⟨_, rfl⟩
      rw [ht] at d0 d1 hst htl2 HPL HPSU
      obtain ⟨PK, hPK⟩ : ∃ PK, pairsOf (bs.take k) = PK := ⟨_, rfl⟩
      rw [hPK] at HPL HPSU hS
      have hS2 := hS.alloc #[.int .i64 t.sat, .slice a1 t.stops.length c] 46
      have HST := Lib.hid hst
      have HS2 := Lib.hid hS2
      rw [hBA]
      clear ht hst hS hS2 hBA hPK
      go_upto_region 9 with fail
      obtain ⟨tb, htb⟩ : ∃ tb, tb = wr.heap.size := ⟨_, rfl⟩
      generalize (wr.alloc (.cells #[.int .i64 t.sat, .slice a1 t.stops.length c] 46)) = w2 at *
      rw [← htb] at HS2 ⊢
      obtain ⟨tv, htv⟩ : ∃ tv : Array Value, tv = #[.int .i64 t.sat, .slice a1 t.stops.length c] := ⟨_, rfl⟩
      rw [← htv] at HS2
      have HTV := Lib.hid htv
      clear htb htv d0 d1 hb
      have yq : w2.cell? ⟨tb, 1, none⟩ = some (.slice a1 t.stops.length c) := HS2.out.cell 0 rfl 1 (by rw [HTV.out]; rfl)
      go_upto_region 10 with fail
      clear yq
      go_loopw [43] (fun i wi => ∃ j : Nat, j ≤ t.stops.length ∧ i = .int .i64 j ∧ SL w7 w7.heap.size [.blk tb tv 46, .blk ob (iarr (loadsP ns x.custs (PK ++ pairsB t j)) ns) 2] wi) (fun i _ => t.stops.length - (intOf i).toNat)
      case atStart => exact ⟨0, by omega, rfl, by simpa [pairsB] using HS2.out⟩
      case round =>
        clear HS2
        obtain ⟨j, hj, rfl, hS⟩ := hrel
        by_cases hltj : j < t.stops.length
        · obtain ⟨b2, o2, ha, hb2, e00⟩ := ints_at HST.out hltj
          have e0 := (hS.below.cell (p := ⟨b2, o2 + j, none⟩) hb2).trans e00
          clear e00
          have HPB : Hid (loadsP ns x.custs (PK ++ pairsB t (j + 1)) = loadStep ns x.custs (loadsP ns x.custs (PK ++ pairsB t j)) (t.sat, t.stops[j])) := Lib.hid (by rw [pairsB_succ hltj, ← List.append_assoc, loadsP_snoc])
          have HFB : Hid (∀ s, 0 ≤ loadsP ns x.custs (PK ++ pairsB t j) s ∧ loadsP ns x.custs (PK ++ pairsB t j) s ≤ 2000000) := Lib.hid (fun s => by
            have h1 := loadsP_bound (ns := ns) HCL.out (PK ++ pairsB t j) s
            have h2 : (PK ++ pairsB t j).length ≤ 100000 := by
              have := HPL.out
              rw [List.length_append]
              have : (pairsB t j).length ≤ t.stops.length := by unfold pairsB; rw [List.length_map, List.length_take]; omega
              omega
            omega)
          obtain ⟨s1, hs⟩ : ∃ s, t.stops[j] = s := ⟨_, rfl⟩
          rw [hs] at e0 HPB
          obtain ⟨F, hF⟩ : ∃ F, loadsP ns x.custs (PK ++ pairsB t j) = F := ⟨_, rfl⟩
          rw [hF] at HPB HFB hS
          have y6 : wr.cell? ⟨ib, 6, none⟩ = some (.slice p.CA x.custs.length p.cc) := HCI.out wr hS.below 6 _ rfl
          have yt : wr.cell? ⟨tb, 0, none⟩ = some (.int .i64 t.sat) := hS.cell 0 rfl 0 (by rw [HTV.out]; rfl)
          obtain ⟨st, hst2⟩ : ∃ st, t.sat = st := ⟨_, rfl⟩
          have HST2 := Lib.hid hst2
          rw [hst2] at yt HPB
          have HS := Lib.hid hS
          rw [ha]
          clear hs hF hS ha hst2
          by_cases z1 : st < 0
          · have HV : Hid (loadStep ns x.custs F (st, s1) = F) := Lib.hid (loadStep_no (.inl (.inl z1)))
            have z1' : decide (0 ≤ st) = false := decide_eq_false (by omega)
            clear z1
            go_wp2_with fail
            go_roundw
            case rel => exact ⟨j + 1, by omega, by go_num, by rw [HPB.out, HV.out]; exact HS.out⟩
            case measure => simp [intOf]; omega
          · have z1b : 0 ≤ st := by omega
            by_cases z2 : (ns : Int) ≤ st
            · have HV : Hid (loadStep ns x.custs F (st, s1) = F) := Lib.hid (loadStep_no (.inl (.inr z2)))
              have z2' : decide (st < (ns : Int)) = false := decide_eq_false (by omega)
              clear z1 z2
              go_wp2_with fail
              go_roundw
              case rel => exact ⟨j + 1, by omega, by go_num, by rw [HPB.out, HV.out]; exact HS.out⟩
              case measure => simp [intOf]; omega
            · have z2b : st < (ns : Int) := by omega
              by_cases z3 : s1 < 0
              · have HV : Hid (loadStep ns x.custs F (st, s1) = F) := Lib.hid (loadStep_no (.inr (.inl z3)))
                have z3' : decide (0 ≤ s1) = false := decide_eq_false (by omega)
                clear z1 z2 z3
                go_wp2_with fail
                go_roundw
                case rel => exact ⟨j + 1, by omega, by go_num, by rw [HPB.out, HV.out]; exact HS.out⟩
                case measure => simp [intOf]; omega
              · have z3b : 0 ≤ s1 := by omega
                by_cases z4 : (x.custs.length : Int) ≤ s1
                · have HV : Hid (loadStep ns x.custs F (st, s1) = F) := Lib.hid (loadStep_no (.inr (.inr z4)))
                  have z4' : decide (s1 < (x.custs.length : Int)) = false := decide_eq_false (by omega)
                  clear z1 z2 z3 z4
                  go_wp2_with fail
                  go_roundw
                  case rel => exact ⟨j + 1, by omega, by go_num, by rw [HPB.out, HV.out]; exact HS.out⟩
                  case measure => simp [intOf]; omega
                · obtain ⟨cq, rfl⟩ : ∃ q : Nat, s1 = q := ⟨s1.toNat, by omega⟩
                  obtain ⟨sq, rfl⟩ : ∃ q : Nat, st = q := ⟨st.toNat, by omega⟩
                  have hq : cq < x.custs.length := by omega
                  have hsq : sq < ns := by omega
                  obtain ⟨b3, o3, hCA, hb3, f00, zz1, zz2, zz3⟩ := custs_at HI7.out.custs hq
                  clear zz1 zz2 zz3
                  have hld := HCL.out _ (List.getElem_mem hq)
                  have HV := Lib.hid (loadStep_yes (ns := ns) (f := F) hsq hq)
                  obtain ⟨ld, hld2⟩ : ∃ ld, x.custs[cq].load = ld := ⟨_, rfl⟩
                  rw [hld2] at f00 HV hld
                  obtain ⟨ld0, ld1⟩ := hld
                  have hfb := HFB.out sq
                  obtain ⟨Fs, hFs⟩ : ∃ Fs, F sq = Fs := ⟨_, rfl⟩
                  rw [hFs] at hfb
                  obtain ⟨fb0, fb1⟩ := hfb
                  have HFS := Lib.hid hFs
                  have HF0 := Lib.hid (And.intro hb3 f00)
                  rw [hCA] at y6
                  have HCA := Lib.hid hCA
                  have hq1 : (cq : Int) < (x.custs.length : Int) := by omega
                  have hq2 : (0 : Int) ≤ (cq : Int) := by omega
                  have hs1 : (sq : Int) < (ns : Int) := by omega
                  have hs2 : (0 : Int) ≤ (sq : Int) := by omega
                  clear z1 z2 z3 z4 f00 hld2 hFs hCA hb3
                  go_upto_region 13 with fail
                  refine wp_region_sl [0,1,2,3,4,5,6,7,8,9,10,11] [] [12,13] _ HS.out (List.Sublist.refl _) (by kernel_rfl) (by kernel_rfl) (.cons rfl (.cons rfl .nil)) (fun C cw _ hC => ?_)
                  have q0 : ∀ c, (cw c).cell? ⟨tb, 0, none⟩ = some (.int .i64 sq) := fun c => (hC c).cell 0 rfl 0 (by rw [HTV.out, HST2.out]; rfl)
                  have q1 : ∀ c, (cw c).cell? ⟨ob, sq, none⟩ = some (.int .i64 Fs) := fun c => (hC c).cell 1 rfl sq (by rw [iarr_get _ _ _ hsq, HFS.out])
                  have q2 : ∀ c, (cw c).cell? ⟨ib, 6, none⟩ = some (.slice (some ⟨b3, o3, none⟩) x.custs.length p.cc) := fun c => HCI.out _ (hC c).below 6 _ (by unfold InstV.cells; rw [← HCA.out]; rfl)
                  have q3 : ∀ c, (cw c).cell? ⟨b3, o3 + cq * 4, none⟩ = some (.int .i64 ld) := fun c => ((hC c).below.cell (p := ⟨b3, o3 + cq * 4, none⟩) HF0.out.1).trans HF0.out.2
                  repeat (refine pl_look rfl rfl rfl (fun Kv hK => ?_); go_big_quiet_op; refine hK _ ?_; clear hK Kv)
                  clear q0 q1 q2 q3 hC HS
                  refine pl_end ?_
                  intro w5 hS5
                  refine pm_end ?_
                  have y1 : w5.cell? ⟨ob, sq, none⟩ = some (.int .i64 Fs) := hS5.cell 1 rfl sq (by rw [iarr_get _ _ _ hsq, HFS.out])
                  have y2 := hS5.free 1 rfl sq
                  have HS6 := Lib.hid (hS5.setInt 1 rfl sq (Fs + ld))
                  clear hS5
                  go_wp2_with fail
                  go_roundw
                  case rel =>
                    refine ⟨j + 1, by omega, by go_num, ?_⟩
                    rw [HPB.out, HV.out]
                    unfold addAt
                    rw [HFS.out]
                    exact HS6.out
                  case measure => simp [intOf]; omega
        · obtain rfl : j = t.stops.length := by omega
          rw [← HPSU.out] at hS
          have HS := Lib.hid hS
          clear hS hltj
          go_wp2_with fail
          go_roundw
          case rel => exact ⟨k + 1, by omega, by go_num, HS.out.tail⟩
          case measure => simp [intOf]; omega
    · obtain rfl : k = nb := by omega
      rw [List.take_of_length_le (by rw [HNB.out.1]; exact Nat.le_refl _)] at hS
      have HS := Lib.hid hS
      have HLO : Hid (Calls Try.prog 40 #[.agg XC, .slice BA k bc] wr (RowPost wr ns (loadsP ns x.custs (pairsOf bs)))) := Lib.hid (by
        have h := loads_any x p BA bc bs wr (bikes_more (HT.out.below hS.below) hS.below.size) ((HI7.out.below hS.below).more hS.below.size) HX.out (by rw [HNB.out.1]; exact HNB.out.2) HL2.out
        rw [HNB.out.1, HXC.out] at h
        unfold loadsOf at h
        rw [HNS.out] at h
        exact h)
      have y9 : wr.cell? ⟨pb, 1, none⟩ = some (.slice BA k bc) := HCP.out wr hS.below
      clear hS hlt
      go_wp2_with first
        | (refine wpList_load_row rfl 39 _ rfl ib rfl _ XC _ _ (HIBX.out wr HS.out.below) Try.underlying39 rfl HXI.out ?_)
        | (go_at_call 40; (with_reducible refine HLO.out.mono ?_); rintro e w9 ⟨g9, rfl, hS9⟩
           have HJ := Lib.hid (HS.out.join hS9)
           have HEQ := Lib.hid (equal_rows_same (loadsP ns x.custs (pairsOf bs)) ns g9 ob _ w9 (HJ.out.blk 0 rfl) (HJ.out.blk 1 rfl) (by omega))
           clear hS9 HLO y9)
        | (go_at_call 27; (with_reducible refine HEQ.out.mono ?_); rintro e w10 ⟨rfl, hb10⟩
           have HBF := Lib.hid (HB0.out.trans ((HJ.out.call hb10).below.mono HB0.out.size))
           clear hb10 HEQ)
      go_ret
      exact ⟨rfl, HBF.out⟩
theorem u8_wf5 {n : Int} (h : (Lit.int .u8 n).wf = true) : 0 ≤ n ∧ n ≤ 255 := by
  simp [Lit.wf, IntKind.min, IntKind.max, IntKind.signed, IntKind.bits] at h; omega
theorem i8_wf5 {n : Int} (h : (Lit.int .i8 n).wf = true) : -128 ≤ n ∧ n ≤ 127 := by
  simp [Lit.wf, IntKind.min, IntKind.max, IntKind.signed, IntKind.bits] at h; omega
set_option maxRecDepth 100000 in
theorem planLoads_walk {H : Type} {enc : TypeId × Value → H} {base : Nat} (W : World) (v0 : Value) (d0 : DataW H) (p0 : List MemPlace) (o0 : Value.okWide Try.prog W .any base 26 v0) (k0 : DataW.Trod enc Try.prog W 0 (fun _ => true) true 26 v0 d0 p0)
    (v1 : Value) (d1 : DataW H) (p1 : List MemPlace) (o1 : Value.okWide Try.prog W .any base 83 v1) (k1 : DataW.Trod enc Try.prog W 0 (fun _ => true) true 83 v1 d1 p1) (what : Int) (hw : (Lit.int .u8 what).wf = true) (at_ : Int) (ha : (Lit.int .u8 at_).wf = true) (by_ : Int) (hb : (Lit.int .i8 by_).wf = true) :
    Calls Try.prog 12 #[v0, v1, .int .u8 what, .int .u8 at_, .int .i8 by_] W fun e w' => e = .returned (.bool true) ∧ Below W.heap.size W w' := by
  obtain ⟨sp, s, rfl, hI, hl, hok⟩ := small_open o0 k0
  obtain ⟨a, u, rfl, hW, hu, hul⟩ := wish_open o1 k1
  exact planLoads_any sp s a u what at_ by_ W hI hl hok hW hu hul (u8_wf5 hw) (u8_wf5 ha) (i8_wf5 hb)
end Go.Proofs.Ytjpejclfppbboaa
