/- The walk of law PlanWays. (printed by gen/planways.py) -/
import Derived.Test.YtjpejclfppbboaaAwake17
import Derived.Test.YtjpejclfppbboaaNodes17
import Derived.Test.YtjpejclfppbboaaWay17
import Derived.Test.YtjpejclfppbboaaEqualAny
import Derived.Test.YtjpejclfppbboaaAppendAny
import Derived.Test.YtjpejclfppbboaaSmallOpen
import Derived.Test.YtjpejclfppbboaaOpenD17
import Derived.Deep.CutBlock
import Derived.Deep.CutRange
import Derived.Deep.DeepCutAuto
namespace Go.Proofs.Ytjpejclfppbboaa
open Go.ChangeShapes Go.WideShapes Go.ChangeAt Go.RowKit
set_option linter.unusedVariables false
def nodesL (N : Nat) (l : List Int) (k : Nat) : List Int := (l.take k).map fun n => n % (N : Int)
theorem nodesL_succ {N : Nat} {l : List Int} {k : Nat} (h : k < l.length) : nodesL N l (k + 1) = nodesL N l k ++ [l[k] % (N : Int)] := by
  unfold nodesL
  rw [List.take_succ_eq_append_getElem h, List.map_append]; rfl
theorem nodesL_len {N : Nat} {l : List Int} {k : Nat} (h : k ≤ l.length) : (nodesL N l k).length = k := by unfold nodesL; simp; omega
theorem beq_self_list (l : List Int) : decide (l = l) = true := by simp
set_option maxRecDepth 100000 in
set_option maxHeartbeats 4000000 in
theorem planWays0 (s : SmallV) (sp : IAt) (LA RA BA TA : Option Addr) (lc rc bc tc : Nat) (l raw : List Int) (b : BikeV) (t : List StopV) (w : World) (hI : SmallIn w w.heap.size sp s) (hl : SmallL s) (hok : s.ok)
    (hr8 : Reads w w.heap.size 1 LA l.length (l.map (.int .u8))) (hu8 : ∀ n ∈ l, isU8 n) (hll : l.length ≤ maxLen) (hrr : IntsAt w w.heap.size RA raw) (hrl : raw.length ≤ maxLen)
    (hbs : IntsAt w w.heap.size BA b.stops) (hbl : b.stops.length ≤ maxLen) (hts : Stops w w.heap.size TA t) (htl : t.length ≤ maxLen) :
    Calls Try.prog 4 #[.agg (s.vals sp), .slice LA l.length lc, .slice RA raw.length rc, .agg #[.int .i64 b.sat, .slice BA b.stops.length bc], .agg #[.slice TA t.length tc]] w fun e w' => e = .returned (.bool true) ∧ Below w.heap.size w w' := by
  have HX := Lib.hid (SmallV.small hok)
  have HMK : Hid (∀ wx, Below w.heap.size w wx → Calls Try.prog 16 #[.agg #[.int .u8 s.fin, .int .u8 s.trucks, .int .u8 s.troom, .int .u8 s.bikes, .int .u8 s.broom, .slice sp.SA s.sats.length sp.sc, .slice sp.CA s.custs.length sp.cc, .slice sp.KA s.cost.length sp.kc, .slice sp.TA s.time.length sp.tc, .bool s.tight, .bool s.loose]] wx (MakePost wx s.mk_)) := Lib.hid (fun wx hb => make_any s sp wx ((hI.below hb).more hb.size) hl hok)
  have HS0 := Lib.hid ((((SL.start (Nat.le_refl w.heap.size)).alloc (s.vals sp) 26).alloc #[.int .i64 b.sat, .slice BA b.stops.length bc] 46).alloc #[.slice TA t.length tc] 49)
  have HR8 := Lib.hid hr8
  have HU8 := Lib.hid hu8
  have HRR := Lib.hid hrr
  have HBS := Lib.hid hbs
  have HTS := Lib.hid hts
  obtain ⟨i0, hi0, hz0, hz1, hz2⟩ := info_parts info_int
  have HII := Lib.hid (And.intro hi0 (And.intro hz0 (And.intro hz1 hz2)))
  unfold maxLen at hll hrl hbl htl
  clear hI hl hok hr8 hu8 hrr hbs hts hi0 hz0 hz1 hz2
  unfold SmallV.vals
  obtain ⟨x, hxs⟩ : ∃ x, s.mk_ = x := ⟨_, rfl⟩
  rw [hxs] at HX HMK
  clear hxs
  go_enter Try.func4, Try.ntmps4
  go_upto_region 1 with fail
  obtain ⟨sb, hsb⟩ : ∃ sb, sb = w.heap.size := ⟨_, rfl⟩
  obtain ⟨bb, hbb⟩ : ∃ bb, bb = w.heap.size + 1 := ⟨_, rfl⟩
  obtain ⟨tb, htb⟩ : ∃ tb, tb = w.heap.size + 1 + 1 := ⟨_, rfl⟩
  obtain ⟨sc, hsc⟩ : ∃ sc : Array Value, sc = #[.int .u8 s.fin, .int .u8 s.trucks, .int .u8 s.troom, .int .u8 s.bikes, .int .u8 s.broom, .slice sp.SA s.sats.length sp.sc, .slice sp.CA s.custs.length sp.cc, .slice sp.KA s.cost.length sp.kc, .slice sp.TA s.time.length sp.tc, .bool s.tight, .bool s.loose] := ⟨_, rfl⟩
  obtain ⟨bv, hbv⟩ : ∃ bv : Array Value, bv = #[.int .i64 b.sat, .slice BA b.stops.length bc] := ⟨_, rfl⟩
  obtain ⟨tv, htv⟩ : ∃ tv : Array Value, tv = #[.slice TA t.length tc] := ⟨_, rfl⟩
  have HSC := Lib.hid hsc
  have HBV := Lib.hid hbv
  have HTV := Lib.hid htv
  have HS1 : Hid (SL w w.heap.size [.blk tb tv 49, .blk bb bv 46, .blk sb sc 26] (((w.alloc (.cells #[.int .u8 s.fin, .int .u8 s.trucks, .int .u8 s.troom, .int .u8 s.bikes, .int .u8 s.broom, .slice sp.SA s.sats.length sp.sc, .slice sp.CA s.custs.length sp.cc, .slice sp.KA s.cost.length sp.kc, .slice sp.TA s.time.length sp.tc, .bool s.tight, .bool s.loose] 26)).alloc (.cells #[.int .i64 b.sat, .slice BA b.stops.length bc] 46)).alloc (.cells #[.slice TA t.length tc] 49))) := Lib.hid (by
    have h := HS0.out
    unfold SmallV.vals at h
    rw [hsb, hbb, htb, hsc, hbv, htv]
    simpa using h)
  rw [← htb, ← hbb, ← hsb]
  clear hsb hbb htb HS0 hsc hbv htv
  generalize (((w.alloc (.cells #[.int .u8 s.fin, .int .u8 s.trucks, .int .u8 s.troom, .int .u8 s.bikes, .int .u8 s.broom, .slice sp.SA s.sats.length sp.sc, .slice sp.CA s.custs.length sp.cc, .slice sp.KA s.cost.length sp.kc, .slice sp.TA s.time.length sp.tc, .bool s.tight, .bool s.loose] 26)).alloc (.cells #[.int .i64 b.sat, .slice BA b.stops.length bc] 46)).alloc (.cells #[.slice TA t.length tc] 49)) = w1 at *
  go_upto_region 3 with (go_at_call 14; (with_reducible refine (awake17 _).mono ?_); rintro e w2 ⟨rfl, hb⟩
                         have HS2 := Lib.hid (HS1.out.call hb)
                         clear hb)
  have y1 : w2.cell? ⟨bb, 1, none⟩ = some (.slice BA b.stops.length bc) := HS2.out.cell 1 rfl 1 (by rw [HBV.out]; rfl)
  have y2 : w2.cell? ⟨tb, 0, none⟩ = some (.slice TA t.length tc) := HS2.out.cell 0 rfl 0 (by rw [HTV.out]; rfl)
  clear HS1
  by_cases g0 : 30 < l.length
  case pos =>
    have g0b : (30 : Int) < (l.length : Int) := by omega
    clear g0
    go_wp2_with fail
    go_ret
    exact ⟨rfl, HS2.out.below⟩
  case neg =>
  have g0b : ¬ (30 : Int) < (l.length : Int) := by omega
  by_cases g1 : 30 < raw.length
  case pos =>
    have g1b : (30 : Int) < (raw.length : Int) := by omega
    clear g1
    go_wp2_with fail
    go_ret
    exact ⟨rfl, HS2.out.below⟩
  case neg =>
  have g1b : ¬ (30 : Int) < (raw.length : Int) := by omega
  by_cases g2 : 60 < b.stops.length
  case pos =>
    have g2b : (60 : Int) < (b.stops.length : Int) := by omega
    clear g2
    go_wp2_with fail
    go_ret
    exact ⟨rfl, HS2.out.below⟩
  case neg =>
  have g2b : ¬ (60 : Int) < (b.stops.length : Int) := by omega
  by_cases g3 : 60 < t.length
  case pos =>
    have g3b : (60 : Int) < (t.length : Int) := by omega
    clear g3
    go_wp2_with fail
    go_ret
    exact ⟨rfl, HS2.out.below⟩
  case neg =>
  have g3b : ¬ (60 : Int) < (t.length : Int) := by omega
  have hS2 := HS2.out
  have b0 : w2.cell? ⟨sb, 0, none⟩ = some (.int .u8 s.fin) := hS2.cell 2 rfl 0 (by rw [HSC.out]; rfl)
  have b1 : w2.cell? ⟨sb, 1, none⟩ = some (.int .u8 s.trucks) := hS2.cell 2 rfl 1 (by rw [HSC.out]; rfl)
  have b2 : w2.cell? ⟨sb, 2, none⟩ = some (.int .u8 s.troom) := hS2.cell 2 rfl 2 (by rw [HSC.out]; rfl)
  have b3 : w2.cell? ⟨sb, 3, none⟩ = some (.int .u8 s.bikes) := hS2.cell 2 rfl 3 (by rw [HSC.out]; rfl)
  have b4 : w2.cell? ⟨sb, 4, none⟩ = some (.int .u8 s.broom) := hS2.cell 2 rfl 4 (by rw [HSC.out]; rfl)
  have b5 : w2.cell? ⟨sb, 5, none⟩ = some (.slice sp.SA s.sats.length sp.sc) := hS2.cell 2 rfl 5 (by rw [HSC.out]; rfl)
  have b6 : w2.cell? ⟨sb, 6, none⟩ = some (.slice sp.CA s.custs.length sp.cc) := hS2.cell 2 rfl 6 (by rw [HSC.out]; rfl)
  have b7 : w2.cell? ⟨sb, 7, none⟩ = some (.slice sp.KA s.cost.length sp.kc) := hS2.cell 2 rfl 7 (by rw [HSC.out]; rfl)
  have b8 : w2.cell? ⟨sb, 8, none⟩ = some (.slice sp.TA s.time.length sp.tc) := hS2.cell 2 rfl 8 (by rw [HSC.out]; rfl)
  have b9 : w2.cell? ⟨sb, 9, none⟩ = some (.bool s.tight) := hS2.cell 2 rfl 9 (by rw [HSC.out]; rfl)
  have b10 : w2.cell? ⟨sb, 10, none⟩ = some (.bool s.loose) := hS2.cell 2 rfl 10 (by rw [HSC.out]; rfl)
  clear hS2
  go_upto_region 6 with (go_at_call 16; (with_reducible refine (HMK.out _ HS2.out.below).mono ?_); rintro e w4 ⟨p, hk, ht, rfl, hl1, hl2, hq⟩
                         have HS4 := Lib.hid ((HS2.out.call hq.below).alloc (x.cells p) 39)
                         have HI4 := Lib.hid (made_in hl1 hl2 hq).1
                         clear hq hl1 hl2 b0 b1 b2 b3 b4 b5 b6 b7 b8 b9 b10 y1 y2
                         unfold InstV.cells)
  obtain ⟨ib, hib⟩ : ∃ ib, ib = w4.heap.size := ⟨_, rfl⟩
  obtain ⟨ic, hic⟩ : ∃ ic : Array Value, ic = #[.int .i64 x.fin, .int .i64 x.tm, .int .i64 x.tr, .int .i64 x.bm, .int .i64 x.br, .slice p.SA x.sats.length p.sc, .slice p.CA x.custs.length p.cc, .slice p.KA x.cost.length p.kc, .slice p.TA x.time.length p.tc] := ⟨_, rfl⟩
  have HIC := Lib.hid hic
  have HI5 : Hid (InstIn (w4.alloc (.cells #[.int .i64 x.fin, .int .i64 x.tm, .int .i64 x.tr, .int .i64 x.bm, .int .i64 x.br, .slice p.SA x.sats.length p.sc, .slice p.CA x.custs.length p.cc, .slice p.KA x.cost.length p.kc, .slice p.TA x.time.length p.tc] 39)) (w4.alloc (.cells #[.int .i64 x.fin, .int .i64 x.tm, .int .i64 x.tr, .int .i64 x.bm, .int .i64 x.br, .slice p.SA x.sats.length p.sc, .slice p.CA x.custs.length p.cc, .slice p.KA x.cost.length p.kc, .slice p.TA x.time.length p.tc] 39)).heap.size p x) := Lib.hid (HI4.out.at_ ((Below.refl _ _).alloc (Nat.le_refl _) _))
  have HS5 : Hid (SL w w.heap.size [.blk ib ic 39, .blk tb tv 49, .blk bb bv 46, .blk sb sc 26] (w4.alloc (.cells #[.int .i64 x.fin, .int .i64 x.tm, .int .i64 x.tr, .int .i64 x.bm, .int .i64 x.br, .slice p.SA x.sats.length p.sc, .slice p.CA x.custs.length p.cc, .slice p.KA x.cost.length p.kc, .slice p.TA x.time.length p.tc] 39))) := Lib.hid (by
    have h := HS4.out
    unfold InstV.cells at h
    rw [hib, hic]
    exact h)
  rw [← hib]
  generalize (w4.alloc (.cells #[.int .i64 x.fin, .int .i64 x.tm, .int .i64 x.tr, .int .i64 x.bm, .int .i64 x.br, .slice p.SA x.sats.length p.sc, .slice p.CA x.custs.length p.cc, .slice p.KA x.cost.length p.kc, .slice p.TA x.time.length p.tc] 39)) = w5 at *
  clear hib HS4 HI4 HS2 HMK
  have HIB : Hid (∀ wx, Below w5.heap.size w5 wx → wx.heap[ib]? = some (.cells ic 39 (0, 0))) := Lib.hid (fun wx hb => (hb.block ib (HS5.out.lt 0 rfl).2).trans (HS5.out.blk 0 rfl))
  have HBB : Hid (∀ wx, Below w5.heap.size w5 wx → wx.heap[bb]? = some (.cells bv 46 (0, 0))) := Lib.hid (fun wx hb => (hb.block bb (HS5.out.lt 2 rfl).2).trans (HS5.out.blk 2 rfl))
  have HTB : Hid (∀ wx, Below w5.heap.size w5 wx → wx.heap[tb]? = some (.cells tv 49 (0, 0))) := Lib.hid (fun wx hb => (hb.block tb (HS5.out.lt 1 rfl).2).trans (HS5.out.blk 1 rfl))
  have HIX : Hid (∀ wx, Below w5.heap.size w5 wx → InstIn wx wx.heap.size p x) := Lib.hid (fun wx hb => HI5.out.at_ hb)
  have HB5 := Lib.hid HS5.out.below
  have HW5 : Hid (∀ wx, Below w5.heap.size w5 wx → Below w.heap.size w wx) := Lib.hid (fun wx hb => HB5.out.trans (hb.mono HB5.out.size))
  have HSZ : Hid ((Try.prog.info? 39).map (·.size) = some ic.size) := Lib.hid (by rw [hic]; kernel_rfl)
  have HND : Hid (∀ wx, Calls Try.prog 19 #[.agg ic] wx fun e w' => e = .returned (.int .i64 (x.n : Nat)) ∧ Below wx.heap.size wx w') := Lib.hid (fun wx => by
    have h := nodes11_any x p wx (by have := HX.out.sats; omega) (by have := HX.out.custs; omega)
    unfold InstV.cells at h
    rw [hic]; exact h)
  have HWY : Hid (∀ (wx : World) (A : Option Addr) (c : Nat) (nl : List Int), Below w5.heap.size w5 wx → IntsAt wx wx.heap.size A nl → nl.length ≤ 100 → Calls Try.prog 20 #[.agg ic, .slice A nl.length c] wx fun e w' => e = .returned (.int .i64 (wayOf x nl)) ∧ Below wx.heap.size wx w') := Lib.hid (fun wx A c nl hb hr hn => by
    have h := way_any x p A c nl wx (HIX.out wx hb) HX.out hr (by omega)
    unfold InstV.cells at h
    rw [hic]; exact h)
  have HBN : Hid (∀ wx, Below w5.heap.size w5 wx → Calls Try.prog 22 #[.agg bv, .agg ic] wx (ListPost wx (bikeNodes x.sats.length b b.stops.length))) := Lib.hid (fun wx hb => by
    have h := bikeNodes_any x p BA bc b wx HX.out (reads_more (Reads.below HBS.out (HW5.out wx hb)) (HW5.out wx hb).size) (by omega)
    unfold InstV.cells at h
    rw [hic, HBV.out]; exact h)
  have HTN : Hid (∀ wx, Below w5.heap.size w5 wx → Calls Try.prog 23 #[.agg tv, .agg ic] wx (ListPost wx (truckNodes t t.length))) := Lib.hid (fun wx hb => by
    have h := truckNodes_any x p TA tc t wx HX.out (reads_more (Reads.below HTS.out (HW5.out wx hb)) (HW5.out wx hb).size) (by omega)
    unfold InstV.cells at h
    rw [hic, HTV.out]; exact h)
  have hsn := HX.out.sats
  have hcn := HX.out.custs
  have hN : 3 ≤ x.n ∧ x.n ≤ 10 := by unfold InstV.n; omega
  obtain ⟨N, hNN⟩ : ∃ N, x.n = N := ⟨_, rfl⟩
  have HN := Lib.hid hNN
  rw [hNN] at HND hN
  obtain ⟨hN0, hN1⟩ := hN
  clear hic HS5 HI5 hsn hcn hNN g0 g1 g2 g3
  go_upto_region 8 with fail
  go_loopw [51, 12] (fun i v12 wr => ∃ (k : Nat) (v : Value), k ≤ l.length ∧ i = .int .i64 k ∧ v12 = v ∧ SL w5 w5.heap.size [.row 3 1 v k ((nodesL N l k).map (.int .i64))] wr) (fun i _ _ => l.length - (intOf i).toNat)
  case atStart => exact ⟨0, _, by omega, rfl, rfl, by simpa [nodesL] using (SL.start (Nat.le_refl w5.heap.size)).nil 3 1⟩
  case round =>
    obtain ⟨k, v, hk, rfl, rfl, hS⟩ := hrel
    by_cases hlt : k < l.length
    · as_aux_lemma =>
      obtain ⟨g1, o1, hA, hg1, e00⟩ := bytes_at HR8.out hlt
      have e0 := ((HW5.out wr hS.below).cell (p := ⟨g1, o1 + k, none⟩) hg1).trans e00
      have HNS := Lib.hid (nodesL_succ (N := N) hlt)
      have hu := HU8.out _ (List.getElem_mem hlt)
      obtain ⟨v0, hv0⟩ : ∃ v0, l[k] = v0 := ⟨_, rfl⟩
      rw [hv0] at e0 HNS hu
      obtain ⟨u0, u1⟩ := hu
      have HS := Lib.hid hS
      rw [hA]
      clear hA hS e00 hv0
      have hn1 : (0 : Int) < (N : Int) := by omega
      have hn2 : ¬ (N : Int) = 0 := by omega
      have hm : v0.tmod (N : Int) = v0 % (N : Int) := Int.tmod_eq_emod_of_nonneg u0
      have hm2 : 0 ≤ v0 % (N : Int) := Int.emod_nonneg _ hn2
      have hm3 : v0 % (N : Int) < (N : Int) := Int.emod_lt_of_pos _ hn1
      go_wp2_with (first
        | (refine wpList_load_row rfl 39 _ rfl ib rfl _ ic _ _ (HIB.out _ HS.out.below) Try.underlying39 rfl HSZ.out ?_)
        | (go_at_call 19; (with_reducible refine (HND.out _).mono ?_); rintro e w6 ⟨rfl, hb⟩
           have HS6 := Lib.hid (HS.out.call hb)
           clear hb)
        | (at_builtin; refine stopHere ?_))
      show wpList _ _ _ _ _ _
      refine wpList_append_sl rfl _ _ 44 rfl HS6.out 0 i0 (.int .i64 0) 1 8 Try.underlying44 HII.out.1 HII.out.2.1 HII.out.2.2.1 HII.out.2.2.2 rfl (by decide) _ _ 1 _ rfl rfl _ rfl rfl (by decide) rfl (by simp [Value.oneCell']) (by omega) (by decide) ?_
      intro v' w7 hS7 hz7
      have HS7 := Lib.hid hS7
      clear HS6 hS7 hz7
      go_wp2_with fail
      go_roundw
      case rel =>
        refine ⟨k + 1, _, by omega, by go_num, rfl, ?_⟩
        rw [HNS.out, List.map_append]
        exact HS7.out
      case measure => simp [intOf]; omega
    · obtain rfl : k = l.length := by omega
      obtain ⟨v', w6, hr6, hS6⟩ := run_append_reads (P := Try.prog) 44 44 hS 0 i0 (.int .i64 0) 1 8 Try.underlying44 HII.out.1 HII.out.2.1 HII.out.2.2.1 HII.out.2.2.2 rfl (by decide) _ l.length raw.length rc _ (raw.map (.int .i64)) rfl RA (Reads.below HRR.out (HW5.out wr hS.below)) (ints_one raw .i64) (by omega) (by decide)
      obtain ⟨nl, hnl⟩ : ∃ nl, nl = nodesL N l l.length ++ raw := ⟨_, rfl⟩
      have hnll : nl.length = l.length + raw.length := by rw [hnl, List.length_append, nodesL_len (Nat.le_refl _)]
      have HS6 : Hid (SL w5 w5.heap.size [.row 3 1 v' nl.length (nl.map (.int .i64))] w6) := Lib.hid (by
        rw [hnll, hnl, List.map_append]
        exact hS6)
      obtain ⟨A0, c0, rfl, _, _⟩ := (hS.row 0 rfl).slice_
      have HR6 := Lib.hid hr6
      have hnl1 : nl.length ≤ 60 := by omega
      clear hS hS6 hr6 hnl hnll hlt
      go_wp2_with (at_builtin; refine stopHere ?_)
      show wpList _ _ _ _ _ _
      refine wpList_append_run rfl _ _ 44 rfl _ _ rfl rfl HR6.out ?_
      clear HR6
      obtain ⟨NA, nc, rfl, _, _⟩ := (HS6.out.row 0 rfl).slice_
      go_upto_block 2 with fail
      go_cut [15] (fun v wx => v = .int .i64 (wayOf x nl) ∧ SL w5 w5.heap.size [.row 3 1 (.slice NA nl.length nc) nl.length (nl.map (.int .i64))] wx)
      case first =>
        as_aux_lemma =>
        go_wp2_with fail
        go_loopw [69, 15] (fun i v15 wr => ∃ k : Nat, k ≤ nl.length ∧ i = .int .i64 k ∧ v15 = .int .i64 (stepsK x.cost nl k) ∧ Hid (∀ j (h : j < nl.length), j < k → 0 ≤ nl[j] ∧ nl[j] < (x.n : Int)) ∧ SL w5 w5.heap.size [.row 3 1 (.slice NA nl.length nc) nl.length (nl.map (.int .i64))] wr) (fun i _ _ => nl.length - (intOf i).toNat)
        case atStart => exact ⟨0, by omega, rfl, rfl, Lib.hid (fun j _ h => absurd h (by omega)), HS6.out⟩
        case round =>
          clear HS6
          obtain ⟨k, hk, rfl, rfl, HOK, hS⟩ := hrel
          by_cases hlt : k < nl.length
          · have hrd : IntsAt wr wr.heap.size NA nl := (hS.row 0 rfl).reads
            obtain ⟨g1, o1, hA, hg1, e0⟩ := ints_at hrd hlt
            obtain ⟨q, hqq⟩ : ∃ q, q = (k + 1) % nl.length := ⟨_, rfl⟩
            have hq : q < nl.length := by rw [hqq]; exact Nat.mod_lt _ (by omega)
            obtain ⟨b', o', hA', hb', e1⟩ := ints_at hrd hq
            subst hA
            obtain ⟨rfl, rfl⟩ : g1 = b' ∧ o1 = o' := by simpa using hA'
            have hm2 : ((k : Int) + 1) % (nl.length : Int) = (q : Int) := by rw [hqq]; simp
            have hm1 : ((k : Int) + 1).tmod (nl.length : Int) = (q : Int) := by rw [Int.tmod_eq_emod_of_nonneg (by omega), hm2]
            have HNX : Hid (nextOf nl k = nl[q]) := Lib.hid (by unfold nextOf; rw [← hqq]; simp [hq])
            have HAK : Hid (nl.getD k 0 = nl[k]) := Lib.hid (by simp [hlt])
            have HMA := Lib.hid (List.getElem_mem hlt)
            have HMB := Lib.hid (List.getElem_mem hq)
            have HST := Lib.hid (stepsK_succ x.cost nl k)
            have hsb := stepsK_in HX.out nl k
            obtain ⟨va, hva⟩ : ∃ va, nl[k] = va := ⟨_, rfl⟩
            obtain ⟨vb, hvb⟩ : ∃ vb, nl[q] = vb := ⟨_, rfl⟩
            have HVA := Lib.hid hva
            rw [hva] at e0 HAK HMA
            rw [hvb] at e1 HNX HMB
            rw [HAK.out, HNX.out] at HST
            obtain ⟨sk, hsk⟩ : ∃ sk, stepsK x.cost nl k = sk := ⟨_, rfl⟩
            rw [hsk] at HST hsb ⊢
            obtain ⟨sb0, sb1⟩ := hsb
            have HS := Lib.hid hS
            have hl1 : (0 : Int) < (nl.length : Int) := by omega
            have hne : ¬ (nl.length : Int) = 0 := by omega
            clear hqq hva hvb hS hA' hsk hrd
            by_cases z1 : va < 0
            case pos =>
              have HV : Hid (wayOf x nl = 0) := Lib.hid (wayOf_no HMA.out (by rw [HN.out]; omega))
              go_wp2_with (first
                | (refine wpList_load_row_g rfl 39 _ rfl ib rfl _ ic _ _ (HIB.out _ HS.out.below) Try.underlying39 rfl HSZ.out ?_)
                | (go_at_call 19; (with_reducible refine (HND.out _).mono ?_); rintro e wn ⟨rfl, hb⟩
                   replace HS := Lib.hid (HS.out.call hb)
                   clear hb))
              go_meet
              exact ⟨by rw [HV.out], HS.out⟩
            case neg =>
            have ha0 : 0 ≤ va := by omega
            have za0 : decide (va < 0) = false := decide_eq_false z1
            clear z1
            by_cases z2 : (N : Int) ≤ va
            case pos =>
              have HV : Hid (wayOf x nl = 0) := Lib.hid (wayOf_no HMA.out (by rw [HN.out]; omega))
              go_wp2_with (first
                | (refine wpList_load_row_g rfl 39 _ rfl ib rfl _ ic _ _ (HIB.out _ HS.out.below) Try.underlying39 rfl HSZ.out ?_)
                | (go_at_call 19; (with_reducible refine (HND.out _).mono ?_); rintro e wn ⟨rfl, hb⟩
                   replace HS := Lib.hid (HS.out.call hb)
                   clear hb))
              go_meet
              exact ⟨by rw [HV.out], HS.out⟩
            case neg =>
            have ha1 : va < (N : Int) := by omega
            have za1 : decide ((N : Int) ≤ va) = false := decide_eq_false z2
            clear z2
            by_cases z3 : vb < 0
            case pos =>
              have HV : Hid (wayOf x nl = 0) := Lib.hid (wayOf_no HMB.out (by rw [HN.out]; omega))
              go_wp2_with (first
                | (refine wpList_load_row_g rfl 39 _ rfl ib rfl _ ic _ _ (HIB.out _ HS.out.below) Try.underlying39 rfl HSZ.out ?_)
                | (go_at_call 19; (with_reducible refine (HND.out _).mono ?_); rintro e wn ⟨rfl, hb⟩
                   replace HS := Lib.hid (HS.out.call hb)
                   clear hb))
              go_meet
              exact ⟨by rw [HV.out], HS.out⟩
            case neg =>
            have hb0 : 0 ≤ vb := by omega
            have zb0 : decide (vb < 0) = false := decide_eq_false z3
            clear z3
            by_cases z4 : (N : Int) ≤ vb
            case pos =>
              have HV : Hid (wayOf x nl = 0) := Lib.hid (wayOf_no HMB.out (by rw [HN.out]; omega))
              go_wp2_with (first
                | (refine wpList_load_row_g rfl 39 _ rfl ib rfl _ ic _ _ (HIB.out _ HS.out.below) Try.underlying39 rfl HSZ.out ?_)
                | (go_at_call 19; (with_reducible refine (HND.out _).mono ?_); rintro e wn ⟨rfl, hb⟩
                   replace HS := Lib.hid (HS.out.call hb)
                   clear hb))
              go_meet
              exact ⟨by rw [HV.out], HS.out⟩
            case neg =>
            have hb1 : vb < (N : Int) := by omega
            clear z4
            go_upto_region 20 with (first
              | (refine wpList_load_row_g rfl 39 _ rfl ib rfl _ ic _ _ (HIB.out _ HS.out.below) Try.underlying39 rfl HSZ.out ?_)
              | (go_at_call 19; (with_reducible refine (HND.out _).mono ?_); rintro e wn ⟨rfl, hb⟩
                 replace HS := Lib.hid (HS.out.call hb)
                 clear hb))
            obtain ⟨a, rfl⟩ : ∃ a : Nat, va = a := ⟨va.toNat, by omega⟩
            obtain ⟨d, rfl⟩ : ∃ d : Nat, vb = d := ⟨vb.toNat, by omega⟩
            clear e0 e1 za0 za1 zb0
            have hla : a < x.cost.length := by rw [HX.out.costLen.1, HN.out]; omega
            obtain ⟨b5, o5, a6, c6, hKA, hb5, k7, hrow⟩ := mat_at (HIX.out _ HS.out.below).cost hla
            have hlr : x.cost[a].length = N := by rw [HX.out.costLen.2 _ (List.getElem_mem hla), HN.out]
            have hld : d < x.cost[a].length := by rw [hlr]; omega
            obtain ⟨b6, o6, ha6, hb6, k8⟩ := ints_at hrow hld
            have hcv : cellOf x.cost (a : Int) (d : Int) = x.cost[a][d] := by unfold cellOf; simp [hla, hld]
            have hcb := cellOf_in HX.out (a : Int) (d : Int)
            have y7 : wn.cell? ⟨ib, 7, none⟩ = some (.slice p.KA x.cost.length p.kc) := by rw [cell_of_row _ _ _ _ _ _ (HIB.out _ HS.out.below), HIC.out]; rfl
            rw [hKA] at y7
            rw [ha6, hlr] at k7
            rw [hcv] at hcb HST
            obtain ⟨cv, hcv2⟩ : ∃ cv, x.cost[a][d] = cv := ⟨_, rfl⟩
            rw [hcv2] at k8 hcb HST
            obtain ⟨cb0, cb1⟩ := hcb
            obtain ⟨cl, hcl⟩ : ∃ cl, x.cost.length = cl := ⟨_, rfl⟩
            rw [hcl] at y7 hla
            clear hKA hrow hlr ha6 hcv hcv2 hcl hld
            go_wp2_with fail
            go_roundw
            case rel =>
              refine ⟨k + 1, by omega, by go_num, by rw [HST.out], Lib.hid (fun j h hj => ?_), HS.out⟩
              by_cases e : j = k
              · subst e; rw [HVA.out, HN.out]; exact ⟨ha0, ha1⟩
              · exact HOK.out j h (by omega)
            case measure => simp [intOf]; omega
          · obtain rfl : k = nl.length := by omega
            have HV : Hid (wayOf x nl = stepsK x.cost nl nl.length) := Lib.hid (by
              unfold wayOf
              rw [if_pos]
              rw [List.all_eq_true]
              intro a ha
              obtain ⟨j, hj, rfl⟩ := List.getElem_of_mem ha
              unfold nodeB
              exact decide_eq_true (HOK.out j hj hj))
            have HS := Lib.hid hS
            clear hS hlt
            go_wp2_with fail
            go_meet
            exact ⟨by rw [HV.out], HS.out⟩
      case rest =>
        clear HS6
        obtain ⟨rfl, hS⟩ := hcut
        have HS := Lib.hid hS
        clear hS
        have HEQ : Hid (∀ (wx : World) (A A' : Option Addr) (c c' : Nat) (xs : List Int), IntsAt wx wx.heap.size A xs → IntsAt wx wx.heap.size A' xs → xs.length ≤ 100 → Calls Try.prog 21 #[.slice A xs.length c, .slice A' xs.length c'] wx fun e w' => e = .returned (.bool true) ∧ Below wx.heap.size wx w') := Lib.hid (fun wx A A' c c' xs h1 h2 hn => by
          have h := equalA_ints A A' c c' xs xs wx h1 h2 (by unfold maxLen; omega) (by unfold maxLen; omega)
          simpa using h)
        have HRD := Lib.hid (show IntsAt wc wc.heap.size NA nl from (HS.out.row 0 rfl).reads)
        have HNL := Lib.hid (show nl.length ≤ 100 by omega)
        go_upto_region 24 with (first
          | (refine wpList_load_row_g rfl 39 _ rfl ib rfl _ ic _ _ (HIB.out _ HS.out.below) Try.underlying39 rfl HSZ.out ?_)
          | (go_at_call 20; (with_reducible refine (HWY.out _ NA nc nl HS.out.below HRD.out HNL.out).mono ?_); rintro e wn ⟨rfl, hb⟩
             replace HS := Lib.hid (HS.out.call hb)
             clear hb))
        have y0 : wn.cell? ⟨bb, 0, none⟩ = some (.int .i64 b.sat) := by rw [cell_of_row _ _ _ _ _ _ (HBB.out _ HS.out.below), HBV.out]; rfl
        go_upto_region 25 with fail
        obtain ⟨gb, hgb⟩ : ∃ gb, gb = wn.heap.size := ⟨_, rfl⟩
        have HS7 : Hid (SL w5 w5.heap.size [.row 3 1 (.slice (some ⟨gb + 1, 0, none⟩) 1 1) 1 ([0].map (.int .i64)), .row 3 1 (.slice (some ⟨gb, 0, none⟩) 1 1) (0 + 1) ((bikeNodes x.sats.length b 0).map (.int .i64))] ((wn.alloc (.cells #[.int .i64 (wrap64 (1 + b.sat))] 3)).alloc (.cells #[.int .i64 0] 3))) := Lib.hid (by
          have h1 := (HS.out.alloc #[.int .i64 (wrap64 (1 + b.sat))] 3).blkRow 0 rfl 1 1 (by unfold maxLen; omega) rfl
          have h2 := (h1.alloc #[.int .i64 0] 3).blkRow 0 rfl 1 1 (by unfold maxLen; omega) rfl
          have h3 := h2.sub (l' := [_, _]) (.cons_cons _ (.cons_cons _ (.cons _ .slnil)))
          rw [hgb]
          simpa [bikeNodes] using h3)
        rw [← hgb]
        generalize ((wn.alloc (.cells #[.int .i64 (wrap64 (1 + b.sat))] 3)).alloc (.cells #[.int .i64 0] 3)) = w7 at *
        clear hgb y0 HS HWY
        have y1 : w7.cell? ⟨bb, 1, none⟩ = some (.slice BA b.stops.length bc) := by rw [cell_of_row _ _ _ _ _ _ (HBB.out _ HS7.out.below), HBV.out]; rfl
        go_upto_region 26 with fail
        clear y1
        go_loopw [124, 19] (fun i v19 wr => ∃ k : Nat, k ≤ b.stops.length ∧ i = .int .i64 k ∧ SL w5 w5.heap.size [.row 3 1 v19 (k + 1) ((bikeNodes x.sats.length b k).map (.int .i64)), .row 3 1 (.slice (some ⟨gb + 1, 0, none⟩) 1 1) 1 ([0].map (.int .i64))] wr) (fun i _ _ => b.stops.length - (intOf i).toNat)
        case atStart => exact ⟨0, by omega, rfl, HS7.out.perm (List.Perm.swap _ _ _)⟩
        case round =>
          clear HS7
          obtain ⟨k, hk, rfl, hS⟩ := hrel
          by_cases hlt : k < b.stops.length
          · as_aux_lemma =>
            obtain ⟨g1, o1, hA, hg1, e00⟩ := ints_at HBS.out hlt
            have e0 := ((HW5.out wr hS.below).cell (p := ⟨g1, o1 + k, none⟩) hg1).trans e00
            have HNS := Lib.hid (bikeNodes_succ (ns := x.sats.length) hlt)
            obtain ⟨v0, hv0⟩ : ∃ v0, b.stops[k] = v0 := ⟨_, rfl⟩
            rw [hv0] at e0 HNS
            obtain ⟨A5, c5, rfl, _, _⟩ := (hS.row 0 rfl).slice_
            have y5 : wr.cell? ⟨ib, 5, none⟩ = some (.slice p.SA x.sats.length p.sc) := by rw [cell_of_row _ _ _ _ _ _ (HIB.out _ hS.below), HIC.out]; rfl
            have hsn := HX.out.sats
            obtain ⟨sn0, sn1⟩ := hsn
            have HS := Lib.hid hS
            rw [hA]
            clear hA hS e00 hv0
            go_wp2_with (at_builtin; refine stopHere ?_)
            show wpList _ _ _ _ _ _
            refine wpList_append_sl rfl _ _ 44 rfl HS.out 0 i0 (.int .i64 0) 1 8 Try.underlying44 HII.out.1 HII.out.2.1 HII.out.2.2.1 HII.out.2.2.2 rfl (by decide) _ _ 1 _ rfl rfl _ rfl rfl (by decide) rfl (by simp [Value.oneCell']) (by omega) (by decide) ?_
            intro v' w8 hS8 hz8
            have HS8 := Lib.hid hS8
            clear HS hS8 hz8
            go_wp2_with fail
            go_roundw
            case rel =>
              refine ⟨k + 1, by omega, by go_num, ?_⟩
              rw [HNS.out, List.map_append]
              exact HS8.out
            case measure => simp [intOf]; omega
          · obtain rfl : k = b.stops.length := by omega
            have hS8 := hS.perm (List.Perm.swap _ _ _)
            obtain ⟨A5, c5, rfl, _, _⟩ := (hS.row 0 rfl).slice_
            have HS8 := Lib.hid hS8
            have y2 : wr.cell? ⟨tb, 0, none⟩ = some (.slice TA t.length tc) := by rw [cell_of_row _ _ _ _ _ _ (HTB.out _ hS.below), HTV.out]; rfl
            clear hS hS8 hlt
            go_upto_region 31 with fail
            clear y2
            go_loopw [141, 20] (fun i v20 wr => ∃ k : Nat, k ≤ t.length ∧ i = .int .i64 k ∧ SL w5 w5.heap.size [.row 3 1 v20 (k + 1) ((truckNodes t k).map (.int .i64)), .row 3 1 (.slice A5 (b.stops.length + 1) c5) (b.stops.length + 1) ((bikeNodes x.sats.length b b.stops.length).map (.int .i64))] wr) (fun i _ _ => t.length - (intOf i).toNat)
            case atStart => exact ⟨0, by omega, rfl, by simpa [truckNodes] using HS8.out⟩
            case round =>
              clear HS8
              obtain ⟨k, hk, rfl, hS⟩ := hrel
              by_cases hlt : k < t.length
              · as_aux_lemma =>
                obtain ⟨g1, o1, hA, hg1, e00, e01⟩ := stops_at HTS.out hlt
                have e0 := ((HW5.out wr hS.below).cell (p := ⟨g1, o1 + k * 2, none⟩) hg1).trans e00
                have e1 := ((HW5.out wr hS.below).cell (p := ⟨g1, o1 + k * 2 + 1, none⟩) hg1).trans e01
                have HNS := Lib.hid (truckNodes_succ hlt)
                obtain ⟨sv, hsv⟩ : ∃ sv, t[k] = sv := ⟨_, rfl⟩
                rw [hsv] at e0 e1 HNS
                obtain ⟨A6, c6, rfl, _, _⟩ := (hS.row 0 rfl).slice_
                have HS := Lib.hid (hS.alloc #[.int .i64 sv.sat, .int .i64 sv.load] 54)
                rw [hA]
                clear hA hS e00 e01 hsv
                go_wp2_with (at_builtin; refine stopHere ?_)
                show wpList _ _ _ _ _ _
                refine wpList_append_sl rfl _ _ 44 rfl HS.out 1 i0 (.int .i64 0) 1 8 Try.underlying44 HII.out.1 HII.out.2.1 HII.out.2.2.1 HII.out.2.2.2 rfl (by decide) _ _ 1 _ rfl rfl _ rfl (by simp) (by decide) rfl (by simp [Value.oneCell']) (by omega) (by decide) ?_
                intro v' w8 hS8 hz8
                have HS8 := Lib.hid hS8.tail
                clear HS hS8 hz8
                go_wp2_with fail
                go_roundw
                case rel =>
                  refine ⟨k + 1, by omega, by go_num, ?_⟩
                  rw [HNS.out, List.map_append]
                  exact HS8.out
                case measure => simp [intOf]; omega
              · obtain rfl : k = t.length := by omega
                have HLB : Hid ((bikeNodes x.sats.length b b.stops.length).length = b.stops.length + 1) := Lib.hid (by simp [bikeNodes])
                have HLT : Hid ((truckNodes t t.length).length = t.length + 1) := Lib.hid (by simp [truckNodes])
                obtain ⟨A6, c6, rfl, _, _⟩ := (hS.row 0 rfl).slice_
                have HRT : Hid (IntsAt wr wr.heap.size A6 (truckNodes t t.length)) := Lib.hid (by unfold IntsAt; rw [HLT.out]; exact (hS.row 0 rfl).reads)
                have HRB : Hid (IntsAt wr wr.heap.size A5 (bikeNodes x.sats.length b b.stops.length)) := Lib.hid (by unfold IntsAt; rw [HLB.out]; exact (hS.row 1 rfl).reads)
                have HS := Lib.hid (SL.start (Nat.le_refl wr.heap.size))
                have HQ := Lib.hid hS.below
                have HQ2 : Hid (∀ wx, Below wr.heap.size wr wx → Below w5.heap.size w5 wx) := Lib.hid (fun wx hb => HQ.out.trans (hb.mono HQ.out.size))
                clear hS hlt
                go_wp2_with (first
                  | (refine wpList_load_row_g rfl 39 _ rfl ib rfl _ ic _ _ (HIB.out _ (HQ2.out _ HS.out.below)) Try.underlying39 rfl HSZ.out ?_)
                  | (refine wpList_load_row_g rfl 46 _ rfl bb rfl _ bv _ _ (HBB.out _ (HQ2.out _ HS.out.below)) Try.underlying46 rfl (by rw [HBV.out]; kernel_rfl) ?_)
                  | (refine wpList_load_row_g rfl 49 _ rfl tb rfl _ tv _ _ (HTB.out _ (HQ2.out _ HS.out.below)) Try.underlying49 rfl (by rw [HTV.out]; kernel_rfl) ?_)
                  | (go_at_call 22; (with_reducible refine (HBN.out _ (HQ2.out _ HS.out.below)).mono ?_); rintro e wn ⟨v, rfl, hq⟩
                     rw [HLB.out] at hq
                     obtain ⟨Ab, cb, rfl, _, _⟩ := (hq.row 0 rfl).slice_
                     have hb := HS.out.below.trans (hq.below.mono HS.out.size)
                     have HE := Lib.hid (HEQ.out wn Ab A5 cb c5 (bikeNodes x.sats.length b b.stops.length) (by unfold IntsAt; rw [HLB.out]; exact (hq.row 0 rfl).reads) (reads_more (Reads.below HRB.out hb) hb.size) (by rw [HLB.out]; omega))
                     rw [HLB.out] at HE
                     replace HS := Lib.hid (HS.out.call hq.below)
                     clear hq hb)
                  | (go_at_call 23; (with_reducible refine (HTN.out _ (HQ2.out _ HS.out.below)).mono ?_); rintro e wn ⟨v, rfl, hq⟩
                     rw [HLT.out] at hq
                     obtain ⟨Ab, cb, rfl, _, _⟩ := (hq.row 0 rfl).slice_
                     have hb := HS.out.below.trans (hq.below.mono HS.out.size)
                     have HE := Lib.hid (HEQ.out wn Ab A6 cb c6 (truckNodes t t.length) (by unfold IntsAt; rw [HLT.out]; exact (hq.row 0 rfl).reads) (reads_more (Reads.below HRT.out hb) hb.size) (by rw [HLT.out]; omega))
                     rw [HLT.out] at HE
                     replace HS := Lib.hid (HS.out.call hq.below)
                     clear hq hb)
                  | (go_at_call 21; (with_reducible refine HE.out.mono ?_); rintro e wn ⟨rfl, hb⟩
                     replace HS := Lib.hid (HS.out.call hb)
                     clear hb))
                go_ret
                exact ⟨rfl, HW5.out _ (HQ2.out _ HS.out.below)⟩
open Go.Deep Go.Joins in
set_option maxRecDepth 100000 in
theorem bike_open {H : Type} {enc : TypeId × Value → H} {W : World} {base : Nat} {v : Value} {d : DataW H} {p : List MemPlace} (o : Value.okWide Try.prog W .any base 46 v) (k : DataW.Trod enc Try.prog W 0 (fun _ => true) true 46 v d p) :
    ∃ (A : Option Addr) (c : Nat) (b : BikeV), v = .agg #[.int .i64 b.sat, .slice A b.stops.length c] ∧ IntsAt W W.heap.size A b.stops ∧ b.stops.length ≤ maxLen ∧ b.wf := by
  obtain ⟨v0, v1, y0, y1, n, rfl, _, _, h0, h1⟩ := open_agg2 Try.underlying46 (by kernel_rfl) (by kernel_rfl) o k
  obtain ⟨a, rfl, wa⟩ := open_one Try.underlying3 h0
  obtain ⟨A, c, l, rfl, hr, hl, _, hw⟩ := ints_openD h1
  exact ⟨A, c, ⟨a, l⟩, rfl, hr, Nat.le_trans hl.1 hl.2, wa, hw⟩
open Go.Deep Go.Joins in
set_option maxRecDepth 100000 in
theorem truck_open {H : Type} {enc : TypeId × Value → H} {W : World} {base : Nat} {v : Value} {d : DataW H} {p : List MemPlace} (o : Value.okWide Try.prog W .any base 49 v) (k : DataW.Trod enc Try.prog W 0 (fun _ => true) true 49 v d p) :
    ∃ (A : Option Addr) (c : Nat) (t : List StopV), v = .agg #[.slice A t.length c] ∧ Stops W W.heap.size A t ∧ t.length ≤ maxLen := by
  obtain ⟨cs, rfl, hsz⟩ := okWide_struct Try.underlying49 o
  obtain ⟨fuel, hf⟩ := k
  have hs1 : cs.size = 1 := hsz.trans (by kernel_rfl)
  obtain ⟨c0, rfl⟩ : ∃ c0, cs = #[c0] := by
    obtain ⟨l⟩ := cs
    match l, hs1 with
    | [a], _ => exact ⟨a, rfl⟩
  obtain ⟨ys, n', hn', hy, hlen, hyl, hg⟩ := DataW.trod_struct Try.underlying49 hf
  have hy1 : ys.length = 1 := hyl
  have e1 : Try.prog.cellsOf 47 = 1 := by kernel_rfl
  have t0 : DataW.trod enc Try.prog W 0 (fun _ => true) true n' 47 [c0] = some (ys[0]'(by omega)) := by
    have h := hg 0 _ rfl
    rw [List.getElem?_eq_getElem (by omega)] at h
    simpa [e1, Value.cells] using h
  obtain ⟨A, c, l, rfl, hr, hl, _⟩ := stops_openD (n := n') (v := c0) t0
  exact ⟨A, c, l, rfl, hr, Nat.le_trans hl.1 hl.2⟩
set_option maxRecDepth 100000 in
theorem planWays_walk {H : Type} {enc : TypeId × Value → H} {base : Nat} (W : World) (v0 : Value) (d0 : DataW H) (p0 : List MemPlace) (o0 : Value.okWide Try.prog W .any base 26 v0) (k0 : DataW.Trod enc Try.prog W 0 (fun _ => true) true 26 v0 d0 p0)
    (LA : Option Addr) (lc : Nat) (l : List Int) (hr8 : Reads W W.heap.size 1 LA l.length (l.map (.int .u8))) (hll : l.length ≤ maxLen) (hlw : ∀ n ∈ l, (Lit.int .u8 n).wf = true)
    (RA : Option Addr) (rc : Nat) (raw : List Int) (hrr : Reads W W.heap.size 1 RA raw.length (raw.map (.int .i64))) (hrl : raw.length ≤ maxLen) (hrw : ∀ n ∈ raw, (Lit.int .i64 n).wf = true)
    (v3 : Value) (d3 : DataW H) (p3 : List MemPlace) (o3 : Value.okWide Try.prog W .any base 46 v3) (k3 : DataW.Trod enc Try.prog W 0 (fun _ => true) true 46 v3 d3 p3)
    (v4 : Value) (d4 : DataW H) (p4 : List MemPlace) (o4 : Value.okWide Try.prog W .any base 49 v4) (k4 : DataW.Trod enc Try.prog W 0 (fun _ => true) true 49 v4 d4 p4) :
    Calls Try.prog 4 #[v0, .slice LA l.length lc, .slice RA raw.length rc, v3, v4] W fun e w' => e = .returned (.bool true) ∧ Below W.heap.size W w' := by
  obtain ⟨sp, s, rfl, hI, hl, hok⟩ := small_open o0 k0
  obtain ⟨BA, bc, b, rfl, hb, hbl, _⟩ := bike_open o3 k3
  obtain ⟨TA, tc, t, rfl, ht, htl⟩ := truck_open o4 k4
  exact planWays0 s sp LA RA BA TA lc rc bc tc l raw b t W hI hl hok hr8 (fun n hn => isU8_of (hlw n hn)) hll hrr hrl hb hbl ht htl
end Go.Proofs.Ytjpejclfppbboaa
