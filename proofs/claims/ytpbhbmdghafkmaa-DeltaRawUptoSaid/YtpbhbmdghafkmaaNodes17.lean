/- The walks of Bike.Nodes and Truck.Nodes. (printed by gen/nodes17.py) -/
import Derived.Test.YtpbhbmdghafkmaaWay17
import Derived.Test.YtpbhbmdghafkmaaMakeW
namespace Go.Proofs.Ytpbhbmdghafkmaa
open Go.ChangeShapes Go.WideShapes Go.ChangeAt Go.RowKit
set_option linter.unusedVariables false
def ListPost (w : World) (l : List Int) (e : Ending) (w' : World) : Prop :=
 ∃ v, e = .returned v ∧ SL w w.heap.size [.row 3 1 v l.length (l.map (.int .i64))] w'
set_option maxRecDepth 100000 in
set_option maxHeartbeats 4000000 in
theorem bikeNodes_any (x : InstV) (p : IAt) (A : Option Addr) (c : Nat) (b : BikeV) (w : World) (hx : x.Small) (hr : IntsAt w w.heap.size A b.stops) (hl : b.stops.length ≤ 100000) :
 Calls Try.prog 49 #[.agg #[.int .i64 b.sat, .slice A b.stops.length c], .agg (x.cells p)] w (ListPost w (bikeNodes x.sats.length b b.stops.length)) := by
 obtain ⟨i0, hi0, hz0, hz1, hz2⟩ := info_parts info_int
 have HII := Lib.hid (And.intro hi0 (And.intro hz0 (And.intro hz1 hz2)))
 have HR := Lib.hid hr
 have hns := hx.sats
 obtain ⟨hns0, hns1⟩ := hns
 have HSAT : Hid (∀ wx, Calls Try.prog 66 #[.agg #[.int .i64 x.fin, .int .i64 x.tm, .int .i64 x.tr, .int .i64 x.bm, .int .i64 x.br, .slice p.SA x.sats.length p.sc, .slice p.CA x.custs.length p.cc, .slice p.KA x.cost.length p.kc, .slice p.TA x.time.length p.tc], .int .i64 b.sat] wx fun e w' => e = .returned (.int .i64 (wrap64 (1 + b.sat))) ∧ Below wx.heap.size wx w') := Lib.hid (fun wx => sat_any x p b.sat wx)
 have HCU : Hid (∀ c wx, Calls Try.prog 67 #[.agg #[.int .i64 x.fin, .int .i64 x.tm, .int .i64 x.tr, .int .i64 x.bm, .int .i64 x.br, .slice p.SA x.sats.length p.sc, .slice p.CA x.custs.length p.cc, .slice p.KA x.cost.length p.kc, .slice p.TA x.time.length p.tc], .int .i64 c] wx fun e w' => e = .returned (.int .i64 (wrap64 (1 + x.sats.length + c))) ∧ Below wx.heap.size wx w') := Lib.hid (fun c wx => customer_any x p c wx (by omega))
 have hS0 := ((SL.start (Nat.le_refl w.heap.size)).alloc #[.int .i64 b.sat, .slice A b.stops.length c] 44).alloc (x.cells p) 58
 have HS0 := Lib.hid hS0
 clear hx hi0 hz0 hz1 hz2 hS0 hr
 unfold InstV.cells
 go_enter Try.func49, Try.ntmps49
 go_upto_region 1 with fail
 obtain ⟨bb, hbb⟩ : ∃ bb, bb = w.heap.size := ⟨_, rfl⟩
 obtain ⟨ib, hib⟩ : ∃ ib, ib = w.heap.size + 1 := ⟨_, rfl⟩
 obtain ⟨bc, hbc⟩ : ∃ bc : Array Value, bc = #[.int .i64 b.sat, .slice A b.stops.length c] := ⟨_, rfl⟩
 obtain ⟨ic, hic⟩ : ∃ ic : Array Value, ic = #[.int .i64 x.fin, .int .i64 x.tm, .int .i64 x.tr, .int .i64 x.bm, .int .i64 x.br, .slice p.SA x.sats.length p.sc, .slice p.CA x.custs.length p.cc, .slice p.KA x.cost.length p.kc, .slice p.TA x.time.length p.tc] := ⟨_, rfl⟩
 have HIC := Lib.hid hic
 have HBC := Lib.hid hbc
 have HS1 : Hid (SL w w.heap.size [.blk ib ic 58, .blk bb bc 44] ((w.alloc (.cells #[.int .i64 b.sat, .slice A b.stops.length c] 44)).alloc (.cells #[.int .i64 x.fin, .int .i64 x.tm, .int .i64 x.tr, .int .i64 x.bm, .int .i64 x.br, .slice p.SA x.sats.length p.sc, .slice p.CA x.custs.length p.cc, .slice p.KA x.cost.length p.kc, .slice p.TA x.time.length p.tc] 58))) := Lib.hid (by
  have h := HS0.out
  unfold InstV.cells at h
  rw [hib, hic, hbb, hbc]
  simpa using h)
 rw [← hib, ← hbb]
 clear hib HS0 hic hbb hbc
 generalize ((w.alloc (.cells #[.int .i64 b.sat, .slice A b.stops.length c] 44)).alloc (.cells #[.int .i64 x.fin, .int .i64 x.tm, .int .i64 x.tr, .int .i64 x.bm, .int .i64 x.br, .slice p.SA x.sats.length p.sc, .slice p.CA x.custs.length p.cc, .slice p.KA x.cost.length p.kc, .slice p.TA x.time.length p.tc] 58)) = w1 at *
 have hS1 := HS1.out
 have a0 : w1.cell? ⟨ib, 0, none⟩ = some (.int .i64 x.fin) := hS1.cell 0 rfl 0 (by rw [HIC.out]; rfl)
 have a1 : w1.cell? ⟨ib, 1, none⟩ = some (.int .i64 x.tm) := hS1.cell 0 rfl 1 (by rw [HIC.out]; rfl)
 have a2 : w1.cell? ⟨ib, 2, none⟩ = some (.int .i64 x.tr) := hS1.cell 0 rfl 2 (by rw [HIC.out]; rfl)
 have a3 : w1.cell? ⟨ib, 3, none⟩ = some (.int .i64 x.bm) := hS1.cell 0 rfl 3 (by rw [HIC.out]; rfl)
 have a4 : w1.cell? ⟨ib, 4, none⟩ = some (.int .i64 x.br) := hS1.cell 0 rfl 4 (by rw [HIC.out]; rfl)
 have a5 : w1.cell? ⟨ib, 5, none⟩ = some (.slice p.SA x.sats.length p.sc) := hS1.cell 0 rfl 5 (by rw [HIC.out]; rfl)
 have a6 : w1.cell? ⟨ib, 6, none⟩ = some (.slice p.CA x.custs.length p.cc) := hS1.cell 0 rfl 6 (by rw [HIC.out]; rfl)
 have a7 : w1.cell? ⟨ib, 7, none⟩ = some (.slice p.KA x.cost.length p.kc) := hS1.cell 0 rfl 7 (by rw [HIC.out]; rfl)
 have a8 : w1.cell? ⟨ib, 8, none⟩ = some (.slice p.TA x.time.length p.tc) := hS1.cell 0 rfl 8 (by rw [HIC.out]; rfl)
 have b0 : w1.cell? ⟨bb, 0, none⟩ = some (.int .i64 b.sat) := hS1.cell 1 rfl 0 (by rw [HBC.out]; rfl)
 have b1 : w1.cell? ⟨bb, 1, none⟩ = some (.slice A b.stops.length c) := hS1.cell 1 rfl 1 (by rw [HBC.out]; rfl)
 clear hS1
 go_upto_region 2 with (go_at_call 66; (with_reducible refine (HSAT.out _).mono ?_); rintro e w2 ⟨rfl, hb⟩
                        have HS2 := Lib.hid (HS1.out.call hb)
                        clear hb b0 b1 a0 a1 a2 a3 a4 a5 a6 a7 a8)
 obtain ⟨g, hg⟩ : ∃ g, g = w2.heap.size := ⟨_, rfl⟩
 have HS3 : Hid (SL w w.heap.size [.row 3 1 (.slice (some ⟨g, 0, none⟩) 1 1) 1 [.int .i64 (wrap64 (1 + b.sat))], .blk ib ic 58, .blk bb bc 44] (w2.alloc (.cells #[.int .i64 (wrap64 (1 + b.sat))] 3))) := Lib.hid (by
  rw [hg]
  exact (HS2.out.alloc #[.int .i64 (wrap64 (1 + b.sat))] 3).blkRow 0 rfl 1 1 (by unfold maxLen; omega) rfl)
 rw [← hg]
 clear hg HS2 HS1
 generalize (w2.alloc (.cells #[.int .i64 (wrap64 (1 + b.sat))] 3)) = w3 at *
 have b1 : w3.cell? ⟨bb, 1, none⟩ = some (.slice A b.stops.length c) := HS3.out.cell 2 rfl 1 (by rw [HBC.out]; rfl)
 go_wp2_with fail
 clear b1
 go_loopw [16, 5] (fun i v5 wr => ∃ k : Nat, k ≤ b.stops.length ∧ i = .int .i64 k ∧ SL w w.heap.size [.row 3 1 v5 (k + 1) ((bikeNodes x.sats.length b k).map (.int .i64)), .blk ib ic 58, .blk bb bc 44] wr) (fun i _ _ => b.stops.length - (intOf i).toNat)
 case atStart => exact ⟨0, by omega, rfl, HS3.out⟩
 case round =>
  clear HS3
  obtain ⟨k, hk, rfl, hS⟩ := hrel
  by_cases hlt : k < b.stops.length
  · obtain ⟨g1, o1, hA, hg1, e00⟩ := ints_at HR.out hlt
    have e0 := (hS.below.cell (p := ⟨g1, o1 + k, none⟩) hg1).trans e00
    have HNS := Lib.hid (bikeNodes_succ (ns := x.sats.length) hlt)
    obtain ⟨s, hs⟩ : ∃ s, b.stops[k] = s := ⟨_, rfl⟩
    rw [hs] at e0 HNS
    obtain ⟨A5, c5, rfl, _, _⟩ := (hS.row 0 rfl).slice_
    have a0 : wr.cell? ⟨ib, 0, none⟩ = some (.int .i64 x.fin) := hS.cell 1 rfl 0 (by rw [HIC.out]; rfl)
    have a1 : wr.cell? ⟨ib, 1, none⟩ = some (.int .i64 x.tm) := hS.cell 1 rfl 1 (by rw [HIC.out]; rfl)
    have a2 : wr.cell? ⟨ib, 2, none⟩ = some (.int .i64 x.tr) := hS.cell 1 rfl 2 (by rw [HIC.out]; rfl)
    have a3 : wr.cell? ⟨ib, 3, none⟩ = some (.int .i64 x.bm) := hS.cell 1 rfl 3 (by rw [HIC.out]; rfl)
    have a4 : wr.cell? ⟨ib, 4, none⟩ = some (.int .i64 x.br) := hS.cell 1 rfl 4 (by rw [HIC.out]; rfl)
    have a5 : wr.cell? ⟨ib, 5, none⟩ = some (.slice p.SA x.sats.length p.sc) := hS.cell 1 rfl 5 (by rw [HIC.out]; rfl)
    have a6 : wr.cell? ⟨ib, 6, none⟩ = some (.slice p.CA x.custs.length p.cc) := hS.cell 1 rfl 6 (by rw [HIC.out]; rfl)
    have a7 : wr.cell? ⟨ib, 7, none⟩ = some (.slice p.KA x.cost.length p.kc) := hS.cell 1 rfl 7 (by rw [HIC.out]; rfl)
    have a8 : wr.cell? ⟨ib, 8, none⟩ = some (.slice p.TA x.time.length p.tc) := hS.cell 1 rfl 8 (by rw [HIC.out]; rfl)
    have HS := Lib.hid hS
    rw [hA]
    clear hs hA hS e00
    go_wp2_with (first
     | (go_at_call 67; (with_reducible refine (HCU.out s _).mono ?_); rintro e w5 ⟨rfl, hb⟩
        have HS5 := Lib.hid (HS.out.call hb)
        clear hb a0 a1 a2 a3 a4 a5 a6 a7 a8)
     | (at_builtin; refine stopHere ?_))
    show wpList _ _ _ _ _ _
    refine wpList_append_sl rfl _ _ 42 rfl HS5.out 0 i0 (.int .i64 0) 1 8 Try.underlying42 HII.out.1 HII.out.2.1 HII.out.2.2.1 HII.out.2.2.2 rfl (by decide) _ _ 1 _ rfl rfl _ rfl rfl (by decide) rfl (by simp [Value.oneCell']) (by omega) (by decide) ?_
    intro v' w6 hS6 hz6
    have HS6 := Lib.hid hS6
    clear HS5 hS6 hz6
    go_wp2_with fail
    go_roundw
    case rel =>
     refine ⟨k + 1, by omega, by go_num, ?_⟩
     rw [HNS.out, List.map_append]
     exact HS6.out
    case measure => simp [intOf]; omega
  · obtain rfl : k = b.stops.length := by omega
    have HS := Lib.hid hS
    clear hS hlt
    go_wp2_with fail
    go_ret
    refine ⟨_, rfl, ?_⟩
    rw [show (bikeNodes x.sats.length b b.stops.length).length = b.stops.length + 1 by simp [bikeNodes]]
    exact HS.out.sub (.cons_cons _ (.cons _ (.cons _ .slnil)))
end Go.Proofs.Ytpbhbmdghafkmaa
