/- The walk of law MoveRaw, of plans whose stops an int holds. (printed by gen/moveraw.py) -/
import Derived.Test.YtpbhbmdghafkmaaBoth23
import Derived.Test.YtpbhbmdghafkmaaRows
import Derived.Test.YtpbhbmdghafkmaaMoveOpen
import Derived.Test.YtpbhbmdghafkmaaSameB
import Derived.Test.YtpbhbmdghafkmaaAwake23
import Derived.Test.YtpbhbmdghafkmaaLightW
import Derived.Test.YtpbhbmdghafkmaaOpenD17
import Derived.Deep.CutBlock
import Derived.Deep.CutRange
import Derived.Deep.DeepCutAuto
namespace Go.Proofs.Ytpbhbmdghafkmaa
open Go.ChangeShapes Go.WideShapes Go.ChangeAt Go.RowKit
set_option linter.unusedVariables false
set_option linter.unusedSimpArgs false
set_option maxRecDepth 100000 in
set_option maxHeartbeats 8000000 in
theorem moveRaw_any (TA BA : Option Addr) (tc bc : Nat) (q : PlanV) (kd a i b j sats : Int) (w : World) (hP : PlanIn w w.heap.size TA BA q) (hW : PlanW q) :
 Calls Try.prog 4 #[.agg #[.slice TA q.trucks.length tc, .slice BA q.bikes.length bc], .agg #[.int .i64 kd, .int .i64 a, .int .i64 i, .int .i64 b, .int .i64 j], .int .i64 sats] w fun e w' => e = .returned (.bool true) ∧ Below w.heap.size w w' := by
 have HLT : Hid (∀ wx, Below w.heap.size w wx → Calls Try.prog 18 #[.agg #[.slice TA q.trucks.length tc, .slice BA q.bikes.length bc]] wx fun e w' => e = .returned (.bool (decide (q.many ≤ 200))) ∧ Below wx.heap.size wx w') := Lib.hid (fun wx hb => light_any TA BA tc bc q wx ⟨trucks_more (hP.trucks.below hb) hb.size, bikes_more (hP.bikes.below hb) hb.size⟩ hW)
 have HMY : Hid (q.many ≤ 200 → q.bikes.length ≤ 200 ∧ (allStops q.bikes).length ≤ 200) := Lib.hid (fun h => by unfold PlanV.many at h; omega)
 have HBI : Hid (∀ wx, Below w.heap.size w wx → Bikes wx wx.heap.size BA q.bikes) := Lib.hid (fun wx hb => bikes_more (hP.bikes.below hb) hb.size)
 obtain ⟨bs, hbs⟩ : ∃ l, q.bikes = l := ⟨_, rfl⟩
 rw [hbs] at HMY HBI
 obtain ⟨n, hn⟩ : ∃ n, bs.length = n := ⟨_, rfl⟩
 obtain ⟨o, ho⟩ : ∃ o, applyM sats bs ⟨kd, a, i, b, j⟩ = o := ⟨_, rfl⟩
 have HAP : Hid (q.many ≤ 200 → ∀ wx, Below w.heap.size w wx → Calls Try.prog 13 #[.int .i64 sats, .slice BA q.bikes.length bc, .agg #[.int .i64 kd, .int .i64 a, .int .i64 i, .int .i64 b, .int .i64 j]] wx (ABPost wx o)) := Lib.hid (fun hm wx hb => by
  have h0 := HMY.out hm
  have h := ab_any sats BA bc bs kd a i b j wx (HBI.out wx hb) (by omega) (by omega)
  rw [hbs, ← ho]
  exact h)
 have HLP : Hid (q.many ≤ 200 → ∀ wx, Below w.heap.size w wx → Calls Try.prog 16 #[.int .i64 sats, .slice BA q.bikes.length bc, .agg #[.int .i64 kd, .int .i64 a, .int .i64 i, .int .i64 b, .int .i64 j]] wx (ABPost wx o)) := Lib.hid (fun hm wx hb => by
  have h0 := HMY.out hm
  have h := lab_any sats BA bc bs kd a i b j wx (HBI.out wx hb) (by omega) (by omega)
  rw [hbs, ← ho]
  exact h)
 have HLL : Hid (q.many ≤ 200 → ∀ l ok, AB o l ok → l.length ≤ 1000 ∧ ∀ b ∈ l, b.stops.length ≤ 1000000) := Lib.hid (fun hm l ok h => by
  rw [← ho] at h
  have h1 := ab_len h
  have h2 := HMY.out hm
  exact ⟨by omega, fun b hb => by have := stops_le_all hb; omega⟩)
 have hS0 := ((SL.start (Nat.le_refl w.heap.size)).alloc #[.slice TA q.trucks.length tc, .slice BA q.bikes.length bc] 39).alloc #[.int .i64 kd, .int .i64 a, .int .i64 i, .int .i64 b, .int .i64 j] 33
 have HS0 := Lib.hid hS0
 have HSM : Hid ((Try.prog.info? 33).map (·.size) = some 5) := Lib.hid move_size
 have HSP : Hid ((Try.prog.info? 39).map (·.size) = some 2) := Lib.hid (by kernel_rfl)
 clear hP hW hbs hn ho hS0
 go_enter Try.func4, Try.ntmps4
 go_upto_region 1 with fail
 obtain ⟨pb, hpb⟩ : ∃ pb, pb = w.heap.size := ⟨_, rfl⟩
 obtain ⟨mb, hmb⟩ : ∃ pb, pb = w.heap.size + 1 := ⟨_, rfl⟩
 have HS1 : Hid (SL w w.heap.size [.blk mb #[.int .i64 kd, .int .i64 a, .int .i64 i, .int .i64 b, .int .i64 j] 33, .blk pb #[.slice TA q.trucks.length tc, .slice BA q.bikes.length bc] 39] ((w.alloc (.cells #[.slice TA q.trucks.length tc, .slice BA q.bikes.length bc] 39)).alloc (.cells #[.int .i64 kd, .int .i64 a, .int .i64 i, .int .i64 b, .int .i64 j] 33))) := Lib.hid (by
  have h := HS0.out
  rw [hpb, hmb]
  simpa using h)
 rw [← hmb, ← hpb]
 clear hpb hmb HS0
 generalize ((w.alloc (.cells #[.slice TA q.trucks.length tc, .slice BA q.bikes.length bc] 39)).alloc (.cells #[.int .i64 kd, .int .i64 a, .int .i64 i, .int .i64 b, .int .i64 j] 33)) = w1 at *
 go_upto_region 3 with (go_at_call 12; (with_reducible refine (awake23 _).mono ?_); rintro e w2 ⟨rfl, hb⟩
                        have HS2 : Hid (SL w w.heap.size [.blk mb #[.int .i64 kd, .int .i64 a, .int .i64 i, .int .i64 b, .int .i64 j] 33, .blk pb #[.slice TA q.trucks.length tc, .slice BA q.bikes.length bc] 39] w2) := Lib.hid (HS1.out.call hb)
                        clear hb)
 have hS2 := HS2.out
 clear HS1
 have ap0 : w2.cell? ⟨pb, 0, none⟩ = some (.slice TA q.trucks.length tc) := hS2.cell 1 rfl 0 rfl
 have ap1 : w2.cell? ⟨pb, 1, none⟩ = some (.slice BA q.bikes.length bc) := hS2.cell 1 rfl 1 rfl
 have am0 : w2.cell? ⟨mb, 0, none⟩ = some (.int .i64 kd) := hS2.cell 0 rfl 0 rfl
 have am1 : w2.cell? ⟨mb, 1, none⟩ = some (.int .i64 a) := hS2.cell 0 rfl 1 rfl
 have am2 : w2.cell? ⟨mb, 2, none⟩ = some (.int .i64 i) := hS2.cell 0 rfl 2 rfl
 have am3 : w2.cell? ⟨mb, 3, none⟩ = some (.int .i64 b) := hS2.cell 0 rfl 3 rfl
 have am4 : w2.cell? ⟨mb, 4, none⟩ = some (.int .i64 j) := hS2.cell 0 rfl 4 rfl
 clear hS2
 by_cases hm : q.many ≤ 200
 case neg =>
  have hmb : decide (q.many ≤ 200) = false := decide_eq_false hm
  have HLT2 := Lib.hid (HLT.out _ HS2.out.below)
  rw [hmb] at HLT2
  clear hm hmb HLT HAP HLP HLL HMY HBI
  go_wp2_with (go_at_call 18; (with_reducible refine HLT2.out.mono ?_); rintro e w3 ⟨rfl, hb⟩
               have HS3 := Lib.hid (HS2.out.call hb)
               clear hb)
  go_ret
  exact ⟨rfl, HS3.out.below⟩
 case pos =>
 have hmb : decide (q.many ≤ 200) = true := decide_eq_true hm
 have HLT2 := Lib.hid (HLT.out _ HS2.out.below)
 rw [hmb] at HLT2
 have HAP2 := Lib.hid (HAP.out hm)
 have HLP2 := Lib.hid (HLP.out hm)
 have HLL2 := Lib.hid (HLL.out hm)
 clear hm hmb HLT HAP HLP HLL HMY HBI
 go_upto_region 6 with first
  | (go_at_call 18; (with_reducible refine HLT2.out.mono ?_); rintro e w3 ⟨rfl, hb⟩
     have HS3 : Hid (SL w w.heap.size [.blk mb #[.int .i64 kd, .int .i64 a, .int .i64 i, .int .i64 b, .int .i64 j] 33, .blk pb #[.slice TA q.trucks.length tc, .slice BA q.bikes.length bc] 39] w3) := Lib.hid (HS2.out.call hb)
     have hS3 := HS3.out
     have bp0 : w3.cell? ⟨pb, 0, none⟩ = some (.slice TA q.trucks.length tc) := hS3.cell 1 rfl 0 rfl
     have bp1 : w3.cell? ⟨pb, 1, none⟩ = some (.slice BA q.bikes.length bc) := hS3.cell 1 rfl 1 rfl
     have bm0 : w3.cell? ⟨mb, 0, none⟩ = some (.int .i64 kd) := hS3.cell 0 rfl 0 rfl
     have bm1 : w3.cell? ⟨mb, 1, none⟩ = some (.int .i64 a) := hS3.cell 0 rfl 1 rfl
     have bm2 : w3.cell? ⟨mb, 2, none⟩ = some (.int .i64 i) := hS3.cell 0 rfl 2 rfl
     have bm3 : w3.cell? ⟨mb, 3, none⟩ = some (.int .i64 b) := hS3.cell 0 rfl 3 rfl
     have bm4 : w3.cell? ⟨mb, 4, none⟩ = some (.int .i64 j) := hS3.cell 0 rfl 4 rfl
     clear hb hS3 HS2 ap0 ap1 am0 am1 am2 am3 am4)
  | (go_at_call 13; (with_reducible refine (HAP2.out _ HS3.out.below).mono ?_); rintro e w4 ⟨A8, c8, l8, ok8, rfl, hm8, hB8, hb8⟩
     have HS4 : Hid (SL w w.heap.size [.blk mb #[.int .i64 kd, .int .i64 a, .int .i64 i, .int .i64 b, .int .i64 j] 33, .blk pb #[.slice TA q.trucks.length tc, .slice BA q.bikes.length bc] 39] w4) := Lib.hid (HS3.out.call hb8)
     have HM8 := Lib.hid (And.intro hm8 hB8)
     have hS4 := HS4.out
     have cp0 : w4.cell? ⟨pb, 0, none⟩ = some (.slice TA q.trucks.length tc) := hS4.cell 1 rfl 0 rfl
     have cp1 : w4.cell? ⟨pb, 1, none⟩ = some (.slice BA q.bikes.length bc) := hS4.cell 1 rfl 1 rfl
     have cm0 : w4.cell? ⟨mb, 0, none⟩ = some (.int .i64 kd) := hS4.cell 0 rfl 0 rfl
     have cm1 : w4.cell? ⟨mb, 1, none⟩ = some (.int .i64 a) := hS4.cell 0 rfl 1 rfl
     have cm2 : w4.cell? ⟨mb, 2, none⟩ = some (.int .i64 i) := hS4.cell 0 rfl 2 rfl
     have cm3 : w4.cell? ⟨mb, 3, none⟩ = some (.int .i64 b) := hS4.cell 0 rfl 3 rfl
     have cm4 : w4.cell? ⟨mb, 4, none⟩ = some (.int .i64 j) := hS4.cell 0 rfl 4 rfl
     clear hb8 hS4 HS3 hm8 hB8 bp0 bp1 bm0 bm1 bm2 bm3 bm4)
 go_upto_region 7 with (go_at_call 16; (with_reducible refine (HLP2.out _ HS4.out.below).mono ?_); rintro e w5 ⟨A9, c9, l9, ok9, rfl, hm9, hB9, hb9⟩
                        obtain ⟨rfl, rfl⟩ := HM8.out.1.same hm9
                        have HSA : Hid (Calls Try.prog 17 #[.slice A8 l9.length c8, .slice A9 l9.length c9] w5 (SameP w5 l9 l9)) := Lib.hid (by
                         have hx := HLL2.out l9 ok9 hm9
                         exact same23_any A8 A9 c8 c9 l9 l9 w5 (bikes_more (HM8.out.2.below hb9) hb9.size) hB9 (by omega) (by omega) hx.2 hx.2)
                        have HS5 := Lib.hid (HS4.out.call hb9)
                        clear hm9 hB9 hb9 HS4)
 cases ok9 <;>
 · go_wp2_with (go_at_call 17; (with_reducible refine HSA.out.mono ?_); rintro e w12 ⟨rb, rfl, hrb, hb12⟩
                obtain rfl : rb = true := hrb.2 rfl
                have HBE := Lib.hid (HS5.out.call hb12).below
                clear hrb hb12)
   go_ret
   exact ⟨rfl, HBE.out⟩
theorem bulk_one {H : Type} (d : DataW H) : 1 ≤ Rows.uptoBulk d := by
 cases d with
 | lit l => cases l <;> simp [Rows.uptoBulk]
 | nil => simp [Rows.uptoBulk]
 | ptr d => simp [Rows.uptoBulk]
 | slice elems spare => simp [Rows.uptoBulk]
 | agg parts => simp [Rows.uptoBulk]
 | iface t d => simp [Rows.uptoBulk]
 | map entries => simp [Rows.uptoBulk]
 | held h => simp [Rows.uptoBulk]
theorem bulk_len {H : Type} (es : List (DataW H)) : es.length ≤ Rows.uptoBulkAll es := by
 induction es with
 | nil => simp
 | cons e r ih =>
   have := bulk_one e
   simp only [Rows.uptoBulkAll, List.length_cons]
   omega
theorem bulk_row {H : Type} {d : DataW H} {n : Nat} (h : RowD d n) : n ≤ Rows.uptoBulk d := by
 rcases h with rfl | ⟨es, sp, rfl, rfl⟩
 · exact Nat.zero_le _
 · have := bulk_len es
   simp only [Rows.uptoBulk]
   omega
theorem bulk_sum {H : Type} : ∀ (es : List (DataW H)) (ls : List Nat), es.length = ls.length → (∀ i (hi : i < ls.length), ∃ e, es[i]? = some e ∧ ls[i] + 1 ≤ Rows.uptoBulk e) → ls.sum + ls.length ≤ Rows.uptoBulkAll es
 | [], [], _, _ => by simp
 | e :: r, [], h, _ => by simp at h
 | [], l :: r, h, _ => by simp at h
 | e :: es, l :: ls, h, h2 => by
   have ih := bulk_sum es ls (by simpa using h) (fun i hi => by
    obtain ⟨e', he, hb⟩ := h2 (i + 1) (by simpa using hi)
    exact ⟨e', by simpa using he, by simpa using hb⟩)
   obtain ⟨e', he, hb⟩ := h2 0 (by simp)
   simp only [List.getElem?_cons_zero, Option.some.injEq, List.getElem_cons_zero] at he hb
   subst he
   simp only [Rows.uptoBulkAll, List.sum_cons, List.length_cons]
   omega
theorem PlanD.bulk {H : Type} {d : DataW H} {q : PlanV} (h : PlanD d q) : q.many ≤ Rows.uptoBulk d := by
 obtain ⟨dt, db, rfl, hT, hB⟩ := h.ex
 have g1 : q.trucks.length + q.trucks.flatten.length ≤ Rows.uptoBulk dt := by
  rcases hT with h0 | ⟨es, sp, rfl, hl, hi⟩
  · rw [h0]; simp
  · have := bulk_sum es (q.trucks.map List.length) (by simpa using hl) (fun i hi' => by
     have hi2 : i < q.trucks.length := by simpa using hi'
     obtain ⟨e, he, hr⟩ := hi i hi2
     refine ⟨_, he, ?_⟩
     have := bulk_row hr
     simp only [Rows.uptoBulk, Rows.uptoBulkAll, List.getElem_map]
     omega)
    rw [List.length_flatten]
    rw [List.length_map] at this
    simp only [Rows.uptoBulk]
    omega
 have g2 : q.bikes.length + (allStops q.bikes).length ≤ Rows.uptoBulk db := by
  rcases hB with h0 | ⟨es, sp, rfl, hl, hi⟩
  · rw [h0]; simp [allStops]
  · have := bulk_sum es (q.bikes.map (·.stops.length)) (by simpa using hl) (fun i hi' => by
     have hi2 : i < q.bikes.length := by simpa using hi'
     obtain ⟨a, e, he, hr⟩ := hi i hi2
     refine ⟨_, he, ?_⟩
     have := bulk_row hr
     have := bulk_one a
     simp only [Rows.uptoBulk, Rows.uptoBulkAll, List.getElem_map]
     omega)
    have e2 : (allStops q.bikes).length = (q.bikes.map (·.stops.length)).sum := by unfold allStops; rw [List.length_flatMap]
    rw [List.length_map] at this
    simp only [Rows.uptoBulk]
    omega
 unfold PlanV.many
 simp only [Rows.uptoBulk, Rows.uptoBulkAll]
 omega
theorem PlanD.wide {H : Type} {d : DataW H} {q : PlanV} (h : PlanD d q) (hk : Rows.uptoBulk d ≤ 1048576) : PlanW q := by
 have h1 := h.bulk
 unfold PlanV.many at h1
 exact ⟨by omega, by omega, by omega, by omega⟩
set_option maxRecDepth 100000 in
theorem moveRaw_walk {H : Type} {enc : TypeId × Value → H} {base : Nat} (W : World)
 (v1 : Value) (d1 : DataW H) (p1 : List MemPlace) (o1 : Value.okWide Try.prog W .any base 39 v1) (k1 : DataW.Trod enc Try.prog W 0 (fun _ => true) true 39 v1 d1 p1) (z1 : Rows.uptoBulk d1 ≤ 1048576)
 (v2 : Value) (d2 : DataW H) (p2 : List MemPlace) (o2 : Value.okWide Try.prog W .any base 33 v2) (k2 : DataW.Trod enc Try.prog W 0 (fun _ => true) true 33 v2 d2 p2) (sats : Int) (ws : (Lit.int .i64 sats).wf = true) :
 Calls Try.prog 4 #[v1, v2, .int .i64 sats] W fun e w' => e = .returned (.bool true) ∧ Below W.heap.size W w' := by
 obtain ⟨TA, BA, tc, bc, pl, rfl, hT, hB, h1, h2, hD, _⟩ := plan_openD o1 k1
 obtain ⟨m, rfl, _⟩ := move_open o2 k2
 exact moveRaw_any TA BA tc bc pl m.kind m.a m.i m.b m.j sats W ⟨hT.plain, hB.plain⟩ (hD.wide z1)
end Go.Proofs.Ytpbhbmdghafkmaa
