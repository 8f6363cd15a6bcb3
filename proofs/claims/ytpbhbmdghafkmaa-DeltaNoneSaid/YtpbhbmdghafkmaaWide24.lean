/- Of an instance that may not be: Bike.Nodes, plan.Way, delta.Rounds, delta.Change, whatever their sizes. (printed by gen/wide24.py) -/
import Derived.Test.YtpbhbmdghafkmaaDelta24
import Derived.Test.YtpbhbmdghafkmaaNodes17
import Derived.Deep.CutBlock
import Derived.Deep.CutRange
import Derived.Deep.DeepCutAuto
namespace Go.Proofs.Ytpbhbmdghafkmaa
open Go.ChangeShapes Go.WideShapes Go.ChangeAt Go.RowKit
set_option linter.unusedVariables false
set_option linter.unusedSimpArgs false
theorem run_append_slw {P : Program} {W w0 : World} {B : Nat} {l : List Rs} {cs : Array Value} {e : TypeId} (t ty : TypeId) (h : SL W B l w0) (it : Nat) (i : TypeInfo) (z : Value) (size bytes : Nat) (ht : P.underlying t = some (.slice e)) (hi : P.info? e = some i) (hz : i.zero = some z)
    (hsize : i.size = size) (hby : i.bytes = bytes) (hzs : z.cells.size = size) (hsz : 0 < size)
    (v : Value) (n m : Nat) (xs : List Value) (hit : l[it]? = some (.row e size v n xs)) (hm : 0 < m) (hcs : cs.size = m * size) (h1 : ∀ u ∈ cs.toList, u.oneCell' = true) (hn : n + m ≤ maxLen) (hb1 : (n + m) * bytes ≤ 140737488355328) :
    ∃ v' w', (Builtin.append_ #[t, t] ty #[v, .slice (some ⟨w0.heap.size, 0, none⟩) m m]).run P (w0.alloc (.cells cs e)) = .ok v' w' ∧ SL W B (l.set it (.row e size v' (n + m) (xs ++ cs.toList))) w' ∧ w0.heap.size < w'.heap.size := by
  have hs1 : (w0.alloc (.cells cs e)).heap.size = w0.heap.size + 1 := by simp
  have ha := (h.alloc cs e).tail
  have hrow := ha.row it hit
  obtain ⟨v', w', hr, h2, h3, h4⟩ := run_append_q (P := P) (w0.alloc (.cells cs e)) 0 t ty e i z size bytes ht hi hz hsize hby hzs hsz v n xs hrow ⟨w0.heap.size, 0, none⟩ m m cs.toList hm (by simpa using hcs)
    (by intro j u hu
        rw [Addr.add_mid, Nat.zero_add, cell_of_row _ _ _ _ _ _ (heap_alloc_new w0 _)]
        simpa using hu) h1 hn hb1 (Nat.zero_le _)
  refine ⟨v', w', hr, ha.turn it hit h3.os h3.tape h3.output h3.size (fun k hk hne => h3.block k hk (fun e => hne e.symm)) h2 ?_, by have := h3.size; omega⟩
  intro g hg
  have hg' : v'.ownBlock = some g := hg
  refine ⟨?_, ?_⟩
  · rcases h4 with h4 | ⟨k, h4, h5⟩
    · left; show v.ownBlock = some g; rw [← h4]; exact hg'
    · right
      rw [h4] at hg'
      injection hg' with hg'
      omega
  · rcases h2.in_ with h0 | ⟨g', off, cap, hv, hlt⟩
    · omega
    · rw [hv] at hg'
      simp [Value.ownBlock] at hg'
      omega
theorem wpList_append_slw {P : Program} {ops : Array Oper} {rest : List Oper} {o : Oper} {a : Act} {W w0 : World} {B : Nat} {l : List Rs} {Q : Exit → Act → World → Prop} {cs : Array Value} {e : TypeId} (hgd : o.guard = none) (s x : Operand) (t : TypeId)
    (ho : o.op = .call { callee := .builtin .append, args := #[s, x], argTypes := #[t, t] }) (h : SL W B l w0) (it : Nat)
    (i : TypeInfo) (z : Value) (size bytes : Nat) (ht : P.underlying t = some (.slice e)) (hi : P.info? e = some i) (hz : i.zero = some z)
    (hsize : i.size = size) (hby : i.bytes = bytes) (hzs : z.cells.size = size) (hsz : 0 < size)
    (v : Value) (n m : Nat) (xs : List Value) (hit : l[it]? = some (.row e size v n xs)) (hs : a.eval s = v) (G : Nat) (hx : a.eval x = .slice (some ⟨G, 0, none⟩) m m) (hG : w0.heap.size = G) (hm : 0 < m) (hcs : cs.size = m * size) (h1 : ∀ u ∈ cs.toList, u.oneCell' = true)
    (hn : n + m ≤ maxLen) (hb1 : (n + m) * bytes ≤ 140737488355328)
    (hK : ∀ v' w', SL W B (l.set it (.row e size v' (n + m) (xs ++ cs.toList))) w' → w0.heap.size < w'.heap.size → wpList P ops Q rest (a.put o.dst v') w') : wpList P ops Q (o :: rest) a (w0.alloc (.cells cs e)) := by
  subst hG
  obtain ⟨v', w', hr, h2, h3⟩ := run_append_slw (P := P) t o.type h it i z size bytes ht hi hz hsize hby hzs hsz v n m xs hit hm hcs h1 hn hb1
  refine wpList_plain hgd fun K hK' => ?_
  unfold Oper.wp execOp
  simp only [ho, resolve, invoke, builtin, Sem.run_bind, Sem.run_pure, Result.andThen_ok, List.map_toArray, List.map_cons, List.map_nil, hs, hx, hr]
  exact hK' _ _ (hK v' w' h2 h3)
set_option maxRecDepth 100000 in
set_option maxHeartbeats 4000000 in
theorem way_badW (x : InstV) (p : IAt) (A : Option Addr) (c : Nat) (l : List Int) (w : World) (hI : InstIn w w.heap.size p x) (hl : InstL x) (hr : IntsAt w w.heap.size A l) (hln : l.length ≤ 70368744177664) (hc : x.code ≠ 0) :
    Calls Try.prog 48 #[.agg (x.cells p), .slice A l.length c] w fun e w' => e = .returned (.int .i64 0) ∧ Below w.heap.size w w' := by
  have HR := Lib.hid hr
  have HCK : Hid (∀ wx, Below w.heap.size w wx → Calls Try.prog 26 #[.agg #[.int .i64 x.fin, .int .i64 x.tm, .int .i64 x.tr, .int .i64 x.bm, .int .i64 x.br, .slice p.SA x.sats.length p.sc, .slice p.CA x.custs.length p.cc, .slice p.KA x.cost.length p.kc, .slice p.TA x.time.length p.tc]] wx fun e w' => e = .returned (.int .i64 x.code) ∧ Below wx.heap.size wx w') := Lib.hid (fun wx hb => check_any x p wx (hI.at_ hb) hl)
  obtain ⟨cd, hcd⟩ : ∃ cd, x.code = cd := ⟨_, rfl⟩
  rw [hcd] at HCK hc
  have hcb : (cd != 0) = true := by simpa using hc
  clear hI hl hr hcd hc
  have hS0 := (SL.start (Nat.le_refl w.heap.size)).alloc (x.cells p) 58
  have HS0 := Lib.hid hS0
  clear hS0
  unfold InstV.cells
  go_enter Try.func48, Try.ntmps48
  go_upto_region 2 with fail
  obtain ⟨ib, hib⟩ : ∃ ib, ib = w.heap.size := ⟨_, rfl⟩
  obtain ⟨ic, hic⟩ : ∃ ic : Array Value, ic = #[.int .i64 x.fin, .int .i64 x.tm, .int .i64 x.tr, .int .i64 x.bm, .int .i64 x.br, .slice p.SA x.sats.length p.sc, .slice p.CA x.custs.length p.cc, .slice p.KA x.cost.length p.kc, .slice p.TA x.time.length p.tc] := ⟨_, rfl⟩
  have HIC := Lib.hid hic
  have HS1 : Hid (SL w w.heap.size [.blk ib ic 58] (w.alloc (.cells #[.int .i64 x.fin, .int .i64 x.tm, .int .i64 x.tr, .int .i64 x.bm, .int .i64 x.br, .slice p.SA x.sats.length p.sc, .slice p.CA x.custs.length p.cc, .slice p.KA x.cost.length p.kc, .slice p.TA x.time.length p.tc] 58))) := Lib.hid (by
    have h := HS0.out
    unfold InstV.cells at h
    rw [hib, hic]
    exact h)
  rw [← hib]
  clear hib HS0 hic
  generalize (w.alloc (.cells #[.int .i64 x.fin, .int .i64 x.tm, .int .i64 x.tr, .int .i64 x.bm, .int .i64 x.br, .slice p.SA x.sats.length p.sc, .slice p.CA x.custs.length p.cc, .slice p.KA x.cost.length p.kc, .slice p.TA x.time.length p.tc] 58)) = w1 at *
  go_wp2_with fail
  go_loopw [11, 5, 4] (fun i v5 v4 wr => i = .int .i64 ((0 : Nat) : Int) ∧ SL w w.heap.size [.blk ib ic 58] wr ∧ v5 = .int .i64 0 ∧ v4 = .int .i64 0) (fun i _ _ _ => 0)
  case atStart => exact ⟨rfl, HS1.out, rfl, rfl⟩
  case round =>
    clear HS1
    obtain ⟨rfl, hS, rfl, rfl⟩ := hrel
    by_cases hlt : 0 < l.length
    · obtain ⟨b, o, hA, hb, e00⟩ := ints_at HR.out hlt
      have e0 : wr.cell? ⟨b, o, none⟩ = some (.int .i64 l[0]) := (hS.below.cell (p := ⟨b, o, none⟩) hb).trans e00
      obtain ⟨q, hqq⟩ : ∃ q, q = 1 % l.length := ⟨_, rfl⟩
      have hq : q < l.length := by rw [hqq]; exact Nat.mod_lt _ hlt
      obtain ⟨b', o', hA', hb', e01⟩ := ints_at HR.out hq
      rw [hA] at hA'
      obtain ⟨rfl, rfl⟩ : b = b' ∧ o = o' := by simpa using hA'
      have e1 := (hS.below.cell (p := ⟨b, o + q, none⟩) hb).trans e01
      have hm2 : (1 : Int) % (l.length : Int) = (q : Int) := by rw [hqq]; simp
      have hm1 : (1 : Int).tmod (l.length : Int) = (q : Int) := by rw [Int.tmod_eq_emod_of_nonneg (by omega), hm2]
      obtain ⟨va, hva⟩ : ∃ va, l[0] = va := ⟨_, rfl⟩
      rw [hva] at e0
      have HB0 := Lib.hid hS.below
      have hl1 : (0 : Int) < (l.length : Int) := by omega
      have hne : ¬ (l.length : Int) = 0 := by omega
      have a0 : wr.cell? ⟨ib, 0, none⟩ = some (.int .i64 x.fin) := hS.cell 0 rfl 0 (by rw [HIC.out]; rfl)
      have a1 : wr.cell? ⟨ib, 1, none⟩ = some (.int .i64 x.tm) := hS.cell 0 rfl 1 (by rw [HIC.out]; rfl)
      have a2 : wr.cell? ⟨ib, 2, none⟩ = some (.int .i64 x.tr) := hS.cell 0 rfl 2 (by rw [HIC.out]; rfl)
      have a3 : wr.cell? ⟨ib, 3, none⟩ = some (.int .i64 x.bm) := hS.cell 0 rfl 3 (by rw [HIC.out]; rfl)
      have a4 : wr.cell? ⟨ib, 4, none⟩ = some (.int .i64 x.br) := hS.cell 0 rfl 4 (by rw [HIC.out]; rfl)
      have a5 : wr.cell? ⟨ib, 5, none⟩ = some (.slice p.SA x.sats.length p.sc) := hS.cell 0 rfl 5 (by rw [HIC.out]; rfl)
      have a6 : wr.cell? ⟨ib, 6, none⟩ = some (.slice p.CA x.custs.length p.cc) := hS.cell 0 rfl 6 (by rw [HIC.out]; rfl)
      have a7 : wr.cell? ⟨ib, 7, none⟩ = some (.slice p.KA x.cost.length p.kc) := hS.cell 0 rfl 7 (by rw [HIC.out]; rfl)
      have a8 : wr.cell? ⟨ib, 8, none⟩ = some (.slice p.TA x.time.length p.tc) := hS.cell 0 rfl 8 (by rw [HIC.out]; rfl)
      rw [hA]
      clear e00 e01 hqq hva hS hA' hA
      go_wp2_with (go_at_call 26; (with_reducible refine (HCK.out _ HB0.out).mono ?_); rintro e w2 ⟨rfl, hb2⟩
                   have HB2 := Lib.hid (HB0.out.trans (hb2.mono HB0.out.size))
                   clear hb2)
      go_ret
      exact ⟨rfl, HB2.out⟩
    · have HB0 := Lib.hid hS.below
      clear hS
      go_wp2_with fail
      go_ret
      exact ⟨rfl, HB0.out⟩
theorem customerW (x : InstV) (p : IAt) (c : Int) (w : World) (h1 : x.sats.length ≤ maxLen) : Calls Try.prog 67 #[.agg (x.cells p), .int .i64 c] w fun e w' => (∃ v, e = .returned (.int .i64 v)) ∧ Below w.heap.size w w' := by
  unfold InstV.cells
  unfold maxLen at h1
  go_enter Try.func67, Try.ntmps67
  go_wp2
  go_ret
  exact ⟨⟨_, rfl⟩, (Below.refl _ _).alloc (Nat.le_refl _) _⟩
def SomePost (w : World) (n : Nat) (e : Ending) (w' : World) : Prop := ∃ v l, e = .returned v ∧ List.length l = n ∧ SL w w.heap.size [.row 3 1 v n (l.map (.int .i64))] w'
set_option maxRecDepth 100000 in
set_option maxHeartbeats 4000000 in
theorem bikeNodesW (x : InstV) (p : IAt) (A : Option Addr) (c : Nat) (b : BikeV) (w : World) (hx : x.sats.length ≤ maxLen) (hr : IntsAt w w.heap.size A b.stops) (hl : b.stops.length * 8 ≤ 140737488351232) :
    Calls Try.prog 49 #[.agg #[.int .i64 b.sat, .slice A b.stops.length c], .agg (x.cells p)] w (SomePost w (b.stops.length + 1)) := by
  obtain ⟨i0, hi0, hz0, hz1, hz2⟩ := info_parts info_int
  have HII := Lib.hid (And.intro hi0 (And.intro hz0 (And.intro hz1 hz2)))
  have HR := Lib.hid hr
  have hl2 : b.stops.length ≤ 17592186043904 := by omega
  have HSAT : Hid (∀ wx, Calls Try.prog 66 #[.agg #[.int .i64 x.fin, .int .i64 x.tm, .int .i64 x.tr, .int .i64 x.bm, .int .i64 x.br, .slice p.SA x.sats.length p.sc, .slice p.CA x.custs.length p.cc, .slice p.KA x.cost.length p.kc, .slice p.TA x.time.length p.tc], .int .i64 b.sat] wx fun e w' => e = .returned (.int .i64 (wrap64 (1 + b.sat))) ∧ Below wx.heap.size wx w') := Lib.hid (fun wx => sat_any x p b.sat wx)
  have HCU : Hid (∀ c wx, Calls Try.prog 67 #[.agg #[.int .i64 x.fin, .int .i64 x.tm, .int .i64 x.tr, .int .i64 x.bm, .int .i64 x.br, .slice p.SA x.sats.length p.sc, .slice p.CA x.custs.length p.cc, .slice p.KA x.cost.length p.kc, .slice p.TA x.time.length p.tc], .int .i64 c] wx fun e w' => (∃ v, e = .returned (.int .i64 v)) ∧ Below wx.heap.size wx w') := Lib.hid (fun c wx => customerW x p c wx hx)
  have hS0 := ((SL.start (Nat.le_refl w.heap.size)).alloc #[.int .i64 b.sat, .slice A b.stops.length c] 44).alloc (x.cells p) 58
  have HS0 := Lib.hid hS0
  clear hx hi0 hz0 hz1 hz2 hS0 hr
  unfold InstV.cells
  go_enter Try.func49, Try.ntmps49
  go_upto_region 1 with fail
  obtain ⟨bb, hbb⟩ : ∃ bb, bb = w.heap.size := ⟨_, rfl⟩
  obtain ⟨ib, hib⟩ : ∃ ib, ib = w.heap.size + 1 := ⟨_, rfl⟩
  obtain ⟨bc, hbc⟩ : ∃ bc : Array Value, bc = #[.int .i64 b.sat, .slice A b.stops.length c] := ⟨_, rfl⟩
  obtain ⟨ic, hic⟩ : ∃ ic : Array Value, ic = #[.int .i64 x.fin, .int .i64 x.tm, .int .i64 x.tr, .int .i64 x.bm, .int .i64 x.br, .slice p.SA x.sats.length p.sc, .slice p.CA x.custs.length p.cc, .slice p.KA x.cost.length p.kc, .slice p.TA x.time.length p.tc] := ⟨_, rfl⟩
  have HIC := Lib.hid hic
  have HBC := Lib.hid hbc
  have HS1 : Hid (SL w w.heap.size [.blk ib ic 58, .blk bb bc 44] ((w.alloc (.cells #[.int .i64 b.sat, .slice A b.stops.length c] 44)).alloc (.cells #[.int .i64 x.fin, .int .i64 x.tm, .int .i64 x.tr, .int .i64 x.bm, .int .i64 x.br, .slice p.SA x.sats.length p.sc, .slice p.CA x.custs.length p.cc, .slice p.KA x.cost.length p.kc, .slice p.TA x.time.length p.tc] 58))) := Lib.hid (by
    have h := HS0.out
    unfold InstV.cells at h
    rw [hib, hic, hbb, hbc]
    simpa using h)
  rw [← hib, ← hbb]
  clear hib HS0 hic hbb hbc
  generalize ((w.alloc (.cells #[.int .i64 b.sat, .slice A b.stops.length c] 44)).alloc (.cells #[.int .i64 x.fin, .int .i64 x.tm, .int .i64 x.tr, .int .i64 x.bm, .int .i64 x.br, .slice p.SA x.sats.length p.sc, .slice p.CA x.custs.length p.cc, .slice p.KA x.cost.length p.kc, .slice p.TA x.time.length p.tc] 58)) = w1 at *
  have hS1 := HS1.out
  have a0 : w1.cell? ⟨ib, 0, none⟩ = some (.int .i64 x.fin) := hS1.cell 0 rfl 0 (by rw [HIC.out]; rfl)
  have a1 : w1.cell? ⟨ib, 1, none⟩ = some (.int .i64 x.tm) := hS1.cell 0 rfl 1 (by rw [HIC.out]; rfl)
  have a2 : w1.cell? ⟨ib, 2, none⟩ = some (.int .i64 x.tr) := hS1.cell 0 rfl 2 (by rw [HIC.out]; rfl)
  have a3 : w1.cell? ⟨ib, 3, none⟩ = some (.int .i64 x.bm) := hS1.cell 0 rfl 3 (by rw [HIC.out]; rfl)
  have a4 : w1.cell? ⟨ib, 4, none⟩ = some (.int .i64 x.br) := hS1.cell 0 rfl 4 (by rw [HIC.out]; rfl)
  have a5 : w1.cell? ⟨ib, 5, none⟩ = some (.slice p.SA x.sats.length p.sc) := hS1.cell 0 rfl 5 (by rw [HIC.out]; rfl)
  have a6 : w1.cell? ⟨ib, 6, none⟩ = some (.slice p.CA x.custs.length p.cc) := hS1.cell 0 rfl 6 (by rw [HIC.out]; rfl)
  have a7 : w1.cell? ⟨ib, 7, none⟩ = some (.slice p.KA x.cost.length p.kc) := hS1.cell 0 rfl 7 (by rw [HIC.out]; rfl)
  have a8 : w1.cell? ⟨ib, 8, none⟩ = some (.slice p.TA x.time.length p.tc) := hS1.cell 0 rfl 8 (by rw [HIC.out]; rfl)
  have b0 : w1.cell? ⟨bb, 0, none⟩ = some (.int .i64 b.sat) := hS1.cell 1 rfl 0 (by rw [HBC.out]; rfl)
  have b1 : w1.cell? ⟨bb, 1, none⟩ = some (.slice A b.stops.length c) := hS1.cell 1 rfl 1 (by rw [HBC.out]; rfl)
  clear hS1
  go_upto_region 2 with (go_at_call 66; (with_reducible refine (HSAT.out _).mono ?_); rintro e w2 ⟨rfl, hb⟩
                         have HS2 := Lib.hid (HS1.out.call hb)
                         clear hb b0 b1 a0 a1 a2 a3 a4 a5 a6 a7 a8)
  obtain ⟨g, hg⟩ : ∃ g, g = w2.heap.size := ⟨_, rfl⟩
  have HS3 : Hid (SL w w.heap.size [.row 3 1 (.slice (some ⟨g, 0, none⟩) 1 1) 1 [.int .i64 (wrap64 (1 + b.sat))], .blk ib ic 58, .blk bb bc 44] (w2.alloc (.cells #[.int .i64 (wrap64 (1 + b.sat))] 3))) := Lib.hid (by
    rw [hg]
    exact (HS2.out.alloc #[.int .i64 (wrap64 (1 + b.sat))] 3).blkRow 0 rfl 1 1 (by unfold maxLen; omega) rfl)
  rw [← hg]
  clear hg HS2 HS1
  generalize (w2.alloc (.cells #[.int .i64 (wrap64 (1 + b.sat))] 3)) = w3 at *
  have b1 : w3.cell? ⟨bb, 1, none⟩ = some (.slice A b.stops.length c) := HS3.out.cell 2 rfl 1 (by rw [HBC.out]; rfl)
  go_wp2_with fail
  clear b1
  go_loopw [16, 5] (fun i v5 wr => ∃ (k : Nat) (l : List Int), k ≤ b.stops.length ∧ i = .int .i64 k ∧ Hid (l.length = k + 1) ∧ SL w w.heap.size [.row 3 1 v5 (k + 1) (l.map (.int .i64)), .blk ib ic 58, .blk bb bc 44] wr) (fun i _ _ => b.stops.length - (intOf i).toNat)
  case atStart => exact ⟨0, [wrap64 (1 + b.sat)], by omega, rfl, Lib.hid rfl, HS3.out⟩
  case round =>
    clear HS3
    obtain ⟨k, l, hk, rfl, HLL, hS⟩ := hrel
    by_cases hlt : k < b.stops.length
    · obtain ⟨g1, o1, hA, hg1, e00⟩ := ints_at HR.out hlt
      have e0 := (hS.below.cell (p := ⟨g1, o1 + k, none⟩) hg1).trans e00
      obtain ⟨s, hs⟩ : ∃ s, b.stops[k] = s := ⟨_, rfl⟩
      rw [hs] at e0
      obtain ⟨A5, c5, rfl, _, _⟩ := (hS.row 0 rfl).slice_
      have a0 : wr.cell? ⟨ib, 0, none⟩ = some (.int .i64 x.fin) := hS.cell 1 rfl 0 (by rw [HIC.out]; rfl)
      have a1 : wr.cell? ⟨ib, 1, none⟩ = some (.int .i64 x.tm) := hS.cell 1 rfl 1 (by rw [HIC.out]; rfl)
      have a2 : wr.cell? ⟨ib, 2, none⟩ = some (.int .i64 x.tr) := hS.cell 1 rfl 2 (by rw [HIC.out]; rfl)
      have a3 : wr.cell? ⟨ib, 3, none⟩ = some (.int .i64 x.bm) := hS.cell 1 rfl 3 (by rw [HIC.out]; rfl)
      have a4 : wr.cell? ⟨ib, 4, none⟩ = some (.int .i64 x.br) := hS.cell 1 rfl 4 (by rw [HIC.out]; rfl)
      have a5 : wr.cell? ⟨ib, 5, none⟩ = some (.slice p.SA x.sats.length p.sc) := hS.cell 1 rfl 5 (by rw [HIC.out]; rfl)
      have a6 : wr.cell? ⟨ib, 6, none⟩ = some (.slice p.CA x.custs.length p.cc) := hS.cell 1 rfl 6 (by rw [HIC.out]; rfl)
      have a7 : wr.cell? ⟨ib, 7, none⟩ = some (.slice p.KA x.cost.length p.kc) := hS.cell 1 rfl 7 (by rw [HIC.out]; rfl)
      have a8 : wr.cell? ⟨ib, 8, none⟩ = some (.slice p.TA x.time.length p.tc) := hS.cell 1 rfl 8 (by rw [HIC.out]; rfl)
      have HS := Lib.hid hS
      rw [hA]
      clear hs hA hS e00
      go_wp2_with (first
        | (go_at_call 67; (with_reducible refine (HCU.out s _).mono ?_); rintro e w5 ⟨⟨cv, rfl⟩, hb⟩
           have HS5 := Lib.hid (HS.out.call hb)
           clear hb a0 a1 a2 a3 a4 a5 a6 a7 a8)
        | (at_builtin; refine stopHere ?_))
      show wpList _ _ _ _ _ _
      refine wpList_append_slw rfl _ _ 42 rfl HS5.out 0 i0 (.int .i64 0) 1 8 Try.underlying42 HII.out.1 HII.out.2.1 HII.out.2.2.1 HII.out.2.2.2 rfl (by decide) _ _ 1 _ rfl rfl _ rfl rfl (by decide) rfl (by simp [Value.oneCell']) (by unfold maxLen; omega) (by omega) ?_
      intro v' w6 hS6 hz6
      have HS6 := Lib.hid hS6
      clear HS5 hS6 hz6
      go_wp2_with fail
      go_roundw
      case rel =>
        refine ⟨k + 1, l ++ [cv], by omega, by go_num, Lib.hid (by rw [List.length_append, HLL.out]; rfl), ?_⟩
        rw [List.map_append]
        exact HS6.out
      case measure => simp [intOf]; omega
    · obtain rfl : k = b.stops.length := by omega
      have HS := Lib.hid hS
      clear hS hlt
      go_wp2_with fail
      go_ret
      refine ⟨_, l, rfl, HLL.out, ?_⟩
      exact HS.out.sub (.cons_cons _ (.cons _ (.cons _ .slnil)))
set_option maxRecDepth 100000 in
set_option maxHeartbeats 4000000 in
theorem rounds_badW (x : InstV) (p : IAt) (A : Option Addr) (c : Nat) (bs : List BikeV) (w : World) (hI : InstIn w w.heap.size p x) (hlx : InstL x) (hc : x.code ≠ 0) (hB : Bikes w w.heap.size A bs) (hl : bs.length ≤ maxLen) (hs : ∀ b ∈ bs, b.stops.length * 8 ≤ 140737488351232) :
    Calls Try.prog 23 #[.agg (x.cells p), .slice A bs.length c] w fun e w' => e = .returned (.int .i64 0) ∧ Below w.heap.size w w' := by
  unfold maxLen at hl
  have HWY : Hid (∀ A c l wx, Below w.heap.size w wx → IntsAt wx wx.heap.size A l → l.length ≤ 70368744177664 → Calls Try.prog 48 #[.agg #[.int .i64 x.fin, .int .i64 x.tm, .int .i64 x.tr, .int .i64 x.bm, .int .i64 x.br, .slice p.SA x.sats.length p.sc, .slice p.CA x.custs.length p.cc, .slice p.KA x.cost.length p.kc, .slice p.TA x.time.length p.tc], .slice A l.length c] wx fun e w' => e = .returned (.int .i64 0) ∧ Below wx.heap.size wx w') := Lib.hid (fun A c l wx hb hr hl => way_badW x p A c l wx (hI.at_ hb) hlx hr hl hc)
  have HBN : Hid (∀ A c (b : BikeV) wx, IntsAt wx wx.heap.size A b.stops → b.stops.length * 8 ≤ 140737488351232 → Calls Try.prog 49 #[.agg #[.int .i64 b.sat, .slice A b.stops.length c], .agg #[.int .i64 x.fin, .int .i64 x.tm, .int .i64 x.tr, .int .i64 x.bm, .int .i64 x.br, .slice p.SA x.sats.length p.sc, .slice p.CA x.custs.length p.cc, .slice p.KA x.cost.length p.kc, .slice p.TA x.time.length p.tc]] wx (SomePost wx (b.stops.length + 1))) := Lib.hid (fun A c b wx hr hl => bikeNodesW x p A c b wx hlx.sats hr hl)
  have HB := Lib.hid hB
  have HSL := Lib.hid hs
  have hS0 := (SL.start (Nat.le_refl w.heap.size)).alloc (x.cells p) 58
  obtain ⟨n, hn⟩ : ∃ n, bs.length = n := ⟨_, rfl⟩
  have HN := Lib.hid hn
  rw [hn] at hl ⊢
  unfold InstV.cells at hS0 ⊢
  have HS0 := Lib.hid hS0
  clear hI hlx hc hB hs hS0 hn
  go_enter Try.func23, Try.ntmps23
  go_upto_region 3 with fail
  obtain ⟨ib, hib⟩ : ∃ b, w.heap.size = b := ⟨_, rfl⟩
  obtain ⟨w1, hw1⟩ : ∃ w1, w.alloc (.cells #[.int .i64 x.fin, .int .i64 x.tm, .int .i64 x.tr, .int .i64 x.bm, .int .i64 x.br, .slice p.SA x.sats.length p.sc, .slice p.CA x.custs.length p.cc, .slice p.KA x.cost.length p.kc, .slice p.TA x.time.length p.tc] 58) = w1 := ⟨_, rfl⟩
  obtain ⟨ic, hic⟩ : ∃ ic : Array Value, ic = #[.int .i64 x.fin, .int .i64 x.tm, .int .i64 x.tr, .int .i64 x.bm, .int .i64 x.br, .slice p.SA x.sats.length p.sc, .slice p.CA x.custs.length p.cc, .slice p.KA x.cost.length p.kc, .slice p.TA x.time.length p.tc] := ⟨_, rfl⟩
  have HIC := Lib.hid hic
  have HS1 : Hid (SL w w.heap.size [.blk ib ic 58] w1) := Lib.hid (by rw [← hw1, ← hib, hic]; exact HS0.out)
  rw [hw1, hib]
  clear hic HS0 hib hw1
  go_loopw [10, 5] (fun i v5 wr => ∃ k : Nat, k ≤ n ∧ i = .int .i64 k ∧ v5 = .int .i64 0 ∧ SL w w.heap.size [.blk ib ic 58] wr) (fun i _ _ => n - (intOf i).toNat)
  case atStart => exact ⟨0, by omega, rfl, rfl, HS1.out⟩
  case round =>
    clear HS1
    obtain ⟨k, hk, rfl, rfl, hS⟩ := hrel
    by_cases hlt : k < n
    · have hkb : k < bs.length := by rw [HN.out]; exact hlt
      obtain ⟨b, o, a, c, hBA, hb, d00, d01, hst⟩ := bikes_at HB.out hkb
      have d0 := (hS.below.cell (p := ⟨b, o + k * 2, none⟩) hb).trans d00
      have d1 := (hS.below.cell (p := ⟨b, o + k * 2 + 1, none⟩) hb).trans d01
      have htl := HSL.out _ (List.getElem_mem hkb)
      obtain ⟨t, ht⟩ : ∃ t, bs[k] = t := ⟨_, rfl⟩
      rw [ht] at d0 d1 hst htl
      have hS2 := hS.alloc #[.int .i64 t.sat, .slice a t.stops.length c] 44
      have HST := Lib.hid hst
      have HS2 := Lib.hid hS2
      rw [hBA]
      clear ht hst hS hS2 hBA d00 d01
      go_upto_region 5 with fail
      obtain ⟨tb, htb⟩ : ∃ tb, wr.heap.size = tb := ⟨_, rfl⟩
      obtain ⟨w3, hw3⟩ : ∃ w3, wr.alloc (.cells #[.int .i64 t.sat, .slice a t.stops.length c] 44) = w3 := ⟨_, rfl⟩
      rw [htb, hw3] at HS2
      rw [htb, hw3]
      clear htb hw3 d0 d1 hb
      have y1 : w3.cell? ⟨tb, 1, none⟩ = some (.slice a t.stops.length c) := HS2.out.cell 0 rfl 1 rfl
      by_cases hz : t.stops.length = 0
      · have hz2 : decide (0 < (t.stops.length : Int)) = false := decide_eq_false (by omega)
        have hz3 : ¬ (0 : Int) < (t.stops.length : Int) := by omega
        go_wp2_with fail
        go_roundw
        case rel => exact ⟨k + 1, by omega, by go_num, rfl, HS2.out.tail⟩
        case measure => simp [intOf]; omega
      · have hz3 : (0 : Int) < (t.stops.length : Int) := by omega
        go_upto_region 6 with fail
        clear y1
        refine wp_region_sl [0,1,2,3] [4,5] [6,7] _ HS2.out (List.Sublist.refl _) (by kernel_rfl) (by kernel_rfl) (.cons rfl (.cons rfl .nil)) (fun C cw _ hC => ?_)
        have q0 : ∀ c, (cw c).cell? ⟨ib, 0, none⟩ = some (.int .i64 x.fin) := fun c => (hC c).cell 1 rfl 0 (by rw [HIC.out]; rfl)
        have q1 : ∀ c, (cw c).cell? ⟨ib, 1, none⟩ = some (.int .i64 x.tm) := fun c => (hC c).cell 1 rfl 1 (by rw [HIC.out]; rfl)
        have q2 : ∀ c, (cw c).cell? ⟨ib, 2, none⟩ = some (.int .i64 x.tr) := fun c => (hC c).cell 1 rfl 2 (by rw [HIC.out]; rfl)
        have q3 : ∀ c, (cw c).cell? ⟨ib, 3, none⟩ = some (.int .i64 x.bm) := fun c => (hC c).cell 1 rfl 3 (by rw [HIC.out]; rfl)
        have q4 : ∀ c, (cw c).cell? ⟨ib, 4, none⟩ = some (.int .i64 x.br) := fun c => (hC c).cell 1 rfl 4 (by rw [HIC.out]; rfl)
        have q5 : ∀ c, (cw c).cell? ⟨ib, 5, none⟩ = some (.slice p.SA x.sats.length p.sc) := fun c => (hC c).cell 1 rfl 5 (by rw [HIC.out]; rfl)
        have q6 : ∀ c, (cw c).cell? ⟨ib, 6, none⟩ = some (.slice p.CA x.custs.length p.cc) := fun c => (hC c).cell 1 rfl 6 (by rw [HIC.out]; rfl)
        have q7 : ∀ c, (cw c).cell? ⟨ib, 7, none⟩ = some (.slice p.KA x.cost.length p.kc) := fun c => (hC c).cell 1 rfl 7 (by rw [HIC.out]; rfl)
        have q8 : ∀ c, (cw c).cell? ⟨ib, 8, none⟩ = some (.slice p.TA x.time.length p.tc) := fun c => (hC c).cell 1 rfl 8 (by rw [HIC.out]; rfl)
        have qt : ∀ d, (cw d).cell? ⟨tb, 0, none⟩ = some (.int .i64 t.sat) := fun d => (hC d).cell 0 rfl 0 rfl
        have qs : ∀ d, (cw d).cell? ⟨tb, 1, none⟩ = some (.slice a t.stops.length c) := fun d => (hC d).cell 0 rfl 1 rfl
        repeat (refine pl_look rfl rfl rfl (fun Kv hK => ?_); go_big_quiet_op; refine hK _ ?_; clear hK Kv)
        clear q0 q1 q2 q3 q4 q5 q6 q7 q8 qt qs hC HS2
        refine pl_end ?_
        intro w4 hS4
        refine pm_eff rfl rfl fun Kv hK => ?_
        go_simp
        refine eff_call (HBN.out a c t w4 (reads_more (Reads.below HST.out hS4.below) hS4.size) htl) (fun e w5 h => ?_)
        obtain ⟨v, nl, rfl, hnl, hq⟩ := h
        rw [← hnl] at hq
        have HNL := Lib.hid hnl
        clear hnl
        obtain ⟨NA, nc, rfl, _, _⟩ := (hq.row 0 rfl).slice_
        have hS5 := hS4.join hq
        clear hq
        left
        refine ⟨_, rfl, hS5.tail, hK _ _ ?_⟩
        clear hK Kv hS4
        refine pm_eff rfl rfl fun Kv hK => ?_
        go_simp
        refine eff_call (HWY.out NA nc nl w5 hS5.below (hS5.reads 0 rfl) (by rw [HNL.out]; omega)) (fun e w6 h => ?_)
        obtain ⟨rfl, hb6⟩ := h
        have HS6 := Lib.hid (hS5.call hb6)
        clear hb6 hS5
        left
        refine ⟨_, rfl, HS6.out.tail, hK _ _ ?_⟩
        clear hK Kv
        refine pm_end ?_
        go_wp2_with fail
        go_roundw
        case rel => exact ⟨k + 1, by omega, by go_num, by first | rfl | go_num, HS6.out.tail.tail⟩
        case measure => simp [intOf]; omega
    · obtain rfl : k = n := by omega
      have HBL := Lib.hid hS.below
      clear hS hlt
      go_wp2_with fail
      go_ret
      exact ⟨rfl, HBL.out⟩
set_option maxRecDepth 100000 in
theorem change_bad (x : InstV) (p : IAt) (A : Option Addr) (n c : Nat) (kd a i b j : Int) (w : World) (hI : InstIn w w.heap.size p x) (hl : InstL x) (hc : x.code ≠ 0) :
    Calls Try.prog 25 #[.agg (x.cells p), .slice A n c, .agg #[.int .i64 kd, .int .i64 a, .int .i64 i, .int .i64 b, .int .i64 j]] w fun e w' => e = .returned (.tuple #[.int .i64 0, .bool false]) ∧ Below w.heap.size w w' := by
  obtain ⟨cd, hcd⟩ : ∃ cd, x.code = cd := ⟨_, rfl⟩
  have HCK : Hid (∀ wx, Below w.heap.size w wx → Calls Try.prog 26 #[.agg #[.int .i64 x.fin, .int .i64 x.tm, .int .i64 x.tr, .int .i64 x.bm, .int .i64 x.br, .slice p.SA x.sats.length p.sc, .slice p.CA x.custs.length p.cc, .slice p.KA x.cost.length p.kc, .slice p.TA x.time.length p.tc]] wx fun e w' => e = .returned (.int .i64 cd) ∧ Below wx.heap.size wx w') := Lib.hid (fun wx hb => by rw [← hcd]; exact check_any x p wx (hI.at_ hb) hl)
  rw [hcd] at hc
  have hcb : (cd != 0) = true := by simpa using hc
  have HS := Lib.hid (((SL.start (Nat.le_refl w.heap.size)).alloc (x.cells p) 58).alloc #[.int .i64 kd, .int .i64 a, .int .i64 i, .int .i64 b, .int .i64 j] 33)
  unfold InstV.cells at HS ⊢
  clear hI hl hcd hc
  go_enter Try.func25, Try.ntmps25
  go_wp2_with (go_at_call 26; (with_reducible refine (HCK.out _ HS.out.below).mono ?_); rintro e w2 ⟨rfl, hb2⟩
               have HS2 := Lib.hid (HS.out.call hb2)
               clear hb2)
  go_ret2
  exact ⟨rfl, HS2.out.below⟩
end Go.Proofs.Ytpbhbmdghafkmaa
