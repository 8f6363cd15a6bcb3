/- move.filled: slices.IndexFunc, slices.DeleteFunc of bikes. (printed by gen/filled.py) -/
import Derived.Test.YtpbhbmdghafkmaaMoveP
import Derived.Test.YtpbhbmdghafkmaaPlanClone
import Derived.Test.YtpbhbmdghafkmaaRowRun
import Derived.Deep.CutBlock
import Derived.Deep.CutRange
import Derived.Deep.DeepCutAuto
namespace Go.Proofs.Ytpbhbmdghafkmaa
open Go.ChangeShapes Go.WideShapes Go.ChangeAt Go.RowKit
set_option linter.unusedVariables false
theorem filled1_any (s : Int) (A : Option Addr) (n c : Nat) (w : World) : Calls Try.prog 61 #[.agg #[.int .i64 s, .slice A n c]] w fun e w' => e = .returned (.bool (decide (n = 0))) ∧ Below w.heap.size w w' := by
 by_cases h0 : n = 0
 · subst h0
   go_enter Try.func61, Try.ntmps61
   go_wp2
   go_ret
   exact ⟨rfl, (Below.refl _ _).alloc (Nat.le_refl _) _⟩
 · have HV : Hid (decide (n = 0) = false) := Lib.hid (decide_eq_false h0)
   obtain ⟨vb, hvb⟩ : ∃ vb, decide (n = 0) = vb := ⟨_, rfl⟩
   rw [hvb] at HV ⊢
   have h1 : 0 < n := by omega
   have h2 : ((n : Int) == 0) = false := by rw [beq_eq_false_iff_ne]; omega
   clear hvb h0
   go_enter Try.func61, Try.ntmps61
   go_wp2
   go_ret
   exact ⟨retBool (by rw [HV.out]), (Below.refl _ _).alloc (Nat.le_refl _) _⟩
def firstE (bs : List BikeV) : Int := if bs.findIdx (fun b => !keepB b) < bs.length then (bs.findIdx (fun b => !keepB b) : Nat) else -1
theorem keep_iff (b : BikeV) : (!keepB b) = decide (b.stops.length = 0) := by
 unfold keepB
 by_cases h : b.stops.length = 0 <;> simp [h]; omega
set_option maxRecDepth 100000 in
theorem firstE_any (A : Option Addr) (c : Nat) (bs : List BikeV) (w : World) (hB : Bikes w w.heap.size A bs) (hl : bs.length ≤ 1000000) :
 Calls Try.prog 79 #[.slice A bs.length c, .func (.func 61) #[] #[]] w fun e w' => e = .returned (.int .i64 (firstE bs)) ∧ Below w.heap.size w w' := by
 have HB := Lib.hid hB
 clear hB
 have hcf : ∀ args w', (callFunc 61 args).run Try.prog w' = .ok (.enter 61 args) w' := fun _ _ => by simp [go_sem]
 go_enter Try.func79, Try.ntmps79
 go_wp2
 go_loopw [8] (fun i wr => ∃ k : Nat, k ≤ bs.length ∧ i = .int .i64 k ∧ Hid (∀ j (h : j < bs.length), j < k → keepB bs[j] = true) ∧ SL w w.heap.size [] wr) (fun i _ => bs.length - (intOf i).toNat)
 case atStart => exact ⟨0, by omega, rfl, Lib.hid (fun j _ h => absurd h (by omega)), SL.start (Nat.le_refl _)⟩
 case round =>
  obtain ⟨k, hk, rfl, HK, hS⟩ := hrel
  by_cases hlt : k < bs.length
  · obtain ⟨b, o, a, cc, hA, hb, d00, d01, _⟩ := bikes_at HB.out hlt
    have d0 := (hS.below.cell (p := ⟨b, o + k * 2, none⟩) hb).trans d00
    have d1 := (hS.below.cell (p := ⟨b, o + k * 2 + 1, none⟩) hb).trans d01
    obtain ⟨t, ht⟩ : ∃ t, bs[k] = t := ⟨_, rfl⟩
    have HT := Lib.hid ht
    rw [ht] at d0 d1
    have HKI := Lib.hid (keep_iff t)
    have HS := Lib.hid hS
    rw [hA]
    clear d00 d01 ht hS hA
    cases hd : decide (t.stops.length = 0)
    case false =>
     have HF := Lib.hid (filled1_any t.sat a t.stops.length cc)
     rw [hd] at HF HKI
     clear hd
     go_wp2_with (go_at_call 61; (with_reducible refine (HF.out _).mono ?_); rintro e w5 ⟨rfl, hb5⟩
                  have HS5 := Lib.hid (HS.out.call hb5)
                  clear hb5)
     go_roundw
     case rel =>
      refine ⟨k + 1, by omega, by go_num, Lib.hid (fun j h hj => ?_), HS5.out⟩
      by_cases e : j = k
      · subst e; rw [HT.out]; have := HKI.out; simpa using this
      · exact HK.out j h (by omega)
     case measure => simp [intOf]; omega
    case true =>
     have HF := Lib.hid (filled1_any t.sat a t.stops.length cc)
     rw [hd] at HF HKI
     clear hd
     have HV : Hid (firstE bs = (k : Int)) := Lib.hid (by
      have h1 : bs.findIdx (fun b => !keepB b) = k := (List.findIdx_eq hlt).2 ⟨by rw [HT.out, HKI.out], fun j hj => by rw [HK.out j (by omega) hj]; rfl⟩
      unfold firstE
      rw [h1, if_pos hlt])
     go_wp2_with (go_at_call 61; (with_reducible refine (HF.out _).mono ?_); rintro e w5 ⟨rfl, hb5⟩
                  have HS5 := Lib.hid (HS.out.call hb5)
                  clear hb5)
     go_ret
     exact ⟨retInt HV.out.symm, HS5.out.below⟩
  · obtain rfl : k = bs.length := by omega
    have HV : Hid (firstE bs = -1) := Lib.hid (by
     have h1 : bs.findIdx (fun b => !keepB b) = bs.length := List.findIdx_eq_length.2 fun b hb => by
      obtain ⟨j, hj, rfl⟩ := List.getElem_of_mem hb
      rw [HK.out j hj hj]; rfl
     unfold firstE
     rw [h1, if_neg (by omega)])
    have HS := Lib.hid hS
    clear hS hlt
    go_wp2_with fail
    go_ret
    exact ⟨retInt HV.out.symm, HS.out.below⟩
def keepP (q : BikeV × Value) : Bool := keepB q.1
theorem zero_bikes (m : Nat) : ((Builtin.zeroCells (Value.agg #[.int .i64 0, .slice none 0 0]).cells m).toList).length = m * 2 ∧ ∀ u ∈ (Builtin.zeroCells (Value.agg #[.int .i64 0, .slice none 0 0]).cells m).toList, u.oneCell' = true := by
 constructor
 · rw [Array.length_toList, size_zeroCells]; rfl
 · intro u hu
   obtain ⟨i, hi, rfl⟩ := List.getElem_of_mem hu
   simp only [Builtin.zeroCells, Value.cells, Array.getElem_toList, Array.getElem_map, Array.getElem_range]
   have h2 : i % 2 < 2 := Nat.mod_lt _ (by decide)
   have : i % 2 = 0 ∨ i % 2 = 1 := by omega
   rcases this with h | h <;> simp [h, Value.oneCell']
theorem bikesT_elem : Try.prog.underlying 27 = some (.slice (Try.prog.elem 27)) := by kernel_rfl
theorem bikesT_size (w : World) : (sizeOf (Try.prog.elem 27)).run Try.prog w = .ok 2 w := by kernel_rfl
theorem clear_bikes (ty : TypeId) (g o m c : Nat) (w : World) (hm : 0 < m) (hc : ∀ j, j < m * 2 → (w.cell? ⟨g, o + j, none⟩).isSome = true) (hf : ∀ j, j < m * 2 → w.frozen? ⟨g, o + j, none⟩ = false) :
 (Builtin.clear_ #[27] ty #[.slice (some ⟨g, o, none⟩) m c]).run Try.prog w = .ok (.tuple #[]) (w.setCells g o (Builtin.zeroCells (Value.agg #[.int .i64 0, .slice none 0 0]).cells m).toList) := by
 obtain ⟨zs, hzs⟩ : ∃ zs, (Builtin.zeroCells (Value.agg #[.int .i64 0, .slice none 0 0]).cells m).toList = zs := ⟨_, rfl⟩
 have hz := zero_bikes m
 rw [hzs] at hz ⊢
 have hst := run_storeCells_cells (P := Try.prog) g o zs 0 w (by rw [hz.1]; simpa using hc) (by rw [hz.1]; simpa using hf) hz.2
 simp only [Nat.add_zero] at hst
 have hzv : (zeroValue 44).run Try.prog w = .ok (.agg #[.int .i64 0, .slice none 0 0]) w := by kernel_rfl
 obtain ⟨m, rfl⟩ : ∃ k, m = k + 1 := ⟨m - 1, by omega⟩
 simp [Builtin.clear_, run_underlying Try.underlying27, hzv, hzs, hst]
theorem heads_append (N : Nest BikeV) (a b : List (BikeV × Value)) : N.heads (a ++ b) = N.heads a ++ N.heads b := by unfold Nest.heads; rw [List.flatMap_append]
theorem heads_get {N : Nest BikeV} (hN : N.Ok) (l : List (BikeV × Value)) (k j : Nat) (hk : k < l.length) (hj : j < N.S) : (N.heads l)[k * N.S + j]? = (N.head l[k])[j]? := flat_get N.head N.S (Nest.head_len hN) l k j hk hj
theorem drop_cons' {α : Type} (l : List α) (i : Nat) (h : i < l.length) : l.drop i = l[i] :: l.drop (i + 1) := by rw [List.drop_eq_getElem_cons h]
/-- The row that DeleteFunc is at: what was kept, then what stood there. -/
def mid (qs ps : List (BikeV × Value)) : List (BikeV × Value) := qs ++ ps.drop qs.length
theorem mid_len {qs ps : List (BikeV × Value)} (h : qs.length ≤ ps.length) : (mid qs ps).length = ps.length := by unfold mid; simp; omega
theorem mid_get {qs ps : List (BikeV × Value)} {j : Nat} (h : qs.length ≤ j) (hj : j < ps.length) : (mid qs ps)[j]'(by rw [mid_len (by omega)]; exact hj) = ps[j] := by
 unfold mid
 rw [List.getElem_append_right h, List.getElem_drop]
 congr 1; omega
theorem mid_step {qs ps : List (BikeV × Value)} (h : qs.length < ps.length) (q : BikeV × Value) (T t : TypeId) :
 ((bikeN T t).heads (mid qs ps)).take (qs.length * 2) ++ (bikeN T t).head q ++ ((bikeN T t).heads (mid qs ps)).drop (qs.length * 2 + 2) = (bikeN T t).heads (mid (qs ++ [q]) ps) := by
 have e1 : (bikeN T t).heads (mid qs ps) = (bikeN T t).heads qs ++ ((bikeN T t).head ps[qs.length] ++ (bikeN T t).heads (ps.drop (qs.length + 1))) := by
  unfold mid
  rw [heads_append, drop_cons' ps qs.length h]
  rfl
 have l1 : ((bikeN T t).heads qs).length = qs.length * 2 := Nest.heads_len (bikeN_ok T t) qs
 have l2 : ((bikeN T t).head ps[qs.length]).length = 2 := rfl
 have e2 : (bikeN T t).heads (mid (qs ++ [q]) ps) = (bikeN T t).heads qs ++ ((bikeN T t).head q ++ (bikeN T t).heads (ps.drop (qs.length + 1))) := by
  unfold mid
  rw [heads_append, heads_append, List.length_append, List.append_assoc]
  have : (bikeN T t).heads [q] = (bikeN T t).head q := by unfold Nest.heads; simp
  rw [this]; rfl
 rw [e1, e2, List.take_append_of_le_length (by omega), List.take_of_length_le (by omega), List.append_assoc]
 congr 2
 rw [← l1, List.drop_append, List.drop_append]
 simp [l2, Nest.head, bikeN]
def FillPost (W : World) (B : Nat) (R : List Rs) (ps : List (BikeV × Value)) (e : Ending) (w' : World) : Prop := ∃ v', e = .returned v' ∧ SL W B ((bikeN 44 3).own v' (ps.filter keepP) ++ R) w'
theorem filter_all {ps : List (BikeV × Value)} (h : ∀ q ∈ ps, keepP q = true) : ps.filter keepP = ps := List.filter_eq_self.2 h
set_option maxRecDepth 100000 in
set_option maxHeartbeats 2000000 in
theorem deleteE_any (W : World) (B : Nat) (R : List Rs) (w : World) (A : Option Addr) (c : Nat) (ps : List (BikeV × Value)) (hS : SL W B ((bikeN 44 3).own (.slice A ps.length c) ps ++ R) w) (hl : ps.length ≤ 1000000) :
 Calls Try.prog 60 #[.slice A ps.length c, .func (.func 61) #[] #[]] w (FillPost W B R ps) := by
 have hBk := bikes_own hS (fun r hr => List.mem_append_left _ hr)
 have HFI := firstE_any A c (ps.map (·.1)) w hBk (by simpa using hl)
 rw [List.length_map] at HFI
 have hfl : (ps.map (·.1)).length = ps.length := by simp
 have hcf : ∀ args w', (callFunc 61 args).run Try.prog w' = .ok (.enter 61 args) w' := fun _ _ => by simp [go_sem]
 by_cases hz : (ps.map (·.1)).findIdx (fun b => !keepB b) < ps.length
 case neg =>
  have HV : Hid (firstE (ps.map (·.1)) = -1) := Lib.hid (by unfold firstE; rw [hfl, if_neg hz])
  have HA : Hid (ps.filter keepP = ps) := Lib.hid (filter_all fun q hq => by
   have h1 := List.findIdx_eq_length.1 (show (ps.map (·.1)).findIdx (fun b => !keepB b) = (ps.map (·.1)).length by have := List.findIdx_le_length (xs := ps.map (·.1)) (p := fun b => !keepB b); omega) q.1 (List.mem_map_of_mem hq)
   unfold keepP; simpa using h1)
  rw [HV.out] at HFI
  have HF := Lib.hid HFI
  have HS := Lib.hid hS
  clear hS hBk HFI hfl hz
  go_enter Try.func60, Try.ntmps60
  go_wp2_with (go_at_call 79; (with_reducible refine HF.out.mono ?_); rintro e w2 ⟨rfl, hb⟩
               have HS2 := Lib.hid (HS.out.call hb)
               clear hb)
  go_ret
  exact ⟨_, rfl, by rw [HA.out]; exact HS2.out⟩
 case pos =>
 obtain ⟨k, hk⟩ : ∃ k, (ps.map (·.1)).findIdx (fun b => !keepB b) = k := ⟨_, rfl⟩
 rw [hk] at hz
 have HV : Hid (firstE (ps.map (·.1)) = (k : Int)) := Lib.hid (by unfold firstE; rw [hfl, hk, if_pos hz])
 have hkk := (List.findIdx_eq (by rw [hfl]; exact hz)).1 hk
 have hq0 : (ps.take (k + 1)).filter keepP = ps.take k := by
  rw [List.take_succ_eq_append_getElem hz, List.filter_append, filter_all (fun q hq => by
   obtain ⟨j, hj, rfl⟩ := List.getElem_of_mem hq
   have hj' : j < k := by have := hj; rw [List.length_take] at this; omega
   have := hkk.2 j hj'
   rw [List.getElem_take]
   unfold keepP; simpa using this)]
  have h1 : keepP ps[k] = false := by have := hkk.1; unfold keepP; simpa using this
  simp [h1]
 obtain ⟨g, off, rfl⟩ : ∃ g off, A = some ⟨g, off, none⟩ := by
  rcases (own_outer hS (fun r hr => List.mem_append_left _ hr)).in_ with h | ⟨g, off, cap, h, _⟩
  · omega
  · simp only [Value.slice.injEq] at h; exact ⟨g, off, h.1⟩
 have hcap : ps.length ≤ c := by
  obtain ⟨_, _, e, h, _⟩ := (own_outer hS (fun r hr => List.mem_append_left _ hr)).slice_
  cases e; exact h
 have hS1 : SL W B (.row 44 2 (.slice (some ⟨g, off, none⟩) ps.length c) ps.length ((bikeN 44 3).heads (mid (ps.take k) ps)) :: (ps.map (bikeN 44 3).inner ++ R)) w := by
  have e1 : mid (ps.take k) ps = ps := by unfold mid; rw [List.length_take, Nat.min_eq_left (by omega), List.take_append_drop]
  rw [e1]; exact hS
 have HQ0 := Lib.hid hq0
 have HF : Hid (Calls Try.prog 79 #[.slice (some ⟨g, off, none⟩) ps.length c, .func (.func 61) #[] #[]] w fun e w' => e = .returned (.int .i64 (k : Int)) ∧ Below w.heap.size w w') := Lib.hid (by rw [HV.out] at HFI; exact HFI)
 have HS := Lib.hid hS1
 have hkm1 : ((k : Int) == -1) = false := by rw [beq_eq_false_iff_ne]; omega
 clear hS hS1 hBk HFI hfl hkk hq0 hk HV
 go_enter Try.func60, Try.ntmps60
 go_upto_region 5 with (go_at_call 79; (with_reducible refine HF.out.mono ?_); rintro e w2 ⟨rfl, hb⟩
                        have HS2 := Lib.hid (HS.out.call hb)
                        clear hb)
 clear HS HF hkm1
 go_loopw [6, 5] (fun jv iv wr => ∃ (j i : Nat) (qs : List (BikeV × Value)), j ≤ ps.length ∧ jv = .int .i64 j ∧ iv = .int .i64 i ∧ i < j ∧ Hid (qs.length = i ∧ (ps.take j).filter keepP = qs) ∧ SL W B (.row 44 2 (.slice (some ⟨g, off, none⟩) ps.length c) ps.length ((bikeN 44 3).heads (mid qs ps)) :: (ps.map (bikeN 44 3).inner ++ R)) wr) (fun jv _ _ => ps.length - (intOf jv).toNat)
 case atStart => exact ⟨k + 1, k, ps.take k, by omega, by go_num, rfl, by omega, Lib.hid ⟨by rw [List.length_take]; omega, HQ0.out⟩, HS2.out⟩
 case round =>
  clear HS2
  obtain ⟨j, i, qs, hj, rfl, rfl, hij, HQ, hS⟩ := hrel
  obtain ⟨hqi, hqs⟩ := HQ.out
  by_cases hlt : j < ps.length
  · have hml : (mid qs ps).length = ps.length := mid_len (by omega)
    have hmg : (mid qs ps)[j]'(by omega) = ps[j] := mid_get (by omega) hlt
    have hin := hS.row (j + 1) (by rw [List.getElem?_cons_succ, List.getElem?_append_left (by simpa using hlt), List.getElem?_map, List.getElem?_eq_getElem hlt]; rfl)
    obtain ⟨aj, cj, hsl0, _, _⟩ := hin.slice_
    have hsl : ps[j].2 = .slice aj ps[j].1.stops.length cj := hsl0
    clear hsl0
    have d0 : wr.cell? ⟨g, off + j * 2, none⟩ = some (.int .i64 ps[j].1.sat) := hS.rowCell 0 rfl (j * 2) (by
     have := heads_get (bikeN_ok 44 3) (mid qs ps) j 0 (by omega) (by decide)
     rw [hmg] at this; exact this)
    have d1 : wr.cell? ⟨g, off + j * 2 + 1, none⟩ = some ps[j].2 := hS.rowCell 0 rfl (j * 2 + 1) (by
     have := heads_get (bikeN_ok 44 3) (mid qs ps) j 1 (by omega) (by decide)
     rw [hmg] at this; exact this)
    rw [hsl] at d1
    have HTK := Lib.hid (List.take_succ_eq_append_getElem hlt)
    have HQQ := Lib.hid (And.intro hqi hqs)
    have HHD : Hid ((bikeN 44 3).head ps[j] = [.int .i64 ps[j].1.sat, .slice aj ps[j].1.stops.length cj]) := Lib.hid (by unfold Nest.head; rw [hsl]; rfl)
    have HKI : Hid ((!keepP ps[j]) = decide (ps[j].1.stops.length = 0)) := Lib.hid (keep_iff ps[j].1)
    obtain ⟨t, ht⟩ : ∃ t, ps[j] = t := ⟨_, rfl⟩
    rw [ht] at d0 d1 HTK HHD HKI
    have HS := Lib.hid hS
    have HSB : Hid (SL W B (.blk wr.heap.size #[.int .i64 t.1.sat, .slice aj t.1.stops.length cj] 44 :: .row 44 2 (.slice (some ⟨g, off, none⟩) ps.length c) ps.length ((bikeN 44 3).heads (mid qs ps)) :: (ps.map (bikeN 44 3).inner ++ R)) (wr.alloc (.cells #[.int .i64 t.1.sat, .slice aj t.1.stops.length cj] 44))) := Lib.hid (hS.alloc _ _)
    clear hS hmg hin hsl ht hqi hqs hml
    go_upto_region 8 with fail
    obtain ⟨tb, htb⟩ : ∃ tb, tb = wr.heap.size := ⟨_, rfl⟩
    generalize (wr.alloc (.cells #[.int .i64 t.1.sat, .slice aj t.1.stops.length cj] 44)) = w5 at *
    rw [← htb] at HSB ⊢
    clear htb d0 d1 HS
    have t0 : w5.cell? ⟨tb, 0, none⟩ = some (.int .i64 t.1.sat) := HSB.out.cell 0 rfl 0 rfl
    have t1 : w5.cell? ⟨tb, 1, none⟩ = some (.slice aj t.1.stops.length cj) := HSB.out.cell 0 rfl 1 rfl
    have HF1 := Lib.hid (filled1_any t.1.sat aj t.1.stops.length cj)
    cases hd : decide (t.1.stops.length = 0)
    case true =>
     rw [hd] at HF1 HKI
     clear hd
     have HN : Hid ((ps.take (j + 1)).filter keepP = qs) := Lib.hid (by
      have h1 : keepP t = false := by have := HKI.out; simpa using this
      rw [HTK.out, List.filter_append, HQQ.out.2]; simp [h1])
     go_wp2_with (go_at_call 61; (with_reducible refine (HF1.out _).mono ?_); rintro e w6 ⟨rfl, hb6⟩
                  have HS6 := Lib.hid (HSB.out.call hb6).tail
                  clear hb6)
     go_roundw
     case rel => exact ⟨j + 1, i, qs, by omega, by go_num, rfl, by omega, Lib.hid ⟨HQQ.out.1, HN.out⟩, HS6.out⟩
     case measure => simp [intOf]; omega
    case false =>
     rw [hd] at HF1 HKI
     clear hd
     have HN : Hid ((ps.take (j + 1)).filter keepP = qs ++ [t]) := Lib.hid (by
      have h1 : keepP t = true := by have := HKI.out; simpa using this
      rw [HTK.out, List.filter_append, HQQ.out.2]; simp [h1])
     go_upto_region 9 with (go_at_call 61; (with_reducible refine (HF1.out _).mono ?_); rintro e w6 ⟨rfl, hb6⟩
                            have HS6 := Lib.hid (HSB.out.call hb6)
                            clear hb6 t0 t1)
     have hi : i < ps.length := by omega
     have t0 : w6.cell? ⟨tb, 0, none⟩ = some (.int .i64 t.1.sat) := HS6.out.cell 0 rfl 0 rfl
     have t1 : w6.cell? ⟨tb, 1, none⟩ = some (.slice aj t.1.stops.length cj) := HS6.out.cell 0 rfl 1 rfl
     have hml : ((bikeN 44 3).heads (mid qs ps)).length = ps.length * 2 := by rw [Nest.heads_len (bikeN_ok _ _), mid_len (by have := HQQ.out.1; omega)]; rfl
     have y0 : (w6.cell? ⟨g, off + i * 2, none⟩).isSome = true := by rw [HS6.out.rowCell 1 rfl (i * 2) (List.getElem?_eq_getElem (by omega))]; rfl
     have y1 : (w6.cell? ⟨g, off + i * 2 + 1, none⟩).isSome = true := by rw [Nat.add_assoc, HS6.out.rowCell 1 rfl (i * 2 + 1) (List.getElem?_eq_getElem (by omega))]; rfl
     obtain ⟨u0, hu0⟩ := Option.isSome_iff_exists.1 y0
     obtain ⟨u1, hu1⟩ := Option.isSome_iff_exists.1 y1
     have f0 := HS6.out.rowFree 1 rfl (off + i * 2) (by omega)
     have f1 := HS6.out.rowFree 1 rfl (off + i * 2 + 1) (by omega)
     have HS7 : Hid (SL W B (.row 44 2 (.slice (some ⟨g, off, none⟩) ps.length c) ps.length ((bikeN 44 3).heads (mid (qs ++ [t]) ps)) :: (ps.map (bikeN 44 3).inner ++ R)) ((w6.setCell ⟨g, off + i * 2, none⟩ (.int .i64 t.1.sat)).setCell ⟨g, off + i * 2 + 1, none⟩ (.slice aj t.1.stops.length cj))) := Lib.hid (by
      have h := SL.setRun 1 ((bikeN 44 3).head t) (i * 2) _ _ _ HS6.out rfl (by rw [HHD.out]; simp; omega)
      have e5 := mid_step (qs := qs) (ps := ps) (by have := HQQ.out.1; omega) t 44 3
      rw [HQQ.out.1] at e5
      rw [show ((bikeN 44 3).head t).length = 2 from rfl, e5] at h
      rw [HHD.out] at h
      exact h.tail)
     clear y0 y1 hml HS6
     go_wp2_with fail
     go_roundw
     case rel => exact ⟨j + 1, i + 1, qs ++ [t], by omega, by go_num, by go_num, by omega, Lib.hid ⟨by rw [List.length_append, HQQ.out.1]; rfl, HN.out⟩, HS7.out⟩
     case measure => simp [intOf]; omega
  · obtain rfl : j = ps.length := by omega
    obtain ⟨hqi, hqs⟩ := HQ.out
    rw [List.take_length] at hqs
    have hi : i < ps.length := hij
    have s1 : ∀ w' : World, (Instr.slice 27 (.slice (some ⟨g, off, none⟩) ps.length c) (some (.int .i64 (i : Int))) none none).run Try.prog w' = .ok (.slice (some ⟨g, off + i * 2, none⟩) (ps.length - i) (c - i)) w' := fun w' => by
     rw [run_slice_l (P := Try.prog) w' 27 _ _ _ bikesT_elem _ _ (by omega) (by omega), bikesT_size]
     simp only [Result.andThen_ok, sliced, Int.toNat_natCast]
     rw [if_neg (by omega)]
     simp [Addr.add]
    have s2 : ∀ w' : World, (Instr.slice 27 (.slice (some ⟨g, off, none⟩) ps.length c) none (some (.int .i64 (i : Int))) none).run Try.prog w' = .ok (.slice (some ⟨g, off, none⟩) i c) w' := fun w' => by
     rw [run_slice_h (P := Try.prog) w' 27 _ _ _ bikesT_elem _ _ (by omega) (by omega), bikesT_size]
     simp [sliced, Addr.add]
    have hml : ((bikeN 44 3).heads (mid qs ps)).length = ps.length * 2 := by rw [Nest.heads_len (bikeN_ok _ _), mid_len (by omega)]; rfl
    have hcl : ∀ ty : TypeId, (Builtin.clear_ #[27] ty #[.slice (some ⟨g, off + i * 2, none⟩) (ps.length - i) (c - i)]).run Try.prog wr = .ok (.tuple #[]) (wr.setCells g (off + i * 2) (Builtin.zeroCells (Value.agg #[.int .i64 0, .slice none 0 0]).cells (ps.length - i)).toList) := fun ty => clear_bikes ty g (off + i * 2) (ps.length - i) (c - i) wr (by omega)
     (fun j hj => by rw [Nat.add_assoc, hS.rowCell 0 rfl (i * 2 + j) (List.getElem?_eq_getElem (by omega))]; rfl)
     (fun j hj => hS.rowFree 0 rfl _ (by omega))
    have hz := zero_bikes (ps.length - i)
    have hS3 := SL.setRun 0 _ (i * 2) _ _ _ hS rfl (show i * 2 + (Builtin.zeroCells (Value.agg #[.int .i64 0, .slice none 0 0]).cells (ps.length - i)).toList.length ≤ ps.length * 2 by rw [hz.1]; omega)
    rw [List.set_cons_zero] at hS3
    have hS4 := hS3.cutRow 0 rfl i (by omega) (by omega)
    rw [List.set_cons_zero] at hS4
    have e5 : (((bikeN 44 3).heads (mid qs ps)).take (i * 2) ++ (Builtin.zeroCells (Value.agg #[.int .i64 0, .slice none 0 0]).cells (ps.length - i)).toList ++ ((bikeN 44 3).heads (mid qs ps)).drop (i * 2 + (Builtin.zeroCells (Value.agg #[.int .i64 0, .slice none 0 0]).cells (ps.length - i)).toList.length)).take (i * 2) = (bikeN 44 3).heads qs := by
     have l1 : ((bikeN 44 3).heads qs).length = i * 2 := by rw [Nest.heads_len (bikeN_ok _ _), hqi]; rfl
     rw [List.append_assoc, List.take_append_of_le_length (by rw [List.length_take]; omega), List.take_take, Nat.min_self]
     unfold mid
     rw [heads_append, List.take_append_of_le_length (by omega), List.take_of_length_le (by omega)]
    rw [e5] at hS4
    have HS5 : Hid (SL W B ((bikeN 44 3).own (.slice (some ⟨g, off, none⟩) i c) qs ++ R) (wr.setCells g (off + i * 2) (Builtin.zeroCells (Value.agg #[.int .i64 0, .slice none 0 0]).cells (ps.length - i)).toList)) := Lib.hid (by
     have h := hS4.sub (l' := .row 44 2 (.slice (some ⟨g, off, none⟩) i c) i ((bikeN 44 3).heads qs) :: (qs.map (bikeN 44 3).inner ++ R)) (.cons_cons _ (((hqs ▸ List.filter_sublist).map (bikeN 44 3).inner).append_right R))
     unfold Nest.own
     rw [hqi]
     exact h)
    have HQS := Lib.hid hqs
    clear hS hS3 hS4 e5 hz hml hqi hqs hlt hi
    go_wp2_with fail
    go_ret
    exact ⟨_, rfl, by rw [HQS.out]; exact HS5.out⟩
set_option maxRecDepth 100000 in
theorem filled_any (W : World) (B : Nat) (R : List Rs) (w : World) (v : Value) (ps : List (BikeV × Value)) (hS : SL W B ((bikeN 44 3).own v ps ++ R) w) (hl : ps.length ≤ 1000000) :
 Calls Try.prog 36 #[v] w (FillPost W B R ps) := by
 obtain ⟨A, c, rfl, _, _⟩ := (own_outer hS (fun r hr => List.mem_append_left _ hr)).slice_
 have HD := Lib.hid (deleteE_any W B R w A c ps hS hl)
 clear hS hl
 go_enter Try.func36, Try.ntmps36
 go_wp2_with (go_at_call 60; (with_reducible refine HD.out.mono ?_); rintro e w2 ⟨v', rfl, hS2⟩
              have HS2 := Lib.hid hS2
              clear hS2 HD)
 go_ret
 exact ⟨_, rfl, HS2.out⟩
end Go.Proofs.Ytpbhbmdghafkmaa
