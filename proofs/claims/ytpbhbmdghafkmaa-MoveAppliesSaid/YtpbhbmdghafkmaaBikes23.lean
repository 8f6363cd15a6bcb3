/- law23.Bikes. (printed by gen/bikes23.py) -/
import Derived.Test.YtpbhbmdghafkmaaAwake23
namespace Go.Proofs.Ytpbhbmdghafkmaa
open Go.ChangeShapes Go.WideShapes Go.ChangeAt Go.RowKit
set_option linter.unusedVariables false
def stepB (bs : List BikeV) (n : Int) (i : Nat) : List BikeV :=
  if 200 < n then bs ++ [⟨n.tmod 3, []⟩] else putStops bs ((bs.length - 1 : Nat) : Int) (stopsAt bs ((bs.length - 1 : Nat) : Int) ++ [(i : Int)])
def bikesTo (l : List Int) : Nat → List BikeV
  | 0 => [⟨0, []⟩]
  | k + 1 => stepB (bikesTo l k) (l.getD k 0) k
def bikesOf (l : List Int) : List BikeV := bikesTo l l.length
theorem bikesTo_len (l : List Int) : ∀ k, 0 < (bikesTo l k).length ∧ (bikesTo l k).length ≤ k + 1
  | 0 => ⟨by simp [bikesTo], by simp [bikesTo]⟩
  | k + 1 => by
    have ih := bikesTo_len l k
    unfold bikesTo stepB
    split
    · rw [List.length_append]; simp only [List.length_cons, List.length_nil]; omega
    · rw [putStops_len]; omega
theorem all_put : ∀ (bs : List BikeV) (k : Nat) (h : k < bs.length) (s : Int) (x : List Int), (allStops (bs.set k ⟨s, bs[k].stops ++ x⟩)).length = (allStops bs).length + x.length
  | b :: bs, 0, h, s, x => by
    show (allStops (_ :: bs)).length = _
    have e : ∀ (b : BikeV) (bs : List BikeV), allStops (b :: bs) = b.stops ++ allStops bs := fun _ _ => rfl
    simp only [e, List.length_append, List.getElem_cons_zero]
    omega
  | b :: bs, k + 1, h, s, x => by
    have e : ∀ (b : BikeV) (bs : List BikeV), allStops (b :: bs) = b.stops ++ allStops bs := fun _ _ => rfl
    have ih := all_put bs k (by simpa using h) s x
    simp only [List.set_cons_succ, e, List.length_append, List.getElem_cons_succ] at ih ⊢
    rw [ih]
    omega
theorem bikesTo_all (l : List Int) : ∀ k, (allStops (bikesTo l k)).length ≤ k
  | 0 => by simp [bikesTo, allStops]
  | k + 1 => by
    have ih := bikesTo_all l k
    have hl := bikesTo_len l k
    unfold bikesTo stepB
    split
    · have e : allStops (bikesTo l k ++ [⟨(l.getD k 0).tmod 3, []⟩]) = allStops (bikesTo l k) := by unfold allStops; simp
      rw [e]; omega
    · have hlt : (bikesTo l k).length - 1 < (bikesTo l k).length := by omega
      unfold putStops
      rw [stopsAt_lt hlt, Int.toNat_natCast, all_put _ _ hlt]
      simp only [List.length_cons, List.length_nil]
      omega
def Bikes23Post (W : World) (l : List Int) (e : Ending) (w' : World) : Prop := ∃ v ps, e = .returned v ∧ ps.map (·.1) = bikesOf l ∧ SL W W.heap.size ((bikeN 44 3).own v ps ++ []) w'
set_option maxRecDepth 100000 in
set_option maxHeartbeats 4000000 in
theorem bikes23_any (A : Option Addr) (c : Nat) (l : List Int) (w : World) (h1 : Reads w w.heap.size 1 A l.length (l.map (.int .u8))) (hu : ∀ n ∈ l, 0 ≤ n ∧ n ≤ 255) (hl : l.length ≤ 10000) :
    Calls Try.prog 14 #[.slice A l.length c] w (Bikes23Post w l) := by
  have H1 := Lib.hid h1
  have HU := Lib.hid hu
  obtain ⟨N, hN⟩ : ∃ N, l.length = N := ⟨_, rfl⟩
  have HN := Lib.hid hN
  rw [hN] at hl ⊢
  obtain ⟨i1, hi1, hz1, hzz, hbb⟩ := info_parts info_bikeE
  have HI1 := Lib.hid (And.intro hi1 (And.intro hz1 (And.intro hzz hbb)))
  obtain ⟨i0, hi0, hy1, hyz, hyb⟩ := info_parts info_intE
  have HI0 := Lib.hid (And.intro hi0 (And.intro hy1 (And.intro hyz hyb)))
  have hS0 := ((SL.start (W := w) (Nat.le_refl w.heap.size)).alloc #[.int .i64 0, .slice none 0 0] 44).blkRowC 0 rfl 1 1 2 (by decide) (by decide) (by decide)
  have hS1 := hS0.nil 3 1
  have HS0 : Hid (SL w w.heap.size ([] ++ ((bikeN 44 3).own (.slice (some ⟨w.heap.size, 0, none⟩) 1 1) [((⟨0, []⟩ : BikeV), .slice none 0 0)] ++ [])) (w.alloc (.cells #[.int .i64 0, .slice none 0 0] 44))) := Lib.hid (hS1.perm (List.Perm.swap _ _ _))
  clear h1 hu hN hi1 hz1 hzz hbb hi0 hy1 hyz hyb hS0 hS1
  go_enter Try.func14, Try.ntmps14
  go_upto_region 3 with fail
  go_loopw [11, 3] (fun iv ov wr => ∃ (k : Nat) (A' : Option Addr) (c' n : Nat) (ps : List (BikeV × Value)), k ≤ N ∧ iv = .int .i64 k ∧ ov = .slice A' n c' ∧ n = ps.length ∧ Hid (ps.map (·.1) = bikesTo l k) ∧ SL w w.heap.size ([] ++ ((bikeN 44 3).own (.slice A' n c') ps ++ [])) wr) (fun iv _ _ => N - (intOf iv).toNat)
  case atStart => exact ⟨0, _, 1, 1, _, by omega, rfl, rfl, rfl, Lib.hid rfl, HS0.out⟩
  case round =>
    clear HS0
    obtain ⟨k, A', c', n, ps, hk, rfl, rfl, hn, HP, hS⟩ := hrel
    by_cases hlt : k < N
    · have hkl : k < l.length := by rw [HN.out]; exact hlt
      obtain ⟨g1, o1, hA, hg1, e00⟩ := bytes_at H1.out hkl
      have e0 := (hS.below.cell (p := ⟨g1, o1 + k, none⟩) hg1).trans e00
      have hu := HU.out _ (List.getElem_mem hkl)
      have hgd : l.getD k 0 = l[k] := by simp [hkl]
      have HST : Hid (bikesTo l (k + 1) = stepB (bikesTo l k) l[k] k) := Lib.hid (by show stepB _ (l.getD k 0) k = _; rw [hgd])
      obtain ⟨u, hue⟩ : ∃ u, l[k] = u := ⟨_, rfl⟩
      rw [hue] at e0 hu HST
      have hpl : 0 < ps.length ∧ ps.length ≤ k + 1 := by
        have := bikesTo_len l k
        rw [← HP.out, List.length_map] at this
        exact this
      have hall : (allStops (bikesTo l k)).length ≤ k := bikesTo_all l k
      subst hA
      clear e00 hgd hue
      by_cases h2 : 200 < u
      · have HSE : Hid (bikesTo l (k + 1) = ps.map (·.1) ++ [⟨u.tmod 3, []⟩]) := Lib.hid (by rw [HST.out]; unfold stepB; rw [if_pos h2, HP.out])
        have hm2 : 0 ≤ u.tmod 3 := by rw [Int.tmod_eq_emod_of_nonneg hu.1]; omega
        have hm3 : u.tmod 3 < 3 := by rw [Int.tmod_eq_emod_of_nonneg hu.1]; omega
        obtain ⟨r, hr⟩ : ∃ r, u.tmod 3 = r := ⟨_, rfl⟩
        rw [hr] at hm2 hm3 HSE
        have HSN : Hid (SL w w.heap.size ((bikeN 44 3).inner ((⟨r, []⟩ : BikeV), .slice none 0 0) :: .row 44 2 (.slice A' n c') n ((bikeN 44 3).heads ps) :: (ps.map (bikeN 44 3).inner ++ [])) wr) := Lib.hid (by
          have h := hS.nil 3 1
          unfold Nest.own at h
          rw [← hn] at h
          exact h)
        have hn9 : n ≤ 10001 := by omega
        clear hS HST hall hpl
        go_wp2_with (at_builtin; refine stopHere ?_)
        show wpList _ _ _ _ _ _
        refine wpList_append_sl rfl _ _ 27 rfl HSN.out 1 i1 (.agg #[.int .i64 0, .slice none 0 0]) 2 32 Try.underlying27 HI1.out.1 HI1.out.2.1 HI1.out.2.2.1 HI1.out.2.2.2 rfl (by decide) _ _ 1 _ rfl rfl _ rfl rfl (by decide) rfl (by simp [Value.oneCell']) (by omega) (by decide) ?_
        intro v' w7 hS7 hz7
        obtain ⟨A7, c7, rfl, _, _⟩ := (hS7.row 1 rfl).slice_
        have HS7 : Hid (SL w w.heap.size ([] ++ ((bikeN 44 3).own (.slice A7 (n + 1) c7) (ps ++ [((⟨r, []⟩ : BikeV), .slice none 0 0)]) ++ [])) w7) := Lib.hid (SL.nestSnoc (P := []) (by rw [← hn]; exact hS7))
        have HNN := Lib.hid hn
        clear hS7 HSN hz7 hn
        go_wp2_with fail
        go_roundw
        case rel => exact ⟨k + 1, A7, c7, n + 1, _, by omega, by go_num, rfl, by rw [List.length_append, HNN.out]; rfl, Lib.hid (by rw [HSE.out, List.map_append]; rfl), HS7.out⟩
        case measure => simp [intOf]; omega
      · obtain ⟨q, hq⟩ : ∃ q, n = q + 1 := ⟨n - 1, by omega⟩
        have hqp : q < ps.length := by omega
        obtain ⟨g, off, rfl⟩ := own_addr (P := []) hS hn.symm (by omega)
        obtain ⟨a, b, hv, _⟩ := own_val (P := []) hqp hS
        have hrow := own_row hqp [] [] (T := 44) (t := 3) (v := .slice (some ⟨g, off, none⟩) n c') hv
        have hml : ps[q].1.stops.length ≤ k := by
          have h1 : ps[q].1 ∈ bikesTo l k := by rw [← HP.out]; exact List.mem_map_of_mem (List.getElem_mem hqp)
          exact Nat.le_trans (stops_le_all h1) hall
        have HSE : Hid (bikesTo l (k + 1) = (ps.map (·.1)).set q ⟨ps[q].1.sat, ps[q].1.stops ++ [(k : Int)]⟩) := Lib.hid (by
          rw [HST.out]; unfold stepB
          rw [if_neg h2, ← HP.out]
          have e : (ps.map (·.1)).length - 1 = q := by rw [List.length_map]; omega
          rw [e]
          unfold putStops
          rw [stopsAt_lt (by simpa using hqp), satAt_lt (by simpa using hqp), Int.toNat_natCast]
          simp)
        have d1 : wr.cell? ⟨g, off + q * 2 + 1, none⟩ = some ps[q].2 := own_sl (P := []) hn.symm hqp hS
        rw [hv] at d1
        have d2 := own_free (P := []) hn.symm hqp hS (off + q * 2 + 1)
        have HROW := Lib.hid hrow
        obtain ⟨m, hm⟩ : ∃ m, ps[q].1.stops.length = m := ⟨_, rfl⟩
        rw [hm] at d1 hml HROW hv
        have HSZ := Lib.hid hS
        have HM := Lib.hid hm
        have HV := Lib.hid hv
        have HNN := Lib.hid hn
        have hq9 : q ≤ 10001 := by omega
        have hql : (q : Int) < ((q + 1 : Nat) : Int) := by omega
        have h2' : decide (200 < u) = false := decide_eq_false h2
        subst hq
        clear hS hrow hm hv hn HST hall hpl
        go_wp2_with (at_builtin; refine stopHere ?_)
        show wpList _ _ _ _ _ _
        refine wpList_append_sl rfl _ _ 42 rfl HSZ.out _ i0 (.int .i64 0) 1 8 Try.underlying42 HI0.out.1 HI0.out.2.1 HI0.out.2.2.1 HI0.out.2.2.2 rfl (by decide) _ m 1 _ HROW.out rfl _ rfl rfl (by decide) rfl (by simp [Value.oneCell']) (by omega) (by decide) ?_
        intro v' w7 hS7 hz7
        obtain ⟨A7, c7, rfl, _, _⟩ := (hS7.row (([] : List Rs).length + (q + 1)) (List.getElem?_set_self (by unfold Nest.own; simp; omega))).slice_
        have hS8 : SL w w.heap.size (([] ++ ((bikeN 44 3).own (.slice (some ⟨g, off, none⟩) (q + 1) c') ps ++ [])).set (([] : List Rs).length + (q + 1)) (.row 3 1 (.slice A7 (m + 1) c7) (ps[q].1.stops ++ [(k : Int)]).length ((ps[q].1.stops ++ [(k : Int)]).map (.int .i64)))) w7 := by
          rw [List.length_append, HM.out, List.map_append]
          exact hS7
        have HSX := Lib.hid (own_turn HNN.out.symm hqp _ _ hS8)
        have d3 : w7.frozen? ⟨g, off + q * 2 + 1, none⟩ = false := by
          have := hS7.rowFree (([] : List Rs).length) (by rw [List.getElem?_set_ne (by simp)]; have h := nest_outer (bikeN 44 3) [] [] (.slice (some ⟨g, off, none⟩) (q + 1) c') ps; rw [← HNN.out] at h; exact h) (off + q * 2 + 1) (by omega)
          exact this
        have d4 : ∃ v, w7.cell? ⟨g, off + q * 2 + 1, none⟩ = some v := by
          have := hS7.rowCell (([] : List Rs).length) (by rw [List.getElem?_set_ne (by simp)]; have h := nest_outer (bikeN 44 3) [] [] (.slice (some ⟨g, off, none⟩) (q + 1) c') ps; rw [← HNN.out] at h; exact h) (q * 2 + 1) (heads_get (bikeN_ok _ _) ps q 1 hqp Nat.one_lt_two)
          exact ⟨_, this⟩
        obtain ⟨vv, d4⟩ := d4
        clear hS7 hS8 HSZ hz7 d1 d2 e0
        go_wp2_with fail
        go_roundw
        case rel => exact ⟨k + 1, _, c', q + 1, _, by omega, by go_num, rfl, by rw [List.length_set]; exact HNN.out, Lib.hid (by rw [HSE.out, List.map_set]), HSX.out⟩
        case measure => simp [intOf]; omega
    · obtain rfl : k = N := by omega
      have HSX := Lib.hid hS
      clear hS
      go_wp2_with fail
      go_ret
      exact ⟨_, _, rfl, by rw [HP.out]; unfold bikesOf; rw [HN.out], HSX.out⟩
end Go.Proofs.Ytpbhbmdghafkmaa
