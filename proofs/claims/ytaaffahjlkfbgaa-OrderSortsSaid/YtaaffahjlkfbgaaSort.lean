/- The walk of order.Sort. -/
import Derived.Test.YtaaffahjlkfbgaaOrderM
import Derived.Test.YtaaffahjlkfbgaaAwake04
import Derived.Test.YtaaffahjlkfbgaaTree
import Derived.Test.YtaaffahjlkfbgaaGraphB
import Derived.Test.YtaaffahjlkfbgaaRowRun
namespace Go.Proofs.Ytaaffahjlkfbgaa
open Go.ChangeShapes Go.WideShapes Go.ChangeAt Go.RowKit
set_option linter.unusedVariables false
theorem cnt_two {f : Nat → ItemV} {n i j : Nat} (hij : i < j) (hj : j < n) (h : f i = f j) : 2 ≤ cnt (f i) f n := by
  induction n with
  | zero => omega
  | succ n ih =>
    rw [Go.Proofs.Ytaaffahjlkfbgaa.cnt]
    by_cases e : j = n
    · subst e
      rw [if_pos h.symm]
      have := cnt_pos (f := f) hij
      omega
    · have := ih (by omega); omega
/-- No more things in it than there are nodes. -/
theorem pile_len {f : Nat → ItemV} {n N : Nat} {out : List Int} {inf : Nat → Int} (h : PileIs f n (PM N out inf)) : n ≤ N := by
  apply Classical.byContradiction
  intro hn
  have hk : ∀ k, k < n → ∃ j : Nat, f k = ⟨j, j⟩ ∧ j < N := by
    intro k hk
    have h1 := cnt_pos (f := f) hk
    rw [h.cnt] at h1
    obtain ⟨j, h2, h3, _⟩ := PM_pos h1
    exact ⟨j, h2, h3⟩
  obtain ⟨i, j, h1, h2, h3⟩ := pigeon N (fun k => (f k).id.toNat) (fun i hi => by
    obtain ⟨j, e, hj⟩ := hk i (by omega)
    rw [e]
    simpa using hj)
  obtain ⟨a, ea, _⟩ := hk i (by omega)
  obtain ⟨b, eb, _⟩ := hk j (by omega)
  have e : f i = f j := by
    rw [ea, eb] at h3 ⊢
    simp at h3
    rw [h3]
  have := cnt_two (n := n) h1 (by omega) e
  rw [h.cnt] at this
  unfold PM at this
  split at this <;> omega
theorem PM_grow {k : Nat} {inf : Nat → Int} (x : ItemV) (h : inf k = 0) : PM k [] inf x + (if (⟨k, k⟩ : ItemV) = x then 1 else 0) = PM (k + 1) [] inf x := by
  by_cases e : (⟨k, k⟩ : ItemV) = x
  · subst e
    rw [if_pos rfl, PM_at (N := k + 1) (by omega) (by simp) h]
    unfold PM
    rw [if_neg]
    intro h
    have := h.2.2.1
    simp only at this
    omega
  · rw [if_neg e]
    unfold PM
    by_cases c : x.key = x.id ∧ 0 ≤ x.id ∧ x.id < (k : Int) ∧ x.id ∉ ([] : List Int) ∧ inf x.id.toNat = 0
    · rw [if_pos c, if_pos ⟨c.1, c.2.1, by omega, c.2.2.2⟩]
    · rw [if_neg c, if_neg]
      rintro ⟨h1, h2, h3, h4⟩
      refine c ⟨h1, h2, ?_, h4⟩
      apply Classical.byContradiction
      intro hn
      exact e (ItemV.ext' (by show (k : Int) = x.key; omega) (by show (k : Int) = x.id; omega))
theorem PM_skip {k : Nat} {inf : Nat → Int} (x : ItemV) (h : inf k ≠ 0) : PM k [] inf x = PM (k + 1) [] inf x := by
  unfold PM
  by_cases c : x.key = x.id ∧ 0 ≤ x.id ∧ x.id < (k : Int) ∧ x.id ∉ ([] : List Int) ∧ inf x.id.toNat = 0
  · rw [if_pos c, if_pos ⟨c.1, c.2.1, by omega, c.2.2.2⟩]
  · rw [if_neg c, if_neg]
    rintro ⟨h1, h2, h3, h4, h5⟩
    refine c ⟨h1, h2, ?_, h4, h5⟩
    apply Classical.byContradiction
    intro hn
    have : x.id.toNat = k := by omega
    rw [this] at h5
    exact h h5
theorem PileIs.of {f : Nat → ItemV} {n : Nat} {M M' : ItemV → Nat} (h : PileIs f n M) (e : ∀ x, M x = M' x) : PileIs f n M' := ⟨h.heap, fun x => (h.cnt x).trans (e x)⟩
/-- What Take tells of a pile that holds the nodes that are free. -/
theorem take_pm (W : World) (B : Nat) (rs : List Rs) (w : World) (pb n : Nat) (v : Value) (f : Nat → ItemV) (N : Nat) (l : List ArcV) (out : List Int) (inf : Nat → Int) (hS : SL W B (PileRs pb v n f rs) w) (hP : PileIs f n (PM N out inf)) (hinf : ∀ j, j < N → inf j = (ledF l out j l.length : Int)) (hn : n ≤ 900000) :
    Calls Try.prog 17 #[.pointer (some ⟨pb, 0, none⟩)] w fun e w' => ∃ (kx : Int) (okb : Bool) (v' : Value) (n' : Nat) (f' : Nat → ItemV), e = .returned (.tuple #[.agg #[.int .i64 kx, .int .i64 kx], .bool okb]) ∧ SL W B (PileRs pb v' n' f' rs) w' ∧ (okb = true → ∃ i : Nat, kx = (i : Int) ∧ NextN N l out i ∧ PileIs f' n' (PM N (out ++ [(i : Int)]) inf)) ∧ (okb = false → Stop N l out) := by
  cases n with
  | zero =>
    refine (take_none W B rs w pb v f hS).mono ?_
    rintro e w' ⟨rfl, h⟩
    refine ⟨0, false, v, 0, f, rfl, h, fun h => (by cases h), fun _ => PM_none hinf fun x => ?_⟩
    rw [← hP.cnt]; rfl
  | succ n =>
    obtain ⟨h1, h2⟩ := hP.first
    obtain ⟨i, hi, hn1⟩ := PM_first hinf h1 h2
    refine (take_kv W B rs w pb n v f i i hi hS (by omega)).mono ?_
    rintro e w' ⟨rfl, v', h⟩
    refine ⟨i, true, v', n, takeM f n, rfl, h, fun _ => ⟨i, rfl, hn1, hP.take.of fun x => ?_⟩, fun h => (by cases h)⟩
    rw [hi]
    have hz : inf i = 0 := by rw [hinf i hn1.1, (ledF_free hn1.2.1.1).2 hn1.2.1]; rfl
    exact PM_take hn1.1 hn1.2.1.1 hz x
def lenOfS : Value → Nat
  | .slice _ n _ => n
  | _ => 0
def SortPost (W : World) (N : Nat) (l : List ArcV) (e : Ending) (w' : World) : Prop :=
  ∃ out, Grd N l out ∧ Stop N l out ∧ ((out.length = N ∧ ∃ A c, e = .returned (.tuple #[.slice A N c, .bool true]) ∧ SL W W.heap.size [.row 3 1 (.slice A N c) N (out.map (.int .i64))] w') ∨
    (out.length < N ∧ e = .returned (.tuple #[.slice none 0 0, .bool false]) ∧ Below W.heap.size W w'))
set_option maxRecDepth 100000 in
set_option maxHeartbeats 8000000 in
theorem sort_any (N : Nat) (A : Option Addr) (cap : Nat) (l : List ArcV) (w : World) (hr : Arcs w w.heap.size A l) (hck : checkG N l = 0) :
    Calls Try.prog 32 #[.agg #[.int .i64 N, .slice A l.length cap]] w (SortPost w N l) := by
  have hS0 := (SL.start (Nat.le_refl w.heap.size)).alloc #[.int .i64 N, .slice A l.length cap] 45
  have HR : Hid (∀ (rs : List Rs) w', SL w w.heap.size rs w' → Arcs w' w'.heap.size A l) := Lib.hid (fun rs w' h => reads_more (Reads.below hr h.below) h.below.size)
  obtain ⟨_, hN, hl, hin⟩ := inN_of_check hck
  simp only [Int.toNat_natCast] at hin
  have hNn : N ≤ 1000 := by omega
  obtain ⟨i0, hi0, hz0, hz1, hz2⟩ := info_parts int_info
  have HI := Lib.hid (And.intro hi0 (And.intro hz0 (And.intro hz1 hz2)))
  have HIN := Lib.hid hin
  have HCK := Lib.hid hck
  have hl2 : l.length ≤ maxLen := by unfold maxLen; omega
  have HL := Lib.hid hl2
  have hz : ((0 : Int) != 0) = false := rfl
  clear hr hi0 hz0 hz1 hz2 hin hck hl2 hN
  go_enter Try.func32, Try.ntmps32
  go_upto_region 1 with fail
  obtain ⟨gb, hgb⟩ : ∃ gb, gb = w.heap.size := ⟨_, rfl⟩
  obtain ⟨w0, hw0⟩ : ∃ w0, w0 = w.alloc (.cells #[.int .i64 N, .slice A l.length cap] 45) := ⟨_, rfl⟩
  have HS0 : Hid (SL w w.heap.size [.blk gb #[.int .i64 N, .slice A l.length cap] 45] w0) := Lib.hid (by rw [hgb, hw0]; exact hS0)
  rw [← hw0, ← hgb]
  clear hS0 hw0 hgb
  have c0 : w0.cell? ⟨gb, 0, none⟩ = some (.int .i64 N) := HS0.out.cell 0 rfl 0 rfl
  have c1 : w0.cell? ⟨gb, 1, none⟩ = some (.slice A l.length cap) := HS0.out.cell 0 rfl 1 rfl
  go_upto_region 3 with (go_at_call 39; (with_reducible refine (checkG_any N A cap l _ (HR.out _ _ HS0.out) HL.out).mono ?_); rintro e w2 ⟨rfl, hB⟩; rw [HCK.out]
                         have hS1 := HS0.out.call hB
                         have d0 : w2.cell? ⟨gb, 0, none⟩ = some (.int .i64 N) := hS1.cell 0 rfl 0 rfl
                         have d1 : w2.cell? ⟨gb, 1, none⟩ = some (.slice A l.length cap) := hS1.cell 0 rfl 1 rfl
                         have HS1 := Lib.hid hS1
                         clear hB hS1 c0 c1 HS0)
  go_wp2_with (at_make; refine wpList_make_rep _ rfl _ _ 48 rfl 3 i0 (.int .i64 0) Try.underlying48 HI.out.1 HI.out.2.1 HI.out.2.2.1 rfl .i64 .i64 N N N rfl rfl rfl rfl ?b2 ?b3 ?_
               case b2 => rw [HI.out.2.2.2]; omega
               case b3 => unfold maxLen; omega
               intro w4 hg4 hb4 hz4
               obtain ⟨ib, hib⟩ : ∃ ib, ib = w2.heap.size := ⟨_, rfl⟩
               have hS := HS1.out.made hb4 hg4
               have hS2 : SL w w.heap.size [.blk ib (iarr (fun j => (ledF l [] j 0 : Int)) N) 3, .blk gb #[.int .i64 N, .slice A l.length cap] 45] w4 := by
                 have e : iarr (fun j => (ledF l [] j 0 : Int)) N = Array.replicate N (.int .i64 0) := by
                   rw [← madeCells_one (.int .i64 0) N rfl]
                   show _ = madeCells #[Value.int .i64 0] N
                   rw [iarr_made]
                   exact iarr_ext fun i _ => rfl
                 rw [e, hib]
                 simpa using hS
               have HS2 := Lib.hid hS2
               have e1 : w4.cell? ⟨gb, 1, none⟩ = some (.slice A l.length cap) := hS2.cell 1 rfl 1 rfl
               rw [← hib]
               clear hg4 hb4 hz4 hS hib d0 d1 HS1 hS2)
  clear e1
  go_loopw [25] (fun i wr => ∃ k : Nat, k ≤ l.length ∧ i = .int .i64 k ∧ SL w w.heap.size [.blk ib (iarr (fun j => (ledF l [] j k : Int)) N) 3, .blk gb #[.int .i64 N, .slice A l.length cap] 45] wr) (fun i _ => l.length - (intOf i).toNat)
  case atStart => exact ⟨0, by omega, rfl, HS2.out⟩
  case round =>
    clear HS2
    obtain ⟨k, hk, rfl, hS⟩ := hrel
    by_cases hlt : k < l.length
    · obtain ⟨b, p, rfl, hb, d0, d1, d2⟩ := arcs_at (HR.out _ _ hS) hlt
      obtain ⟨⟨f0, f1⟩, t0, t1⟩ := HIN.out _ (List.getElem_mem hlt)
      have hle := ledF_le l [] l[k].to.toNat k
      have HQ : Hid (∀ j, ledF l [] j (k + 1) = ledF l [] j k + if l[k].to = (j : Int) then 1 else 0) := Lib.hid (fun j => by rw [ledF_succ hlt]; simp)
      obtain ⟨a, ha⟩ : ∃ a, l[k] = a := ⟨_, rfl⟩
      rw [ha] at d0 d1 d2 f0 f1 t0 t1 hle HQ
      clear ha
      have hS2 := hS.alloc #[.int .i64 a.fr, .int .i64 a.to, .int .i64 a.wt] 55
      have hz1 : b < wr.heap.size := hb
      go_upto_region 7 with fail
      obtain ⟨ar, har⟩ : ∃ ar, ar = wr.heap.size := ⟨_, rfl⟩
      generalize (wr.alloc (.cells #[.int .i64 a.fr, .int .i64 a.to, .int .i64 a.wt] 55)) = w9 at *
      rw [← har] at hS2 ⊢
      clear har hS d0 d1 d2 hz1 hb
      obtain ⟨v, hv⟩ : ∃ v, ledF l [] a.to.toNat k = v := ⟨_, rfl⟩
      have y0 : w9.cell? ⟨ar, 1, none⟩ = some (.int .i64 a.to) := hS2.cell 0 rfl 1 rfl
      have y1 : w9.cell? ⟨ib, a.to.toNat, none⟩ = some (.int .i64 v) := by rw [← hv]; exact hS2.cell 1 rfl _ (iarr_get _ _ _ (by omega))
      have y2 := hS2.free 1 rfl a.to.toNat
      rw [hv] at hle
      have HS3 := Lib.hid (hS2.setInt 1 rfl a.to.toNat ((v : Int) + 1))
      have HV := Lib.hid hv
      clear hS2 hv
      go_wp2_with fail
      go_roundw
      case rel =>
        refine ⟨k + 1, by omega, by go_num, ?_⟩
        have h := HS3.out.tail
        have e : iarr (fun j => (ledF l [] j (k + 1) : Int)) N = iarr (fun j => if j = a.to.toNat then (v : Int) + 1 else (ledF l [] j k : Int)) N := iarr_ext fun j hj => by
          rw [HQ.out j]
          by_cases ej : j = a.to.toNat
          · rw [if_pos ej, if_pos (by omega), ej, HV.out]; simp
          · rw [if_neg ej, if_neg (by omega)]; simp
        rw [e]
        exact h
      case measure => simp [intOf]; omega
    · obtain rfl : k = l.length := by omega
      have HS := Lib.hid hS
      clear hS
      obtain ⟨IN0, hIN0⟩ : ∃ IN0 : Nat → Int, IN0 = fun j => (ledF l [] j l.length : Int) := ⟨_, rfl⟩
      rw [← hIN0] at HS
      have HIN0 := Lib.hid hIN0
      clear hIN0
      have HN := Lib.hid (new_any w w.heap.size _ wr HS.out)
      go_wp2_with (go_at_call 19; (with_reducible refine HN.out.mono ?_); rintro e w5 ⟨pb, rfl, hS5⟩
                   have HS5 := Lib.hid hS5
                   clear hS5)
      clear HN HS
      go_loopw [40] (fun i wr => ∃ (k n : Nat) (v : Value) (f : Nat → ItemV), k ≤ N ∧ i = .int .i64 k ∧ PileIs f n (PM k [] IN0) ∧ SL w w.heap.size (PileRs pb v n f [.blk ib (iarr IN0 N) 3, .blk gb #[.int .i64 N, .slice A l.length cap] 45]) wr) (fun i _ => N - (intOf i).toNat)
      case atStart => exact ⟨0, 0, _, _, by omega, rfl, PileIs.empty.of (fun x => by unfold PM; rw [if_neg (by omega)]), HS5.out⟩
      case round =>
        clear HS5
        obtain ⟨k, n, v, f, hk, rfl, hP, hS⟩ := hrel
        have hnN := pile_len hP
        have HP := Lib.hid hP
        clear hP
        by_cases hlt : k < N
        · have d0 : wr.cell? ⟨ib, k, none⟩ = some (.int .i64 (IN0 k)) := hS.cell 2 rfl k (iarr_get _ _ _ hlt)
          have HS := Lib.hid hS
          clear hS
          by_cases h0 : IN0 k = 0
          · have H0 := Lib.hid h0
            rw [h0] at d0
            clear h0
            have hz0 : ((0 : Int) == 0) = true := rfl
            have HPU := Lib.hid (put_kv w w.heap.size _ wr pb n v f k k HS.out (by omega))
            go_wp2_with (go_at_call 16; (with_reducible refine HPU.out.mono ?_); rintro e w6 ⟨rfl, v', hS6⟩
                         have HS6 := Lib.hid hS6
                         clear hS6 d0)
            go_roundw
            case rel => exact ⟨k + 1, n + 1, v', _, by omega, by go_num, (HP.out.put ⟨k, k⟩).of (fun x => PM_grow x H0.out), HS6.out⟩
            case measure => simp [intOf]; omega
          · have H0 := Lib.hid h0
            have hz0 : (IN0 k == 0) = false := by simpa using h0
            clear h0
            go_wp2_with fail
            go_roundw
            case rel => exact ⟨k + 1, n, v, f, by omega, by go_num, HP.out.of (fun x => PM_skip x H0.out), HS.out⟩
            case measure => simp [intOf]; omega
        · obtain rfl : k = N := by omega
          have HS := Lib.hid hS
          clear hS
          have hinf0 : ∀ j, j < k → IN0 j = (ledF l [] j l.length : Int) := by rw [HIN0.out]; exact fun j _ => rfl
          have hS1 : SL w w.heap.size (PileRs pb v n f [.row 3 1 (.slice none 0 0) 0 [], .blk ib (iarr IN0 k) 3, .blk gb #[.int .i64 k, .slice A l.length cap] 45]) wr := (HS.out.nil 3 1).perm ((List.Perm.swap _ _ _).trans (.cons _ (.swap _ _ _)))
          have HT := Lib.hid (take_pm w w.heap.size _ wr pb n v f k l [] IN0 hS1 HP.out hinf0 (by omega))
          have HINF := Lib.hid hinf0
          clear hS1 hinf0
          go_upto_region 18 with (go_at_call 17; (with_reducible refine HT.out.mono ?_); rintro e w6 ⟨kx, okb, v', n', f', rfl, hS6, hyes, hno⟩
                                  have HS6 := Lib.hid hS6
                                  have HYN := Lib.hid (And.intro hyes hno)
                                  clear hS6 hyes hno)
          have hS7 := HS6.out.alloc #[.int .i64 kx, .int .i64 kx] 26
          obtain ⟨xb0, hxb⟩ : ∃ xb0, xb0 = w6.heap.size := ⟨_, rfl⟩
          generalize (w6.alloc (.cells #[.int .i64 kx, .int .i64 kx] 26)) = w7 at *
          rw [← hxb] at hS7 ⊢
          clear hxb HS6 HT HS
          have HS7 : Hid (SL w w.heap.size (PileRs pb v' n' f' [.blk xb0 #[.int .i64 kx, .int .i64 kx] 26, .row 3 1 (.slice none 0 0) 0 [], .blk ib (iarr IN0 k) 3, .blk gb #[.int .i64 k, .slice A l.length cap] 45]) w7) := Lib.hid (hS7.perm ((List.Perm.swap _ _ _).trans (.cons _ (.swap _ _ _))))
          clear hS7
          go_loopw [10, 11, 12] (fun v10 v11 v12 wr => ∃ (out : List Int) (xb : Nat) (kx : Int) (okb : Bool) (pv : Value) (n : Nat) (f : Nat → ItemV) (inf : Nat → Int) (A10 : Option Addr) (c10 : Nat), v10 = .slice A10 out.length c10 ∧ v11 = .pointer (some ⟨xb, 0, none⟩) ∧ v12 = .bool okb ∧ Grd k l out ∧ (∀ j, j < k → inf j = (ledF l out j l.length : Int)) ∧ (okb = true → ∃ i : Nat, kx = (i : Int) ∧ NextN k l out i ∧ PileIs f n (PM k (out ++ [(i : Int)]) inf)) ∧ (okb = false → Stop k l out) ∧
              SL w w.heap.size (PileRs pb pv n f [.blk xb #[.int .i64 kx, .int .i64 kx] 26, .row 3 1 (.slice A10 out.length c10) out.length (out.map (.int .i64)), .blk ib (iarr inf k) 3, .blk gb #[.int .i64 k, .slice A l.length cap] 45]) wr) (fun v10 _ _ _ => k - lenOfS v10)
          case atStart => exact ⟨[], xb0, kx, okb, v', n', f', IN0, none, 0, rfl, rfl, rfl, .nil, HINF.out, HYN.out.1, HYN.out.2, HS7.out⟩
          case round =>
            clear HS7 HYN HINF
            obtain ⟨out, xb, kx, okb, pv, n, f, inf, A10, c10, rfl, rfl, rfl, hgrd, hinf, hyes, hno, hS⟩ := hrel
            have HG := Lib.hid hgrd
            have HINF := Lib.hid hinf
            cases okb with
            | false =>
              have hstop := hno rfl
              have HST := Lib.hid hstop
              have hlen := hgrd.len
              clear hyes hno hgrd hinf hstop
              have c0 : wr.cell? ⟨gb, 0, none⟩ = some (.int .i64 k) := hS.cell 5 rfl 0 rfl
              by_cases hlt : out.length < k
              · have HB := Lib.hid hS.below
                clear hS
                go_wp2_with fail
                go_ret2
                exact ⟨out, HG.out, HST.out, .inr ⟨hlt, rfl, HB.out⟩⟩
              · have he : out.length = k := by omega
                have HS := Lib.hid hS
                clear hS
                go_wp2_with fail
                go_ret2
                refine ⟨out, HG.out, HST.out, .inl ⟨he, A10, c10, by rw [← he]; rfl, ?_⟩⟩
                have h := HS.out.sub (l' := [.row 3 1 (.slice A10 out.length c10) out.length (out.map (.int .i64))]) (.cons _ (.cons _ (.cons _ (.cons_cons _ (List.nil_sublist _)))))
                rw [he] at h
                exact h
            | true =>
              obtain ⟨i, rfl, hnx, hP⟩ := hyes rfl
              have HNX := Lib.hid hnx
              have HP := Lib.hid hP
              have hik := hnx.1
              have hlen := (Grd.snoc hgrd hnx).len
              simp only [List.length_append, List.length_cons, List.length_nil] at hlen
              clear hyes hno hgrd hinf hnx hP
              have c0 : wr.cell? ⟨xb, 1, none⟩ = some (.int .i64 i) := hS.cell 2 rfl 1 rfl
              go_wp2_with (at_builtin; refine stopHere ?_)
              show wpList _ _ _ _ _ _
              refine wpList_append_sl rfl _ _ 48 rfl hS 3 i0 (.int .i64 0) 1 8 Try.underlying48 HI.out.1 HI.out.2.1 HI.out.2.2.1 HI.out.2.2.2 rfl (by decide) _ _ 1 _ rfl rfl _ rfl rfl (by decide) rfl (by simp [Value.oneCell']) (by omega) (by decide) ?_
              intro v8 w8 hS8 hz8
              obtain ⟨A8, c8, rfl, _, _⟩ := (hS8.row 3 rfl).slice_
              have HS8 : Hid (SL w w.heap.size (PileRs pb pv n f [.blk xb #[.int .i64 i, .int .i64 i] 26, .row 3 1 (.slice A8 (out.length + 1) c8) (out.length + 1) ((out ++ [(i : Int)]).map (.int .i64)), .blk ib (iarr inf k) 3, .blk gb #[.int .i64 k, .slice A l.length cap] 45]) w8) := Lib.hid (by rw [List.map_append]; exact hS8)
              have d0 : w8.cell? ⟨gb, 0, none⟩ = some (.int .i64 k) := HS8.out.cell 5 rfl 0 rfl
              have d1 : w8.cell? ⟨gb, 1, none⟩ = some (.slice A l.length cap) := HS8.out.cell 5 rfl 1 rfl
              have d2 : w8.cell? ⟨xb, 1, none⟩ = some (.int .i64 i) := HS8.out.cell 2 rfl 1 rfl
              have HO := Lib.hid (out_any (k : Int) A cap l (i : Int) w8 (HR.out _ _ HS8.out) (by omega))
              have HDN := Lib.hid (fun j => ledF_done (l := l) HNX.out.2.1.1 j l.length (Nat.le_refl _))
              have HMEM := Lib.hid (fun t (ht : t < (outK l (i : Int) l.length).length) => outK_mem ht)
              have hkl := outK_len l (i : Int) l.length
              obtain ⟨ks, hks⟩ : ∃ ks, ks = outK l (i : Int) l.length := ⟨_, rfl⟩
              rw [← hks] at HO HDN HMEM hkl
              clear hS8 hS c0 hz8 hks
              go_wp2_with (go_at_call 53; (with_reducible refine HO.out.mono ?_); rintro e w9 ⟨vk, rfl, hown, hB9⟩
                           have hS9 := HS8.out.got hown hB9
                           obtain ⟨Ak, ck, rfl, _, _⟩ := (hS9.row 0 rfl).slice_
                           have HS9 := Lib.hid hS9
                           clear hS9 hown hB9 d0 d1 d2)
              clear HO HS8
              go_loopw [74] (fun i74 wi => ∃ (t n : Nat) (pv : Value) (f : Nat → ItemV) (inf' : Nat → Int), t ≤ ks.length ∧ i74 = .int .i64 t ∧ PileIs f n (PM k (out ++ [(i : Int)]) inf') ∧ (∀ j, j < k → inf' j = (ledF l out j l.length : Int) - (hits l (ks.take t) j : Int)) ∧ SL w w.heap.size (PileRs pb pv n f [.row 3 1 (.slice Ak ks.length ck) ks.length (ks.map (.int .i64)), .blk xb #[.int .i64 i, .int .i64 i] 26, .row 3 1 (.slice A8 (out.length + 1) c8) (out.length + 1) ((out ++ [(i : Int)]).map (.int .i64)), .blk ib (iarr inf' k) 3, .blk gb #[.int .i64 k, .slice A l.length cap] 45]) wi) (fun i74 _ => ks.length - (intOf i74).toNat)
              case atStart => exact ⟨0, n, pv, f, inf, by omega, rfl, HP.out, fun j hj => by rw [List.take_zero, hits_nil, HINF.out j hj]; simp, HS9.out.perm ((List.Perm.swap _ _ _).trans (.cons _ (.swap _ _ _)))⟩
              case round =>
                clear HS9
                obtain ⟨t, n, pv, f, inf', ht, rfl, hP, hinf, hS⟩ := hrel
                have hnN := pile_len hP
                have HP := Lib.hid hP
                have HF := Lib.hid hinf
                clear hP hinf
                by_cases hlt : t < ks.length
                · obtain ⟨m, hm, hml, hfr⟩ := HMEM.out t hlt
                  obtain ⟨bk, ok, rfl, hbk, e0⟩ := ints_at (hS.reads 2 rfl) hlt
                  rw [hm] at e0
                  obtain ⟨b, p, rfl, hb, a0, a1, a2⟩ := arcs_at (HR.out _ _ hS) hml
                  obtain ⟨⟨f0, f1⟩, t0, t1⟩ := HIN.out _ (List.getElem_mem hml)
                  have hni : l[m].to.toNat ≠ i := by
                    intro e
                    have := HNX.out.2.1.2 _ (List.getElem_mem hml) (by omega)
                    rw [hfr] at this
                    exact HNX.out.2.1.1 this
                  have hno : l[m].to ∉ out := fun h => by
                    have := HG.out.closed _ (List.getElem_mem hml) h
                    rw [hfr] at this
                    exact HNX.out.2.1.1 this
                  have htk : ks.take (t + 1) = ks.take t ++ [(m : Int)] := by rw [List.take_succ_eq_append_getElem hlt, hm]
                  have HH : Hid (∀ j, hits l (ks.take (t + 1)) j = hits l (ks.take t) j + if l[m].to = (j : Int) then 1 else 0) := Lib.hid (fun j => by rw [htk, hits_snoc, toAt_at hml])
                  have hle := hits_take_le l ks (t + 1) l[m].to.toNat
                  have hdn := HDN.out l[m].to.toNat
                  have hf0 := HF.out l[m].to.toNat (by omega)
                  have hlf := ledF_le l out l[m].to.toNat l.length
                  rw [HH.out, if_pos (by omega)] at hle
                  have HNO := Lib.hid (And.intro hno hni)
                  obtain ⟨a, ha⟩ : ∃ a, l[m] = a := ⟨_, rfl⟩
                  rw [ha] at a0 a1 a2 f0 f1 t0 t1 HNO HH hle hdn hf0 hlf
                  obtain ⟨V, hV⟩ : ∃ V, inf' a.to.toNat = V := ⟨_, rfl⟩
                  rw [hV] at hf0
                  have hV1 : 1 ≤ V ∧ V ≤ 20000 := by omega
                  obtain ⟨hV1a, hV1b⟩ := hV1
                  have y0 : wr.cell? ⟨gb, 1, none⟩ = some (.slice (some ⟨b, p, none⟩) l.length cap) := hS.cell 6 rfl 1 rfl
                  have y1 : wr.cell? ⟨ib, a.to.toNat, none⟩ = some (.int .i64 V) := by rw [← hV]; exact hS.cell 5 rfl _ (iarr_get _ _ _ (by omega))
                  have y2 := hS.free 5 rfl a.to.toNat
                  have HS3 := Lib.hid (hS.setInt 5 rfl a.to.toNat (V - 1))
                  have HV := Lib.hid hV
                  have hm2 : (m : Int) < (l.length : Int) := by omega
                  clear ha hno hni htk hle hdn hf0 hlf hV hS hm hfr a0 a2 hbk hb
                  have HS4 : Hid (SL w w.heap.size (PileRs pb pv n f [.row 3 1 (.slice (some ⟨bk, ok, none⟩) ks.length ck) ks.length (ks.map (.int .i64)), .blk xb #[.int .i64 i, .int .i64 i] 26, .row 3 1 (.slice A8 (out.length + 1) c8) (out.length + 1) ((out ++ [(i : Int)]).map (.int .i64)), .blk ib (iarr (fun j => if j = a.to.toNat then V - 1 else inf' j) k) 3, .blk gb #[.int .i64 k, .slice (some ⟨b, p, none⟩) l.length cap] 45]) (wr.setCell ⟨ib, a.to.toNat, none⟩ (.int .i64 (V - 1)))) := Lib.hid HS3.out
                  have HIF : Hid (∀ j, j < k → (fun j => if j = a.to.toNat then V - 1 else inf' j) j = (ledF l out j l.length : Int) - (hits l (ks.take (t + 1)) j : Int)) := Lib.hid (fun j hj => by
                    have h1 := HF.out j hj
                    have h2 := HH.out j
                    show (if j = a.to.toNat then V - 1 else inf' j) = _
                    by_cases e : j = a.to.toNat
                    · subst e
                      rw [if_pos rfl, h2, if_pos (by omega)]
                      have := HV.out
                      omega
                    · rw [if_neg e, h2, if_neg (by omega)]
                      omega)
                  clear HS3
                  go_upto_region 26 with fail
                  generalize (wr.setCell ⟨ib, a.to.toNat, none⟩ (.int .i64 (V - 1))) = w5 at *
                  have y3 : w5.cell? ⟨ib, a.to.toNat, none⟩ = some (.int .i64 (V - 1)) := HS4.out.cell 5 rfl _ (by rw [iarr_get _ _ _ (by omega)]; simp)
                  clear y0 y1 y2 a1 e0
                  have eto : ((a.to.toNat : Nat) : Int) = a.to := by omega
                  have ETO := Lib.hid eto
                  clear eto
                  by_cases hV0 : V = 1
                  · have HV0 := Lib.hid hV0
                    have hz0 : (V - 1 == 0) = true := by simp [hV0]
                    clear hV0
                    have HPU := Lib.hid (put_kv w w.heap.size _ w5 pb n pv f a.to a.to HS4.out (by omega))
                    go_wp2_with (go_at_call 16; (with_reducible refine HPU.out.mono ?_); rintro e w6 ⟨rfl, v', hS6⟩
                                 have HS6 := Lib.hid hS6
                                 clear hS6 y3)
                    go_roundw
                    case rel =>
                      refine ⟨t + 1, n + 1, v', _, (fun j => if j = a.to.toNat then V - 1 else inf' j), by omega, by go_num, (HP.out.put ⟨a.to, a.to⟩).of (fun x => ?_), HIF.out, HS6.out⟩
                      have h := PM_put (N := k) (out := out ++ [(i : Int)]) (inf := inf') (j := a.to.toNat) (by omega) (by
                        rw [ETO.out]
                        intro hmem
                        rcases List.mem_append.1 hmem with h | h
                        · exact HNO.out.1 h
                        · simp at h
                          exact HNO.out.2 (by omega)) (by rw [HV.out]; omega) x
                      rw [ETO.out] at h
                      rw [HV0.out]
                      exact h
                    case measure => simp [intOf]; omega
                  · have HV0 := Lib.hid hV0
                    have hz0 : (V - 1 == 0) = false := by simp; omega
                    clear hV0
                    go_wp2_with fail
                    go_roundw
                    case rel =>
                      refine ⟨t + 1, n, pv, f, (fun j => if j = a.to.toNat then V - 1 else inf' j), by omega, by go_num, HP.out.of (fun x => ?_), HIF.out, HS4.out⟩
                      exact (PM_keep (by rw [HV.out]; omega) (by have := HV0.out; omega) x).symm
                    case measure => simp [intOf]; omega
                · obtain rfl : t = ks.length := by omega
                  have HS := Lib.hid hS
                  clear hS
                  have hz1 := (HS.out.lt 3 rfl).2
                  have y0 : wr.cell? ⟨xb, 0, none⟩ = some (.int .i64 i) := HS.out.cell 3 rfl 0 rfl
                  have y1 : wr.cell? ⟨xb, 1, none⟩ = some (.int .i64 i) := HS.out.cell 3 rfl 1 rfl
                  have hIF : ∀ j, j < k → inf' j = (ledF l (out ++ [(i : Int)]) j l.length : Int) := fun j hj => by
                    have h1 := HF.out j hj
                    have h2 := HDN.out j
                    rw [List.take_length] at h1
                    omega
                  have HIF := Lib.hid hIF
                  have HGR := Lib.hid (Grd.snoc HG.out HNX.out)
                  clear hIF
                  go_upto_region 19 with fail
                  have hS5 := HS.out.alloc #[.int .i64 i, .int .i64 i] 26
                  obtain ⟨xb2, hxb2⟩ : ∃ xb2, xb2 = wr.heap.size := ⟨_, rfl⟩
                  generalize (wr.alloc (.cells #[.int .i64 i, .int .i64 i] 26)) = w5 at *
                  rw [← hxb2] at hS5 ⊢
                  have hS6 : SL w w.heap.size (PileRs pb pv n f [.blk xb2 #[.int .i64 i, .int .i64 i] 26, .row 3 1 (.slice A8 (out.length + 1) c8) (out.length + 1) ((out ++ [(i : Int)]).map (.int .i64)), .blk ib (iarr inf' k) 3, .blk gb #[.int .i64 k, .slice A l.length cap] 45]) w5 := hS5.pick [1, 2, 0, 5, 6, 7] (by decide) rfl
                  have HT := Lib.hid (take_pm w w.heap.size _ w5 pb n pv f k l (out ++ [(i : Int)]) inf' hS6 HP.out HIF.out (by omega))
                  clear hS5 hS6 hxb2 y0 y1 hz1
                  go_wp2_with (first
                    | (go_at_call 17; (with_reducible refine HT.out.mono ?_); rintro e w6 ⟨kx, okb, v', n', f', rfl, hS6, hyes, hno⟩
                       have HS6 := Lib.hid hS6
                       have HYN := Lib.hid (And.intro hyes hno)
                       clear hS6 hyes hno)
                    | (refine wpList_store_abs rfl 26 (.tmp 11) (.tmp 62) rfl rfl xb2 #[.int .i64 kx, .int .i64 kx] rfl rfl _ _ (HS6.out.blk 2 rfl) (by kernel_rfl) rfl (by simp [Value.oneCell']) ?_; intro w7 ho7 hh7; have HU := Lib.hid (HS6.out.only 2 rfl ho7 hh7); clear ho7 hh7))
                  go_roundw
                  case rel =>
                    have hol : (out ++ [(i : Int)]).length = out.length + 1 := by simp
                    refine ⟨out ++ [(i : Int)], xb2, kx, okb, v', n', f', inf', A8, c8, by rw [hol], rfl, rfl, HGR.out, HIF.out, HYN.out.1, HYN.out.2, ?_⟩
                    rw [hol]
                    exact HU.out
                  case measure => simp [lenOfS]; omega
end Go.Proofs.Ytaaffahjlkfbgaa
