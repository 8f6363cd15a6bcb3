/- The walk of law PileTakes. -/
import Derived.Test.YtaaffahjlkfbgaaDelItem
import Derived.Test.YtaaffahjlkfbgaaActs
import Derived.Deep.CutBlock
namespace Go.Proofs.Ytaaffahjlkfbgaa
open Go.ChangeShapes Go.WideShapes Go.ChangeAt Go.RowKit
set_option linter.unusedVariables false
theorem itemCells_snoc (h : Nat → ItemV) (n : Nat) (x : ItemV) : itemCells h n ++ [.int .i64 x.key, .int .i64 x.id] = itemCells (upd h n x) (n + 1) := by
  rw [itemCells_succ, upd_at, itemCells_ext (f := upd h n x) (g := h) fun k hk => upd_ne h x (by omega)]
  rfl
theorem pile_put {f h : Nat → ItemV} {n : Nat} (hp : PileIs f n (fun x => cnt x h n)) (x : ItemV) : PileIs (putM f n x) (n + 1) (fun y => cnt y (upd h n x) (n + 1)) := by
  have h1 := hp.put x
  refine ⟨h1.heap, fun y => ?_⟩
  rw [h1.cnt]
  show _ = cnt y (upd h n x) n + _
  rw [upd_at, cnt_ext y (f := upd h n x) (g := h) fun k hk => upd_ne h x (by omega)]
theorem pile_take {f h : Nat → ItemV} {n i : Nat} (hp : PileIs f (n + 1) (fun x => cnt x h (n + 1))) (hi : i ≤ n) (hx : h i = f 0) : PileIs (takeM f n) n (fun y => cnt y (delF h i) n) := by
  have h1 := hp.take
  refine ⟨h1.heap, fun y => ?_⟩
  rw [h1.cnt, ← hx]
  have := cnt_del y h n i hi
  show cnt y h (n + 1) - _ = _
  omega
set_option maxRecDepth 100000 in
set_option maxHeartbeats 8000000 in
theorem pileTakes0 (W : World) (A : Option Addr) (cap : Nat) (l : List ActV) (hr : Acts W W.heap.size A l) (hl : l.length ≤ maxLen) :
    Calls Try.prog 4 #[.slice A l.length cap] W fun e w' => e = .returned (.bool true) ∧ Below W.heap.size W w' := by
  have HS0 := Lib.hid (SL.start (Nat.le_refl W.heap.size))
  have HRA : Hid (∀ (w' : World), Below W.heap.size W w' → Acts w' w'.heap.size A l) := Lib.hid (fun w' h => reads_more (Reads.below hr h) h.size)
  obtain ⟨ti, hi0, hz0, hz1, hz2⟩ := info_parts item_info
  have HI := Lib.hid (And.intro hi0 (And.intro hz0 (And.intro hz1 hz2)))
  unfold maxLen at hl
  clear hr hi0 hz0 hz1 hz2
  by_cases g0 : 80 < l.length
  · have g0i : (80 : Int) < (l.length : Int) := by omega
    go_enter Try.func4, Try.ntmps4
    go_wp2_with (go_at_call 15; (with_reducible refine (awake04 _).mono ?_); rintro e w1 ⟨rfl, hb1⟩; have HS1 := Lib.hid (HS0.out.call hb1); clear hb1)
    go_ret
    exact ⟨rfl, HS1.out.below⟩
  · have g0i : ¬ (80 : Int) < (l.length : Int) := by omega
    go_enter Try.func4, Try.ntmps4
    go_upto_region 6 with (first
      | (go_at_call 15; (with_reducible refine (awake04 _).mono ?_); rintro e w1 ⟨rfl, hb1⟩; have HS1 := Lib.hid (HS0.out.call hb1); have HN := Lib.hid (new_any W W.heap.size [.row 26 2 (.slice none 0 0) 0 []] w1 (HS1.out.nil 26 2)); clear hb1)
      | (go_at_call 19; (with_reducible refine HN.out.mono ?_); rintro e w2 ⟨pb, rfl, hS2⟩; have HS2 := Lib.hid hS2; clear hS2))
    go_wp2_with fail
    clear HN HS1 HS0
    go_loopw [20, 4] (fun i s4 wr => ∃ (k n c4 : Nat) (A4 : Option Addr) (f h : Nat → ItemV) (v : Value), k ≤ l.length ∧ i = .int .i64 k ∧ s4 = .slice A4 n c4 ∧ n ≤ k ∧ Hid (PileIs f n (fun x => cnt x h n)) ∧ SL W W.heap.size (PileRs pb v n f [.row 26 2 (.slice A4 n c4) n (itemCells h n)]) wr) (fun i _ _ => l.length - (intOf i).toNat)
    case atStart => exact ⟨0, 0, 0, none, _, fun _ => ⟨0, 0⟩, _, by omega, rfl, rfl, by omega, Lib.hid PileIs.empty, HS2.out⟩
    case round =>
      clear HS2
      obtain ⟨k, n, c4, A4, f, h, v, hk, rfl, rfl, hnk, HP, hS⟩ := hrel
      by_cases hlt : k < l.length
      · obtain ⟨b, p, rfl, hb, a0, a1, a2⟩ := acts_at (HRA.out _ hS.below) hlt
        obtain ⟨tk, hta⟩ : ∃ t, l[k].take = t := ⟨_, rfl⟩
        obtain ⟨kx, hkx⟩ : ∃ t, l[k].key = t := ⟨_, rfl⟩
        obtain ⟨ix, hix⟩ : ∃ t, l[k].id = t := ⟨_, rfl⟩
        rw [hta] at a0
        rw [hkx] at a1
        rw [hix] at a2
        clear hta hkx hix
        have hS2 := hS.alloc #[.bool tk, .int .i64 kx, .int .i64 ix] 35
        have hz1 : b < wr.heap.size := hb
        clear hS
        go_upto_region 10 with fail
        obtain ⟨ab, hab⟩ : ∃ ab, ab = wr.heap.size := ⟨_, rfl⟩
        generalize (wr.alloc (.cells #[.bool tk, .int .i64 kx, .int .i64 ix] 35)) = w9 at *
        rw [← hab] at hS2 ⊢
        clear hab a0 a1 a2 hz1 hb
        have y0 : w9.cell? ⟨ab, 0, none⟩ = some (.bool tk) := hS2.cell 0 rfl 0 rfl
        have y1 : w9.cell? ⟨ab, 1, none⟩ = some (.int .i64 kx) := hS2.cell 0 rfl 1 rfl
        have y2 : w9.cell? ⟨ab, 2, none⟩ = some (.int .i64 ix) := hS2.cell 0 rfl 2 rfl
        have hS3 : SL W W.heap.size (PileRs pb v n f [.blk ab #[.bool tk, .int .i64 kx, .int .i64 ix] 35, .row 26 2 (.slice A4 n c4) n (itemCells h n)]) w9 := hS2.perm ((List.Perm.swap _ _ _).trans (.cons _ (.swap _ _ _)))
        have HS3 := Lib.hid hS3
        clear hS2 hS3
        go_upto_if 26 with fail
        go_cut [4] (fun s4 wx => ∃ (n' c' : Nat) (A' : Option Addr) (f' h' : Nat → ItemV) (v' : Value), s4 = .slice A' n' c' ∧ n' ≤ k + 1 ∧ Hid (PileIs f' n' (fun x => cnt x h' n')) ∧ SL W W.heap.size (PileRs pb v' n' f' [.row 26 2 (.slice A' n' c') n' (itemCells h' n')]) wx)
        case first =>
          cases tk
          · have HPUT := Lib.hid (put_kv W W.heap.size _ w9 pb n v f kx ix HS3.out (by omega))
            go_upto_region 12 with (go_at_call 16; (with_reducible refine HPUT.out.mono ?_); rintro e w10 ⟨rfl, v10, hS10⟩
                                    have y3 : w10.cell? ⟨ab, 1, none⟩ = some (.int .i64 kx) := hS10.cell 2 rfl 1 rfl
                                    have y4 : w10.cell? ⟨ab, 2, none⟩ = some (.int .i64 ix) := hS10.cell 2 rfl 2 rfl
                                    clear y0 y1 y2)
            clear HPUT HS3
            go_wp2_with (at_builtin; refine stopHere ?_)
            show wpList _ _ _ _ _ _
            refine wpList_append_sl rfl _ _ 33 rfl hS10 3 ti (.agg #[.int .i64 0, .int .i64 0]) 2 16 Try.underlying33 HI.out.1 HI.out.2.1 HI.out.2.2.1 HI.out.2.2.2 rfl (by decide) _ _ 1 _ rfl rfl _ rfl rfl (by decide) rfl (by simp [Value.oneCell']) (by omega) (by decide) ?_
            intro v' w' hS11 hz11
            obtain ⟨A8, c8, rfl, _, _⟩ := (hS11.row 3 rfl).slice_
            have hS12 : SL W W.heap.size (PileRs pb v10 (n + 1) (putM f n ⟨kx, ix⟩) [.row 26 2 (.slice A8 (n + 1) c8) (n + 1) (itemCells (upd h n ⟨kx, ix⟩) (n + 1))]) w' := by
              rw [← itemCells_snoc h n ⟨kx, ix⟩]
              exact SL.sub hS11 (.cons_cons _ (.cons_cons _ (.cons _ (List.Sublist.refl _))))
            have HS12 := Lib.hid hS12
            clear hS10 hS11 hS12 hz11 y3 y4
            go_wp2_with fail
            go_meet
            exact ⟨_, _, _, _, _, _, rfl, by omega, Lib.hid (pile_put HP.out ⟨kx, ix⟩), HS12.out⟩
          · cases n with
            | zero =>
              have HTK := Lib.hid (take_none W W.heap.size _ w9 pb v f HS3.out)
              go_upto_region 14 with (go_at_call 17; (with_reducible refine HTK.out.mono ?_); rintro e w10 ⟨rfl, hS10⟩; clear y0 y1 y2)
              have hS11 := hS10.alloc #[.int .i64 0, .int .i64 0] 26
              obtain ⟨xb, hxb⟩ : ∃ xb, xb = w10.heap.size := ⟨_, rfl⟩
              generalize (w10.alloc (.cells #[.int .i64 0, .int .i64 0] 26)) = w11 at *
              rw [← hxb] at hS11 ⊢
              have z0 : w11.cell? ⟨xb, 0, none⟩ = some (.int .i64 0) := hS11.cell 0 rfl 0 rfl
              have z1 : w11.cell? ⟨xb, 1, none⟩ = some (.int .i64 0) := hS11.cell 0 rfl 1 rfl
              have hS12 : SL W W.heap.size (PileRs pb v 0 f [.row 26 2 (.slice A4 0 c4) 0 (itemCells h 0)]) w11 := SL.sub hS11 (.cons _ (.cons_cons _ (.cons_cons _ (.cons _ (List.Sublist.refl _)))))
              have HS12 := Lib.hid hS12
              have h13 : ((0 : Int) == 0 && (0 : Int) == 0) = true := rfl
              clear hS10 hS11 hS12 hxb HTK HS3
              go_wp2_with fail
              refine wp_loop_rounds 1 ?_
              rw [rounds_succ]
              go_wp2_with fail
              go_meet
              exact ⟨_, _, _, _, _, _, rfl, by omega, HP, HS12.out⟩
            | succ n =>
              obtain ⟨x, hx⟩ : ∃ x, f 0 = x := ⟨_, rfl⟩
              have HX := Lib.hid hx
              have hfst := HP.out.first
              have HTK := Lib.hid (take_kv W W.heap.size _ w9 pb n v f x.key x.id hx HS3.out (by omega))
              rw [hx] at hfst
              have HF : Hid (∀ j, j ≤ n → ¬ (h j).lt x) := Lib.hid (fun j hj => hfst.2 _ (cnt_pos (by omega)))
              have HF1 := Lib.hid hfst.1
              clear hx hfst
              go_upto_region 14 with (go_at_call 17; (with_reducible refine HTK.out.mono ?_); rintro e w10 ⟨rfl, v10, hS10⟩; clear y0 y1 y2)
              have hS11 := hS10.alloc #[.int .i64 x.key, .int .i64 x.id] 26
              obtain ⟨xb, hxb⟩ : ∃ xb, xb = w10.heap.size := ⟨_, rfl⟩
              generalize (w10.alloc (.cells #[.int .i64 x.key, .int .i64 x.id] 26)) = w11 at *
              rw [← hxb] at hS11 ⊢
              rcases (hS11.row 4 rfl).in_ with h0 | ⟨g4, o4, c9, e8, hg8⟩
              · omega
              obtain ⟨rfl, rfl⟩ : A4 = some ⟨g4, o4, none⟩ ∧ c4 = c9 := by simpa using e8
              have HS11 : Hid (SL W W.heap.size [.blk xb #[.int .i64 x.key, .int .i64 x.id] 26, .blk pb #[v10] 91, .row 26 2 v10 n (itemCells (takeM f n) n), .row 26 2 (.slice (some ⟨g4, o4, none⟩) (n + 1) c4) (n + 1) (itemCells h (n + 1))] w11) := Lib.hid (SL.sub hS11 (.cons_cons _ (.cons_cons _ (.cons_cons _ (.cons _ (List.Sublist.refl _))))))
              have hl0 : (0 : Int) < (n : Int) + 1 := by omega
              clear hS10 hS11 hxb HTK HS3 e8 hg8
              go_wp2_with fail
              go_loopw [63, 9] (fun i s9 wi => ∃ (t : Nat) (a : Int), t ≤ n + 1 ∧ i = .int .i64 t ∧ s9 = .int .i64 a ∧ Hid ((a = -1 ∧ ∀ j, j < t → h j ≠ x) ∨ ∃ q : Nat, q < t ∧ a = q ∧ h q = x) ∧ SL W W.heap.size [.blk xb #[.int .i64 x.key, .int .i64 x.id] 26, .blk pb #[v10] 91, .row 26 2 v10 n (itemCells (takeM f n) n), .row 26 2 (.slice (some ⟨g4, o4, none⟩) (n + 1) c4) (n + 1) (itemCells h (n + 1))] wi) (fun i _ _ => n + 1 - (intOf i).toNat)
              case atStart => exact ⟨0, -1, by omega, rfl, rfl, Lib.hid (.inl ⟨rfl, fun j hj => absurd hj (by omega)⟩), HS11.out⟩
              case round =>
                clear HS11
                obtain ⟨t, a, ht, rfl, rfl, HA, hS⟩ := hrel
                by_cases hlt2 : t < n + 1
                · obtain ⟨i0, i1⟩ := itemCells_get h hlt2
                  have u0 : wr.cell? ⟨g4, o4 + t * 2, none⟩ = some (.int .i64 (h t).key) := hS.rowCell 3 rfl _ i0
                  have u1 : wr.cell? ⟨g4, o4 + t * 2 + 1, none⟩ = some (.int .i64 (h t).id) := by rw [Nat.add_assoc]; exact hS.rowCell 3 rfl _ i1
                  have hz4 : g4 < wr.heap.size := World.block_lt_of_cell? wr _ u0
                  have hno := HF.out t (by omega)
                  obtain ⟨y, hy⟩ : ∃ y, h t = y := ⟨_, rfl⟩
                  have HY := Lib.hid hy
                  rw [hy] at u0 u1 hno
                  have HAH := Lib.hid (ahead_no y.key y.id x.key x.id hno)
                  have hS5 := hS.alloc #[.int .i64 y.key, .int .i64 y.id] 26
                  clear hy hS i0 i1 hno
                  go_upto_region 20 with fail
                  obtain ⟨yb, hyb⟩ : ∃ yb, yb = wr.heap.size := ⟨_, rfl⟩
                  generalize (wr.alloc (.cells #[.int .i64 y.key, .int .i64 y.id] 26)) = w12 at *
                  rw [← hyb] at hS5 ⊢
                  clear hyb u0 u1 hz4
                  have z0 : w12.cell? ⟨xb, 0, none⟩ = some (.int .i64 x.key) := hS5.cell 1 rfl 0 rfl
                  have z1 : w12.cell? ⟨xb, 1, none⟩ = some (.int .i64 x.id) := hS5.cell 1 rfl 1 rfl
                  have z2 : w12.cell? ⟨yb, 0, none⟩ = some (.int .i64 y.key) := hS5.cell 0 rfl 0 rfl
                  have z3 : w12.cell? ⟨yb, 1, none⟩ = some (.int .i64 y.id) := hS5.cell 0 rfl 1 rfl
                  have HS5 := Lib.hid hS5
                  clear hS5
                  go_upto_region 22 with (go_at_call 20; (with_reducible refine (HAH.out _).mono ?_); rintro e w13 ⟨rfl, hb13⟩
                                          have hS6 := HS5.out.call hb13
                                          have z4 : w13.cell? ⟨xb, 0, none⟩ = some (.int .i64 x.key) := hS6.cell 1 rfl 0 rfl
                                          have z5 : w13.cell? ⟨xb, 1, none⟩ = some (.int .i64 x.id) := hS6.cell 1 rfl 1 rfl
                                          have z6 : w13.cell? ⟨yb, 0, none⟩ = some (.int .i64 y.key) := hS6.cell 0 rfl 0 rfl
                                          have z7 : w13.cell? ⟨yb, 1, none⟩ = some (.int .i64 y.id) := hS6.cell 0 rfl 1 rfl
                                          have HS6 := Lib.hid hS6
                                          clear hS6 hb13 z0 z1 z2 z3)
                  clear HAH
                  by_cases hyx : y = x
                  · obtain rfl : x = y := hyx.symm
                    go_wp2_with fail
                    go_roundw
                    case rel => exact ⟨t + 1, t, by omega, by go_num, rfl, Lib.hid (.inr ⟨t, by omega, rfl, HY.out⟩), HS6.out.tail⟩
                    case measure => simp [intOf]; omega
                  · have HYX := Lib.hid hyx
                    have HN : Hid (SL W W.heap.size [.blk xb #[.int .i64 x.key, .int .i64 x.id] 26, .blk pb #[v10] 91, .row 26 2 v10 n (itemCells (takeM f n) n), .row 26 2 (.slice (some ⟨g4, o4, none⟩) (n + 1) c4) (n + 1) (itemCells h (n + 1))] w13 ∧ ((a = -1 ∧ ∀ j, j < t + 1 → h j ≠ x) ∨ ∃ q : Nat, q < t + 1 ∧ a = q ∧ h q = x)) := Lib.hid ⟨HS6.out.tail, by
                      rcases HA.out with ⟨h1, h2⟩ | ⟨q, h1, h2, h3⟩
                      · refine .inl ⟨h1, fun j hj => ?_⟩
                        by_cases e : j = t
                        · subst e; rw [HY.out]; exact HYX.out
                        · exact h2 j (by omega)
                      · exact .inr ⟨q, by omega, h2, h3⟩⟩
                    by_cases hk : y.key = x.key
                    · have hid : ¬ y.id = x.id := fun h => hyx (ItemV.ext' hk h)
                      clear hyx
                      go_wp2_with fail
                      go_roundw
                      case rel => exact ⟨t + 1, a, by omega, by go_num, rfl, Lib.hid HN.out.2, HN.out.1⟩
                      case measure => simp [intOf]; omega
                    · clear hyx
                      go_wp2_with fail
                      go_roundw
                      case rel => exact ⟨t + 1, a, by omega, by go_num, rfl, Lib.hid HN.out.2, HN.out.1⟩
                      case measure => simp [intOf]; omega
                · obtain rfl : t = n + 1 := by omega
                  obtain ⟨q, hq, rfl, hqx⟩ : ∃ q : Nat, q < n + 1 ∧ a = q ∧ h q = x := by
                    rcases HA.out with ⟨_, h2⟩ | h2
                    · obtain ⟨j, hj, e⟩ := cnt_some HF1.out
                      exact absurd e (h2 j hj)
                    · exact h2
                  have HDEL := Lib.hid (delete_item W W.heap.size _ wr 3 n c4 g4 o4 q h hS rfl (by omega) (by omega))
                  have HQX := Lib.hid hqx
                  clear hS hqx HA
                  go_wp2_with (go_at_call 21; (with_reducible refine HDEL.out.mono ?_); rintro e w14 ⟨rfl, hS14⟩; have HS14 := Lib.hid hS14; clear hS14)
                  go_meet
                  exact ⟨_, _, _, _, _, _, rfl, by omega, Lib.hid (pile_take HP.out (i := q) (by omega) (by rw [HQX.out, HX.out])), HS14.out.tail⟩
        case rest =>
        clear HS3 y0 y1 y2
        obtain ⟨n', c', A', f', h', v', rfl, hn', HP', hS⟩ := hcut
        obtain ⟨A9, c9, rfl, _, _⟩ := (hS.row 1 rfl).slice_
        have HL := Lib.hid (plen_any pb n' c9 A9 wc (hS.cell 0 rfl 0 rfl))
        have HS := Lib.hid hS
        clear hS
        go_wp2_with (go_at_call 18; (with_reducible refine HL.out.mono ?_); rintro e w7 ⟨rfl, rfl⟩)
        go_roundw
        case rel => exact ⟨k + 1, n', c', A', f', h', _, by omega, by go_num, rfl, by omega, HP', HS.out⟩
        case measure => simp [intOf]; omega
      · obtain rfl : k = l.length := by omega
        have HS := Lib.hid hS
        clear hS
        go_wp2_with fail
        go_ret
        exact ⟨rfl, HS.out.below⟩
set_option maxRecDepth 100000 in
theorem pileTakes_walk {H : Type} {enc : TypeId × Value → H} {base : Nat} (W : World) (v : Value) (d : DataW H) (p : List MemPlace) (o : Value.okWide Try.prog W .any base 31 v) (k : DataW.Trod enc Try.prog W 0 (fun _ => true) true 31 v d p) :
    Calls Try.prog 4 #[v] W fun e w' => e = .returned (.bool true) ∧ Below W.heap.size W w' := by
  obtain ⟨A, cap, l, rfl, hr, hl⟩ := acts_open o k
  exact pileTakes0 W A cap l hr hl
end Go.Proofs.Ytaaffahjlkfbgaa
