/- The walk of law PileSorts. -/
import Derived.Test.YtaaffahjlkfbgaaSortI
import Derived.Test.YtaaffahjlkfbgaaPileTakes
namespace Go.Proofs.Ytaaffahjlkfbgaa
open Go.ChangeShapes Go.WideShapes Go.ChangeAt Go.RowKit Go.Shelf
set_option linter.unusedVariables false
/-- What is left, from the k-th on, of a sorted row. -/
theorem pile_next {f h : Nat → ItemV} {n k : Nat} (hp : PileIs f (n + 1) (fun x => cnt x (fun j => h (k + j)) (n + 1))) (hs : ∀ i j, i < j → j < k + (n + 1) → ¬ (h j).lt (h i)) :
    f 0 = h k ∧ PileIs (takeM f n) n (fun x => cnt x (fun j => h (k + 1 + j)) n) := by
  obtain ⟨h1, h2⟩ := hp.first
  obtain ⟨j, hj, e⟩ := cnt_some h1
  have h3 : ¬ (h k).lt (f 0) := h2 (h k) (cnt_pos (f := fun j => h (k + j)) (k := 0) (by omega))
  have h4 : ¬ (f 0).lt (h k) := by
    rw [← e]
    by_cases h0 : j = 0
    · subst h0; exact ItemV.irr _
    · exact hs k (k + j) (by omega) (by omega)
  have h5 : f 0 = h k := ItemV.total h4 h3
  refine ⟨h5, ?_⟩
  have h6 := pile_take (i := 0) hp (by omega) (by show h (k + 0) = f 0; rw [h5]; rfl)
  refine ⟨h6.heap, fun y => ?_⟩
  rw [h6.cnt]
  exact cnt_ext y fun i hi => by
    unfold delF
    rw [if_neg (by omega)]
    show h (k + (i + 1)) = h (k + 1 + i)
    congr 1
    omega
theorem pile_sorted {f h h' : Nat → ItemV} {n : Nat} (hp : PileIs f n (fun x => cnt x h n)) (hc : ∀ x, cnt x h' n = cnt x h n) : PileIs f n (fun x => cnt x (fun j => h' (0 + j)) n) :=
  ⟨hp.heap, fun x => by rw [hp.cnt, ← hc]; exact cnt_ext x fun i _ => by rw [Nat.zero_add]⟩
set_option maxRecDepth 100000 in
set_option maxHeartbeats 8000000 in
theorem pileSorts0 (W : World) (A : Option Addr) (cap : Nat) (l : List ActV) (hr : Acts W W.heap.size A l) (hl : l.length ≤ maxLen) :
    Calls Try.prog 14 #[.slice A l.length cap] W fun e w' => e = .returned (.bool true) ∧ Below W.heap.size W w' := by
  have HS0 := Lib.hid (SL.start (Nat.le_refl W.heap.size))
  have HRA : Hid (∀ (w' : World), Below W.heap.size W w' → Acts w' w'.heap.size A l) := Lib.hid (fun w' h => reads_more (Reads.below hr h) h.size)
  obtain ⟨ti, hi0, hz0, hz1, hz2⟩ := info_parts item_info
  have HI := Lib.hid (And.intro hi0 (And.intro hz0 (And.intro hz1 hz2)))
  unfold maxLen at hl
  clear hr hi0 hz0 hz1 hz2
  by_cases g0 : 80 < l.length
  · have g0i : (80 : Int) < (l.length : Int) := by omega
    go_enter Try.func14, Try.ntmps14
    go_wp2_with (go_at_call 15; (with_reducible refine (awake04 _).mono ?_); rintro e w1 ⟨rfl, hb1⟩; have HS1 := Lib.hid (HS0.out.call hb1); clear hb1)
    go_ret
    exact ⟨rfl, HS1.out.below⟩
  · have g0i : ¬ (80 : Int) < (l.length : Int) := by omega
    go_enter Try.func14, Try.ntmps14
    go_upto_region 6 with (first
      | (go_at_call 15; (with_reducible refine (awake04 _).mono ?_); rintro e w1 ⟨rfl, hb1⟩; have HS1 := Lib.hid (HS0.out.call hb1); have HN := Lib.hid (new_any W W.heap.size [.row 26 2 (.slice none 0 0) 0 []] w1 (HS1.out.nil 26 2)); clear hb1)
      | (go_at_call 19; (with_reducible refine HN.out.mono ?_); rintro e w2 ⟨pb, rfl, hS2⟩; have HS2 := Lib.hid hS2; clear hS2))
    go_wp2_with fail
    clear HN HS1 HS0
    go_loopw [21, 4] (fun i s4 wr => ∃ (k c4 : Nat) (A4 : Option Addr) (f h : Nat → ItemV) (v : Value), k ≤ l.length ∧ i = .int .i64 k ∧ s4 = .slice A4 k c4 ∧ Hid (PileIs f k (fun x => cnt x h k)) ∧ SL W W.heap.size (PileRs pb v k f [.row 26 2 (.slice A4 k c4) k (itemCells h k)]) wr) (fun i _ _ => l.length - (intOf i).toNat)
    case atStart => exact ⟨0, 0, none, _, fun _ => ⟨0, 0⟩, _, by omega, rfl, rfl, Lib.hid PileIs.empty, HS2.out⟩
    case round =>
      clear HS2
      obtain ⟨k, c4, A4, f, h, v, hk, rfl, rfl, HP, hS⟩ := hrel
      by_cases hlt : k < l.length
      · obtain ⟨b, p, rfl, hb, a0, a1, a2⟩ := acts_at (HRA.out _ hS.below) hlt
        obtain ⟨tk, hta⟩ : ∃ t, l[k].take = t := ⟨_, rfl⟩
        obtain ⟨kx, hkx⟩ : ∃ t, l[k].key = t := ⟨_, rfl⟩
        obtain ⟨ix, hix⟩ : ∃ t, l[k].id = t := ⟨_, rfl⟩
        rw [hta] at a0
        rw [hkx] at a1
        rw [hix] at a2
        clear hta hkx hix
        have hS2 := hS.alloc #[.bool tk, .int .i64 kx, .int .i64 ix] 35
        have hz1 : b < wr.heap.size := hb
        clear hS
        go_upto_region 10 with fail
        obtain ⟨ab, hab⟩ : ∃ ab, ab = wr.heap.size := ⟨_, rfl⟩
        generalize (wr.alloc (.cells #[.bool tk, .int .i64 kx, .int .i64 ix] 35)) = w9 at *
        rw [← hab] at hS2 ⊢
        clear hab a0 a1 a2 hz1 hb
        have y1 : w9.cell? ⟨ab, 1, none⟩ = some (.int .i64 kx) := hS2.cell 0 rfl 1 rfl
        have y2 : w9.cell? ⟨ab, 2, none⟩ = some (.int .i64 ix) := hS2.cell 0 rfl 2 rfl
        have hS3 : SL W W.heap.size (PileRs pb v k f [.blk ab #[.bool tk, .int .i64 kx, .int .i64 ix] 35, .row 26 2 (.slice A4 k c4) k (itemCells h k)]) w9 := hS2.perm ((List.Perm.swap _ _ _).trans (.cons _ (.swap _ _ _)))
        have HS3 := Lib.hid hS3
        clear hS2 hS3
        have HPUT := Lib.hid (put_kv W W.heap.size _ w9 pb k v f kx ix HS3.out (by omega))
        go_upto_region 11 with (go_at_call 16; (with_reducible refine HPUT.out.mono ?_); rintro e w10 ⟨rfl, v10, hS10⟩
                                have y3 : w10.cell? ⟨ab, 1, none⟩ = some (.int .i64 kx) := hS10.cell 2 rfl 1 rfl
                                have y4 : w10.cell? ⟨ab, 2, none⟩ = some (.int .i64 ix) := hS10.cell 2 rfl 2 rfl
                                clear y1 y2)
        clear HPUT HS3
        go_wp2_with (at_builtin; refine stopHere ?_)
        show wpList _ _ _ _ _ _
        refine wpList_append_sl rfl _ _ 33 rfl hS10 3 ti (.agg #[.int .i64 0, .int .i64 0]) 2 16 Try.underlying33 HI.out.1 HI.out.2.1 HI.out.2.2.1 HI.out.2.2.2 rfl (by decide) _ _ 1 _ rfl rfl _ rfl rfl (by decide) rfl (by simp [Value.oneCell']) (by omega) (by decide) ?_
        intro v' w' hS11 hz11
        obtain ⟨A8, c8, rfl, _, _⟩ := (hS11.row 3 rfl).slice_
        have hS12 : SL W W.heap.size (PileRs pb v10 (k + 1) (putM f k ⟨kx, ix⟩) [.row 26 2 (.slice A8 (k + 1) c8) (k + 1) (itemCells (upd h k ⟨kx, ix⟩) (k + 1))]) w' := by
          rw [← itemCells_snoc h k ⟨kx, ix⟩]
          exact SL.sub hS11 (.cons_cons _ (.cons_cons _ (.cons _ (List.Sublist.refl _))))
        have HS12 := Lib.hid hS12
        clear hS10 hS11 hS12 hz11 y3 y4
        go_wp2_with fail
        go_roundw
        case rel => exact ⟨k + 1, _, _, _, _, _, by omega, by go_num, rfl, Lib.hid (pile_put HP.out ⟨kx, ix⟩), HS12.out⟩
        case measure => simp [intOf]; omega
      · obtain rfl : k = l.length := by omega
        have hSORT : Calls Try.prog 42 #[.slice A4 l.length c4, .func (.func 43) #[] #[]] wr fun e w' => e = .returned (.tuple #[]) ∧
            ∃ h', SL W W.heap.size (PileRs pb v l.length f [.row 26 2 (.slice A4 l.length c4) l.length (itemCells h' l.length)]) w' ∧ PileIs f l.length (fun x => cnt x (fun j => h' (0 + j)) l.length) ∧ ∀ i j, i < j → j < l.length → ¬ (h' j).lt (h' i) := by
          rcases (hS.row 2 rfl).in_ with h0 | ⟨g4, o4, c9, e8, hg8⟩
          · have hc := AnyF.slices_SortFunc_none { Try.sortIt with } A4 c4 (.func (.func 43) #[] #[]) wr
            rw [h0]
            rw [h0] at hS HP
            exact hc.mono fun e w' ⟨he, hw⟩ => ⟨he, h, by rw [hw]; exact hS, pile_sorted HP.out fun _ => rfl, fun i j _ hj => absurd hj (by omega)⟩
          · obtain ⟨rfl, rfl⟩ : A4 = some ⟨g4, o4, none⟩ ∧ c4 = c9 := by simpa using e8
            by_cases hn0 : l.length = 0
            · have hc := AnyF.slices_SortFunc_none { Try.sortIt with } (some ⟨g4, o4, none⟩) c4 (.func (.func 43) #[] #[]) wr
              rw [hn0]
              rw [hn0] at hS HP
              exact hc.mono fun e w' ⟨he, hw⟩ => ⟨he, h, by rw [hw]; exact hS, pile_sorted HP.out fun _ => rfl, fun i j _ hj => absurd hj (by omega)⟩
            · exact (sort_items W W.heap.size _ wr 2 l.length c4 g4 o4 h hS rfl (by omega) (by omega)).mono fun e w' ⟨he, h', h1, h2, h3⟩ => ⟨he, h', h1, pile_sorted HP.out h2, h3⟩
        have HSORT := Lib.hid hSORT
        clear hS hSORT HP
        generalize l.length = n at *
        go_upto_region 14 with (go_at_call 42; (with_reducible refine HSORT.out.mono ?_); rintro e w5 ⟨rfl, h', hS5, hp5, hs5⟩; have HS5 := Lib.hid hS5; have HP5 := Lib.hid hp5; have HO5 := Lib.hid hs5; clear hS5 hp5 hs5)
        clear HSORT
        go_wp2_with fail
        go_loopw [45] (fun i wi => ∃ (t m : Nat) (f' : Nat → ItemV) (v' : Value), t + m = n ∧ i = .int .i64 t ∧ Hid (PileIs f' m (fun x => cnt x (fun j => h' (t + j)) m)) ∧ SL W W.heap.size (PileRs pb v' m f' [.row 26 2 (.slice A4 n c4) n (itemCells h' n)]) wi) (fun i _ => n - (intOf i).toNat)
        case atStart => exact ⟨0, n, f, v, by omega, rfl, HP5, HS5.out⟩
        case round =>
          clear HS5 HP5
          obtain ⟨t, m, f', v', htm, rfl, HP, hS⟩ := hrel
          cases m with
          | succ m =>
            obtain ⟨hf0, hnext⟩ := pile_next HP.out (fun i j hij hj => HO5.out i j hij (by omega))
            have HNEXT := Lib.hid hnext
            obtain ⟨i0, i1⟩ := itemCells_get h' (show t < n by omega)
            rcases (hS.row 2 rfl).in_ with h0 | ⟨g4, o4, c9, e8, hg8⟩
            · omega
            obtain ⟨rfl, rfl⟩ : A4 = some ⟨g4, o4, none⟩ ∧ c4 = c9 := by simpa using e8
            have u0 : wr.cell? ⟨g4, o4 + t * 2, none⟩ = some (.int .i64 (h' t).key) := hS.rowCell 2 rfl _ i0
            have u1 : wr.cell? ⟨g4, o4 + t * 2 + 1, none⟩ = some (.int .i64 (h' t).id) := by rw [Nat.add_assoc]; exact hS.rowCell 2 rfl _ i1
            have hz4 : g4 < wr.heap.size := World.block_lt_of_cell? wr _ u0
            obtain ⟨y, hy⟩ : ∃ y, h' t = y := ⟨_, rfl⟩
            rw [hy] at u0 u1 hf0
            have hS5 := (hS.alloc #[.int .i64 y.key, .int .i64 y.id] 26)
            have hlt2 : (t : Int) < (n : Int) := by omega
            clear hy hS i0 i1 e8 hg8 hnext HP
            go_upto_region 17 with fail
            obtain ⟨yb, hyb⟩ : ∃ yb, yb = wr.heap.size := ⟨_, rfl⟩
            generalize (wr.alloc (.cells #[.int .i64 y.key, .int .i64 y.id] 26)) = w12 at *
            rw [← hyb] at hS5 ⊢
            clear hyb u0 u1 hz4
            have hS6 : SL W W.heap.size (PileRs pb v' (m + 1) f' [.blk yb #[.int .i64 y.key, .int .i64 y.id] 26, .row 26 2 (.slice (some ⟨g4, o4, none⟩) n c4) n (itemCells h' n)]) w12 := hS5.perm ((List.Perm.swap _ _ _).trans (.cons _ (.swap _ _ _)))
            have HTK := Lib.hid (take_kv W W.heap.size _ w12 pb m v' f' y.key y.id hf0 hS6 (by omega))
            clear hS5 hS6 hf0
            go_upto_region 18 with (go_at_call 17; (with_reducible refine HTK.out.mono ?_); rintro e w13 ⟨rfl, v13, hS13⟩)
            have hS14 := hS13.alloc #[.int .i64 y.key, .int .i64 y.id] 26
            obtain ⟨xb, hxb⟩ : ∃ xb, xb = w13.heap.size := ⟨_, rfl⟩
            generalize (w13.alloc (.cells #[.int .i64 y.key, .int .i64 y.id] 26)) = w14 at *
            rw [← hxb] at hS14 ⊢
            have z0 : w14.cell? ⟨xb, 0, none⟩ = some (.int .i64 y.key) := hS14.cell 0 rfl 0 rfl
            have z1 : w14.cell? ⟨xb, 1, none⟩ = some (.int .i64 y.id) := hS14.cell 0 rfl 1 rfl
            have z2 : w14.cell? ⟨yb, 0, none⟩ = some (.int .i64 y.key) := hS14.cell 3 rfl 0 rfl
            have z3 : w14.cell? ⟨yb, 1, none⟩ = some (.int .i64 y.id) := hS14.cell 3 rfl 1 rfl
            have HS15 : Hid (SL W W.heap.size (PileRs pb v13 m (takeM f' m) [.row 26 2 (.slice (some ⟨g4, o4, none⟩) n c4) n (itemCells h' n)]) w14) := Lib.hid (SL.sub hS14 (.cons _ (.cons_cons _ (.cons_cons _ (.cons _ (List.Sublist.refl _))))))
            clear hS13 hS14 hxb HTK
            go_wp2_with fail
            go_roundw
            case rel => exact ⟨t + 1, m, _, _, by omega, by go_num, HNEXT, HS15.out⟩
            case measure => simp [intOf]; omega
          | zero =>
            obtain rfl : t = n := by omega
            have HTK := Lib.hid (take_none W W.heap.size _ wr pb v' f' hS)
            clear hS HP HO5
            go_upto_region 22 with (go_at_call 17; (with_reducible refine HTK.out.mono ?_); rintro e w13 ⟨rfl, hS13⟩)
            have hS14 := hS13.alloc #[.int .i64 0, .int .i64 0] 26
            generalize (w13.alloc (.cells #[.int .i64 0, .int .i64 0] 26)) = w14 at *
            obtain ⟨A9, c9, rfl, _, _⟩ := (hS14.row 2 rfl).slice_
            have HL := Lib.hid (plen_any pb 0 c9 A9 w14 (hS14.cell 1 rfl 0 rfl))
            have HB := Lib.hid hS14.below
            clear hS13 hS14 HTK
            go_wp2_with (go_at_call 18; (with_reducible refine HL.out.mono ?_); rintro e w15 ⟨rfl, rfl⟩)
            go_ret
            exact ⟨rfl, HB.out⟩
set_option maxRecDepth 100000 in
theorem pileSorts_walk {H : Type} {enc : TypeId × Value → H} {base : Nat} (W : World) (v : Value) (d : DataW H) (p : List MemPlace) (o : Value.okWide Try.prog W .any base 31 v) (k : DataW.Trod enc Try.prog W 0 (fun _ => true) true 31 v d p) :
    Calls Try.prog 14 #[v] W fun e w' => e = .returned (.bool true) ∧ Below W.heap.size W w' := by
  obtain ⟨A, cap, l, rfl, hr, hl⟩ := acts_open o k
  exact pileSorts0 W A cap l hr hl
end Go.Proofs.Ytaaffahjlkfbgaa
