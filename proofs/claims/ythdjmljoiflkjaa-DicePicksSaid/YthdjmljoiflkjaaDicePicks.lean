/- The walk of law DicePicks. -/
import Derived.Test.YthdjmljoiflkjaaPicks
namespace Go.Proofs.Ythdjmljoiflkjaa
open Go.ChangeShapes Go.WideShapes Go.ChangeAt Go.RowKit Go.Deep Go.Joins
set_option linter.unusedVariables false
theorem reads_asks {w : World} {a : Addr} {len : Nat} (h : ∀ i, i < len → ∃ (f : Bool) (t : Int), t ≤ 9223372036854775807 ∧ w.cell? (a.add (i * 2 + 0)) = some (.bool f) ∧ w.cell? (a.add (i * 2 + 1)) = some (.int .i64 t)) :
    ∃ l : List AskV, l.length = len ∧ Asks w w.heap.size (some a) l ∧ ∀ x ∈ l, x.n ≤ 9223372036854775807 := by
  have : ∃ F : Nat → AskV, ∀ i, i < len → (F i).n ≤ 9223372036854775807 ∧ w.cell? (a.add (i * 2 + 0)) = some (.bool (F i).next) ∧ w.cell? (a.add (i * 2 + 1)) = some (.int .i64 (F i).n) := by
    refine ⟨fun i => if hi : i < len then ⟨(h i hi).choose, (h i hi).choose_spec.choose⟩ else ⟨false, 0⟩, fun i hi => ?_⟩
    simp only [dif_pos hi]
    exact (h i hi).choose_spec.choose_spec
  obtain ⟨F, hF⟩ := this
  refine ⟨(List.range len).map F, by simp, ?_, by
    intro x hx
    obtain ⟨i, hi, rfl⟩ := List.mem_map.1 hx
    exact (hF i (by simpa using hi)).1⟩
  have hlen : ((List.range len).map F).length = len := by simp
  have hcl : ∀ l : List AskV, (askCells l).length = l.length * 2 := by
    intro l
    induction l with
    | nil => rfl
    | cons x r ih => unfold askCells at ih ⊢; rw [List.flatMap_cons, List.length_append, ih]; simp [AskV.cells]; omega
  refine ⟨hcl _, fun hn => ⟨a, rfl, ?_, fun j u hu => ?_⟩⟩
  · rw [hlen] at hn
    have := World.block_lt_of_cell? w _ (hF 0 hn).2.1
    rwa [block_of_add] at this
  · have hj : j < len * 2 := by
      have := (List.getElem?_eq_some_iff.1 hu).1
      rw [hcl, hlen] at this; exact this
    have hi : j / 2 < len := by omega
    obtain ⟨g0, g1⟩ := askCells_get ((List.range len).map F) (j / 2) (by simpa using hi)
    obtain ⟨_, c0, c1⟩ := hF (j / 2) hi
    simp only [List.getElem_map, List.getElem_range] at g0 g1
    have e : j = j / 2 * 2 + j % 2 := by omega
    rcases (show j % 2 = 0 ∨ j % 2 = 1 by omega) with h | h
    · rw [h] at e; rw [e] at hu ⊢; rw [c0, ← hu]; exact g0.symm
    · rw [h] at e; rw [e] at hu ⊢; rw [c1, ← hu]; exact g1.symm
theorem asks_open {H : Type} {enc : TypeId × Value → H} {W : World} {base : Nat} {v : Value} {d : DataW H} {p : List MemPlace} (o : Value.okWide Try.prog W .any base 23 v) (k : DataW.Trod enc Try.prog W 0 (fun _ => true) true 23 v d p) :
    ∃ (A : Option Addr) (cap : Nat) (l : List AskV), v = .slice A l.length cap ∧ Asks W W.heap.size A l ∧ l.length ≤ maxLen ∧ ∀ x ∈ l, x.n ≤ 9223372036854775807 := by
  obtain ⟨a0, len0, cap0, hv⟩ := okWide_slice Try.underlying23 o
  subst hv
  obtain ⟨fuel, hf⟩ := k
  rcases open_slice_fields Try.underlying23 Try.underlying30 (by kernel_rfl) (by kernel_rfl) hf with ⟨hcs, _⟩ | ⟨a, len, cap, m, D, Pl, hcs, hb, hl, hm, hmm, _, hg⟩
  · simp [Value.cells] at hcs
    obtain ⟨rfl, rfl, rfl⟩ := hcs
    exact ⟨none, 0, [], rfl, ⟨rfl, fun h => absurd h (by simp)⟩, by simp [maxLen], by simp⟩
  · simp [Value.cells] at hcs
    obtain ⟨rfl, rfl, rfl⟩ := hcs
    have hml : len0 ≤ m := by rw [hmm]; split <;> omega
    obtain ⟨l, hll, hr, hok⟩ := reads_asks (w := W) (a := a) (len := len0) fun i hi => by
      obtain ⟨ys, n', _, _, _, hc⟩ := hg i (by omega)
      obtain ⟨u0, z0, c0, _, t0⟩ := hc 0 _ rfl
      obtain ⟨u1, z1, c1, _, t1⟩ := hc 1 _ rfl
      obtain ⟨f, e0, _⟩ := DataW.trod_bool Try.underlying4 t0
      obtain ⟨t, e1, _, w1⟩ := DataW.trod_int Try.underlying3 t1
      simp only [List.cons.injEq, and_true] at e0 e1
      subst e0 e1
      refine ⟨f, t, ?_, c0, c1⟩
      simp [Lit.wf, IntKind.min, IntKind.max, IntKind.signed, IntKind.bits] at w1
      omega
    subst hll
    exact ⟨some a, cap0, l, rfl, hr, by omega, hok⟩
set_option maxHeartbeats 2000000 in
theorem dicePicks0 (W : World) (A AA : Option Addr) (c ac : Nat) (xs : List Int) (asks : List AskV) (hr : Reads W W.heap.size 1 A xs.length (xs.map (.int .u32))) (ha : Asks W W.heap.size AA asks) (hl : xs.length ≤ 60) (hl2 : asks.length ≤ 60) (hx : ∀ x ∈ xs, 0 ≤ x ∧ x ≤ 4294967295) (hn : ∀ a ∈ asks, a.n ≤ 9223372036854775807) :
    Calls Try.prog 3 #[.slice A xs.length c, .slice AA asks.length ac] W fun e w' => e = .returned (.bool true) ∧ Below W.heap.size W w' := by
  have hmf : ∀ (fn : Fn) (first cap : Array Value) (w : World), (Instr.makeFunc fn first cap).run Try.prog w = .ok (.func fn first cap) w := fun _ _ _ _ => rfl
  have HCF : Hid (∀ args w', (callFunc 13 args).run Try.prog w' = .ok (.enter 13 args) w') := Lib.hid (fun _ _ => by simp [go_sem])
  have HR := Lib.hid (And.intro hr (And.intro ha (And.intro hx hn)))
  clear hr ha hx hn
  obtain ⟨i0, hi0, hz0, hz1, hz2⟩ := info_parts int64_info
  have HI := Lib.hid (And.intro hi0 (And.intro hz0 (And.intro hz1 hz2)))
  clear hi0 hz0 hz1 hz2
  go_enter Try.func3, Try.ntmps3
  go_wp2_with (first
    | (go_at_call 11; (with_reducible refine (awake25 _).mono ?_); rintro e w2 ⟨rfl, hb2⟩
       have hS2 := ((SL.start (Nat.le_refl W.heap.size)).alloc #[.slice AA asks.length ac] 23).call hb2
       have c0 : w2.cell? ⟨W.heap.size, 0, none⟩ = some (.slice AA asks.length ac) := hS2.cell 0 rfl 0 rfl
       have hz := (hS2.lt 0 rfl).2
       have HS3 : Hid (SL W W.heap.size [.row 2 1 (.slice none 0 0) 0 [], .blk w2.heap.size #[.slice none 0 0] 25, .blk W.heap.size #[.slice AA asks.length ac] 23] (w2.alloc (.cells #[.slice none 0 0] 25))) := Lib.hid ((hS2.alloc _ _).nil _ _)
       have HT := Lib.hid (try_any 13 #[.pointer (some ⟨W.heap.size, 0, none⟩), .pointer (some ⟨w2.heap.size, 0, none⟩)] A xs.length c W _ W.heap.size _ _ (PkR xs asks w2.heap.size W.heap.size AA ac) rfl HS3.out HCF.out
         (fun w3 hS3 => picks_do W w3 W.heap.size _ w2.heap.size W.heap.size A AA c ac xs asks HS3.out.size HR.out.1 HR.out.2.1 hl hl2 HR.out.2.2.1 HR.out.2.2.2 hS3))
       clear hS2 hb2)
    | (go_at_call 12; (with_reducible refine HT.out.mono ?_); rintro e w4 ⟨b, m, l', rfl, ⟨v, g, hrun, rfl⟩, hS⟩
       obtain ⟨A', c', rfl, _, _⟩ := (hS.row 0 rfl).slice_
       have HRun := Lib.hid hrun
       have HS4 := Lib.hid (hS.nil 2 1)
       have c0 : w4.cell? ⟨W.heap.size, 0, none⟩ = some (.slice AA asks.length ac) := hS.cell 2 rfl 0 rfl
       clear hS HT HS3 hrun))
  clear c0
  go_loopw [6, 9, 10, 32] (fun vw vn ve vi wr => ∃ (k u : Nat) (wl : List Int) (v : Value), k ≤ asks.length ∧ u ≤ xs.length ∧ wl.length = k ∧ vi = .int .i64 k ∧ vn = .int .i64 u ∧ ve = .bool true ∧ vw = v ∧ runD xs asks 0 [] = runD xs (asks.drop k) u wl ∧
    SL W W.heap.size [.row 2 1 v wl.length (wl.map (.int .i64)), .row 2 1 (.slice A' g.length c') g.length (g.map (.int .i64)), .blk w2.heap.size #[.slice A' g.length c'] 25, .blk W.heap.size #[.slice AA asks.length ac] 23] wr) (fun _ _ _ vi _ => asks.length - (intOf vi).toNat)
  case atStart => exact ⟨0, 0, [], _, by omega, by omega, rfl, rfl, rfl, rfl, rfl, rfl, HS4.out⟩
  case round =>
    clear HS4
    obtain ⟨k, u, wl, v, hk, hu, hwl, rfl, rfl, rfl, rfl, hrun, hS⟩ := hrel
    by_cases hlt : k < asks.length
    · have hA := reads_more (Reads.below HR.out.2.1 hS.below) hS.size
      obtain ⟨b', o, rfl, hb, d0, d1⟩ := asks_at hA hlt
      have hS1 := hS.alloc #[.bool asks[k].next, .int .i64 asks[k].n] 30
      have hz1 := (hS.lt 3 rfl).2
      obtain ⟨A1, c1, rfl, _, _⟩ := (hS.row 0 rfl).slice_
      have hw60 : wl.length ≤ 60 := by omega
      have hwk := Lib.hid hwl
      have hRun := Lib.hid hrun
      clear hrun hwl hA
      cases hnx : asks[k].next
      · rw [hnx] at d0 hS1
        by_cases hn1 : asks[k].n < 1
        · have HQ := Lib.hid (runD_zero (xs := xs) (u := u) (g := wl) hlt hnx hn1)
          go_wp2_with (at_builtin; refine wpList_append_sl rfl _ _ 25 rfl hS1 1 i0 (.int .i64 0) 1 8 Try.underlying25 HI.out.1 HI.out.2.1 HI.out.2.2.1 HI.out.2.2.2 rfl (by decide) _ _ 1 _ rfl rfl _ rfl ?c0 (by decide) rfl ?c1 ?c2 (by decide) ?_)
          first | (case c0 => simp) | skip
          case c1 => simp [Value.oneCell']
          case c2 => omega
          intro v' w' hS5 hz5
          have HS6 : Hid (SL W W.heap.size _ _) := Lib.hid hS5.tail
          have e0 : w'.cell? ⟨wr.heap.size, 0, none⟩ = some (.bool false) := hS5.cell 0 rfl 0 rfl
          clear hS5 hS1 hS d0 d1 
          go_wp2
          go_roundw
          case rel =>
            refine ⟨k + 1, u, wl ++ [0], v', by omega, by omega, by simp [hwk.out], by go_num, by go_num, rfl, rfl, by rw [hRun.out]; exact HQ.out, ?_⟩
            rw [List.length_append, List.map_append]
            exact HS6.out
          case measure => simp [intOf]; omega
        · by_cases hul : u < xs.length
          · have HQ := Lib.hid (runD_pick (xs := xs) (u := u) (g := wl) hlt hnx hn1 hul)
            have hn2 : 1 ≤ asks[k].n := by omega
            have hn3 := HR.out.2.2.2 asks[k] (List.getElem_mem hlt)
            obtain ⟨b2, o2, hA2, hb2, hc2⟩ := reads_plain (Reads.below HR.out.1 hS.below) (by omega) Nat.one_pos
            have hxu : wr.cell? ⟨b2, o2 + u, none⟩ = some (.int .u32 xs[u]) := hc2 u _ (by simp [hul])
            have hne : (u == xs.length) = false := by simp; omega
            have hxb := HR.out.2.2.1 xs[u] (List.getElem_mem hul)
            have hx1 : 0 ≤ xs[u] := hxb.1
            have hx2 : xs[u] ≤ 4294967295 := hxb.2
            have hz2 : b2 < wr.heap.size := Nat.lt_of_lt_of_le hb2 hS.size
            subst hA2
            clear hc2 hxb
            have hm1 : 0 ≤ xs[u] % asks[k].n := Int.emod_nonneg _ (by omega)
            have hm2 : xs[u] % asks[k].n < asks[k].n := Int.emod_lt_of_pos _ (by omega)
            generalize xs[u] = x at *
            generalize asks[k].n = nn at *
            go_wp2_with (at_builtin; refine stopHere ?_)
            show wpList _ _ _ _ _ _
            refine wpList_append_sl rfl _ _ 25 rfl hS1 1 i0 (.int .i64 0) 1 8 Try.underlying25 HI.out.1 HI.out.2.1 HI.out.2.2.1 HI.out.2.2.2 rfl (by decide) _ _ 1 _ rfl rfl _ rfl ?c0 (by decide) rfl ?c1 ?c2 (by decide) ?_
            first | (case c0 => simp) | skip
            case c1 => simp [Value.oneCell']
            case c2 => omega
            intro v' w' hS5 hz5
            have HS6 : Hid (SL W W.heap.size _ _) := Lib.hid hS5.tail
            have e0 : w'.cell? ⟨wr.heap.size, 0, none⟩ = some (.bool false) := hS5.cell 0 rfl 0 rfl
            clear hS5 hS1 hS d0 d1 hxu
            go_wp2
            go_roundw
            case rel =>
              refine ⟨k + 1, u + 1, wl ++ [x % nn], v', by omega, by omega, by simp [hwk.out], by go_num, by go_num, rfl, rfl, by rw [hRun.out]; exact HQ.out, ?_⟩
              rw [List.length_append, List.map_append]
              exact HS6.out
            case measure => simp [intOf]; omega
          · obtain rfl : u = xs.length := by omega
            have hE0 := hRun.out.symm.trans HRun.out
            rw [runD_stop hlt (.inr hn1) (by omega)] at hE0
            simp only [Prod.mk.injEq] at hE0
            obtain ⟨rfl, rfl, rfl⟩ := hE0
            have hE := Lib.hid (equal_int64s A' A1 c' c1 wl (wr.alloc (.cells #[.bool false, .int .i64 asks[k].n] 30)) (hS1.reads 2 rfl) (hS1.reads 1 rfl) (by unfold maxLen; omega))
            have e0 : wr.cell? ⟨w2.heap.size, 0, none⟩ = some (.slice A' wl.length c') := hS.cell 2 rfl 0 rfl
            have hz4 := (hS.lt 2 rfl).2
            have HS := Lib.hid hS1
            clear hS hS1
            go_wp2_with (go_at_call 16; (with_reducible refine hE.out.mono ?_); rintro e w5 ⟨rfl, hb5⟩)
            go_ret
            exact ⟨rfl, (HS.out.call hb5).below⟩
      · rw [hnx] at d0 hS1
        by_cases hul : u < xs.length
        · have HQ := Lib.hid (runD_next (xs := xs) (u := u) (g := wl) hlt hnx hul)
          obtain ⟨b2, o2, hA2, hb2, hc2⟩ := reads_plain (Reads.below HR.out.1 hS.below) (by omega) Nat.one_pos
          have hxu : wr.cell? ⟨b2, o2 + u, none⟩ = some (.int .u32 xs[u]) := hc2 u _ (by simp [hul])
          have hne : (u == xs.length) = false := by simp; omega
          have hxb := HR.out.2.2.1 xs[u] (List.getElem_mem hul)
          have hx1 : 0 ≤ xs[u] := hxb.1
          have hx2 : xs[u] ≤ 4294967295 := hxb.2
          have hz2 : b2 < wr.heap.size := Nat.lt_of_lt_of_le hb2 hS.size
          subst hA2
          clear hc2 hxb
          generalize xs[u] = x at *
          go_wp2_with (at_builtin; refine wpList_append_sl rfl _ _ 25 rfl hS1 1 i0 (.int .i64 0) 1 8 Try.underlying25 HI.out.1 HI.out.2.1 HI.out.2.2.1 HI.out.2.2.2 rfl (by decide) _ _ 1 _ rfl rfl _ rfl ?c0 (by decide) rfl ?c1 ?c2 (by decide) ?_)
          first | (case c0 => simp) | skip
          case c1 => simp [Value.oneCell']
          case c2 => omega
          intro v' w' hS5 hz5
          have HS6 : Hid (SL W W.heap.size _ _) := Lib.hid hS5.tail
          have e0 : w'.cell? ⟨wr.heap.size, 0, none⟩ = some (.bool true) := hS5.cell 0 rfl 0 rfl
          clear hS5 hS1 hS d0 d1 hxu
          go_wp2
          go_roundw
          case rel =>
            refine ⟨k + 1, u + 1, wl ++ [x], v', by omega, by omega, by simp [hwk.out], by go_num, by go_num, rfl, rfl, by rw [hRun.out]; exact HQ.out, ?_⟩
            rw [List.length_append, List.map_append]
            exact HS6.out
          case measure => simp [intOf]; omega
        · obtain rfl : u = xs.length := by omega
          have hE0 := hRun.out.symm.trans HRun.out
          rw [runD_stop hlt (.inl hnx) (by omega)] at hE0
          simp only [Prod.mk.injEq] at hE0
          obtain ⟨rfl, rfl, rfl⟩ := hE0
          have hE := Lib.hid (equal_int64s A' A1 c' c1 wl (wr.alloc (.cells #[.bool true, .int .i64 asks[k].n] 30)) (hS1.reads 2 rfl) (hS1.reads 1 rfl) (by unfold maxLen; omega))
          have e0 : wr.cell? ⟨w2.heap.size, 0, none⟩ = some (.slice A' wl.length c') := hS.cell 2 rfl 0 rfl
          have hz4 := (hS.lt 2 rfl).2
          have HS := Lib.hid hS1
          clear hS hS1
          go_wp2_with (go_at_call 16; (with_reducible refine hE.out.mono ?_); rintro e w5 ⟨rfl, hb5⟩)
          go_ret
          exact ⟨rfl, (HS.out.call hb5).below⟩
    · obtain rfl : k = asks.length := by omega
      have hE0 := hrun.symm.trans HRun.out
      rw [runD_end] at hE0
      simp only [Prod.mk.injEq] at hE0
      obtain ⟨rfl, rfl, rfl⟩ := hE0
      have hw60 : wl.length ≤ 60 := by omega
      clear hwl
      obtain ⟨A2, c2, rfl, _, _⟩ := (hS.row 0 rfl).slice_
      have hE := Lib.hid (equal_int64s A' A2 c' c2 wl wr (hS.reads 1 rfl) (hS.reads 0 rfl) (by unfold maxLen; omega))
      have e0 : wr.cell? ⟨w2.heap.size, 0, none⟩ = some (.slice A' wl.length c') := hS.cell 2 rfl 0 rfl
      have HS := Lib.hid hS
      clear hS
      go_wp2_with (go_at_call 16; (with_reducible refine hE.out.mono ?_); rintro e w5 ⟨rfl, hb5⟩)
      go_ret
      exact ⟨rfl, (HS.out.call hb5).below⟩
theorem dicePicks_big (W : World) (A AA : Option Addr) (c ac n m : Nat) (hl : n ≤ maxLen) (hl2 : m ≤ maxLen) (h : 60 < n ∨ 60 < m) :
    Calls Try.prog 3 #[.slice A n c, .slice AA m ac] W fun e w' => e = .returned (.bool true) ∧ Below W.heap.size W w' := by
  unfold maxLen at hl hl2
  have hd : ((60 : Int) < (n : Int)) ∨ ¬ ((60 : Int) < (n : Int)) ∧ (60 : Int) < (m : Int) := by omega
  clear h
  rcases hd with hd | ⟨hd, hd2⟩
  all_goals
    go_enter Try.func3, Try.ntmps3
    go_wp2_with (first
      | (go_at_call 11; (with_reducible refine (awake25 _).mono ?_); rintro e w2 ⟨rfl, hb2⟩
         have hS2 := ((SL.start (Nat.le_refl W.heap.size)).alloc #[.slice AA m ac] 23).call hb2
         have c0 : w2.cell? ⟨W.heap.size, 0, none⟩ = some (.slice AA m ac) := hS2.cell 0 rfl 0 rfl
         have HB := Lib.hid hS2.below
         clear hS2 hb2))
    go_ret
    exact ⟨rfl, HB.out⟩
theorem u32_wf {n : Int} (h : (Lit.int .u32 n).wf = true) : 0 ≤ n ∧ n ≤ 4294967295 := by
  simp [Lit.wf, IntKind.min, IntKind.max, IntKind.signed, IntKind.bits] at h; omega
theorem dicePicks_walk {H : Type} {enc : TypeId × Value → H} {base : Nat} (W : World) (A : Option Addr) (c : Nat) (l : List Int) (hr : Reads W W.heap.size 1 A l.length (l.map (.int .u32))) (hl : l.length ≤ maxLen) (hw : ∀ n ∈ l, (Lit.int .u32 n).wf = true)
    (v : Value) (d : DataW H) (p : List MemPlace) (o : Value.okWide Try.prog W .any base 23 v) (k : DataW.Trod enc Try.prog W 0 (fun _ => true) true 23 v d p) :
    Calls Try.prog 3 #[.slice A l.length c, v] W fun e w' => e = .returned (.bool true) ∧ Below W.heap.size W w' := by
  obtain ⟨AA, ac, asks, rfl, ha, hl2, hn⟩ := asks_open o k
  by_cases h : 60 < l.length ∨ 60 < asks.length
  · exact dicePicks_big W A AA c ac _ _ hl hl2 h
  · exact dicePicks0 W A AA c ac l asks hr ha (by omega) (by omega) (fun x hx => u32_wf (hw x hx)) hn
end Go.Proofs.Ythdjmljoiflkjaa
