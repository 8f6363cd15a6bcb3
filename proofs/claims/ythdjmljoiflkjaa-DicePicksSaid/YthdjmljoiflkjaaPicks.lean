/- The walk of law DicePicks: the closure, what is handed out. -/
import Derived.Test.YthdjmljoiflkjaaAwake25
import Derived.Test.YthdjmljoiflkjaaOpen
namespace Go.Proofs.Ythdjmljoiflkjaa
open Go.ChangeShapes Go.WideShapes Go.ChangeAt Go.RowKit
set_option linter.unusedVariables false
structure AskV where
  next : Bool
  n : Int
def AskV.cells (a : AskV) : List Value := [.bool a.next, .int .i64 a.n]
def askCells (l : List AskV) : List Value := l.flatMap AskV.cells
def Asks (w : World) (B : Nat) (A : Option Addr) (l : List AskV) : Prop := Reads w B 2 A l.length (askCells l)
theorem askCells_get (l : List AskV) (k : Nat) (h : k < l.length) : (askCells l)[k * 2]? = some (.bool l[k].next) ∧ (askCells l)[k * 2 + 1]? = some (.int .i64 l[k].n) := by
  induction l generalizing k with
  | nil => simp at h
  | cons a r ih =>
    cases k with
    | zero => exact ⟨rfl, rfl⟩
    | succ k =>
      have := ih k (by simpa using h)
      unfold askCells at this ⊢
      rw [List.flatMap_cons]
      have e0 : (k + 1) * 2 = a.cells.length + k * 2 := by simp [AskV.cells]; omega
      rw [e0, List.getElem?_append_right (by omega), List.getElem?_append_right (by omega)]
      simp only [Nat.add_sub_cancel_left, List.getElem_cons_succ]
      have e1 : a.cells.length + k * 2 + 1 - a.cells.length = k * 2 + 1 := by omega
      rw [e1]
      exact this
theorem asks_at {w : World} {B : Nat} {A : Option Addr} {l : List AskV} (h : Asks w B A l) {k : Nat} (hk : k < l.length) :
    ∃ b o, A = some ⟨b, o, none⟩ ∧ b < B ∧ w.cell? ⟨b, o + k * 2, none⟩ = some (.bool l[k].next) ∧ w.cell? ⟨b, o + k * 2 + 1, none⟩ = some (.int .i64 l[k].n) := by
  obtain ⟨b, o, e, hb, hc⟩ := reads_plain h (by omega) (by omega)
  obtain ⟨g0, g1⟩ := askCells_get l k hk
  exact ⟨b, o, e, hb, hc _ _ g0, hc _ _ g1⟩
/-- What is handed out: were there enough draws; how many are used; which numbers. -/
def runD (xs : List Int) : List AskV → Nat → List Int → Bool × Nat × List Int
  | [], u, g => (true, u, g)
  | a :: r, u, g => if a.next = false ∧ a.n < 1 then runD xs r u (g ++ [0]) else if h : u < xs.length then runD xs r (u + 1) (g ++ [if a.next then xs[u] else xs[u] % a.n]) else (false, u, g)
theorem runD_zero {xs : List Int} {l : List AskV} {k u : Nat} {g : List Int} (hk : k < l.length) (h : l[k].next = false) (h1 : l[k].n < 1) : runD xs (l.drop k) u g = runD xs (l.drop (k + 1)) u (g ++ [0]) := by
  rw [List.drop_eq_getElem_cons hk]
  conv => lhs; unfold runD
  rw [if_pos ⟨h, h1⟩]
theorem runD_next {xs : List Int} {l : List AskV} {k u : Nat} {g : List Int} (hk : k < l.length) (h : l[k].next = true) (hu : u < xs.length) : runD xs (l.drop k) u g = runD xs (l.drop (k + 1)) (u + 1) (g ++ [xs[u]]) := by
  rw [List.drop_eq_getElem_cons hk]
  conv => lhs; unfold runD
  rw [if_neg (by simp [h]), dif_pos hu, h]
  rfl
theorem runD_pick {xs : List Int} {l : List AskV} {k u : Nat} {g : List Int} (hk : k < l.length) (h : l[k].next = false) (h1 : ¬ l[k].n < 1) (hu : u < xs.length) : runD xs (l.drop k) u g = runD xs (l.drop (k + 1)) (u + 1) (g ++ [xs[u] % l[k].n]) := by
  rw [List.drop_eq_getElem_cons hk]
  conv => lhs; unfold runD
  rw [if_neg (by simp only [not_and]; intro _; exact h1), dif_pos hu, h]
  rfl
theorem runD_stop {xs : List Int} {l : List AskV} {k u : Nat} {g : List Int} (hk : k < l.length) (h : l[k].next = true ∨ ¬ l[k].n < 1) (hu : ¬ u < xs.length) : runD xs (l.drop k) u g = (false, u, g) := by
  rw [List.drop_eq_getElem_cons hk]
  conv => lhs; unfold runD
  rw [if_neg (by rintro ⟨h1, h2⟩; rcases h with h | h; simp [h] at h1; exact h h2), dif_neg hu]
theorem runD_end {xs : List Int} {l : List AskV} {u : Nat} {g : List Int} : runD xs (l.drop l.length) u g = (true, u, g) := by
  rw [List.drop_length]; rfl
theorem int64_info : (Try.prog.info? 2).map (fun i => (i.zero, i.size, i.bytes)) = some (some (.int .i64 0), 1, 8) := by kernel_rfl
/-- What the closure leaves: the numbers in the variable 'got'. -/
def PkR (xs : List Int) (asks : List AskV) (gb ab : Nat) (AA : Option Addr) (ac : Nat) (b : Bool) (m : Nat) (l : List Rs) : Prop :=
  ∃ v g, runD xs asks 0 [] = (b, m, g) ∧ l = [.row 2 1 v g.length (g.map (.int .i64)), .blk gb #[v] 25, .blk ab #[.slice AA asks.length ac] 23]
set_option maxHeartbeats 2000000 in
theorem picks_do (W w3 : World) (B s gb ab : Nat) (A AA : Option Addr) (c ac : Nat) (xs : List Int) (asks : List AskV) (hs : B ≤ s) (hr : Reads W B 1 A xs.length (xs.map (.int .u32))) (ha : Asks W B AA asks) (hl : xs.length ≤ 60) (hl2 : asks.length ≤ 60) (hx : ∀ x ∈ xs, 0 ≤ x ∧ x ≤ 4294967295) (hn : ∀ a ∈ asks, a.n ≤ 9223372036854775807)
    (hS : SL W B (.blk (s + 1 + 1 + 1) #[.pointer (some ⟨s + 1 + 1, 0, none⟩)] 28 :: .blk (s + 1 + 1) #[.slice A xs.length c, .int .i64 0] 68 :: .blk (s + 1) #[.bool false] 4 :: .blk s #[.int .i64 0] 3 ::
      [.row 2 1 (.slice none 0 0) 0 [], .blk gb #[.slice none 0 0] 25, .blk ab #[.slice AA asks.length ac] 23]) w3) :
    Calls Try.prog 13 #[.pointer (some ⟨s + 1 + 1, 0, none⟩), .pointer (some ⟨ab, 0, none⟩), .pointer (some ⟨gb, 0, none⟩)] w3 (DoPost W B s A xs.length c (PkR xs asks gb ab AA ac)) := by
  obtain ⟨i0, hi0, hz0, hz1, hz2⟩ := info_parts int64_info
  have HI := Lib.hid (And.intro hi0 (And.intro hz0 (And.intro hz1 hz2)))
  clear hi0 hz0 hz1 hz2
  have c0 : w3.cell? ⟨ab, 0, none⟩ = some (.slice AA asks.length ac) := hS.cell 6 rfl 0 rfl
  have HX := Lib.hid (And.intro hx hn)
  have HR := Lib.hid hr
  clear hx hn hr
  go_enter Try.func13, Try.ntmps13
  go_wp2_with fail
  clear c0
  go_loopw [8] (fun i wr => ∃ (k u : Nat) (g : List Int) (v : Value), k ≤ asks.length ∧ u ≤ xs.length ∧ g.length = k ∧ i = .int .i64 k ∧ runD xs asks 0 [] = runD xs (asks.drop k) u g ∧
    SL W B (.blk (s + 1 + 1 + 1) #[.pointer (some ⟨s + 1 + 1, 0, none⟩)] 28 :: .blk (s + 1 + 1) #[.slice A xs.length c, .int .i64 u] 68 :: .blk (s + 1) #[.bool false] 4 :: .blk s #[.int .i64 0] 3 ::
      [.row 2 1 v g.length (g.map (.int .i64)), .blk gb #[v] 25, .blk ab #[.slice AA asks.length ac] 23]) wr) (fun i _ => asks.length - (intOf i).toNat)
  case atStart => exact ⟨0, 0, [], _, by omega, by omega, rfl, rfl, rfl, hS⟩
  case round =>
    clear hS
    obtain ⟨k, u, g, v, hk, hu, hgl, rfl, hrun, hS⟩ := hrel
    by_cases hlt : k < asks.length
    · obtain ⟨b, o, rfl, hb, d0, d1⟩ := asks_at (Reads.below ha hS.below) hlt
      have hS2 := hS.alloc #[.bool asks[k].next, .int .i64 asks[k].n] 30
      have HRun := Lib.hid hrun
      clear hrun
      have hz := hS.size
      have hz1 := (hS.lt 0 rfl).2
      have hgb60 : g.length ≤ 60 := by omega
      have hgk := Lib.hid hgl
      clear hgl
      cases hnx : asks[k].next
      · rw [hnx] at d0 hS2
        by_cases hn1 : asks[k].n < 1
        · have HQ := Lib.hid (runD_zero (xs := xs) (u := u) (g := g) hlt hnx hn1)
          go_wp2_with fail
          obtain ⟨ar, har⟩ : ∃ ar, ar = wr.heap.size := ⟨_, rfl⟩
          generalize (wr.alloc (.cells #[.bool false, .int .i64 asks[k].n] 30)) = w9 at *
          rw [← har] at hS2 ⊢
          clear har hS d0 d1 hz1
          refine wp_region_sl [0,1,2,3] [4,5,6] [7] [.blk ar #[.bool false, .int .i64 asks[k].n] 30, .blk gb #[v] 25] hS2 (by simp) (by kernel_rfl) (by kernel_rfl) (.cons rfl .nil) (fun C cw _ hC => ?_)
          have q0 : ∀ c, (cw c).cell? ⟨gb, 0, none⟩ = some v := fun c => (hC c).cell 1 rfl 0 rfl
          have q1 : ∀ c, (cw c).cell? ⟨ar, 1, none⟩ = some (.int .i64 asks[k].n) := fun c => (hC c).cell 0 rfl 1 rfl
          repeat (refine pl_look rfl rfl rfl (fun Kv hK => ?_); go_big_quiet_op; refine hK _ ?_; clear hK Kv)
          clear q0 q1 hC
          refine pl_end ?_
          intro w1 hS4
          refine pm_eff rfl rfl fun Kv hK => ?_
          go_simp
          refine eff_call (pick_none w1 (s + 1 + 1) asks[k].n hn1) (fun e w2 h => ?_)
          obtain ⟨rfl, rfl⟩ := h
          refine .inl ⟨_, rfl, hS4.sub (by simp), hK _ _ ?_⟩
          clear hK Kv
          refine pm_eff rfl rfl fun Kv hK => ?_
          go_simp
          refine ⟨(hS4.alloc _ _).sub (by simp), hK _ _ ?_⟩
          clear hK Kv
          refine pm_append rfl rfl (.tmp 20) (.tmp 25) 25 rfl hS4 5 i0 _ 1 8 Try.underlying25 HI.out.1 HI.out.2.1 HI.out.2.2.1 HI.out.2.2.2 rfl (by decide) v g.length 1 _ rfl rfl _ rfl rfl (by decide) rfl (by simp [Value.oneCell']) (by omega) (by decide) ?_
          intro v' w' hS5 hz5
          refine ⟨hS5.sub (by simp), fun Kv hK => hK _ _ ?_⟩
          refine pm_end ?_
          obtain ⟨A', c', rfl, _, _⟩ := (hS5.row 5 rfl).slice_
          have e1 : w'.cell? ⟨gb, 0, none⟩ = some v := hS5.cell 6 rfl 0 rfl
          have e2 := hS5.free 6 rfl 0
          have HS6 : Hid (SL W B _ _) := Lib.hid (hS5.setCell 6 rfl 0 (.slice A' (g.length + 1) c')).tail
          clear hS5 hS4 hS2
          go_wp2
          go_roundw
          case rel =>
            refine ⟨k + 1, u, g ++ [0], .slice A' (g.length + 1) c', by omega, by omega, by simp [hgk.out], by go_num, by rw [HRun.out]; exact HQ.out, ?_⟩
            rw [List.length_append, List.map_append]
            exact HS6.out
          case measure => simp [intOf]; omega
        · have hn2 : 1 ≤ asks[k].n := by omega
          have hn3 := HX.out.2 asks[k] (List.getElem_mem hlt)
          go_wp2_with fail
          obtain ⟨ar, har⟩ : ∃ ar, ar = wr.heap.size := ⟨_, rfl⟩
          generalize (wr.alloc (.cells #[.bool false, .int .i64 asks[k].n] 30)) = w9 at *
          rw [← har] at hS2 ⊢
          clear har hS d0 d1 hz1
          by_cases hul : u < xs.length
          · skip
            have hxu := HX.out.1 xs[u] (List.getElem_mem hul)
            have hx1 : 0 ≤ xs[u] := hxu.1
            have hx2 : xs[u] ≤ 4294967295 := hxu.2
            clear hxu
            have HQ := Lib.hid (runD_pick (xs := xs) (u := u) (g := g) hlt hnx (by omega) hul)
            refine wp_region_sl [0,1,2,3] [4,5,6] [7] [.blk ar #[.bool false, .int .i64 asks[k].n] 30, .blk gb #[v] 25] hS2 (by simp) (by kernel_rfl) (by kernel_rfl) (.cons rfl .nil) (fun C cw _ hC => ?_)
            have q0 : ∀ c, (cw c).cell? ⟨gb, 0, none⟩ = some v := fun c => (hC c).cell 1 rfl 0 rfl
            have q1 : ∀ c, (cw c).cell? ⟨ar, 1, none⟩ = some (.int .i64 asks[k].n) := fun c => (hC c).cell 0 rfl 1 rfl
            repeat (refine pl_look rfl rfl rfl (fun Kv hK => ?_); go_big_quiet_op; refine hK _ ?_; clear hK Kv)
            clear q0 q1 hC
            refine pl_end ?_
            intro w1 hS1
            refine pm_eff rfl rfl fun Kv hK => ?_
            go_simp
            refine eff_call (pick_yes w1 (s + 1 + 1) B A c xs u asks[k].n (hS1.blk 2 rfl) (Reads.below HR.out hS1.below) (by omega) hul (by unfold maxLen; omega) hn2 hn3 hx1 hx2) (fun e w2 h => ?_)
            obtain ⟨rfl, hgr, hdc⟩ := h
            have hS4 : SL W B (.blk ar #[.bool false, .int .i64 asks[k].n] 30 :: .blk (s + 1 + 1 + 1) #[.pointer (some ⟨s + 1 + 1, 0, none⟩)] 28 :: .blk (s + 1 + 1) #[.slice A xs.length c, .int .i64 ((u + 1 : Nat) : Int)] 68 :: .blk (s + 1) #[.bool false] 4 :: .blk s #[.int .i64 0] 3 ::
            [.row 2 1 v g.length (g.map (.int .i64)), .blk gb #[v] 25, .blk ab #[.slice (some ⟨b, o, none⟩) asks.length ac] 23]) w2 := hS1.wrote 2 rfl hgr hdc
            clear hgr hdc hS1
            refine .inl ⟨_, rfl, hS4.sub (by simp), hK _ _ ?_⟩
            clear hK Kv
            refine pm_eff rfl rfl fun Kv hK => ?_
            go_simp
            refine ⟨(hS4.alloc _ _).sub (by simp), hK _ _ ?_⟩
            clear hK Kv
            refine pm_append rfl rfl (.tmp 20) (.tmp 25) 25 rfl hS4 5 i0 _ 1 8 Try.underlying25 HI.out.1 HI.out.2.1 HI.out.2.2.1 HI.out.2.2.2 rfl (by decide) v g.length 1 _ rfl rfl _ rfl rfl (by decide) rfl (by simp [Value.oneCell']) (by omega) (by decide) ?_
            intro v' w' hS5 hz5
            refine ⟨hS5.sub (by simp), fun Kv hK => hK _ _ ?_⟩
            refine pm_end ?_
            obtain ⟨A', c', rfl, _, _⟩ := (hS5.row 5 rfl).slice_
            have e1 : w'.cell? ⟨gb, 0, none⟩ = some v := hS5.cell 6 rfl 0 rfl
            have e2 := hS5.free 6 rfl 0
            have HS6 : Hid (SL W B _ _) := Lib.hid (hS5.setCell 6 rfl 0 (.slice A' (g.length + 1) c')).tail
            clear hS5 hS4 hS2
            go_wp2
            go_roundw
            case rel =>
              refine ⟨k + 1, u + 1, g ++ [xs[u] % asks[k].n], .slice A' (g.length + 1) c', by omega, by omega, by simp [hgk.out], by go_num, by rw [HRun.out]; exact HQ.out, ?_⟩
              rw [List.length_append, List.map_append]
              exact HS6.out
            case measure => simp [intOf]; omega
          · skip
            have HQ := Lib.hid (runD_stop (xs := xs) (u := u) (g := g) hlt (.inr (by omega)) hul)
            refine wp_region_slp (fun ch w' => DoPost W B s A xs.length c (PkR xs asks gb ab (some ⟨b, o, none⟩) ac) (.panicked ch) w') [0,1,2,3] [4,5,6] [7] [.blk ar #[.bool false, .int .i64 asks[k].n] 30, .blk gb #[v] 25] hS2 (by simp) (by kernel_rfl) (by kernel_rfl) (.cons rfl .nil) (fun ch a' w' hd hp => ⟨hd, hp⟩) (fun C cw _ hC => ?_)
            have q0 : ∀ c, (cw c).cell? ⟨gb, 0, none⟩ = some v := fun c => (hC c).cell 1 rfl 0 rfl
            have q1 : ∀ c, (cw c).cell? ⟨ar, 1, none⟩ = some (.int .i64 asks[k].n) := fun c => (hC c).cell 0 rfl 1 rfl
            repeat (refine pl_look rfl rfl rfl (fun Kv hK => ?_); go_big_quiet_op; refine hK _ ?_; clear hK Kv)
            clear q0 q1 hC
            refine pl_end ?_
            intro w1 hS1
            refine pm_eff rfl rfl fun Kv hK => ?_
            go_simp
            refine eff_call (pick_no w1 (s + 1 + 1) A xs.length c u asks[k].n (hS1.blk 2 rfl) (by omega) (by unfold maxLen; omega) hn2) (fun e w2 h => ?_)
            obtain ⟨rfl, kd, rfl⟩ := h
            refine .inr ⟨_, rfl, u, _, (hS1.call (below_drewN (Below.refl _ _) _)).tail, .inr ⟨rfl, v, g, by rw [HRun.out]; exact HQ.out, rfl⟩⟩
      · rw [hnx] at d0 hS2
        go_wp2_with fail
        obtain ⟨ar, har⟩ : ∃ ar, ar = wr.heap.size := ⟨_, rfl⟩
        generalize (wr.alloc (.cells #[.bool true, .int .i64 asks[k].n] 30)) = w9 at *
        rw [← har] at hS2 ⊢
        clear har hS d0 d1 hz1
        by_cases hul : u < xs.length
        · skip
          have HQ := Lib.hid (runD_next (xs := xs) (u := u) (g := g) hlt hnx hul)
          refine wp_region_sl [0,1] [2,3,4,5] [6] [.blk ar #[.bool true, .int .i64 asks[k].n] 30, .blk gb #[v] 25] hS2 (by simp) (by kernel_rfl) (by kernel_rfl) (.cons rfl .nil) (fun C cw _ hC => ?_)
          have q0 : ∀ c, (cw c).cell? ⟨gb, 0, none⟩ = some v := fun c => (hC c).cell 1 rfl 0 rfl
          repeat (refine pl_look rfl rfl rfl (fun Kv hK => ?_); go_big_quiet_op; refine hK _ ?_; clear hK Kv)
          clear q0  hC
          refine pl_end ?_
          intro w1 hS1
          refine pm_eff rfl rfl fun Kv hK => ?_
          go_simp
          refine eff_call (next_yes w1 (s + 1 + 1) B A c xs u (hS1.blk 2 rfl) (Reads.below HR.out hS1.below) (by omega) hul (by unfold maxLen; omega)) (fun e w2 h => ?_)
          obtain ⟨rfl, hgr, hdc⟩ := h
          have hS4 : SL W B (.blk ar #[.bool true, .int .i64 asks[k].n] 30 :: .blk (s + 1 + 1 + 1) #[.pointer (some ⟨s + 1 + 1, 0, none⟩)] 28 :: .blk (s + 1 + 1) #[.slice A xs.length c, .int .i64 ((u + 1 : Nat) : Int)] 68 :: .blk (s + 1) #[.bool false] 4 :: .blk s #[.int .i64 0] 3 ::
          [.row 2 1 v g.length (g.map (.int .i64)), .blk gb #[v] 25, .blk ab #[.slice (some ⟨b, o, none⟩) asks.length ac] 23]) w2 := hS1.wrote 2 rfl hgr hdc
          clear hgr hdc hS1
          refine .inl ⟨_, rfl, hS4.sub (by simp), hK _ _ ?_⟩
          clear hK Kv
          have hxu := HX.out.1 xs[u] (List.getElem_mem hul)
          have hx1 : 0 ≤ xs[u] := hxu.1
          have hx2 : xs[u] ≤ 4294967295 := hxu.2
          clear hxu
          have hwr : IntKind.i64.wrap xs[u] = xs[u] := IntWalk.i64_in _ (by omega)
          refine pm_eff rfl rfl fun Kv hK => ?_
          go_simp
          refine ⟨hS4.sub (by simp), hK _ _ ?_⟩
          clear hK Kv
          refine pm_eff rfl rfl fun Kv hK => ?_
          go_simp
          refine ⟨(hS4.alloc _ _).sub (by simp), hK _ _ ?_⟩
          clear hK Kv
          refine pm_append rfl rfl (.tmp 14) (.tmp 18) 25 rfl hS4 5 i0 _ 1 8 Try.underlying25 HI.out.1 HI.out.2.1 HI.out.2.2.1 HI.out.2.2.2 rfl (by decide) v g.length 1 _ rfl rfl _ rfl rfl (by decide) rfl (by simp [Value.oneCell']) (by omega) (by decide) ?_
          intro v' w' hS5 hz5
          refine ⟨hS5.sub (by simp), fun Kv hK => hK _ _ ?_⟩
          refine pm_end ?_
          obtain ⟨A', c', rfl, _, _⟩ := (hS5.row 5 rfl).slice_
          have e1 : w'.cell? ⟨gb, 0, none⟩ = some v := hS5.cell 6 rfl 0 rfl
          have e2 := hS5.free 6 rfl 0
          have HS6 : Hid (SL W B _ _) := Lib.hid (hS5.setCell 6 rfl 0 (.slice A' (g.length + 1) c')).tail
          clear hS5 hS4 hS2
          go_wp2
          go_roundw
          case rel =>
            refine ⟨k + 1, u + 1, g ++ [xs[u]], .slice A' (g.length + 1) c', by omega, by omega, by simp [hgk.out], by go_num, by rw [HRun.out]; exact HQ.out, ?_⟩
            rw [List.length_append, List.map_append]
            exact HS6.out
          case measure => simp [intOf]; omega
        · skip
          have HQ := Lib.hid (runD_stop (xs := xs) (u := u) (g := g) hlt (.inl hnx) hul)
          refine wp_region_slp (fun ch w' => DoPost W B s A xs.length c (PkR xs asks gb ab (some ⟨b, o, none⟩) ac) (.panicked ch) w') [0,1] [2,3,4,5] [6] [.blk ar #[.bool true, .int .i64 asks[k].n] 30, .blk gb #[v] 25] hS2 (by simp) (by kernel_rfl) (by kernel_rfl) (.cons rfl .nil) (fun ch a' w' hd hp => ⟨hd, hp⟩) (fun C cw _ hC => ?_)
          have q0 : ∀ c, (cw c).cell? ⟨gb, 0, none⟩ = some v := fun c => (hC c).cell 1 rfl 0 rfl
          repeat (refine pl_look rfl rfl rfl (fun Kv hK => ?_); go_big_quiet_op; refine hK _ ?_; clear hK Kv)
          clear q0  hC
          refine pl_end ?_
          intro w1 hS1
          refine pm_eff rfl rfl fun Kv hK => ?_
          go_simp
          refine eff_call (next_no w1 (s + 1 + 1) A xs.length c u (hS1.blk 2 rfl) (by omega) (by unfold maxLen; omega)) (fun e w2 h => ?_)
          obtain ⟨rfl, kd, rfl⟩ := h
          refine .inr ⟨_, rfl, u, _, (hS1.call (below_drewN (Below.refl _ _) _)).tail, .inr ⟨rfl, v, g, by rw [HRun.out]; exact HQ.out, rfl⟩⟩
    · obtain rfl : k = asks.length := by omega
      have HRun := Lib.hid hrun
      have HS := Lib.hid hS
      clear hrun hS
      go_wp2
      go_end0
      exact ⟨u, _, HS.out, .inl ⟨rfl, v, g, by rw [HRun.out, runD_end], rfl⟩⟩
end Go.Proofs.Ythdjmljoiflkjaa
