/- slices.SortFunc over items with law04's order, by the shelf's contract. -/
import Derived.Test.YtaaffahjlkfbgaaDelItem
import Derived.Test.YtaaffahjlkfbgaaIarr
import Derived.Shelf.SlSortCmp.NoneTotal
import Derived.Ground.SlsfProg
namespace Go.Proofs.Ytaaffahjlkfbgaa
open Go.ChangeShapes Go.WideShapes Go.ChangeAt Go.RowKit Go.Shelf
set_option linter.unusedVariables false
def Try.sortIt_ren : Go.Shelf.Ren := ⟨fun | 6 => 42 | 15 => 64 | 14 => 63 | 28 => 80 | 29 => 81 | 20 => 72 | 21 => 73 | 22 => 74 | 23 => 75 | 24 => 76 | 25 => 77 | 26 => 78 | 27 => 79 | 46 => 82 | 47 => 83 | 48 => 84 | 49 => 85 | 50 => 86 | 57 => 87 | n => n, fun | 22 => 33 | 24 => 26 | 25 => 86 | 3 => 3 | 39 => 109 | 0 => 0 | 53 => 129 | 55 => 131 | 4 => 4 | 46 => 122 | 45 => 121 | 50 => 126 | 5 => 5 | 9 => 9 | 66 => 133 | 70 => 137 | 76 => 139 | 77 => 140 | n => n, fun | n => n⟩
theorem Try.sortIt : Go.Proofs.SlLaysF0.n6 Try.prog Try.sortIt_ren := {
  mixed := by kernel_rfl
  f6 := ⟨Try.f42.name, by decide, Try.func42.trans (congrArg some (by kernel_rfl))⟩
  f14 := ⟨Try.f63.name, by decide, Try.func63.trans (congrArg some (by kernel_rfl))⟩
  f15 := Try.func64.trans (congrArg some (by kernel_rfl))
  f20 := ⟨Try.f72.name, by decide, Try.func72.trans (congrArg some (by kernel_rfl))⟩
  f21 := ⟨Try.f73.name, by decide, Try.func73.trans (congrArg some (by kernel_rfl))⟩
  f22 := ⟨Try.f74.name, by decide, Try.func74.trans (congrArg some (by kernel_rfl))⟩
  f23 := ⟨Try.f75.name, by decide, Try.func75.trans (congrArg some (by kernel_rfl))⟩
  f24 := ⟨Try.f76.name, by decide, Try.func76.trans (congrArg some (by kernel_rfl))⟩
  f25 := ⟨Try.f77.name, by decide, Try.func77.trans (congrArg some (by kernel_rfl))⟩
  f26 := ⟨Try.f78.name, by decide, Try.func78.trans (congrArg some (by kernel_rfl))⟩
  f27 := ⟨Try.f79.name, by decide, Try.func79.trans (congrArg some (by kernel_rfl))⟩
  f28 := Try.func80.trans (congrArg some (by kernel_rfl))
  f29 := Try.func81.trans (congrArg some (by kernel_rfl))
  f46 := ⟨Try.f82.name, by decide, Try.func82.trans (congrArg some (by kernel_rfl))⟩
  f47 := Try.func83.trans (congrArg some (by kernel_rfl))
  f48 := Try.func84.trans (congrArg some (by kernel_rfl))
  f49 := ⟨Try.f85.name, by decide, Try.func85.trans (congrArg some (by kernel_rfl))⟩
  f50 := ⟨Try.f86.name, by decide, Try.func86.trans (congrArg some (by kernel_rfl))⟩
  f57 := ⟨Try.f87.name, by decide, Try.func87.trans (congrArg some (by kernel_rfl))⟩
  t0 := Try.underlying0
  a0 := Try.isAgg0
  z0 := Try.sizeOf0
  v0 := Try.zeroValue0
  t3 := Try.underlying3
  a3 := Try.isAgg3
  z3 := Try.sizeOf3
  v3 := Try.zeroValue3
  t4 := Try.underlying4
  a4 := Try.isAgg4
  z4 := Try.sizeOf4
  v4 := Try.zeroValue4
  t5 := Try.underlying5
  a5 := Try.isAgg5
  z5 := Try.sizeOf5
  v5 := Try.zeroValue5
  t9 := Try.underlying9
  a9 := Try.isAgg9
  z9 := Try.sizeOf9
  v9 := Try.zeroValue9
  t22 := Try.underlying33
  a22 := Try.isAgg33
  z22 := Try.sizeOf33
  v22 := Try.zeroValue33
  t25 := Try.underlying86
  a25 := Try.isAgg86
  z25 := Try.sizeOf86
  v25 := Try.zeroValue86
  t39 := Try.underlying109
  a39 := Try.isAgg109
  z39 := Try.sizeOf109
  v39 := Try.zeroValue109
  t45 := Try.underlying121
  a45 := Try.isAgg121
  z45 := Try.sizeOf121
  v45 := Try.zeroValue121
  t46 := Try.underlying122
  a46 := Try.isAgg122
  z46 := Try.sizeOf122
  v46 := Try.zeroValue122
  t50 := Try.underlying126
  a50 := Try.isAgg126
  z50 := Try.sizeOf126
  v50 := Try.zeroValue126
  t53 := Try.underlying129
  a53 := Try.isAgg129
  z53 := Try.sizeOf129
  v53 := Try.zeroValue129
  t55 := Try.underlying131
  a55 := Try.isAgg131
  z55 := Try.sizeOf131
  v55 := Try.zeroValue131
  t66 := Try.underlying133
  a66 := Try.isAgg133
  z66 := Try.sizeOf133
  v66 := Try.zeroValue133
  t70 := Try.underlying137
  a70 := Try.isAgg137
  z70 := Try.sizeOf137
  v70 := Try.zeroValue137
  t76 := Try.underlying139
  a76 := Try.isAgg139
  z76 := Try.sizeOf139
  v76 := Try.zeroValue139
  t77 := Try.underlying140
  a77 := Try.isAgg140
  z77 := Try.sizeOf140
  v77 := Try.zeroValue140 }
def cmpI (x y : Int) : Int := if x < y then -1 else if y < x then 1 else 0
theorem isNaN64 (x : Int) (w : World) : Calls Try.prog 65 #[.int .i64 x] w fun e w' => e = .returned (.bool false) ∧ w' = w := by
  go_enter Try.func65, Try.ntmps65
  go_wp2_with fail
  go_ret
  exact ⟨by simp, rfl⟩
theorem isNaNi (x : Int) (w : World) : Calls Try.prog 66 #[.int .i64 x] w fun e w' => e = .returned (.bool false) ∧ w' = w := by
  go_enter Try.func66, Try.ntmps66
  go_wp2_with fail
  go_ret
  exact ⟨by simp, rfl⟩
theorem cmp64 (x y : Int) (w : World) : Calls Try.prog 45 #[.int .i64 x, .int .i64 y] w fun e w' => e = .returned (.int .i64 (cmpI x y)) ∧ w' = w := by
  unfold cmpI
  go_enter Try.func45, Try.ntmps45
  by_cases h1 : x < y
  · rw [if_pos h1]
    go_wp2_with (go_at_call 65; (with_reducible refine (isNaN64 _ _).mono ?_); rintro e w1 ⟨rfl, rfl⟩)
    go_ret
    exact ⟨rfl, rfl⟩
  · rw [if_neg h1]
    by_cases h2 : y < x
    · rw [if_pos h2]
      go_wp2_with (go_at_call 65; (with_reducible refine (isNaN64 _ _).mono ?_); rintro e w1 ⟨rfl, rfl⟩)
      go_ret
      exact ⟨rfl, rfl⟩
    · rw [if_neg h2]
      go_wp2_with (go_at_call 65; (with_reducible refine (isNaN64 _ _).mono ?_); rintro e w1 ⟨rfl, rfl⟩)
      go_ret
      exact ⟨rfl, rfl⟩
theorem cmpInt (x y : Int) (w : World) : Calls Try.prog 46 #[.int .i64 x, .int .i64 y] w fun e w' => e = .returned (.int .i64 (cmpI x y)) ∧ w' = w := by
  unfold cmpI
  go_enter Try.func46, Try.ntmps46
  by_cases h1 : x < y
  · rw [if_pos h1]
    go_wp2_with (go_at_call 66; (with_reducible refine (isNaNi _ _).mono ?_); rintro e w1 ⟨rfl, rfl⟩)
    go_ret
    exact ⟨rfl, rfl⟩
  · rw [if_neg h1]
    by_cases h2 : y < x
    · rw [if_pos h2]
      go_wp2_with (go_at_call 66; (with_reducible refine (isNaNi _ _).mono ?_); rintro e w1 ⟨rfl, rfl⟩)
      go_ret
      exact ⟨rfl, rfl⟩
    · rw [if_neg h2]
      go_wp2_with (go_at_call 66; (with_reducible refine (isNaNi _ _).mono ?_); rintro e w1 ⟨rfl, rfl⟩)
      go_ret
      exact ⟨rfl, rfl⟩
theorem or2 (g : Nat) (a b : Int) (w : World) (h0 : w.cell? ⟨g, 0, none⟩ = some (.int .i64 a)) (h1 : w.cell? ⟨g, 1, none⟩ = some (.int .i64 b)) :
    Calls Try.prog 44 #[.slice (some ⟨g, 0, none⟩) 2 2] w fun e w' => e = .returned (.int .i64 (if a = 0 then b else a)) ∧ w' = w := by
  have HE := Lib.hid (And.intro h0 h1)
  by_cases ha : a = 0
  · rw [if_pos ha]
    subst ha
    go_enter Try.func44, Try.ntmps44
    go_wp2_with fail
    refine wp_loop_rounds 3 ?_
    rw [rounds_succ]
    go_wp2_with fail
    rw [rounds_succ]
    by_cases hb : b = 0
    · subst hb
      go_wp2_with fail
      rw [rounds_succ]
      go_wp2_with fail
      go_ret
      exact ⟨rfl, rfl⟩
    · go_wp2_with fail
      go_ret
      exact ⟨rfl, rfl⟩
  · rw [if_neg ha]
    go_enter Try.func44, Try.ntmps44
    go_wp2_with fail
    refine wp_loop_rounds 3 ?_
    rw [rounds_succ]
    go_wp2_with fail
    go_ret
    exact ⟨rfl, rfl⟩
def cfI (x y : ItemV) : Int := if cmpI x.key y.key = 0 then cmpI x.id y.id else cmpI x.key y.key
theorem cfI_lt (x y : ItemV) : ltOf cfI x y = decide (x.lt y) := by
  unfold ltOf cfI cmpI ItemV.lt
  by_cases h1 : x.key < y.key <;> by_cases h2 : y.key < x.key <;> by_cases h3 : x.id < y.id <;> by_cases h4 : y.id < x.id <;> simp [h1, h2, h3, h4] <;> omega
theorem swoI : Go.Sort.SWO (ltOf cfI) where
  irrefl x := by rw [cfI_lt]; simpa using x.irr
  trans x y z h1 h2 := by rw [cfI_lt, decide_eq_true_eq] at h1 h2 ⊢; unfold ItemV.lt at *; omega
  ntrans x y z h1 h2 := by rw [cfI_lt, decide_eq_false_iff_not] at h1 h2 ⊢; unfold ItemV.lt at *; omega
/-- A plan at a class of worlds of one's own. -/
theorem wp_region_kl {P : Program} {id : Nat} {Q : Exit → Act → World → Prop} {a : Act} {w : World} {l : List Oper} (Ls Ms Hs : List Nat) (K : World → Prop) (hK : K w.drew) (hm : P.follows .mixedOrders = true) (hB : planB .any l.toArray Ls Ms Hs = true) {os : List Oper} (hos : Picks l Hs os)
    (h : ∀ (C : Type) (cw : C → World), Nonempty C → (∀ c, K (cw c)) → wpPlanL P l.toArray (fun w => ∃ c, w = cw c) (fun a' => wpPlanM P l.toArray K (fun _ _ => False) (fun a'' w'' => wpList P l.toArray Q os a'' w'') Ms a' w.drew) Ls a) : (Code.region id l.toArray true).wp P Q a w := by
  refine wp_region_plan (fun _ _ => False) Ls Ms Hs K hm hB hK hos (fun _ _ _ _ h => h.elim) ?_
  have h1 := h (InC K) InC.w ⟨⟨w.drew, hK⟩⟩ InC.h
  have key : ∀ (L : List Nat) (a : Act), wpPlanL P l.toArray (fun w => ∃ c : InC K, w = c.w) (fun a' => wpPlanM P l.toArray K (fun _ _ => False) (fun a'' w'' => wpList P l.toArray Q os a'' w'') Ms a' w.drew) L a →
      wpPlanL P l.toArray K (fun a' => wpPlanM P l.toArray K (fun _ _ => False) (fun a'' w'' => wpList P l.toArray Q os a'' w'') Ms a' w.drew) L a := by
    intro L
    induction L with
    | nil => intro a h; exact h
    | cons i r ih =>
      intro a ⟨o, v, h1, h2, h3⟩
      refine ⟨o, v, h1, ?_, ih _ h3⟩
      rcases h2 with ⟨h2, h4⟩ | h2
      · exact .inl ⟨h2, fun w hw => h4 w ⟨⟨w, hw⟩, rfl⟩⟩
      · exact .inr h2
  exact key Ls a h1
/-- Draws, and blocks behind. -/
def GrowD (W w : World) : Prop := ∃ q os, w = Go.Sort.grow (W.drewN q) os
theorem GrowD.cell {W w : World} (h : GrowD W w) {a : Addr} {v : Value} (hv : W.cell? a = some v) : w.cell? a = some v := by
  obtain ⟨q, os, rfl⟩ := h
  have h0 : (W.drewN q).cell? a = some v := hv
  rw [Go.Sort.cell?_grow _ _ _ (World.block_lt_of_cell? _ _ h0)]
  exact h0
theorem GrowD.drew {W w : World} (h : GrowD W w) : GrowD W w.drew := by
  obtain ⟨q, os, rfl⟩ := h
  exact ⟨q + 1, os, rfl⟩
theorem GrowD.alloc {W w : World} (h : GrowD W w) (o : Obj) : GrowD W (w.alloc o) := by
  obtain ⟨q, os, rfl⟩ := h
  exact ⟨q, os ++ #[o], by rw [Go.Sort.alloc_eq_grow, Go.Sort.grow_grow]⟩
theorem GrowD.refl (W : World) : GrowD W W := ⟨0, #[], by rw [Go.Sort.grow_empty]; rfl⟩
theorem GrowD.trans {W w w' : World} (h : GrowD W w) (h' : GrowD w w') : GrowD W w' := by
  obtain ⟨q, os, rfl⟩ := h
  obtain ⟨q', os', rfl⟩ := h'
  exact ⟨q + q', os ++ os', by rw [← Go.Sort.grow_grow]; unfold Go.Sort.grow World.drewN; simp [Nat.add_assoc]⟩
set_option maxRecDepth 100000 in
set_option maxHeartbeats 2000000 in
theorem closI (x y : ItemV) (W : World) : Calls Try.prog 43 #[.agg #[.int .i64 x.key, .int .i64 x.id], .agg #[.int .i64 y.key, .int .i64 y.id]] W fun e w' => e = .returned (.int .i64 (cfI x y)) ∧ GrowD W w' := by
  have hS0 := ((SL.start (Nat.le_refl W.heap.size)).alloc #[.int .i64 x.key, .int .i64 x.id] 26).alloc #[.int .i64 y.key, .int .i64 y.id] 26
  have hG0 := ((GrowD.refl W).alloc (.cells #[.int .i64 x.key, .int .i64 x.id] 26)).alloc (.cells #[.int .i64 y.key, .int .i64 y.id] 26)
  have hc3 : ∀ w, Calls Try.prog 45 #[.int .i64 x.key, .int .i64 y.key] w fun e w' => e = .returned (.int .i64 (cmpI x.key y.key)) ∧ w' = w := cmp64 _ _
  have hc4 : ∀ w, Calls Try.prog 46 #[.int .i64 x.id, .int .i64 y.id] w fun e w' => e = .returned (.int .i64 (cmpI x.id y.id)) ∧ w' = w := cmpInt _ _
  have hcf : cfI x y = if cmpI x.key y.key = 0 then cmpI x.id y.id else cmpI x.key y.key := rfl
  rw [hcf]
  generalize cmpI x.key y.key = r1 at hc3 ⊢
  generalize cmpI x.id y.id = r2 at hc4 ⊢
  have hor : ∀ (g : Nat) (w : World) (h0 : w.cell? ⟨g, 0, none⟩ = some (.int .i64 r1)) (h1 : w.cell? ⟨g, 1, none⟩ = some (.int .i64 r2)), Calls Try.prog 44 #[.slice (some ⟨g, 0, none⟩) 2 2] w fun e w' => e = .returned (.int .i64 (if r1 = 0 then r2 else r1)) ∧ w' = w := fun g w => or2 g r1 r2 w
  generalize (if r1 = 0 then r2 else r1) = r at hor ⊢
  have HOR := Lib.hid hor
  clear hor
  have HC := Lib.hid (And.intro hc3 hc4)
  clear hc3 hc4 hcf
  go_enter Try.func43, Try.ntmps43
  go_upto_region 1 with fail
  have e1 : (W.alloc (.cells #[.int .i64 x.key, .int .i64 x.id] 26)).heap.size = W.heap.size + 1 := Array.size_push _
  rw [e1] at hS0
  have z0 := hS0.cell 1 rfl 0 rfl
  have z1 := hS0.cell 1 rfl 1 rfl
  have z2 := hS0.cell 0 rfl 0 rfl
  have z3 := hS0.cell 0 rfl 1 rfl
  clear hS0 e1
  generalize ((W.alloc (.cells #[.int .i64 x.key, .int .i64 x.id] 26)).alloc (.cells #[.int .i64 y.key, .int .i64 y.id] 26)) = W1 at *
  generalize W.heap.size = gx at *
  refine wp_region_kl [0,1,2,3,5,6,7,8] [4,9,10,11] [12] (GrowD W1) (GrowD.refl W1).drew (by kernel_rfl) (by kernel_rfl) (.cons rfl .nil) (fun C cw _ hC => ?_)
  have q0 := fun c => (hC c).cell z0
  have q1 := fun c => (hC c).cell z1
  have q2 := fun c => (hC c).cell z2
  have q3 := fun c => (hC c).cell z3
  repeat (refine pl_look rfl rfl rfl (fun Kv hK => ?_); go_big_quiet_op; refine hK _ ?_; clear hK Kv)
  clear q0 q1 q2 q3 hC z0 z1 z2 z3
  refine pl_end ?_
  have hG1 := (GrowD.refl W1).drew
  have hS1 := SL.start (Nat.le_refl W1.drew.heap.size)
  generalize W1.drew = w2 at *
  refine pm_eff rfl rfl fun Kv hK => ?_
  go_simp
  refine eff_call (HC.out.1 _) (fun e w' h => ?_)
  obtain ⟨rfl, rfl⟩ := h
  refine .inl ⟨_, rfl, hG1, hK _ _ ?_⟩
  clear hK Kv
  refine pm_eff rfl rfl fun Kv hK => ?_
  go_simp
  refine eff_call (HC.out.2 _) (fun e w' h => ?_)
  obtain ⟨rfl, rfl⟩ := h
  refine .inl ⟨_, rfl, hG1, hK _ _ ?_⟩
  clear hK Kv
  refine pm_eff rfl rfl fun Kv hK => ?_
  go_simp
  have hG2 := hG1.alloc (.cells #[.int .i64 r1, .int .i64 r2] 3)
  have hS2 := hS1.alloc #[.int .i64 r1, .int .i64 r2] 3
  refine ⟨hG2, hK _ _ ?_⟩
  clear hK Kv
  have HO := Lib.hid (HOR.out _ _ (hS2.cell 0 rfl 0 rfl) (hS2.cell 0 rfl 1 rfl))
  refine pm_eff rfl rfl fun Kv hK => ?_
  go_simp
  refine eff_call HO.out (fun e w' h => ?_)
  obtain ⟨rfl, rfl⟩ := h
  refine .inl ⟨_, rfl, hG2, hK _ _ ?_⟩
  clear hK Kv
  refine pm_end ?_
  have HG := Lib.hid (hG0.trans hG2)
  clear hG0 hG1 hG2 hS1 hS2 HO HC
  go_wp2_with fail
  go_ret
  exact ⟨rfl, HG.out⟩
instance : Inhabited ItemV := ⟨⟨0, 0⟩⟩
theorem setMany_all (F F' : Array Value) (h : F.size = F'.size) : Go.Sort.setMany F 0 F'.toList = F' := by
  refine Go.Sort.ext_get! (by simp [h]) fun t ht => ?_
  have ht' : t < F.size := by simpa using ht
  rw [Go.Sort.get_setMany _ _ _ _ ht', if_pos ⟨Nat.zero_le _, by simp; omega⟩]
  have h3 : t < F'.size := by omega
  rw [getElem!_pos F' t h3, getElem!_pos F'.toList _ (by simpa using h3)]
  simp
def dOf (h : Nat → ItemV) (n : Nat) : Array ItemV := ((List.range n).map h).toArray
theorem dOf_size (h : Nat → ItemV) (n : Nat) : (dOf h n).size = n := by simp [dOf]
theorem dOf_get (h : Nat → ItemV) {n i : Nat} (hi : i < n) : (dOf h n)[i]! = h i := by
  rw [getElem!_pos _ _ (by rw [dOf_size]; exact hi)]
  simp [dOf]
theorem flat_items (d : Array ItemV) : (Go.Sort.flatK ItemV.cells 2 d).toList = itemCells (fun i => d[i]!) d.size := by
  refine List.ext_getElem? fun t => ?_
  by_cases ht : t < d.size * 2
  · have hk : t / 2 < d.size := by omega
    have h1 : (Go.Sort.flatK ItemV.cells 2 d)[t]! = (d[t / 2]!.cells)[t % 2]! := Go.Sort.get_flatK _ _ _ _ ht
    rw [getElem!_pos _ t (by simpa using ht)] at h1
    rw [Array.getElem?_toList, Array.getElem?_eq_getElem (by simpa using ht), h1]
    obtain ⟨g0, g1⟩ := itemCells_get (fun i => d[i]!) hk
    rcases (show t % 2 = 0 ∨ t % 2 = 1 by omega) with e | e
    · rw [show t = t / 2 * 2 by omega, g0, show t / 2 * 2 % 2 = 0 by omega, show t / 2 * 2 / 2 = t / 2 by omega]; rfl
    · rw [show t = t / 2 * 2 + 1 by omega, g1, show (t / 2 * 2 + 1) % 2 = 1 by omega, show (t / 2 * 2 + 1) / 2 = t / 2 by omega]; rfl
  · rw [List.getElem?_eq_none (by simp; omega), List.getElem?_eq_none (by rw [itemCells_len]; omega)]
theorem cnt_count (x : ItemV) (h : Nat → ItemV) (n : Nat) : cnt x h n = ((List.range n).map h).count x := by
  induction n with
  | zero => rfl
  | succ n ih => rw [cnt, ih, List.range_succ, List.map_append, List.count_append]; simp [List.count_cons]
theorem arr_range (d : Array ItemV) : d.toList = (List.range d.size).map fun i => d[i]! := by
  refine List.ext_getElem (by simp) fun i h1 h2 => ?_
  simp at h1
  simp [h1]
set_option maxHeartbeats 2000000 in
theorem sort_items (W : World) (B : Nat) (rs : List Rs) (w : World) (it n c g off : Nat) (h : Nat → ItemV) (hS : SL W B rs w) (hi : rs[it]? = some (.row 26 2 (.slice (some ⟨g, off, none⟩) n c) n (itemCells h n))) (hn0 : 0 < n) (hn : n ≤ 1000) :
    Calls Try.prog 42 #[.slice (some ⟨g, off, none⟩) n c, .func (.func 43) #[] #[]] w fun e w' => e = .returned (.tuple #[]) ∧
      ∃ h', SL W B (rs.set it (.row 26 2 (.slice (some ⟨g, off, none⟩) n c) n (itemCells h' n))) w' ∧ (∀ x, cnt x h' n = cnt x h n) ∧ ∀ i j, i < j → j < n → ¬ (h' j).lt (h' i) := by
  have hsz := dOf_size h n
  have hfl : (Go.Sort.flatK ItemV.cells 2 (dOf h n)).toList = itemCells h n := by
    rw [flat_items, hsz]
    exact itemCells_ext fun k hk => dOf_get h hk
  have hH : Go.Sort.HoldsK ItemV.cells 2 w g off (dOf h n) := by
    intro j hj
    have hj' : j < n * 2 := by rw [Go.Sort.size_flatK, hsz] at hj; exact hj
    have hj3 : j < (itemCells h n).length := by rw [itemCells_len]; exact hj'
    refine ⟨hS.rowCell it hi j ?_, hS.rowFree it hi _ hn0⟩
    rw [getElem!_pos (Go.Sort.flatK ItemV.cells 2 (dOf h n)) j hj, ← hfl, Array.getElem?_toList, Array.getElem?_eq_getElem hj]
    rfl
  have hblk : g < w.heap.size := (hS.block _ (List.mem_of_getElem? hi) g rfl).2
  have eg : ∀ args w, (callFunc 43 args).run Try.prog w = .ok (.enter 43 args) w := enters_of Try.func43 (by kernel_rfl) rfl
  have hcmp : CmpLays Try.prog 43 #[] ItemV.cells 2 cfI g off (dOf h n).size w := fun _ _ _ _ x y => closI x y _
  have hcon := AnyQ.slices_SortFunc Try.sortIt 2 (by intro w; kernel_rfl) (by intro w; kernel_rfl) ItemV.cells (fun _ => rfl) (fun x v hv => by simp [ItemV.cells] at hv; rcases hv with rfl | rfl <;> rfl) cfI swoI 43 #[] g off c (dOf h n) w eg hcmp hH hblk (by rw [hsz]; omega)
  rw [hsz] at hcon
  change Calls Try.prog 42 _ _ _ at hcon
  refine hcon.mono fun e w' ⟨he, d', m, os, ⟨hp1, hp2, hp3⟩, hs, hw⟩ => ⟨he, fun i => d'[i]!, ?_, fun x => ?_, fun i j hij hj => ?_⟩
  · have hd' : d'.size = n := hp1.trans hsz
    have hwa : w' = Go.Sort.grow ((Go.Sort.ahead w m).setCells g (off + 0) (itemCells (fun i => d'[i]!) n)) os := by
      rw [hw]
      unfold sortWorldK
      congr 1
      have e0 : Go.Sort.putRow id (Go.Sort.ahead w m) g off (Go.Sort.flatK ItemV.cells 2 (dOf h n)) = Go.Sort.ahead w m := Go.Sort.putRowK_self ItemV.cells 2 (Go.Sort.ahead w m) g off (dOf h n) hH
      have e1 := Go.Sort.setCells_putRow (Go.Sort.ahead w m) g off (Go.Sort.flatK ItemV.cells 2 d').toList 0 (Go.Sort.flatK ItemV.cells 2 (dOf h n)) (by simp [hd', hsz])
      rw [e0, setMany_all _ _ (by simp [hd', hsz]), flat_items, hd'] at e1
      exact e1.symm
    have hS1 : SL W B rs (Go.Sort.ahead w m) := hS.call ⟨rfl, rfl, rfl, Nat.le_refl _, fun _ _ => rfl⟩
    have hS2 := SL.setRun it (itemCells (fun i => d'[i]!) n) 0 _ _ _ hS1 hi (by rw [itemCells_len]; omega)
    rw [List.take_zero, List.nil_append, List.drop_eq_nil_of_le (by rw [itemCells_len, itemCells_len]; omega), List.append_nil] at hS2
    rw [hwa]
    exact hS2.call ⟨rfl, rfl, rfl, by simp, fun k hk => Go.Sort.heap_grow_old _ _ hk⟩
  · rw [cnt_count, cnt_count]
    have hd' : d'.size = n := hp1.trans hsz
    have e1 : ((List.range n).map fun i => d'[i]!) = d'.toList := by rw [arr_range d', hd']
    have e2 : (List.range n).map h = (dOf h n).toList := by simp [dOf]
    rw [e1, e2]
    have e3 : d'.extract 0 n = d' := by rw [← hd']; simp
    have e4 : (dOf h n).extract 0 n = dOf h n := by
      have : (dOf h n).extract 0 (dOf h n).size = dOf h n := by simp
      rwa [hsz] at this
    rw [e3, e4] at hp3
    exact hp3.count_eq x
  · have := hs i j (Nat.zero_le _) hij hj
    rw [cfI_lt] at this
    simpa using this
end Go.Proofs.Ytaaffahjlkfbgaa
