/- The plain law of flow.Right: what it keeps in 'more'; all that flows in, over all nodes, is nothing. No program in sight. slices.ContainsFunc with 'x != 0' (flow.Right's closure): is there one that is not 0? The walk of flow.Right. (UNDER WAY) -/
import Derived.Test.YtgnmbmlpfjlbiaaCutM
import Derived.Test.YtgnmbmlpfjlbiaaPipes
import Derived.Test.YtgnmbmlpfjlbiaaRows
import Derived.Outline
import Derived.Test.YtgnmbmlpfjlbiaaFlows
namespace Go.Proofs.Ytgnmbmlpfjlbiaa
set_option linter.unusedVariables false
/-- more[from] -= x; more[to] += x. -/
def moveX (M : Nat → Int) (p : PipeV) (x : Int) : Nat → Int :=
  let M1 := fun j => if j = p.fr.toNat then M p.fr.toNat - x else M j
  fun j => if j = p.to.toNat then M1 p.to.toNat + x else M1 j
theorem moveX_inn {N : Nat} {ps : List PipeV} {X : Nat → Int} {k : Nat} (hP : InP N ps) (h : k < ps.length) (v : Nat) : moveX (fun u => innK ps X u k) ps[k] (X k) v = innK ps X v (k + 1) := by
  have hp := hP ps[k] (List.getElem_mem h)
  show _ = innK ps X v k + cont ps X v k
  rw [cont_at h]
  unfold moveX
  have a1 : v = ps[k].to.toNat ↔ ps[k].to = (v : Int) := by omega
  have a2 : v = ps[k].fr.toNat ↔ ps[k].fr = (v : Int) := by omega
  by_cases c1 : ps[k].to = (v : Int) <;> by_cases c2 : ps[k].fr = (v : Int)
  · have e1 := a1.2 c1
    have e2 := a2.2 c2
    simp only [if_pos e1, if_pos c1, if_pos c2]
    rw [← e1, if_pos e2, ← e2]; omega
  · have e1 := a1.2 c1
    have e2 : ¬ v = ps[k].fr.toNat := fun h => c2 (a2.1 h)
    simp only [if_pos e1, if_pos c1, if_neg c2]
    rw [← e1, if_neg e2]; omega
  · have e1 : ¬ v = ps[k].to.toNat := fun h => c1 (a1.1 h)
    have e2 := a2.2 c2
    simp only [if_neg e1, if_neg c1, if_pos c2, if_pos e2]
    rw [← e2]; omega
  · have e1 : ¬ v = ps[k].to.toNat := fun h => c1 (a1.1 h)
    have e2 : ¬ v = ps[k].fr.toNat := fun h => c2 (a2.1 h)
    simp only [if_neg e1, if_neg c1, if_neg c2, if_neg e2]; omega
/-- Over all nodes, nothing flows in. -/
theorem inn_all {N : Nat} {ps : List PipeV} {X : Nat → Int} (hP : InP N ps) : sumN (fun v => inn ps X v) N = 0 := by
  have h := outS_inn (y := X) (S := fun _ => false) hP ps.length (Nat.le_refl _)
  unfold outS at h
  simp only [Bool.false_eq_true, if_false] at h
  show sumN (fun v => innK ps X v ps.length) N = 0
  rw [h]
  have : ∀ k, crossK (fun _ => false) ps X k = 0 := by
    intro k
    induction k with
    | zero => rfl
    | succ k ih =>
      rw [crossK, ih]
      cases ps[k]? <;> simp [crossOne]
  exact this _
/-- Bounds, where the first k numbers fit. -/
theorem innK_bound {N : Nat} {ps : List PipeV} {X : Nat → Int} {k : Nat} (hP : InP N ps) (hk : k ≤ ps.length) (h : ∀ j, ∀ hj : j < ps.length, j < k → 0 ≤ X j ∧ X j ≤ ps[j].room) (v : Int) : innK ps X v k ≤ 1099511627776 * k ∧ - (1099511627776 * k) ≤ innK ps X v k := by
  have hF : Feas ps (fun j => if j < k then X j else 0) := by
    intro j hj
    dsimp only
    split
    · exact h j hj (by assumption)
    · exact ⟨Int.le_refl _, (hP ps[j] (List.getElem_mem hj)).2.2.1⟩
  have e : innK ps X v k = innK ps (fun j => if j < k then X j else 0) v k := innK_congr k fun j hj => by rw [if_pos hj]
  have b := innK_le hP hF v k hk
  rw [e]
  omega
theorem two_zero {N a b : Nat} {f : Nat → Int} (hab : a ≠ b) (ha : a < N) (hb : b < N) (h0 : ∀ v, v < N → v ≠ a → v ≠ b → f v = 0) (hs : sumN f N = 0) : f a + f b = 0 := by
  have e : sumN f N = sumN (fun v => (if v = b then 0 else f v) + (if v = b then f v else 0)) N := sumN_congr N fun v _ => by split <;> omega
  rw [e, sumN_add, sumN_one (a := a) N (fun v hv hne => by
    split
    · rfl
    · exact h0 v hv hne (by assumption)), sumN_one (a := b) N (fun v hv hne => if_neg hne), if_pos ha, if_pos hb, if_neg hab, if_pos rfl] at hs
  exact hs
/-- more[from], more[to] = more[from] + sum, 0. -/
def shutX (M : Nat → Int) (s t : Nat) : Nat → Int :=
  let M1 := fun j => if j = s then M s + M t else M j
  fun j => if j = t then 0 else M1 j
theorem shut_zero {N : Nat} {ps : List PipeV} {X : Nat → Int} {s t : Nat} (hP : InP N ps) (hst : s ≠ t) (hs : s < N) (ht : t < N) : (∃ x ∈ (List.range N).map (shutX (fun v => inn ps X v) s t), x ≠ 0) ↔ ¬ ∀ v : Nat, v < N → v ≠ s → v ≠ t → inn ps X v = 0 := by
  constructor
  · rintro ⟨x, hx, hne⟩ hall
    obtain ⟨v, hv, rfl⟩ := List.mem_map.1 hx
    have hvN : v < N := by simpa using hv
    apply hne
    unfold shutX
    dsimp only
    split
    · rfl
    · split
      · exact two_zero hst hs ht hall (inn_all hP)
      · exact hall v hvN (by assumption) (by assumption)
  · intro h
    apply Classical.byContradiction
    intro hno
    apply h
    intro v hv h1 h2
    apply Classical.byContradiction
    intro hne
    apply hno
    refine ⟨_, List.mem_map.2 ⟨v, by simpa using hv, rfl⟩, ?_⟩
    unfold shutX
    dsimp only
    rw [if_neg h2, if_neg h1]
    exact hne
end Go.Proofs.Ytgnmbmlpfjlbiaa
namespace Go.Proofs.Ytgnmbmlpfjlbiaa
open Go.ChangeShapes Go.WideShapes Go.ChangeAt Go.RowKit
set_option linter.unusedVariables false
theorem nonzero_call (x : Int) (w : World) : Calls Try.prog 33 #[.int .i64 x] w fun e w' => e = .returned (.bool (x != 0)) ∧ w = w' := by
  go_enter Try.func33, Try.ntmps33
  go_wp2
  go_ret
  exact ⟨rfl, rfl⟩
set_option maxHeartbeats 1000000 in
theorem index_nonzero (A : Option Addr) (c : Nat) (l : List Int) (w : World) (hr : Reads w w.heap.size 1 A l.length (l.map (.int .i64))) (hl : l.length ≤ 20000) :
    Calls Try.prog 39 #[.slice A l.length c, .func (.func 33) #[] #[]] w fun e w' => (∃ i : Int, e = .returned (.int .i64 i) ∧ (0 ≤ i ↔ ∃ x ∈ l, x ≠ 0)) ∧ Below w.heap.size w w' := by
  have HR := Lib.hid hr
  clear hr
  have hcf : ∀ args w', (callFunc 33 args).run Try.prog w' = .ok (.enter 33 args) w' := fun _ _ => by simp [go_sem]
  go_enter Try.func39, Try.ntmps39
  go_wp2
  go_loopw [8] (fun i wr => ∃ k : Nat, k ≤ l.length ∧ i = .int .i64 k ∧ (∀ j, ∀ h : j < l.length, j < k → l[j] = 0) ∧ Below w.heap.size w wr) (fun i _ => l.length - (intOf i).toNat)
  case atStart => exact ⟨0, by omega, rfl, fun j h hj => absurd hj (by omega), Below.refl _ _⟩
  case round =>
    obtain ⟨k, hk, rfl, hz, hB⟩ := hrel
    have HZ := Lib.hid hz
    clear hz
    by_cases hlt : k < l.length
    · obtain ⟨b, o, rfl, hb, e0⟩ := ints_at HR.out hlt
      have e1 : wr.cell? ⟨b, o + k, none⟩ = some (.int .i64 l[k]) := (hB.cell hb).trans e0
      obtain ⟨x, hx⟩ : ∃ x, l[k] = x := ⟨_, rfl⟩
      have HX : Hid (l[k] = x) := Lib.hid hx
      rw [hx] at e1 e0
      clear hx
      cases hn : (x != 0)
      · have HN : Hid (x = 0) := Lib.hid (by simpa using hn)
        go_wp2_with (go_at_call 33; (with_reducible refine (nonzero_call x _).mono ?_); rintro e w5 ⟨rfl, rfl⟩)
        go_roundw
        case rel => exact ⟨k + 1, by omega, by go_num, fun j h hj => by
          by_cases e : j = k
          · subst e; rw [HX.out]; exact HN.out
          · exact HZ.out j h (by omega), hB⟩
        case measure => simp [intOf]; omega
      · have HN : Hid (x ≠ 0) := Lib.hid (by simpa using hn)
        go_wp2_with (go_at_call 33; (with_reducible refine (nonzero_call x _).mono ?_); rintro e w5 ⟨rfl, rfl⟩)
        go_ret
        exact ⟨⟨k, rfl, ⟨fun _ => ⟨l[k], List.getElem_mem hlt, by rw [HX.out]; exact HN.out⟩, fun _ => by omega⟩⟩, hB⟩
    · obtain rfl : k = l.length := by omega
      go_wp2
      go_ret
      refine ⟨⟨-1, rfl, ⟨fun h => by omega, fun ⟨x, hx, hne⟩ => ?_⟩⟩, hB⟩
      obtain ⟨j, hj, rfl⟩ := List.getElem_of_mem hx
      exact absurd (HZ.out j hj hj) hne
theorem contains_nonzero (A : Option Addr) (c : Nat) (l : List Int) (w : World) (hr : Reads w w.heap.size 1 A l.length (l.map (.int .i64))) (hl : l.length ≤ 20000) :
    Calls Try.prog 32 #[.slice A l.length c, .func (.func 33) #[] #[]] w fun e w' => (∃ b : Bool, e = .returned (.bool b) ∧ (b = true ↔ ∃ x ∈ l, x ≠ 0)) ∧ Below w.heap.size w w' := by
  have HR := Lib.hid (index_nonzero A c l w hr hl)
  clear hr
  go_enter Try.func32, Try.ntmps32
  go_wp2_with (go_at_call 39; (with_reducible refine HR.out.mono ?_); rintro e w5 ⟨⟨i, rfl, hi⟩, hb⟩; have HI := Lib.hid (And.intro hi hb); clear hi hb)
  go_ret
  exact ⟨⟨_, rfl, by rw [← HI.out.1]; simp⟩, HI.out.2⟩
end Go.Proofs.Ytgnmbmlpfjlbiaa
namespace Go.Proofs.Ytgnmbmlpfjlbiaa
open Go.ChangeShapes Go.WideShapes Go.ChangeAt Go.RowKit
set_option linter.unusedVariables false
set_option maxHeartbeats 4000000 in
theorem right_bad (N : Int) (A AL : Option Addr) (cap n lc : Nat) (ps : List PipeV) (s t : Int) (w : World) (hr : Pipes w w.heap.size A ps) (hl : ps.length ≤ maxLen) (hn : n ≤ maxLen) (h : endsP N ps s t ≠ 0 ∨ n ≠ ps.length) :
    Calls Try.prog 21 #[.agg #[.int .i64 N, .slice A ps.length cap], .slice AL n lc, .int .i64 s, .int .i64 t] w fun e w' => e = .returned (.tuple #[.int .i64 0, .bool false]) ∧ Below w.heap.size w w' := by
  have hS0 := (SL.start (Nat.le_refl w.heap.size)).alloc #[.int .i64 N, .slice A ps.length cap] 26
  have HRD : Hid (Pipes (w.alloc (.cells #[.int .i64 N, .slice A ps.length cap] 26)) (w.alloc (.cells #[.int .i64 N, .slice A ps.length cap] 26)).heap.size A ps) := Lib.hid (reads_more (Reads.below hr hS0.below) (by simp))
  have HS0 := Lib.hid hS0
  have HL := Lib.hid hl
  obtain ⟨C, hC⟩ : ∃ C, C = endsP N ps s t := ⟨_, rfl⟩
  rw [← hC] at h
  have HC := Lib.hid hC
  unfold maxLen at hl hn
  clear hr hS0 hC
  by_cases q0 : C ≠ 0
  · clear h
    have hz : (C != 0) = true := by simpa using q0
    go_enter Try.func21, Try.ntmps21
    go_wp2_with (go_at_call 23; (with_reducible refine (endsP_any _ _ _ _ _ _ _ HRD.out HL.out).mono ?_); rintro e w2 ⟨rfl, hB⟩; rw [← HC.out]; have hS1 := HS0.out.call hB; have hy1 := hS1.cell 0 rfl 1 rfl; have HS1 := Lib.hid hS1; clear hB hS1)
    go_ret2
    exact ⟨rfl, HS1.out.below⟩
  · obtain rfl : C = 0 := by omega
    have hz : ((n : Int) != (ps.length : Int)) = true := by simp; omega
    clear h
    go_enter Try.func21, Try.ntmps21
    go_wp2_with (go_at_call 23; (with_reducible refine (endsP_any _ _ _ _ _ _ _ HRD.out HL.out).mono ?_); rintro e w2 ⟨rfl, hB⟩; rw [← HC.out]; have hS1 := HS0.out.call hB; have hy1 := hS1.cell 0 rfl 1 rfl; have HS1 := Lib.hid hS1; clear hB hS1)
    go_ret2
    exact ⟨rfl, HS1.out.below⟩
theorem contains_iarr (g n : Nat) (y : Nat → Int) (w : World) (t : TypeId) (h : w.heap[g]? = some (.cells (iarr y n) t (0, 0))) (hn : n ≤ 20000) :
    Calls Try.prog 32 #[.slice (some ⟨g, 0, none⟩) n n, .func (.func 33) #[] #[]] w fun e w' => (∃ b : Bool, e = .returned (.bool b) ∧ (b = true ↔ ∃ x ∈ (List.range n).map y, x ≠ 0)) ∧ Below w.heap.size w w' := by
  have h := contains_nonzero (some ⟨g, 0, none⟩) n ((List.range n).map y) w (reads_iarr h) (by simpa using hn)
  rw [List.length_map, List.length_range] at h
  exact h
set_option maxRecDepth 100000 in
set_option maxHeartbeats 8000000 in
theorem right_any (N : Nat) (A AL : Option Addr) (cap lc : Nat) (ps : List PipeV) (fl : List Int) (s t : Int) (w : World) (hr : Pipes w w.heap.size A ps) (hf : Reads w w.heap.size 1 AL fl.length (fl.map (.int .i64))) (hfl : fl.length = ps.length) (he : endsP N ps s t = 0) (X : Nat → Int) (hX : ∀ k, ∀ h : k < fl.length, fl[k] = X k) :
    Calls Try.prog 21 #[.agg #[.int .i64 N, .slice A ps.length cap], .slice AL ps.length lc, .int .i64 s, .int .i64 t] w (FlowsPost w N ps s t X) := by
  have hck : checkP N ps = 0 := by
    unfold endsP at he
    split at he <;> omega
  have hst' : 0 ≤ s ∧ s < N ∧ 0 ≤ t ∧ t < N ∧ s ≠ t := by
    unfold endsP at he
    rw [if_neg (by omega)] at he
    split at he <;> omega
  obtain ⟨_, hN, hl, hin, _⟩ := checkP_ok hck
  rw [Int.toNat_natCast] at hin
  obtain ⟨h0, h1, ht0, ht1, hst⟩ := hst'
  have hS0 := (SL.start (Nat.le_refl w.heap.size)).alloc #[.int .i64 N, .slice A ps.length cap] 26
  have HRD : Hid (Pipes (w.alloc (.cells #[.int .i64 N, .slice A ps.length cap] 26)) (w.alloc (.cells #[.int .i64 N, .slice A ps.length cap] 26)).heap.size A ps) := Lib.hid (reads_more (Reads.below hr hS0.below) (by simp))
  have HS0 := Lib.hid hS0
  have HE := Lib.hid he
  have HIN := Lib.hid hin
  have HX := Lib.hid hX
  have HFL := Lib.hid (And.intro hf hfl)
  have HR := Lib.hid hr
  have hz : ((ps.length : Int) != (ps.length : Int)) = false := by simp
  have hz0 : ((0 : Int) != 0) = false := rfl
  have hm := make_ints N (by omega)
  clear hr hS0 he hck hin hX hf hfl
  go_enter Try.func21, Try.ntmps21
  go_upto_region 3 with (go_at_call 23; (with_reducible refine (endsP_any _ _ _ _ _ _ _ HRD.out (by unfold maxLen; omega)).mono ?_); rintro e w2 ⟨rfl, hB⟩; rw [HE.out]; have hS1 := HS0.out.call hB; have hy1 := hS1.cell 0 rfl 1 rfl; have hy0 := hS1.cell 0 rfl 0 rfl; have HS1 := Lib.hid hS1; clear hB hS1)
  have hS2 := HS1.out.alloc (iarr (fun _ => 0) N) 2
  obtain ⟨nb, hnb⟩ : ∃ nb, nb = w.heap.size := ⟨_, rfl⟩
  go_upto_region 4 with fail
  obtain ⟨mb, hmb⟩ : ∃ mb, mb = w2.heap.size := ⟨_, rfl⟩
  generalize (w2.alloc (Obj.cells (iarr (fun _ => 0) N) 2)) = w3 at *
  rw [← hmb] at hS2 ⊢
  clear hy0 hy1 hm hmb HRD HS0 HS1 hnb
  have hy2 : w3.cell? ⟨w.heap.size, 1, none⟩ = some (.slice A ps.length cap) := hS2.cell 1 rfl 1 rfl
  have HS2 := Lib.hid hS2
  clear hS2
  go_wp2_with fail
  clear hy2
  go_loopw [33] (fun i wr => ∃ k : Nat, k ≤ ps.length ∧ i = .int .i64 k ∧ (∀ j, ∀ h : j < ps.length, j < k → 0 ≤ X j ∧ X j ≤ ps[j].room) ∧ SL w w.heap.size [.blk mb (iarr (fun v => innK ps X v k) N) 2, .blk w.heap.size #[.int .i64 N, .slice A ps.length cap] 26] wr) (fun i _ => ps.length - (intOf i).toNat)
  case atStart => exact ⟨0, by omega, rfl, fun j h hj => absurd hj (by omega), HS2.out⟩
  case round =>
    clear HS2
    obtain ⟨k, hk, rfl, hok, hS⟩ := hrel
    have HOK := Lib.hid hok
    clear hok
    by_cases hlt : k < ps.length
    · obtain ⟨b, o, rfl, hb, d0, d1, d2, d3⟩ := pipes_at (Reads.below HR.out hS.below) hlt
      obtain ⟨b2, o2, rfl, hb2, e0⟩ := ints_at HFL.out.1 (k := k) (by have := HFL.out.2; omega)
      rw [HX.out] at e0
      obtain ⟨⟨f0, f1⟩, ⟨t0, t1⟩, r0, r1⟩ := HIN.out _ (List.getElem_mem hlt)
      have HMV : Hid (∀ v : Nat, moveX (fun u => innK ps X u k) ps[k] (X k) v = innK ps X v (k + 1)) := Lib.hid (fun v => moveX_inn HIN.out hlt v)
      obtain ⟨p, hp⟩ : ∃ p, ps[k] = p := ⟨_, rfl⟩
      rw [hp] at d0 d1 d2 d3 f0 f1 t0 t1 r0 r1 HMV
      have HP : Hid (ps[k] = p) := Lib.hid hp
      have hS2 := hS.alloc #[.int .i64 p.fr, .int .i64 p.to, .int .i64 p.room, .int .i64 p.cost] 40
      have hz1 : b < wr.heap.size := Nat.lt_of_lt_of_le hb hS.size
      clear hp
      go_upto_region 7 with fail
      obtain ⟨ar, har⟩ : ∃ ar, ar = wr.heap.size := ⟨_, rfl⟩
      generalize (wr.alloc (.cells #[.int .i64 p.fr, .int .i64 p.to, .int .i64 p.room, .int .i64 p.cost] 40)) = w9 at *
      rw [← har] at hS2 ⊢
      clear har hS d0 d1 d2 d3 hz1
      by_cases c1 : X k < 0
      · skip
        refine wp_region_sl [0,1,2,3,4,5,6,7,8,9,10,11,12,13] [] [] [.blk ar #[.int .i64 p.fr, .int .i64 p.to, .int .i64 p.room, .int .i64 p.cost] 40] hS2 (by simp) (by kernel_rfl) (by kernel_rfl) .nil (fun C cw _ hC => ?_)
        have q0 : ∀ c, (cw c).cell? ⟨ar, 2, none⟩ = some (.int .i64 p.room) := fun c => (hC c).cell 0 rfl 2 rfl
        have q4 : ∀ c, (cw c).cell? ⟨b2, o2 + k, none⟩ = some (.int .i64 (X k)) := fun c => ((hC c).below.cell hb2).trans e0
        repeat (first | (refine pl_look rfl rfl rfl (fun Kv hK => ?_); go_big_quiet_op; refine hK _ ?_; clear hK Kv) | (refine pl_skip rfl rfl (fun Kv hK => ?_); go_simp; refine hK _ ?_; clear hK Kv))
        clear q0 q4 hC
        refine pl_end ?_
        intro w1 hS4
        refine pm_end ?_
        have HS4 := Lib.hid hS4
        clear hS2 hS4
        go_wp2_with fail
        go_ret2
        exact ⟨.inr ⟨fun h => by have := h.feas k hlt; rw [HP.out] at this; omega, rfl⟩, HS4.out.below⟩
      · by_cases c2 : p.room < X k
        · skip
          refine wp_region_sl [0,1,2,3,4,5,6,7,8,9,10,11,12,13] [] [] [.blk ar #[.int .i64 p.fr, .int .i64 p.to, .int .i64 p.room, .int .i64 p.cost] 40] hS2 (by simp) (by kernel_rfl) (by kernel_rfl) .nil (fun C cw _ hC => ?_)
          have q0 : ∀ c, (cw c).cell? ⟨ar, 2, none⟩ = some (.int .i64 p.room) := fun c => (hC c).cell 0 rfl 2 rfl
          have q4 : ∀ c, (cw c).cell? ⟨b2, o2 + k, none⟩ = some (.int .i64 (X k)) := fun c => ((hC c).below.cell hb2).trans e0
          repeat (first | (refine pl_look rfl rfl rfl (fun Kv hK => ?_); go_big_quiet_op; refine hK _ ?_; clear hK Kv) | (refine pl_skip rfl rfl (fun Kv hK => ?_); go_simp; refine hK _ ?_; clear hK Kv))
          clear q0 q4 hC
          refine pl_end ?_
          intro w1 hS4
          refine pm_end ?_
          have HS4 := Lib.hid hS4
          clear hS2 hS4
          go_wp2_with fail
          go_ret2
          exact ⟨.inr ⟨fun h => by have := h.feas k hlt; rw [HP.out] at this; omega, rfl⟩, HS4.out.below⟩
        · skip
          refine wp_region_sl [0,1,2,3,4,5,6,7,8,9,10,11,12,13] [] [] [.blk ar #[.int .i64 p.fr, .int .i64 p.to, .int .i64 p.room, .int .i64 p.cost] 40] hS2 (by simp) (by kernel_rfl) (by kernel_rfl) .nil (fun C cw _ hC => ?_)
          have q0 : ∀ c, (cw c).cell? ⟨ar, 2, none⟩ = some (.int .i64 p.room) := fun c => (hC c).cell 0 rfl 2 rfl
          have q4 : ∀ c, (cw c).cell? ⟨b2, o2 + k, none⟩ = some (.int .i64 (X k)) := fun c => ((hC c).below.cell hb2).trans e0
          repeat (first | (refine pl_look rfl rfl rfl (fun Kv hK => ?_); go_big_quiet_op; refine hK _ ?_; clear hK Kv) | (refine pl_skip rfl rfl (fun Kv hK => ?_); go_simp; refine hK _ ?_; clear hK Kv))
          clear q0 q4 hC
          refine pl_end ?_
          intro w1 hS4
          refine pm_end ?_
          clear hS2
          obtain ⟨M, hM⟩ : ∃ M, M = fun u : Nat => innK ps X u k := ⟨_, rfl⟩
          rw [← hM] at HMV
          have hF : ∀ v : Nat, -22000000000000000 ≤ M v ∧ M v ≤ 22000000000000000 := by
            intro v
            have h := innK_bound HIN.out hk HOK.out v
            rw [hM]
            dsimp only
            omega
          have hS6 : SL w w.heap.size [.blk ar #[.int .i64 p.fr, .int .i64 p.to, .int .i64 p.room, .int .i64 p.cost] 40, .blk mb (iarr M N) 2, .blk w.heap.size #[.int .i64 N, .slice (some ⟨b, o, none⟩) ps.length cap] 26] w1 := by rw [hM]; exact hS4
          have m0 := hF p.fr.toNat
          have HF2 := Lib.hid hF
          clear hS4 hM hF
          go_upto_region 9 with fail
          refine wp_region_sl [0,1,2,3,4,5,6,7,8,9] [] [10,11] [.blk ar #[.int .i64 p.fr, .int .i64 p.to, .int .i64 p.room, .int .i64 p.cost] 40, .blk mb (iarr M N) 2] hS6 (by simp) (by kernel_rfl) (by kernel_rfl) (.cons rfl (.cons rfl .nil)) (fun C cw _ hC => ?_)
          have q0 : ∀ c, (cw c).cell? ⟨ar, 0, none⟩ = some (.int .i64 p.fr) := fun c => (hC c).cell 0 rfl 0 rfl
          have q1 : ∀ c, (cw c).cell? ⟨mb, p.fr.toNat, none⟩ = some (.int .i64 (M p.fr.toNat)) := fun c => (hC c).cell 1 rfl _ (iarr_get _ _ _ (by omega))
          have q4 : ∀ c, (cw c).cell? ⟨b2, o2 + k, none⟩ = some (.int .i64 (X k)) := fun c => ((hC c).below.cell hb2).trans e0
          repeat (refine pl_look rfl rfl rfl (fun Kv hK => ?_); go_big_quiet_op; refine hK _ ?_; clear hK Kv)
          clear q0 q1 q4 hC
          refine pl_end ?_
          intro w5 hS5
          refine pm_end ?_
          have k0 : w5.cell? ⟨mb, p.fr.toNat, none⟩ = some (.int .i64 (M p.fr.toNat)) := hS5.cell 1 rfl _ (iarr_get _ _ _ (by omega))
          have k1 := hS5.free 1 rfl p.fr.toNat
          have hS7 : SL w w.heap.size (_ :: _) _ := hS5.setInt 1 rfl p.fr.toNat (M p.fr.toNat - X k)
          clear hS5 hS6
          go_upto_region 10 with fail
          obtain ⟨M1, hM1⟩ : ∃ M1, M1 = fun j => if j = p.fr.toNat then M p.fr.toNat - X k else M j := ⟨_, rfl⟩
          have HM1 : Hid (M1 = fun j => if j = p.fr.toNat then M p.fr.toNat - X k else M j) := Lib.hid hM1
          have hS8 : SL w w.heap.size [.blk ar #[.int .i64 p.fr, .int .i64 p.to, .int .i64 p.room, .int .i64 p.cost] 40, .blk mb (iarr M1 N) 2, .blk w.heap.size #[.int .i64 N, .slice (some ⟨b, o, none⟩) ps.length cap] 26] (w5.setCell ⟨mb, p.fr.toNat, none⟩ (.int .i64 (M p.fr.toNat - X k))) := by rw [hM1]; exact hS7
          have m1 : -23000000000000000 ≤ M1 p.to.toNat ∧ M1 p.to.toNat ≤ 23000000000000000 := by
            have := HF2.out p.to.toNat
            rw [hM1]
            dsimp only
            split <;> omega
          clear hM1 hS7 k0 k1
          generalize (w5.setCell ⟨mb, p.fr.toNat, none⟩ (.int .i64 (M p.fr.toNat - X k))) = w7 at *
          refine wp_region_sl [0,1,2,3,4,5,6,7,8,9] [] [10,11] [.blk ar #[.int .i64 p.fr, .int .i64 p.to, .int .i64 p.room, .int .i64 p.cost] 40, .blk mb (iarr M1 N) 2] hS8 (by simp) (by kernel_rfl) (by kernel_rfl) (.cons rfl (.cons rfl .nil)) (fun C cw _ hC => ?_)
          have q0 : ∀ c, (cw c).cell? ⟨ar, 1, none⟩ = some (.int .i64 p.to) := fun c => (hC c).cell 0 rfl 1 rfl
          have q1 : ∀ c, (cw c).cell? ⟨mb, p.to.toNat, none⟩ = some (.int .i64 (M1 p.to.toNat)) := fun c => (hC c).cell 1 rfl _ (iarr_get _ _ _ (by omega))
          have q4 : ∀ c, (cw c).cell? ⟨b2, o2 + k, none⟩ = some (.int .i64 (X k)) := fun c => ((hC c).below.cell hb2).trans e0
          repeat (refine pl_look rfl rfl rfl (fun Kv hK => ?_); go_big_quiet_op; refine hK _ ?_; clear hK Kv)
          clear q0 q1 q4 hC
          refine pl_end ?_
          intro w8 hS9
          refine pm_end ?_
          have k0 : w8.cell? ⟨mb, p.to.toNat, none⟩ = some (.int .i64 (M1 p.to.toNat)) := hS9.cell 1 rfl _ (iarr_get _ _ _ (by omega))
          have k1 := hS9.free 1 rfl p.to.toNat
          have HS9 : Hid (SL w w.heap.size [.blk ar #[.int .i64 p.fr, .int .i64 p.to, .int .i64 p.room, .int .i64 p.cost] 40, .blk mb (iarr (fun j => if j = p.to.toNat then M1 p.to.toNat + X k else M1 j) N) 2, .blk w.heap.size #[.int .i64 N, .slice (some ⟨b, o, none⟩) ps.length cap] 26] _) := Lib.hid (hS9.setInt 1 rfl p.to.toNat (M1 p.to.toNat + X k))
          clear hS9 hS8
          go_wp2_with fail
          go_roundw
          case rel =>
            refine ⟨k + 1, by omega, by go_num, fun j h hj => ?_, ?_⟩
            · by_cases e : j = k
              · subst e; rw [HP.out]; omega
              · exact HOK.out j h (by omega)
            · have h := HS9.out.tail
              rw [iarr_ext (g := fun v : Nat => innK ps X v (k + 1)) (fun v hv => by rw [← HMV.out v, HM1.out]; rfl)] at h
              exact h
          case measure => simp [intOf]; omega
    · obtain rfl : k = ps.length := by omega
      obtain ⟨M, hM⟩ : ∃ M, M = fun u : Nat => inn ps X u := ⟨_, rfl⟩
      have hF : ∀ v : Nat, -22000000000000000 ≤ M v ∧ M v ≤ 22000000000000000 := by
        intro v
        have h := innK_bound HIN.out (Nat.le_refl _) HOK.out v
        rw [hM]
        unfold inn
        dsimp only
        omega
      have hS2 : SL w w.heap.size [.blk mb (iarr M N) 2, .blk w.heap.size #[.int .i64 N, .slice A ps.length cap] 26] wr := by rw [hM]; exact hS
      have HM := Lib.hid hM
      have m0 := hF t.toNat
      have m1 := hF s.toNat
      have HF2 := Lib.hid hF
      have q0 : wr.cell? ⟨mb, t.toNat, none⟩ = some (.int .i64 (M t.toNat)) := hS2.cell 0 rfl _ (iarr_get _ _ _ (by omega))
      have q1 : wr.cell? ⟨mb, s.toNat, none⟩ = some (.int .i64 (M s.toNat)) := hS2.cell 0 rfl _ (iarr_get _ _ _ (by omega))
      have k1 := hS2.free 0 rfl s.toNat
      have hS3 := hS2.setInt 0 rfl s.toNat (M s.toNat + M t.toNat)
      have q2 := hS3.cell 0 rfl t.toNat (iarr_get _ _ _ (by omega))
      have k2 := hS3.free 0 rfl t.toNat
      have HS4 := Lib.hid (hS3.setInt 0 rfl t.toNat 0)
      clear hS hM hF hS2 hS3
      go_upto_region 14 with fail
      generalize ((wr.setCell ⟨mb, s.toNat, none⟩ (.int .i64 (M s.toNat + M t.toNat))).setCell ⟨mb, t.toNat, none⟩ (.int .i64 0)) = w5 at *
      have HSH : Hid (SL w w.heap.size [.blk mb (iarr (shutX (fun v : Nat => inn ps X v) s.toNat t.toNat) N) 2, .blk w.heap.size #[.int .i64 N, .slice A ps.length cap] 26] w5) := by
        have h := HS4.out
        rw [HM.out] at h
        exact Lib.hid h
      have HZ : Hid ((∃ x ∈ (List.range N).map (shutX (fun v : Nat => inn ps X v) s.toNat t.toNat), x ≠ 0) ↔ ¬ ∀ v : Nat, v < N → v ≠ s.toNat → v ≠ t.toNat → inn ps X v = 0) := Lib.hid (shut_zero HIN.out (by omega) (by omega) (by omega))
      have HMT : Hid (M t.toNat = inn ps X t) := Lib.hid (by rw [HM.out]; dsimp only; rw [Int.toNat_of_nonneg ht0])
      have HFE : Hid (Feas ps X) := Lib.hid (fun j hj => HOK.out j hj hj)
      clear q0 q1 q2 k1 k2 HS4 HM HF2 m1 HOK
      generalize M t.toNat = m at *
      by_cases c1 : m < 0
      · go_wp2_with fail
        go_ret2
        exact ⟨.inr ⟨fun h => by have := h.pos; rw [← HMT.out] at this; omega, rfl⟩, HSH.out.below⟩
      · have HCN := Lib.hid (contains_iarr mb N _ w5 2 (HSH.out.blk 0 rfl) (by omega))
        obtain ⟨Z, hZ⟩ : ∃ Z : Prop, Z = (∃ x ∈ (List.range N).map (shutX (fun v : Nat => inn ps X v) s.toNat t.toNat), x ≠ 0) := ⟨_, rfl⟩
        rw [← hZ] at HCN HZ
        clear hZ
        go_wp2_with (go_at_call 32; (with_reducible refine HCN.out.mono ?_); rintro e w6 ⟨⟨bb, rfl, hbb⟩, hB6⟩; have HBB := Lib.hid (And.intro hbb hB6); clear hbb hB6)
        · go_ret2
          have hb : bb = true := by assumption
          refine ⟨.inr ⟨fun hg => ?_, rfl⟩, (HSH.out.call HBB.out.2).below⟩
          exact (HZ.out.1 (HBB.out.1.1 hb)) fun v hv h1 h2 => hg.kept v hv (by omega) (by omega)
        · go_ret2
          have hb : bb = false := by assumption
          refine ⟨.inl ⟨⟨HFE.out, by rw [← HMT.out]; omega, fun v hv h1 h2 => ?_⟩, by rw [← HMT.out]; rfl⟩, (HSH.out.call HBB.out.2).below⟩
          have hz : ¬ Z := fun h => by have := HBB.out.1.2 h; rw [hb] at this; cases this
          have hall := Classical.not_not.1 fun h => hz (HZ.out.2 h)
          exact hall v hv (by omega) (by omega)
end Go.Proofs.Ytgnmbmlpfjlbiaa
