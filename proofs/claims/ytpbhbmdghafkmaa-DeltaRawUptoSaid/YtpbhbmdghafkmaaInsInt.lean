/- slices.Insert of []int, by the shelf's four roads, told as what is owned. -/
import Derived.Test.YtpbhbmdghafkmaaRowRun
import Derived.Test.YtpbhbmdghafkmaaRows
import Derived.Shelf.Spec.SlicesInsertGrow
import Derived.Ground.Names2Prog
namespace Go.Proofs.Ytpbhbmdghafkmaa
open Go.ChangeShapes Go.WideShapes Go.ChangeAt Go.RowKit Go.Shelf
set_option linter.unusedVariables false
def Try.insL_ren : Go.Shelf.Ren := ⟨fun | 21 => 46 | 27 => 64 | 28 => 65 | 35 => 80 | 39 => 33 | n => n, fun | 22 => 42 | 3 => 3 | 4 => 4 | 0 => 0 | n => n, fun | n => n⟩
theorem Try.insL : Go.Proofs.Lays2.n21 Try.prog Try.insL_ren := {
 mixed := by kernel_rfl
 f21 := Try.func46.trans (congrArg some (by kernel_rfl))
 f27 := Try.func64.trans (congrArg some (by kernel_rfl))
 f28 := Try.func65.trans (congrArg some (by kernel_rfl))
 f35 := Try.func80.trans (congrArg some (by kernel_rfl))
 f39 := Try.func33.trans (congrArg some (by kernel_rfl))
 t0 := Try.underlying0
 a0 := Try.isAgg0
 z0 := Try.sizeOf0
 v0 := Try.zeroValue0
 t3 := Try.underlying3
 a3 := Try.isAgg3
 z3 := Try.sizeOf3
 v3 := Try.zeroValue3
 t4 := Try.underlying4
 a4 := Try.isAgg4
 z4 := Try.sizeOf4
 v4 := Try.zeroValue4
 t22 := Try.underlying42
 a22 := Try.isAgg42
 z22 := Try.sizeOf42
 v22 := Try.zeroValue42
 i3 := by kernel_rfl }
theorem insert_shift (b off n c i vb voff m vc : Nat) (cs vs : List Value) (w : World) (hi : i < n) (hm : 0 < m) (hroom : n + m ≤ c) (hc63 : c ≤ 9223372036854775807) (hvb : vb ≠ b)
 (hcl : cs.length = n) (hvl : vs.length = m)
 (hcs : ∀ j v, cs[j]? = some v → w.cell? ⟨b, off + j, none⟩ = some v) (hsp : ∀ j, j < n + m → (w.cell? ⟨b, off + j, none⟩).isSome = true) (hfz : ∀ j, j < n + m → w.frozen? ⟨b, off + j, none⟩ = false)
 (hvs : ∀ j v, vs[j]? = some v → w.cell? ⟨vb, voff + j, none⟩ = some v) (h1c : ∀ v ∈ cs, v.oneCell' = true) (h1v : ∀ v ∈ vs, v.oneCell' = true)
 (tA tB : TypeId) (kA kB : Nat) (hsa : w.shape? vb = some (tA, kA)) (hsb : w.shape? b = some (tB, kB)) (hkB : kB ≠ 0) (hfa : w.frozen? ⟨vb, voff, none⟩ = false) (hfe : w.frozen? ⟨vb, kA, none⟩ = false) :
 Calls Try.prog 46 #[.slice (some ⟨b, off, none⟩) n c, .int .i64 i, .slice (some ⟨vb, voff, none⟩) m vc] w fun e w' =>
  e = .returned (.slice (some ⟨b, off, none⟩) (n + m) c) ∧ w' = (w.drew.setCells b (off + (i + m)) (cs.drop i)).setCells b (off + i) vs := by
 have h := Any2.slices_Insert_int_shift Try.insL b off n c i vb voff m vc cs vs w hi hm hroom hc63 hvb hcl hvl hcs hsp hfz hvs h1c h1v tA tB kA kB hsa hsb hkB hfa hfe
 change Calls Try.prog 46 _ _ _ at h
 exact h
theorem insert_end_room (b off n c vb voff m vc : Nat) (vs : List Value) (w : World) (hm : 0 < m) (hroom : n + m ≤ c) (hc63 : c ≤ 9223372036854775807)
 (hvl : vs.length = m) (hsp : ∀ j, j < m → (w.cell? ⟨b, off + n + j, none⟩).isSome = true) (hfz : ∀ j, j < m → w.frozen? ⟨b, off + n + j, none⟩ = false)
 (hvs : ∀ j v, vs[j]? = some v → w.cell? ⟨vb, voff + j, none⟩ = some v) (h1v : ∀ v ∈ vs, v.oneCell' = true) :
 Calls Try.prog 46 #[.slice (some ⟨b, off, none⟩) n c, .int .i64 n, .slice (some ⟨vb, voff, none⟩) m vc] w fun e w' =>
  e = .returned (.slice (some ⟨b, off, none⟩) (n + m) c) ∧ w' = w.setCells b (off + n) vs := by
 have h := Any2.slices_Insert_int_end_room Try.insL b off n c vb voff m vc vs w hm hroom hc63 hvl hsp hfz hvs h1v
 change Calls Try.prog 46 _ _ _ at h
 exact h
theorem insert_end_grow (base : Option Addr) (n c vb voff m vc : Nat) (cs vs : List Value) (w : World) (hm : 0 < m) (hnc : n ≤ c) (hroom : c < n + m) (hbig : (n + m) * 8 ≤ 140737488355328)
 (hcl : cs.length = n) (hvl : vs.length = m) (hnil : base = none → n = 0)
 (hcs : ∀ a, base = some a → ∀ j v, cs[j]? = some v → w.cell? (a.add j) = some v)
 (hvs : ∀ j v, vs[j]? = some v → w.cell? ⟨vb, voff + j, none⟩ = some v) (h1v : ∀ v ∈ vs, v.oneCell' = true) :
 Calls Try.prog 46 #[.slice base n c, .int .i64 n, .slice (some ⟨vb, voff, none⟩) m vc] w fun e w' =>
  ∃ cap rest, n + m ≤ cap ∧ cap ≤ maxLen ∧ rest.size = cap - (n + m) ∧ e = .returned (.slice (some ⟨w.heap.size, 0, none⟩) (n + m) cap) ∧ w' = w.drew.alloc (.cells ((cs ++ vs).toArray ++ rest) 3) := by
 have h := Any2.slices_Insert_int_end_grow Try.insL base n c vb voff m vc cs vs w hm hnc hroom hbig hcl hvl hnil hcs hvs h1v
 change Calls Try.prog 46 _ _ _ at h
 refine h.mono ?_
 rintro e w' ⟨he, hw⟩
 exact ⟨_, _, grownCap_ge w (n + m) c _, grownCap_le_maxLen w (n + m) c _ (by unfold maxLen; omega), by simp [size_zeroCells, Value.cells], he, hw⟩
theorem insert_grow (b off n c i vb voff m vc : Nat) (cs vs : List Value) (w : World) (hi : i < n) (hm : 0 < m) (hnc : n ≤ c) (hroom : c < n + m) (hbig : (n + m) * 8 ≤ 140737488355328)
 (hcl : cs.length = n) (hvl : vs.length = m)
 (hcs : ∀ j v, cs[j]? = some v → w.cell? ⟨b, off + j, none⟩ = some v)
 (hvs : ∀ j v, vs[j]? = some v → w.cell? ⟨vb, voff + j, none⟩ = some v) (h1c : ∀ v ∈ cs, v.oneCell' = true) (h1v : ∀ v ∈ vs, v.oneCell' = true) :
 Calls Try.prog 46 #[.slice (some ⟨b, off, none⟩) n c, .int .i64 i, .slice (some ⟨vb, voff, none⟩) m vc] w fun e w' =>
  ∃ cap mid rest, n + m ≤ cap ∧ cap ≤ maxLen ∧ mid.size = n + m - i ∧ rest.size = cap - (n + m) ∧ e = .returned (.slice (some ⟨w.heap.size, 0, none⟩) (n + m) cap) ∧
  w' = (((w.alloc (.cells ((cs.take i).toArray ++ mid ++ rest) 3)).drew.setCells w.heap.size i vs).drew).setCells w.heap.size (i + m) (cs.drop i) := by
 have h := Any2.slices_Insert_int_grow Try.insL b off n c i vb voff m vc cs vs w hi hm hnc hroom hbig hcl hvl hcs hvs h1c h1v
 change Calls Try.prog 46 _ _ _ at h
 refine h.mono ?_
 rintro e w' ⟨he, hw⟩
 exact ⟨_, _, _, grownCap_ge w (n + m) c _, grownCap_le_maxLen w (n + m) c _ (by unfold maxLen; omega), by simp [size_zeroCells, Value.cells], by simp [size_zeroCells, Value.cells], he, hw⟩
/-! what is owned -/
theorem set_perm {α : Type} (l : List α) (i : Nat) (h : i < l.length) (r : α) : (l.set i r).Perm (r :: l.eraseIdx i) := by
 induction l generalizing i with
 | nil => simp at h
 | cons a l ih =>
   cases i with
   | zero => exact List.Perm.refl _
   | succ i =>
     simp only [List.set_cons_succ, List.eraseIdx_cons_succ]
     exact (List.Perm.cons a (ih i (by simpa using h))).trans (List.Perm.swap _ _ _)
theorem SL.replace {W w : World} {B : Nat} {l : List Rs} {r : Rs} (h : SL W B (r :: l) w) (it : Nat) (hi : it < l.length) : SL W B (l.set it r) w :=
 (h.sub (.cons_cons r (List.eraseIdx_sublist l it))).perm (set_perm l it hi r).symm
/-- A block as a row, with room behind. -/
theorem SL.blkRowC {W w : World} {B : Nat} {l : List Rs} (h : SL W B l w) (i : Nat) {g : Nat} {cs : Array Value} {t : TypeId} (hi : l[i]? = some (.blk g cs t)) (n cap size : Nat) (hn : n ≤ cap) (hm : cap ≤ maxLen) (hc : cap * size ≤ cs.size) : SL W B (l.set i (.row t size (.slice (some ⟨g, 0, none⟩) n cap) n (cs.toList.take (n * size)))) w := by
 have hg := h.blk i hi
 have hl := h.lt i hi
 have hns : n * size ≤ cap * size := Nat.mul_le_mul_right _ hn
 refine h.turn i hi rfl rfl rfl (Nat.le_refl _) (fun _ _ _ => rfl) ?_ (fun g' hg' => ?_)
 · refine ⟨by simp; omega, .inr ⟨g, 0, cap, cs, rfl, Nat.zero_le _, hg, hn, hm, by omega, ?_⟩⟩
   rw [List.drop_zero]
 · simp only [Rs.block, Value.ownBlock, Option.some.injEq] at hg'
   subst hg'
   exact ⟨.inl rfl, hl.2⟩
/-- A row told longer, within its room. -/
theorem SL.growRow {W w : World} {B : Nat} {l : List Rs} (h : SL W B l w) (i : Nat) {e : TypeId} {size n c g off : Nat} {xs : List Value} (hi : l[i]? = some (.row e size (.slice (some ⟨g, off, none⟩) n c) n xs)) (m : Nat) (hm : n + m ≤ c) (h0 : 0 < c) :
 ∃ ys, ys.length = m * size ∧ SL W B (l.set i (.row e size (.slice (some ⟨g, off, none⟩) (n + m) c) (n + m) (xs ++ ys))) w := by
 have hb := h.block _ (List.mem_of_getElem? hi) g rfl
 have hr := h.row i hi
 rcases hr.2 with ⟨h1, h2⟩ | ⟨g', off', cap, cur, e1, hb', hg, hnc, hcm, hcs, ht⟩
 · rcases h2 with h2 | ⟨a, h2, _⟩
   · cases h2
   · simp only [Value.slice.injEq] at h2
     omega
 · simp only [Value.slice.injEq, Option.some.injEq, Addr.mk.injEq] at e1
   obtain ⟨⟨rfl, rfl, _⟩, _, rfl⟩ := e1
   have hmc : (n + m) * size ≤ c * size := Nat.mul_le_mul_right _ hm
   rw [Nat.add_mul] at hmc
   refine ⟨((cur.toList.drop off).drop (n * size)).take (m * size), by simp; omega, ?_⟩
   refine h.turn i hi rfl rfl rfl (Nat.le_refl _) (fun _ _ _ => rfl) ?_ (fun g' hg' => ?_)
   · refine ⟨by rw [List.length_append, hr.1, Nat.add_mul]; simp; omega, .inr ⟨g, off, c, cur, rfl, hb', hg, hm, hcm, hcs, ?_⟩⟩
     rw [← ht, Nat.add_mul, List.take_add]
   · simp only [Rs.block, Value.ownBlock, Option.some.injEq] at hg'
     subst hg'
     exact ⟨.inl rfl, hb.2⟩
theorem shape_of_blk {w : World} {g : Nat} {cs : Array Value} {t : TypeId} {fr : Nat × Nat} (h : w.heap[g]? = some (.cells cs t fr)) : w.shape? g = some (t, cs.size) := by
 unfold World.shape?; rw [h]
/-- slices.Insert(s, i, v...): s thing number it, v thing number iv. -/
theorem insert_any (W : World) (B : Nat) (rs : List Rs) (w : World) (it iv n m c cv i : Nat) (A Av : Option Addr) (V vs : List Value) (hS : SL W B rs w) (hi : rs[it]? = some (.row 3 1 (.slice A n c) n V)) (hv : rs[iv]? = some (.row 3 1 (.slice Av m cv) m vs)) (hne : it ≠ iv)
 (h1 : ∀ u ∈ V, u.oneCell' = true) (h2 : ∀ u ∈ vs, u.oneCell' = true) (hin : i ≤ n) (hm : 0 < m) (hn : n + m ≤ 1000000000) :
 Calls Try.prog 46 #[.slice A n c, .int .i64 (i : Int), .slice Av m cv] w fun e w' => ∃ v', e = .returned v' ∧ SL W B (rs.set it (.row 3 1 v' (n + m) (V.take i ++ vs ++ V.drop i))) w' := by
 have hii := (List.getElem?_eq_some_iff.1 hi).1
 have hVl : V.length = n := by have := (hS.row it hi).1; simpa using this
 have hvl : vs.length = m := by have := (hS.row iv hv).1; simpa using this
 obtain ⟨_, _, e9, hnc, hA0⟩ := (hS.row it hi).slice_
 simp only [Value.slice.injEq, true_and] at e9
 obtain ⟨rfl, rfl⟩ := e9
 rcases (hS.row iv hv).2 with ⟨h0, _⟩ | ⟨vb, voff, vc, vcur, ev, hvb, hvg, hvnc, hvcm, hvcs, hvt⟩
 · omega
 simp only [Value.slice.injEq, true_and] at ev
 obtain ⟨rfl, rfl⟩ := ev
 have hvcell : ∀ (j : Nat) (u : Value), vs[j]? = some u → w.cell? ⟨vb, voff + j, none⟩ = some u := fun j u hj => hS.rowCell iv hv j hj
 by_cases hroom : n + m ≤ c
 · -- there is room: s's block is known
   rcases (hS.row it hi).2 with ⟨h0, h3⟩ | ⟨b, off, cap, cur, e1, hb, hg, hnc2, hcm, hcs, ht⟩
   · rcases h3 with h3 | ⟨a, h3, _⟩ <;> simp only [Value.slice.injEq] at h3 <;> omega
   simp only [Value.slice.injEq, true_and] at e1
   obtain ⟨rfl, rfl⟩ := e1
   have hbne : vb ≠ b := by
    intro e
    subst e
    have hap := List.pairwise_iff_getElem.1 hS.apart
    have hvi := (List.getElem?_eq_some_iff.1 hv).1
    rcases Nat.lt_or_ge it iv with hlt | hge
    · have := hap it iv hii hvi hlt
      rw [(List.getElem?_eq_some_iff.1 hi).2, (List.getElem?_eq_some_iff.1 hv).2] at this
      exact this vb rfl rfl
    · have := hap iv it hvi hii (by omega)
      rw [(List.getElem?_eq_some_iff.1 hi).2, (List.getElem?_eq_some_iff.1 hv).2] at this
      exact this vb rfl rfl
   obtain ⟨ys, hys, hS1⟩ := hS.growRow it hi m hroom (by omega)
   rw [Nat.mul_one] at hys
   have hi1 := List.getElem?_set_self (a := Rs.row 3 1 (.slice (some ⟨b, off, none⟩) (n + m) c) (n + m) (V ++ ys)) hii
   have hsp : ∀ j, j < n + m → (w.cell? ⟨b, off + j, none⟩).isSome = true := fun j hj => by
    rw [hS1.rowCell it hi1 j (List.getElem?_eq_getElem (by rw [List.length_append]; omega))]; rfl
   have hfz : ∀ j, w.frozen? ⟨b, off + j, none⟩ = false := fun j => hS1.rowFree it hi1 _ (by omega)
   by_cases hlt : i < n
   · refine (insert_shift b off n c i vb voff m cv V vs w hlt hm hroom (by unfold maxLen at hcm; omega) hbne hVl hvl (fun j u hj => hS.rowCell it hi j hj) hsp (fun j _ => hfz j) hvcell h1 h2 _ _ _ _ (shape_of_blk hvg) (shape_of_blk hg) (by omega) (by simp [World.frozen?, hvg]) (by simp [World.frozen?, hvg])).mono ?_
     rintro e w' ⟨rfl, rfl⟩
     refine ⟨_, rfl, ?_⟩
     have hS2 := SL.setRun it (V.drop i) (i + m) _ _ _ hS1.drew hi1 (by rw [List.length_drop]; omega)
     rw [List.set_set] at hS2
     have hS3 := SL.setRun it vs i _ _ _ hS2 (List.getElem?_set_self hii) (by omega)
     rw [List.set_set] at hS3
     have e5 : ((V ++ ys).take (i + m) ++ V.drop i ++ (V ++ ys).drop (i + m + (V.drop i).length)).take i ++ vs ++ ((V ++ ys).take (i + m) ++ V.drop i ++ (V ++ ys).drop (i + m + (V.drop i).length)).drop (i + vs.length) = V.take i ++ vs ++ V.drop i := by
      have l1 : ((V ++ ys).take (i + m)).length = i + m := by rw [List.length_take, List.length_append]; omega
      have l2 : (V ++ ys).drop (i + m + (V.drop i).length) = [] := List.drop_eq_nil_of_le (by rw [List.length_append, List.length_drop]; omega)
      have l3 : ((V ++ ys).take (i + m)).drop (i + m) = [] := List.drop_eq_nil_of_le (by omega)
      rw [l2, List.append_nil, List.take_append_of_le_length (by omega), List.take_take, Nat.min_eq_left (by omega), List.take_append_of_le_length (by omega), hvl, List.drop_append_of_le_length (by omega), l3, List.nil_append]
     rw [e5] at hS3
     exact hS3
   · obtain rfl : i = n := by omega
     refine (insert_end_room b off i c vb voff m cv vs w hm hroom (by unfold maxLen at hcm; omega) hvl (fun j hj => by rw [Nat.add_assoc]; exact hsp _ (by omega)) (fun j hj => by rw [Nat.add_assoc]; exact hfz _) hvcell h2).mono ?_
     rintro e w' ⟨rfl, rfl⟩
     refine ⟨_, rfl, ?_⟩
     have hS2 := SL.setRun it vs i _ _ _ hS1 hi1 (by omega)
     rw [List.set_set] at hS2
     have e5 : (V ++ ys).take i ++ vs ++ (V ++ ys).drop (i + vs.length) = V.take i ++ vs ++ V.drop i := by
      have l2 : (V ++ ys).drop (i + vs.length) = [] := List.drop_eq_nil_of_le (by rw [List.length_append]; omega)
      have l3 : V.drop i = [] := List.drop_eq_nil_of_le (by omega)
      rw [List.take_append_of_le_length (by omega), l2, l3]
     rw [e5] at hS2
     exact hS2
 · -- no room: a new block
   have hbig : (n + m) * 8 ≤ 140737488355328 := by omega
   by_cases hlt : i < n
   · rcases (hS.row it hi).2 with ⟨h0, _⟩ | ⟨b, off, cap, cur, e1, hb, hg, hnc2, hcm, hcs, ht⟩
     · omega
     simp only [Value.slice.injEq, true_and] at e1
     obtain ⟨rfl, rfl⟩ := e1
     refine (insert_grow b off n c i vb voff m cv V vs w hlt hm hnc (by omega) hbig hVl hvl (fun j u hj => hS.rowCell it hi j hj) hvcell h1 h2).mono ?_
     rintro e w' ⟨cap, mid, rest, hc1, hc2, hmid, hrest, rfl, rfl⟩
     refine ⟨_, rfl, ?_⟩
     have hsz : ((V.take i).toArray ++ mid ++ rest).size = cap := by simp [hmid, hrest]; omega
     have hS1 := (hS.alloc ((V.take i).toArray ++ mid ++ rest) 3).blkRowC 0 rfl (n + m) cap 1 hc1 hc2 (by omega)
     rw [Nat.mul_one, List.set_cons_zero] at hS1
     have hS2 := SL.setRun 0 vs i _ _ _ hS1.drew rfl (by omega)
     rw [Nat.zero_add, List.set_cons_zero] at hS2
     have hS3 := SL.setRun 0 (V.drop i) (i + m) _ _ _ hS2.drew rfl (by rw [List.length_drop]; omega)
     rw [Nat.zero_add, List.set_cons_zero] at hS3
     have hS4 := hS3.replace it hii
     obtain ⟨X, hX⟩ : ∃ X, X = ((V.take i).toArray ++ mid ++ rest).toList.take (n + m) := ⟨_, rfl⟩
     have hXl : X.length = n + m := by rw [hX, List.length_take, Array.length_toList, hsz]; omega
     have hX2 : X.take i = V.take i := by
      rw [hX, List.take_take, Nat.min_eq_left (by omega)]
      simp only [Array.toList_append, List.append_assoc]
      rw [List.take_append_of_le_length (by rw [List.length_take]; omega), List.take_take, Nat.min_self]
     rw [← hX] at hS4
     have e5 : (X.take i ++ vs ++ X.drop (i + vs.length)).take (i + m) ++ V.drop i ++ (X.take i ++ vs ++ X.drop (i + vs.length)).drop (i + m + (V.drop i).length) = V.take i ++ vs ++ V.drop i := by
      have l1 : (X.take i ++ vs).length = i + m := by rw [List.length_append, List.length_take]; omega
      have l2 : (X.take i ++ vs ++ X.drop (i + vs.length)).drop (i + m + (V.drop i).length) = [] := List.drop_eq_nil_of_le (by rw [List.length_append, l1, List.length_drop, List.length_drop]; omega)
      rw [l2, List.append_nil, List.take_append_of_le_length (by omega), List.take_of_length_le (by omega), hX2]
     rw [e5] at hS4
     exact hS4
   · obtain rfl : i = n := by omega
     refine (insert_end_grow A i c vb voff m cv V vs w hm hnc (by omega) hbig hVl hvl (fun hA => by rcases Nat.eq_zero_or_pos i with h | h; exact h; exact absurd hA (hA0 h)) (fun a ha j u hj => ?_) hvcell h2).mono ?_
     · have h0 : 0 < i := by have := (List.getElem?_eq_some_iff.1 hj).1; omega
       rcases (hS.row it hi).2 with ⟨h0, _⟩ | ⟨b, off, cap, cur, e1, hb, hg, hnc2, hcm, hcs, ht⟩
       · omega
       simp only [Value.slice.injEq, true_and] at e1
       obtain ⟨rfl, rfl⟩ := e1
       simp only [Option.some.injEq] at ha
       subst ha
       rw [Addr.add_mid]
       exact hS.rowCell it hi j hj
     rintro e w' ⟨cap, rest, hc1, hc2, hrest, rfl, rfl⟩
     refine ⟨_, rfl, ?_⟩
     have hsz : ((V ++ vs).toArray ++ rest).size = cap := by simp [hrest]; omega
     have hS1 := ((hS.drew.alloc ((V ++ vs).toArray ++ rest) 3).blkRowC 0 rfl (i + m) cap 1 hc1 hc2 (by omega))
     rw [Nat.mul_one, List.set_cons_zero] at hS1
     have hS4 := hS1.replace it hii
     have e5 : ((V ++ vs).toArray ++ rest).toList.take (i + m) = V.take i ++ vs ++ V.drop i := by
      have l1 : (V ++ vs).length = i + m := by rw [List.length_append]; omega
      have l3 : V.drop i = [] := List.drop_eq_nil_of_le (by omega)
      have l4 : V.take i = V := List.take_of_length_le (by omega)
      rw [Array.toList_append, List.take_append_of_le_length (by simp; omega), List.take_of_length_le (by simp; omega), l3, l4, List.append_nil]
     rw [e5] at hS4
     exact hS4
end Go.Proofs.Ytpbhbmdghafkmaa
