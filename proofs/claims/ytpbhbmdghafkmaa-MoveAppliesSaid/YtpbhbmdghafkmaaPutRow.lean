/- slices.Reverse of a part of an owned row of numbers, slices.Sort of one: by the shelf, told as what is owned. -/
import Derived.Test.YtpbhbmdghafkmaaRowRun
import Derived.Test.YtpbhbmdghafkmaaRows
import Derived.Shelf.Slices.Reverse
import Derived.Shelf.Sort.Plain
import Derived.Ground.NamesProg
namespace Go.Proofs.Ytpbhbmdghafkmaa
open Go.ChangeShapes Go.WideShapes Go.ChangeAt Go.RowKit Go.Shelf Go.Sort
set_option linter.unusedVariables false
def Try.revL_ren : Go.Shelf.Ren := ⟨fun | 112 => 33 | n => n, fun | 28 => 42 | 3 => 3 | 4 => 4 | 0 => 0 | n => n, fun | n => n⟩
theorem Try.revL : Go.Proofs.Lays.n112 Try.prog Try.revL_ren := {
  mixed := by kernel_rfl
  f112 := Try.func33.trans (congrArg some (by kernel_rfl))
  t0 := Try.underlying0
  a0 := Try.isAgg0
  z0 := Try.sizeOf0
  v0 := Try.zeroValue0
  t3 := Try.underlying3
  a3 := Try.isAgg3
  z3 := Try.sizeOf3
  v3 := Try.zeroValue3
  t4 := Try.underlying4
  a4 := Try.isAgg4
  z4 := Try.sizeOf4
  v4 := Try.zeroValue4
  t28 := Try.underlying42
  a28 := Try.isAgg42
  z28 := Try.sizeOf42
  v28 := Try.zeroValue42 }
def Try.sortL_ren : Go.Shelf.Ren := ⟨fun | 189 => 57 | 125 => 77 | 257 => 76 | 128 => 94 | 129 => 95 | 294 => 85 | 295 => 86 | 296 => 87 | 297 => 88 | 298 => 89 | 299 => 90 | 216 => 91 | 300 => 92 | 301 => 93 | 328 => 98 | 329 => 99 | 330 => 100 | 331 => 101 | 332 => 102 | 215 => 103 | 343 => 104 | n => n, fun | 28 => 42 | 3 => 3 | 46 => 134 | 0 => 0 | 51 => 151 | 53 => 138 | 4 => 4 | 183 => 144 | 182 => 143 | 131 => 148 | 5 => 5 | 9 => 9 | 218 => 153 | 222 => 157 | 228 => 159 | 229 => 160 | n => n, fun | n => n⟩
theorem Try.sortL : Go.Proofs.Lays.n189 Try.prog Try.sortL_ren := {
  mixed := by kernel_rfl
  f125 := Try.func77.trans (congrArg some (by kernel_rfl))
  f128 := Try.func94.trans (congrArg some (by kernel_rfl))
  f129 := Try.func95.trans (congrArg some (by kernel_rfl))
  f189 := Try.func57.trans (congrArg some (by kernel_rfl))
  f215 := Try.func103.trans (congrArg some (by kernel_rfl))
  f216 := Try.func91.trans (congrArg some (by kernel_rfl))
  f257 := Try.func76.trans (congrArg some (by kernel_rfl))
  f294 := Try.func85.trans (congrArg some (by kernel_rfl))
  f295 := Try.func86.trans (congrArg some (by kernel_rfl))
  f296 := Try.func87.trans (congrArg some (by kernel_rfl))
  f297 := Try.func88.trans (congrArg some (by kernel_rfl))
  f298 := Try.func89.trans (congrArg some (by kernel_rfl))
  f299 := Try.func90.trans (congrArg some (by kernel_rfl))
  f300 := Try.func92.trans (congrArg some (by kernel_rfl))
  f301 := Try.func93.trans (congrArg some (by kernel_rfl))
  f328 := Try.func98.trans (congrArg some (by kernel_rfl))
  f329 := Try.func99.trans (congrArg some (by kernel_rfl))
  f330 := Try.func100.trans (congrArg some (by kernel_rfl))
  f331 := Try.func101.trans (congrArg some (by kernel_rfl))
  f332 := Try.func102.trans (congrArg some (by kernel_rfl))
  f343 := Try.func104.trans (congrArg some (by kernel_rfl))
  t0 := Try.underlying0
  a0 := Try.isAgg0
  z0 := Try.sizeOf0
  v0 := Try.zeroValue0
  t3 := Try.underlying3
  a3 := Try.isAgg3
  z3 := Try.sizeOf3
  v3 := Try.zeroValue3
  t4 := Try.underlying4
  a4 := Try.isAgg4
  z4 := Try.sizeOf4
  v4 := Try.zeroValue4
  t5 := Try.underlying5
  a5 := Try.isAgg5
  z5 := Try.sizeOf5
  v5 := Try.zeroValue5
  t9 := Try.underlying9
  a9 := Try.isAgg9
  z9 := Try.sizeOf9
  v9 := Try.zeroValue9
  t28 := Try.underlying42
  a28 := Try.isAgg42
  z28 := Try.sizeOf42
  v28 := Try.zeroValue42
  t46 := Try.underlying134
  a46 := Try.isAgg134
  z46 := Try.sizeOf134
  v46 := Try.zeroValue134
  t51 := Try.underlying151
  a51 := Try.isAgg151
  z51 := Try.sizeOf151
  v51 := Try.zeroValue151
  t53 := Try.underlying138
  a53 := Try.isAgg138
  z53 := Try.sizeOf138
  v53 := Try.zeroValue138
  t131 := Try.underlying148
  a131 := Try.isAgg148
  z131 := Try.sizeOf148
  v131 := Try.zeroValue148
  t182 := Try.underlying143
  a182 := Try.isAgg143
  z182 := Try.sizeOf143
  v182 := Try.zeroValue143
  t183 := Try.underlying144
  a183 := Try.isAgg144
  z183 := Try.sizeOf144
  v183 := Try.zeroValue144
  t218 := Try.underlying153
  a218 := Try.isAgg153
  z218 := Try.sizeOf153
  v218 := Try.zeroValue153
  t222 := Try.underlying157
  a222 := Try.isAgg157
  z222 := Try.sizeOf157
  v222 := Try.zeroValue157
  t228 := Try.underlying159
  a228 := Try.isAgg159
  z228 := Try.sizeOf159
  v228 := Try.zeroValue159
  t229 := Try.underlying160
  a229 := Try.isAgg160
  z229 := Try.sizeOf160
  v229 := Try.zeroValue160 }
theorem SL.putRun {W w : World} {B : Nat} {l : List Rs} (h : SL W B l w) (it : Nat) {e : TypeId} {n c g off : Nat} {V : List Value} (hi : l[it]? = some (.row e 1 (.slice (some ⟨g, off, none⟩) n c) n V)) (i : Nat) (d : Array Int) (hd : i + d.size ≤ n) (hn : 0 < n) :
    SL W B (l.set it (.row e 1 (.slice (some ⟨g, off, none⟩) n c) n (V.take i ++ d.toList.map (.int .i64) ++ V.drop (i + d.size)))) (putRow (Value.int .i64) w g (off + i) d) := by
  have hb := h.block _ (List.mem_of_getElem? hi) g rfl
  have hr := h.row it hi
  rcases hr.2 with ⟨h1, _⟩ | ⟨g', off', cap, cur, e1, hb', hg, hnc, hcm, hcs, ht⟩
  · omega
  simp only [Value.slice.injEq, Option.some.injEq, Addr.mk.injEq] at e1
  obtain ⟨⟨rfl, rfl, _⟩, _, rfl⟩ := e1
  have hV : V.length = n := by have := hr.1; simpa using this
  have hg2 : (putRow (Value.int .i64) w g (off + i) d).heap[g]? = some (.cells (putCells (Value.int .i64) (off + i) d cur) e (0, 0)) := by
    simp [putRow, mapBlock, Array.getElem?_modify, hg, onCells]
  refine h.turn it hi rfl rfl rfl (by simp) (fun j _ hj => ?_) ?_ (fun g' hg' => ?_)
  · have : j ≠ g := fun e => hj (by simp [Rs.block, Value.ownBlock, e])
    simp [putRow, mapBlock, Array.getElem?_modify, Ne.symm this]
  · refine ⟨by simp; omega, .inr ⟨g, off, c, _, rfl, hb', hg2, hnc, hcm, by simpa [putCells] using hcs, ?_⟩⟩
    apply List.ext_getElem?
    intro j
    by_cases hj : j < n
    · have hVj : cur[off + j]? = V[j]? := by
        rw [← ht, Nat.mul_one, List.getElem?_take_of_lt hj, List.getElem?_drop]; simp
      have hVs : V[j]? = some V[j] := List.getElem?_eq_getElem (by omega)
      rw [Nat.mul_one, List.getElem?_take_of_lt hj, List.getElem?_drop, Array.getElem?_toList]
      simp only [putCells, Array.getElem?_mapIdx, hVj, hVs, Option.map_some]
      by_cases h1 : i ≤ j ∧ j < i + d.size
      · rw [if_pos (by omega), List.getElem?_append_left (by simp; omega), List.getElem?_append_right (by simp; omega), List.length_take, Nat.min_eq_left (by omega), show off + j - (off + i) = j - i by omega]
        have hdj : j - i < d.size := by omega
        simp [hdj]
      · rw [if_neg (by omega)]
        by_cases h2 : j < i
        · rw [List.append_assoc, List.getElem?_append_left (by simp; omega), List.getElem?_take_of_lt h2, hVs]
        · rw [List.getElem?_append_right (by simp; omega), List.getElem?_drop]
          simp only [List.length_append, List.length_take, List.length_map, Array.length_toList]
          rw [show i + d.size + (j - (min i V.length + d.size)) = j by omega, hVs]
    · rw [List.getElem?_eq_none (by simp; omega), List.getElem?_eq_none (by simp; omega)]
  · simp only [Rs.block, Value.ownBlock, Option.some.injEq] at hg'
    subst hg'
    exact ⟨.inl rfl, by simpa using hb.2⟩
theorem sl_ahead {W w : World} {B : Nat} {l : List Rs} (h : SL W B l w) (n : Nat) : SL W B l (Sort.ahead w n) :=
  h.call ⟨rfl, rfl, rfl, Nat.le_refl _, fun _ _ => rfl⟩
theorem sl_grow {W w : World} {B : Nat} {l : List Rs} (h : SL W B l w) (os : Array Obj) : SL W B l (Sort.grow w os) :=
  h.call ⟨rfl, rfl, rfl, by simp [Sort.grow], fun k hk => by simp [Sort.grow, Array.getElem?_append_left hk]⟩
/-- slices.Reverse(s[i : i + m]), s thing number it. -/
theorem reverse_sub (W : World) (B : Nat) (rs : List Rs) (w : World) (it n c g off i m cap : Nat) (xs : List Int) (hS : SL W B rs w) (hi : rs[it]? = some (.row 3 1 (.slice (some ⟨g, off, none⟩) n c) n (xs.map (.int .i64)))) (him : i + m ≤ n) (hm : 0 < m) (hn : n ≤ 1000000000) :
    Calls Try.prog 33 #[.slice (some ⟨g, off + i, none⟩) m cap] w fun e w' => e = .returned (.tuple #[]) ∧ SL W B (rs.set it (.row 3 1 (.slice (some ⟨g, off, none⟩) n c) n ((xs.take i ++ ((xs.drop i).take m).reverse ++ xs.drop (i + m)).map (.int .i64)))) w' := by
  have hxl : xs.length = n := by have := (hS.row it hi).1; simpa using this
  have hzl : ((xs.drop i).take m).length = m := by rw [List.length_take, List.length_drop]; omega
  have hH : Holds (Value.int .i64) w g (off + i) ((xs.drop i).take m).toArray := fun j hj => by
    rw [List.size_toArray, hzl] at hj
    refine ⟨?_, hS.rowFree it hi _ (by omega)⟩
    rw [Nat.add_assoc]
    refine hS.rowCell it hi (i + j) ?_
    have e1 : ((xs.drop i).take m)[j]? = some (((xs.drop i).take m)[j]!) := by
      rw [getElem!_pos _ _ (by omega)]
      exact List.getElem?_eq_getElem _
    rw [List.getElem?_take_of_lt hj, List.getElem?_drop] at e1
    rw [List.getElem?_map, e1]
    simp
  have h := Any.slices_Reverse_int Try.revL g (off + i) cap ((xs.drop i).take m) w hH (by omega)
  change Calls Try.prog 33 _ _ _ at h
  rw [hzl] at h
  refine h.mono ?_
  rintro e w' ⟨rfl, k, rfl⟩
  refine ⟨rfl, ?_⟩
  have h2 := (sl_ahead hS k).putRun it hi i ((xs.drop i).take m).reverse.toArray (by simp; omega) (by omega)
  have e5 : (xs.map (Value.int .i64)).take i ++ (((xs.drop i).take m).reverse.toArray).toList.map (.int .i64) ++ (xs.map (Value.int .i64)).drop (i + (((xs.drop i).take m).reverse.toArray).size) = (xs.take i ++ ((xs.drop i).take m).reverse ++ xs.drop (i + m)).map (.int .i64) := by
    simp only [List.size_toArray, List.length_reverse, hzl, List.map_append, List.map_take, List.map_drop]
  rw [e5] at h2
  exact h2
/-- slices.Sort(s), s thing number it. -/
theorem sort_row (W : World) (B : Nat) (rs : List Rs) (w : World) (it n c g off : Nat) (xs : List Int) (hS : SL W B rs w) (hi : rs[it]? = some (.row 3 1 (.slice (some ⟨g, off, none⟩) n c) n (xs.map (.int .i64)))) (hn0 : 0 < n) (hn : n ≤ 1000000000) :
    Calls Try.prog 57 #[.slice (some ⟨g, off, none⟩) n c] w fun e w' => e = .returned (.tuple #[]) ∧ SL W B (rs.set it (.row 3 1 (.slice (some ⟨g, off, none⟩) n c) n ((xs.mergeSort fun x y => decide (x ≤ y)).map (.int .i64)))) w' := by
  have hxl : xs.length = n := by have := (hS.row it hi).1; simpa using this
  have hH : Holds (Value.int .i64) w g off xs.toArray := fun j hj => by
    rw [List.size_toArray, hxl] at hj
    refine ⟨?_, hS.rowFree it hi _ (by omega)⟩
    refine hS.rowCell it hi j ?_
    rw [List.getElem?_map, List.getElem?_eq_getElem (by omega)]
    simp [getElem!_pos, show j < xs.length by omega]
  have h := Any.slices_Sort_int Try.sortL g off c xs w hH (hS.block _ (List.mem_of_getElem? hi) g rfl).2 (by omega)
  change Calls Try.prog 57 _ _ _ at h
  rw [hxl] at h
  refine h.mono ?_
  rintro e w' ⟨rfl, k, os, rfl⟩
  refine ⟨rfl, ?_⟩
  have hl : (xs.mergeSort fun x y => decide (x ≤ y)).length = n := by rw [List.length_mergeSort, hxl]
  have h2 := sl_grow ((sl_ahead hS k).putRun it hi 0 (xs.mergeSort fun x y => decide (x ≤ y)).toArray (by simp; omega) hn0) os
  have e5 : (xs.map (Value.int .i64)).take 0 ++ ((xs.mergeSort fun x y => decide (x ≤ y)).toArray).toList.map (.int .i64) ++ (xs.map (Value.int .i64)).drop (0 + ((xs.mergeSort fun x y => decide (x ≤ y)).toArray).size) = (xs.mergeSort fun x y => decide (x ≤ y)).map (.int .i64) := by
    have l3 : (xs.map (Value.int .i64)).drop (0 + (xs.mergeSort fun x y => decide (x ≤ y)).length) = [] := List.drop_eq_nil_of_le (by simp)
    simp only [List.take_zero, List.nil_append, List.size_toArray]
    rw [l3, List.append_nil]
  rw [e5, Nat.add_zero] at h2
  exact h2
end Go.Proofs.Ytpbhbmdghafkmaa
