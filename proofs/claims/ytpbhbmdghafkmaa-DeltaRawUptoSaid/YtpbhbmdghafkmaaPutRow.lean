/- slices.Reverse of a part of an owned row of numbers, slices.Sort of one: by the shelf, told as what is owned. -/
import Derived.Test.YtpbhbmdghafkmaaRowRun
import Derived.Test.YtpbhbmdghafkmaaRows
import Derived.Shelf.Slices.Reverse
import Derived.Shelf.Sort.Plain
import Derived.Ground.NamesProg
namespace Go.Proofs.Ytpbhbmdghafkmaa
open Go.ChangeShapes Go.WideShapes Go.ChangeAt Go.RowKit Go.Shelf Go.Sort
set_option linter.unusedVariables false
def Try.revL_ren : Go.Shelf.Ren := ⟨fun | 112 => 33 | n => n, fun | 28 => 42 | 3 => 3 | 4 => 4 | 0 => 0 | n => n, fun | n => n⟩
theorem Try.revL : Go.Proofs.Lays.n112 Try.prog Try.revL_ren := {
 mixed := by kernel_rfl
 f112 := Try.func33.trans (congrArg some (by kernel_rfl))
 t0 := Try.underlying0
 a0 := Try.isAgg0
 z0 := Try.sizeOf0
 v0 := Try.zeroValue0
 t3 := Try.underlying3
 a3 := Try.isAgg3
 z3 := Try.sizeOf3
 v3 := Try.zeroValue3
 t4 := Try.underlying4
 a4 := Try.isAgg4
 z4 := Try.sizeOf4
 v4 := Try.zeroValue4
 t28 := Try.underlying42
 a28 := Try.isAgg42
 z28 := Try.sizeOf42
 v28 := Try.zeroValue42 }
theorem SL.putRun {W w : World} {B : Nat} {l : List Rs} (h : SL W B l w) (it : Nat) {e : TypeId} {n c g off : Nat} {V : List Value} (hi : l[it]? = some (.row e 1 (.slice (some ⟨g, off, none⟩) n c) n V)) (i : Nat) (d : Array Int) (hd : i + d.size ≤ n) (hn : 0 < n) :
 SL W B (l.set it (.row e 1 (.slice (some ⟨g, off, none⟩) n c) n (V.take i ++ d.toList.map (.int .i64) ++ V.drop (i + d.size)))) (putRow (Value.int .i64) w g (off + i) d) := by
 have hb := h.block _ (List.mem_of_getElem? hi) g rfl
 have hr := h.row it hi
 rcases hr.2 with ⟨h1, _⟩ | ⟨g', off', cap, cur, e1, hb', hg, hnc, hcm, hcs, ht⟩
 · omega
 simp only [Value.slice.injEq, Option.some.injEq, Addr.mk.injEq] at e1
 obtain ⟨⟨rfl, rfl, _⟩, _, rfl⟩ := e1
 have hV : V.length = n := by have := hr.1; simpa using this
 have hg2 : (putRow (Value.int .i64) w g (off + i) d).heap[g]? = some (.cells (putCells (Value.int .i64) (off + i) d cur) e (0, 0)) := by
  simp [putRow, mapBlock, Array.getElem?_modify, hg, onCells]
 refine h.turn it hi rfl rfl rfl (by simp) (fun j _ hj => ?_) ?_ (fun g' hg' => ?_)
 · have : j ≠ g := fun e => hj (by simp [Rs.block, Value.ownBlock, e])
   simp [putRow, mapBlock, Array.getElem?_modify, Ne.symm this]
 · refine ⟨by simp; omega, .inr ⟨g, off, c, _, rfl, hb', hg2, hnc, hcm, by simpa [putCells] using hcs, ?_⟩⟩
   apply List.ext_getElem?
   intro j
   by_cases hj : j < n
   · have hVj : cur[off + j]? = V[j]? := by
      rw [← ht, Nat.mul_one, List.getElem?_take_of_lt hj, List.getElem?_drop]; simp
     have hVs : V[j]? = some V[j] := List.getElem?_eq_getElem (by omega)
     rw [Nat.mul_one, List.getElem?_take_of_lt hj, List.getElem?_drop, Array.getElem?_toList]
     simp only [putCells, Array.getElem?_mapIdx, hVj, hVs, Option.map_some]
     by_cases h1 : i ≤ j ∧ j < i + d.size
     · rw [if_pos (by omega), List.getElem?_append_left (by simp; omega), List.getElem?_append_right (by simp; omega), List.length_take, Nat.min_eq_left (by omega), show off + j - (off + i) = j - i by omega]
       have hdj : j - i < d.size := by omega
       simp [hdj]
     · rw [if_neg (by omega)]
       by_cases h2 : j < i
       · rw [List.append_assoc, List.getElem?_append_left (by simp; omega), List.getElem?_take_of_lt h2, hVs]
       · rw [List.getElem?_append_right (by simp; omega), List.getElem?_drop]
         simp only [List.length_append, List.length_take, List.length_map, Array.length_toList]
         rw [show i + d.size + (j - (min i V.length + d.size)) = j by omega, hVs]
   · rw [List.getElem?_eq_none (by simp; omega), List.getElem?_eq_none (by simp; omega)]
 · simp only [Rs.block, Value.ownBlock, Option.some.injEq] at hg'
   subst hg'
   exact ⟨.inl rfl, by simpa using hb.2⟩
theorem sl_ahead {W w : World} {B : Nat} {l : List Rs} (h : SL W B l w) (n : Nat) : SL W B l (Sort.ahead w n) :=
 h.call ⟨rfl, rfl, rfl, Nat.le_refl _, fun _ _ => rfl⟩
/-- slices.Reverse(s[i : i + m]), s thing number it. -/
theorem reverse_sub (W : World) (B : Nat) (rs : List Rs) (w : World) (it n c g off i m cap : Nat) (xs : List Int) (hS : SL W B rs w) (hi : rs[it]? = some (.row 3 1 (.slice (some ⟨g, off, none⟩) n c) n (xs.map (.int .i64)))) (him : i + m ≤ n) (hm : 0 < m) (hn : n ≤ 1000000000) :
 Calls Try.prog 33 #[.slice (some ⟨g, off + i, none⟩) m cap] w fun e w' => e = .returned (.tuple #[]) ∧ SL W B (rs.set it (.row 3 1 (.slice (some ⟨g, off, none⟩) n c) n ((xs.take i ++ ((xs.drop i).take m).reverse ++ xs.drop (i + m)).map (.int .i64)))) w' := by
 have hxl : xs.length = n := by have := (hS.row it hi).1; simpa using this
 have hzl : ((xs.drop i).take m).length = m := by rw [List.length_take, List.length_drop]; omega
 have hH : Holds (Value.int .i64) w g (off + i) ((xs.drop i).take m).toArray := fun j hj => by
  rw [List.size_toArray, hzl] at hj
  refine ⟨?_, hS.rowFree it hi _ (by omega)⟩
  rw [Nat.add_assoc]
  refine hS.rowCell it hi (i + j) ?_
  have e1 : ((xs.drop i).take m)[j]? = some (((xs.drop i).take m)[j]!) := by
   rw [getElem!_pos _ _ (by omega)]
   exact List.getElem?_eq_getElem _
  rw [List.getElem?_take_of_lt hj, List.getElem?_drop] at e1
  rw [List.getElem?_map, e1]
  simp
 have h := Any.slices_Reverse_int Try.revL g (off + i) cap ((xs.drop i).take m) w hH (by omega)
 change Calls Try.prog 33 _ _ _ at h
 rw [hzl] at h
 refine h.mono ?_
 rintro e w' ⟨rfl, k, rfl⟩
 refine ⟨rfl, ?_⟩
 have h2 := (sl_ahead hS k).putRun it hi i ((xs.drop i).take m).reverse.toArray (by simp; omega) (by omega)
 have e5 : (xs.map (Value.int .i64)).take i ++ (((xs.drop i).take m).reverse.toArray).toList.map (.int .i64) ++ (xs.map (Value.int .i64)).drop (i + (((xs.drop i).take m).reverse.toArray).size) = (xs.take i ++ ((xs.drop i).take m).reverse ++ xs.drop (i + m)).map (.int .i64) := by
  simp only [List.size_toArray, List.length_reverse, hzl, List.map_append, List.map_take, List.map_drop]
 rw [e5] at h2
 exact h2
end Go.Proofs.Ytpbhbmdghafkmaa
