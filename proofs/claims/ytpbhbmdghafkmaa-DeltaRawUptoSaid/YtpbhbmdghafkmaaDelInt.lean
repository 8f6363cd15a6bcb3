/- slices.Delete of []int. -/
import Derived.Test.YtpbhbmdghafkmaaRowRun
import Derived.Test.YtpbhbmdghafkmaaRows
import Derived.Deep.CutBlock
import Derived.Deep.CutRange
import Derived.Deep.DeepCutAuto
namespace Go.Proofs.Ytpbhbmdghafkmaa
open Go.ChangeShapes Go.WideShapes Go.ChangeAt Go.RowKit
set_option linter.unusedVariables false
theorem intsT_elem : Try.prog.underlying 42 = some (.slice (Try.prog.elem 42)) := by kernel_rfl
theorem intsT_size (w : World) : (sizeOf (Try.prog.elem 42)).run Try.prog w = .ok 1 w := by kernel_rfl
theorem info_intD : (Try.prog.info? 3).map (fun i => (i.zero, i.size, i.bytes)) = some (some (.int .i64 0), 1, 8) := by kernel_rfl
theorem clear_ints (ty : TypeId) (g o m c : Nat) (w : World) (hm : 0 < m) (hc : ∀ j, j < m → (w.cell? ⟨g, o + j, none⟩).isSome = true) (hf : ∀ j, j < m → w.frozen? ⟨g, o + j, none⟩ = false) :
 (Builtin.clear_ #[42] ty #[.slice (some ⟨g, o, none⟩) m c]).run Try.prog w = .ok (.tuple #[]) (w.setCells g o (List.replicate m (.int .i64 0))) := by
 obtain ⟨m, rfl⟩ : ∃ k, m = k + 1 := ⟨m - 1, by omega⟩
 have hst := run_storeCells_cells (P := Try.prog) g o (List.replicate (m + 1) (.int .i64 0)) 0 w (by simpa using hc) (by simpa using hf) (by simp [Value.oneCell'])
 simp only [Nat.add_zero] at hst
 have hzv : (zeroValue 3).run Try.prog w = .ok (.int .i64 0) w := by kernel_rfl
 have hzc := zeroCells_one (.int .i64 0) rfl (m + 1)
 simp [Builtin.clear_, run_underlying Try.underlying42, hzv, hzc, hst]
set_option maxRecDepth 100000 in
set_option maxHeartbeats 4000000 in
theorem delete_cells (W : World) (B : Nat) (rs : List Rs) (w : World) (it n c g off i m : Nat) (V : List Value) (hS : SL W B rs w) (hi : rs[it]? = some (.row 3 1 (.slice (some ⟨g, off, none⟩) n c) n V)) (h1v : ∀ u ∈ V, u.oneCell' = true) (him : i + m ≤ n) (hm : 0 < m) (hn : n ≤ 1000000) :
 Calls Try.prog 45 #[.slice (some ⟨g, off, none⟩) n c, .int .i64 (i : Int), .int .i64 ((i : Int) + m)] w fun e w' => e = .returned (.slice (some ⟨g, off, none⟩) (n - m) c) ∧ SL W B (rs.set it (.row 3 1 (.slice (some ⟨g, off, none⟩) (n - m) c) (n - m) (V.take i ++ V.drop (i + m)))) w' := by
 obtain ⟨A9, c9, e9, hnc, _⟩ := (hS.row it hi).slice_
 have hVl : V.length = n := by have := (hS.row it hi).1; simpa using this
 have hc : n ≤ c := by cases e9; exact hnc
 obtain ⟨ti, hi0, hz0, hz1, hz2⟩ := info_parts info_intD
 obtain ⟨A', hA'⟩ : ∃ A' : Addr, A' = (if c = i + m then ⟨g, off, none⟩ else ⟨g, off + (i + m), none⟩) := ⟨_, rfl⟩
 have s1 : ∀ w' : World, (Instr.slice 42 (.slice (some ⟨g, off, none⟩) n c) (some (.int .i64 (i : Int))) (some (.int .i64 ((i : Int) + m))) (some (.int .i64 (n : Int)))).run Try.prog w' = .ok (sliced (some ⟨g, off, none⟩) i (i + m) n 1) w' := fun w' => by
  rw [run_slice_lhm (P := Try.prog) w' 42 _ _ _ intsT_elem _ _ _ _ _ _ (by omega) (by omega) (by omega) (by omega), intsT_size]
  simp only [Result.andThen_ok]
  congr 1
 have s2 : ∀ w' : World, (Instr.slice 42 (.slice (some ⟨g, off, none⟩) n c) none (some (.int .i64 (i : Int))) none).run Try.prog w' = .ok (.slice (some ⟨g, off, none⟩) i c) w' := fun w' => by
  rw [run_slice_h (P := Try.prog) w' 42 _ _ _ intsT_elem _ _ (by omega) (by omega), intsT_size]
  simp [sliced, Addr.add]
 have s3 : ∀ w' : World, (Instr.slice 42 (.slice (some ⟨g, off, none⟩) n c) (some (.int .i64 ((i : Int) + m))) none none).run Try.prog w' = .ok (.slice (some A') (n - (i + m)) (c - (i + m))) w' := fun w' => by
  rw [run_slice_l (P := Try.prog) w' 42 _ _ _ intsT_elem _ _ (by omega) (by omega), intsT_size, hA']
  have e1 : ((i : Int) + m).toNat = i + m := by omega
  simp only [Result.andThen_ok, sliced, e1]
  by_cases hci : c = i + m
  · rw [if_pos hci, if_pos hci]
  · rw [if_neg hci, if_neg hci]
    simp [Addr.add]
    omega
 have s4 : ∀ w' : World, (Instr.slice 42 (.slice (some ⟨g, off, none⟩) (n - m) c) (some (.int .i64 ((n - m : Nat) : Int))) (some (.int .i64 (n : Int))) none).run Try.prog w' = .ok (.slice (some ⟨g, off + (n - m), none⟩) m (c - (n - m))) w' := fun w' => by
  rw [run_slice_lh (P := Try.prog) w' 42 _ _ _ intsT_elem _ _ _ _ (by omega) (by omega) (by omega), intsT_size]
  simp only [Result.andThen_ok, sliced, Int.toNat_natCast]
  rw [if_neg (by omega), show n - (n - m) = m by omega]
  by_cases h0 : n - m = 0
  · rw [h0]; simp [Addr.add]
  · simp [Addr.add]; omega
 obtain ⟨news, hnews⟩ : ∃ news, news = V.drop (i + m) := ⟨_, rfl⟩
 have hnl : news.length = n - (i + m) := by rw [hnews, List.length_drop, hVl]
 have happ : ∀ (ty : TypeId) (w' : World), SL W B rs w' → (Builtin.append_ #[42, 42] ty #[.slice (some ⟨g, off, none⟩) i c, .slice (some A') (n - (i + m)) (c - (i + m))]).run Try.prog w' = .ok (.slice (some ⟨g, off, none⟩) (n - m) c) (w'.setCells g (off + i) news) := fun ty w' hS' => by
  have hcell : ∀ j, j < n → w'.cell? ⟨g, off + j, none⟩ = some (V[j]!) := fun j hj => hS'.rowCell it hi j (by
   rw [getElem!_pos _ _ (by rw [hVl]; exact hj)]; exact List.getElem?_eq_getElem _)
  have h1 := run_append_room_cells (P := Try.prog) w' 42 ty 3 ti Try.underlying42 hi0 g off i c A' (n - (i + m)) (c - (i + m)) news (by rw [hz1, Nat.mul_one]; exact hnl)
   (fun j u hu => by
     have hj : j < news.length := (List.getElem?_eq_some_iff.1 hu).1
     rw [hA', if_neg (by omega), Addr.add_mid]
     rw [hnews, List.getElem?_drop] at hu
     rw [Nat.add_assoc]
     exact hS'.rowCell it hi _ hu)
   (fun u hu => h1v u (by rw [hnews] at hu; exact List.mem_of_mem_drop hu)) (by omega)
   (fun j hj => by rw [hz1, Nat.mul_one, Nat.add_assoc, hcell _ (by omega)]; rfl)
   (fun j hj => by rw [hz1, Nat.mul_one]; exact hS'.rowFree it hi _ (by omega))
  rw [hz1, Nat.mul_one, show i + (n - (i + m)) = n - m by omega] at h1
  exact h1
 have HAPP := Lib.hid happ
 have hb : ((i : Int) == (i : Int) + m) = false := by rw [beq_eq_false_iff_ne]; omega
 have HS := Lib.hid hS
 have HVL := Lib.hid hVl
 have HNL := Lib.hid (And.intro hnews hnl)
 have hii := (List.getElem?_eq_some_iff.1 hi).1
 clear hS happ hnews hnl hA' hz0 hz1 hz2 hi0 e9 hnc hVl
 go_enter Try.func45, Try.ntmps45
 go_upto_region 5 with fail
 refine wp_region_sl [0,1,2,3,4,5] [6] [7] [] HS.out (List.nil_sublist _) (by kernel_rfl) (by kernel_rfl) (.cons rfl .nil) (fun C cw _ hC => ?_)
 repeat (refine pl_look rfl rfl rfl (fun Kv hK => ?_); go_big_quiet_op; refine hK _ ?_; clear hK Kv)
 clear hC
 refine pl_end ?_
 intro w1 hS1
 have happ := HAPP.out 42 w1 hS1
 have hS2 := SL.setRun it news i _ _ _ hS1 hi (by rw [HNL.out.2]; omega)
 rw [show i + news.length = n - m by rw [HNL.out.2]; omega] at hS2
 refine pm_append_run rfl rfl (.tmp 22) (.tmp 25) 42 rfl _ _ _ _ rfl rfl happ (hS2.sub (List.nil_sublist _)) (fun Kv hK => hK _ _ ?_)
 clear happ
 refine pm_end ?_
 obtain ⟨w2, hw2⟩ : ∃ w2, w1.setCells g (off + i) news = w2 := ⟨_, rfl⟩
 rw [hw2] at hS2 ⊢
 clear hw2
 have hi2 : (rs.set it (.row 3 1 (.slice (some ⟨g, off, none⟩) n c) n (V.take i ++ news ++ V.drop (n - m))))[it]? = some (.row 3 1 (.slice (some ⟨g, off, none⟩) n c) n (V.take i ++ news ++ V.drop (n - m))) := List.getElem?_set_self hii
 have hcl : ∀ ty : TypeId, (Builtin.clear_ #[42] ty #[.slice (some ⟨g, off + (n - m), none⟩) m (c - (n - m))]).run Try.prog w2 = .ok (.tuple #[]) (w2.setCells g (off + (n - m)) (List.replicate m (.int .i64 0))) := fun ty => clear_ints ty g (off + (n - m)) m (c - (n - m)) w2 hm
  (fun j hj => by
    have hl := (hS2.row it hi2).1
    have hj2 : n - m + j < (V.take i ++ news ++ V.drop (n - m)).length := by rw [hl]; omega
    rw [Nat.add_assoc, hS2.rowCell it hi2 (n - m + j) (List.getElem?_eq_getElem hj2)]; rfl)
  (fun j hj => hS2.rowFree it hi2 _ (by omega))
 have hS3 := SL.setRun it (List.replicate m (.int .i64 0)) (n - m) _ _ _ hS2 hi2 (by simp; omega)
 rw [List.set_set] at hS3
 have hS4 := hS3.cutRow it (List.getElem?_set_self hii) (n - m) (by omega) (by omega)
 rw [List.set_set, Nat.mul_one] at hS4
 have e5 : ((V.take i ++ news ++ V.drop (n - m)).take (n - m) ++ List.replicate m (Value.int .i64 0) ++ (V.take i ++ news ++ V.drop (n - m)).drop (n - m + (List.replicate m (Value.int .i64 0)).length)).take (n - m) = V.take i ++ V.drop (i + m) := by
  have l1 : (V.take i ++ news).length = n - m := by rw [List.length_append, List.length_take, HVL.out, HNL.out.2]; omega
  rw [← HNL.out.1]
  rw [List.take_append_of_le_length (l₁ := V.take i ++ news) (by omega), List.take_of_length_le (l := V.take i ++ news) (by omega)]
  rw [List.append_assoc, List.take_append_of_le_length (by omega), List.take_of_length_le (by omega)]
 rw [e5] at hS4
 have HS4 := Lib.hid hS4
 clear hS1 hS2 hS3 hS4 e5 hi2
 go_wp2_with fail
 go_ret
 exact ⟨rfl, HS4.out⟩
end Go.Proofs.Ytpbhbmdghafkmaa
