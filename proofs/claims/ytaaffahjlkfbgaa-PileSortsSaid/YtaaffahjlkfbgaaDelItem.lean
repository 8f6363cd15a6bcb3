/- The walk of slices.Delete at things, one of them; of law04.ahead. -/
import Derived.Test.YtaaffahjlkfbgaaAwake04
import Derived.ArgAppend
namespace Go.Proofs.Ytaaffahjlkfbgaa
open Go.ChangeShapes Go.WideShapes Go.ChangeAt Go.RowKit
set_option linter.unusedVariables false
def delF (h : Nat → ItemV) (i : Nat) : Nat → ItemV := fun j => if j < i then h j else h (j + 1)
theorem delF_cells (h : Nat → ItemV) (n : Nat) : ∀ i, i ≤ n → itemCells (delF h i) n = (itemCells h (n + 1)).take (i * 2) ++ (itemCells h (n + 1)).drop ((i + 1) * 2) := by
  induction n with
  | zero =>
    intro i hi
    obtain rfl : i = 0 := by omega
    rfl
  | succ n ih =>
    intro i hi
    by_cases e : i ≤ n
    · rw [itemCells_succ (delF h i) n, ih i e, itemCells_succ h (n + 1)]
      rw [List.take_append_of_le_length (by rw [itemCells_len]; omega), List.drop_append_of_le_length (by rw [itemCells_len]; omega), List.append_assoc]
      have : delF h i n = h (n + 1) := by unfold delF; rw [if_neg (by omega)]
      rw [this]
    · obtain rfl : i = n + 1 := by omega
      rw [List.drop_eq_nil_of_le (by rw [itemCells_len]; omega), List.append_nil, itemCells_take]
      exact itemCells_ext fun k hk => by unfold delF; rw [if_pos hk]
theorem cnt_del (x : ItemV) (h : Nat → ItemV) (n : Nat) : ∀ i, i ≤ n → cnt x (delF h i) n + (if h i = x then 1 else 0) = cnt x h (n + 1) := by
  induction n with
  | zero =>
    intro i hi
    obtain rfl : i = 0 := by omega
    simp [cnt]
  | succ n ih =>
    intro i hi
    by_cases e : i ≤ n
    · have := ih i e
      rw [cnt, cnt]
      have e1 : delF h i n = h (n + 1) := by unfold delF; rw [if_neg (by omega)]
      rw [e1]
      omega
    · obtain rfl : i = n + 1 := by omega
      rw [cnt_ext x (f := delF h (n + 1)) (g := h) (n := n + 1) fun k hk => by unfold delF; rw [if_pos hk]]
      rfl
theorem SL.setRun {W : World} {B : Nat} (i : Nat) {e : TypeId} {size n c g off : Nat} : ∀ (vs : List Value) (k : Nat) (xs : List Value) (l : List Rs) (w : World), SL W B l w → l[i]? = some (.row e size (.slice (some ⟨g, off, none⟩) n c) n xs) → k + vs.length ≤ n * size →
    SL W B (l.set i (.row e size (.slice (some ⟨g, off, none⟩) n c) n (xs.take k ++ vs ++ xs.drop (k + vs.length)))) (w.setCells g (off + k) vs)
  | [], k, xs, l, w, h, hi, hk => by
    have e1 : xs.take k ++ [] ++ xs.drop (k + ([] : List Value).length) = xs := by simp
    rw [e1, set_self' hi]
    exact h
  | v :: r, k, xs, l, w, h, hi, hk => by
    simp only [List.length_cons] at hk
    have hl := (h.row i hi).1
    have h1 := h.setRowCell i hi k (by omega) v
    have h2 := SL.setRun i r (k + 1) (xs.set k v) _ _ h1 (List.getElem?_set_self (List.getElem?_eq_some_iff.1 hi).1) (by omega)
    rw [List.set_set] at h2
    have e1 : (xs.set k v).take (k + 1) ++ r ++ (xs.set k v).drop (k + 1 + r.length) = xs.take k ++ (v :: r) ++ xs.drop (k + (v :: r).length) := by
      rw [List.drop_set_of_lt (by omega), List.take_succ_eq_append_getElem (by rw [List.length_set]; omega), List.take_set_of_le (Nat.le_refl k)]
      simp [Nat.add_assoc, Nat.add_comm 1]
    rw [e1] at h2
    exact h2
theorem SL.cutRow {W w : World} {B : Nat} {l : List Rs} (h : SL W B l w) (i : Nat) {e : TypeId} {size n c g off : Nat} {xs : List Value} (hi : l[i]? = some (.row e size (.slice (some ⟨g, off, none⟩) n c) n xs)) (m : Nat) (hm : m ≤ n) (hn : 0 < n) :
    SL W B (l.set i (.row e size (.slice (some ⟨g, off, none⟩) m c) m (xs.take (m * size)))) w := by
  have hb := h.block _ (List.mem_of_getElem? hi) g rfl
  have hms : m * size ≤ n * size := Nat.mul_le_mul_right _ hm
  refine h.turn i hi rfl rfl rfl (Nat.le_refl _) (fun _ _ _ => rfl) ?_ (fun g' hg' => ?_)
  · have hr := h.row i hi
    refine ⟨by rw [List.length_take, hr.1]; omega, ?_⟩
    rcases hr.2 with ⟨h0, h1⟩ | ⟨g', off', cap, cur, e1, hb', hg, hnc, hcm, hcs, ht⟩
    · omega
    · simp only [Value.slice.injEq, Option.some.injEq, Addr.mk.injEq] at e1
      obtain ⟨⟨rfl, rfl, _⟩, _, rfl⟩ := e1
      refine .inr ⟨g, off, c, cur, rfl, hb', hg, by omega, hcm, hcs, ?_⟩
      rw [← ht, List.take_take, Nat.min_eq_left hms]
  · simp only [Rs.block, Value.ownBlock, Option.some.injEq] at hg'
    subst hg'
    exact ⟨.inl rfl, hb.2⟩
theorem items_elem : Try.prog.underlying 33 = some (.slice (Try.prog.elem 33)) := by kernel_rfl
theorem items_size (w : World) : (sizeOf (Try.prog.elem 33)).run Try.prog w = .ok 2 w := by kernel_rfl
theorem zero_item (w : World) : (zeroValue 26).run Try.prog w = .ok (.agg #[.int .i64 0, .int .i64 0]) w := by kernel_rfl
theorem clear_item (ty : TypeId) (g o c : Nat) (w : World) (hc : ∀ j, j < 2 → (w.cell? ⟨g, o + j, none⟩).isSome = true) (hf : ∀ j, j < 2 → w.frozen? ⟨g, o + j, none⟩ = false) :
    (Builtin.clear_ #[33] ty #[.slice (some ⟨g, o, none⟩) 1 c]).run Try.prog w = .ok (.tuple #[]) (w.setCells g o [.int .i64 0, .int .i64 0]) := by
  have hst := run_storeCells_cells (P := Try.prog) g o [.int .i64 0, .int .i64 0] 0 w (by simpa using hc) (by simpa using hf) (by simp [Value.oneCell'])
  simp only [Nat.add_zero] at hst
  have hzc : (Builtin.zeroCells (Value.agg #[.int .i64 0, .int .i64 0]).cells 1).toList = [.int .i64 0, .int .i64 0] := by kernel_rfl
  simp [Builtin.clear_, run_underlying Try.underlying33, hzc, hst]
section
variable {P : Program} {Pn : List PanicEntry → World → Prop} {lo : List Oper} {K : World → Prop} {Lm : Act → World → Prop} {rest : List Nat} {i : Nat} {o : Oper} {a : Act} {w : World}
/-- An append whose run is known. -/
theorem pm_append_run (hi0 : lo[i]? = some o) (hgd : o.guard = none) (s x : Operand) (t : TypeId) (ho : o.op = .call { callee := .builtin .append, args := #[s, x], argTypes := #[t, t] }) (v y v' : Value) (w2 : World) (hs : a.eval s = v) (hx : a.eval x = y)
    (hr : (Builtin.append_ #[t, t] o.type #[v, y]).run P w = .ok v' w2) (hk : K w2) (hK : ∀ Kv : Act → World → Prop, (∀ a w, wpPlanM P lo.toArray K Pn Lm rest a w → Kv a w) → Kv (a.put o.dst v') w2) : wpPlanM P lo.toArray K Pn Lm (i :: rest) a w := by
  refine pm_eff hi0 hgd fun Kv hKv => ?_
  unfold execOp
  simp only [ho, resolve, invoke, builtin, Sem.run_bind, Sem.run_pure, Result.andThen_ok, List.map_toArray, List.map_cons, List.map_nil, hs, hx, hr]
  exact ⟨hk, hK Kv hKv⟩
end
set_option maxRecDepth 100000 in
set_option maxHeartbeats 4000000 in
theorem delete_item (W : World) (B : Nat) (rs : List Rs) (w : World) (it n c g off i : Nat) (h : Nat → ItemV) (hS : SL W B rs w) (hi : rs[it]? = some (.row 26 2 (.slice (some ⟨g, off, none⟩) (n + 1) c) (n + 1) (itemCells h (n + 1)))) (hlt : i ≤ n) (hn : n ≤ 1000) :
    Calls Try.prog 21 #[.slice (some ⟨g, off, none⟩) (n + 1) c, .int .i64 (i : Int), .int .i64 ((i : Int) + 1)] w fun e w' => e = .returned (.slice (some ⟨g, off, none⟩) n c) ∧ SL W B (rs.set it (.row 26 2 (.slice (some ⟨g, off, none⟩) n c) n (itemCells (delF h i) n))) w' := by
  obtain ⟨A9, c9, e9, hnc, _⟩ := (hS.row it hi).slice_
  have hc : n + 1 ≤ c := by cases e9; exact hnc
  obtain ⟨ti, hi0, hz0, hz1, hz2⟩ := info_parts item_info
  obtain ⟨A', hA'⟩ : ∃ A' : Addr, A' = (if c = i + 1 then ⟨g, off, none⟩ else ⟨g, off + (i + 1) * 2, none⟩) := ⟨_, rfl⟩
  have s1 : ∀ w' : World, (Instr.slice 33 (.slice (some ⟨g, off, none⟩) (n + 1) c) (some (.int .i64 (i : Int))) (some (.int .i64 ((i : Int) + 1))) (some (.int .i64 ((n : Int) + 1)))).run Try.prog w' = .ok (sliced (some ⟨g, off, none⟩) i (i + 1) (n + 1) 2) w' := fun w' => by
    rw [run_slice_lhm (P := Try.prog) w' 33 _ _ _ items_elem _ _ _ _ _ _ (by omega) (by omega) (by omega) (by omega), items_size]
    simp only [Result.andThen_ok]
    congr 1
  have s2 : ∀ w' : World, (Instr.slice 33 (.slice (some ⟨g, off, none⟩) (n + 1) c) none (some (.int .i64 (i : Int))) none).run Try.prog w' = .ok (.slice (some ⟨g, off, none⟩) i c) w' := fun w' => by
    rw [run_slice_h (P := Try.prog) w' 33 _ _ _ items_elem _ _ (by omega) (by omega), items_size]
    simp [sliced, Addr.add]
  have s3 : ∀ w' : World, (Instr.slice 33 (.slice (some ⟨g, off, none⟩) (n + 1) c) (some (.int .i64 ((i : Int) + 1))) none none).run Try.prog w' = .ok (.slice (some A') (n - i) (c - (i + 1))) w' := fun w' => by
    rw [run_slice_l (P := Try.prog) w' 33 _ _ _ items_elem _ _ (by omega) (by omega), items_size, hA']
    have e1 : ((i : Int) + 1).toNat = i + 1 := by omega
    simp only [Result.andThen_ok, sliced, e1]
    have e2 : n + 1 - (i + 1) = n - i := by omega
    rw [e2]
    by_cases hci : c = i + 1
    · rw [if_pos hci, if_pos hci]
    · rw [if_neg hci, if_neg hci]
      simp [Addr.add]
  have s4 : ∀ w' : World, (Instr.slice 33 (.slice (some ⟨g, off, none⟩) n c) (some (.int .i64 (n : Int))) (some (.int .i64 ((n : Int) + 1))) none).run Try.prog w' = .ok (.slice (some ⟨g, off + n * 2, none⟩) 1 (c - n)) w' := fun w' => by
    rw [run_slice_lh (P := Try.prog) w' 33 _ _ _ items_elem _ _ _ _ (by omega) (by omega) (by omega), items_size]
    have e1 : ((n : Int) + 1).toNat = n + 1 := by omega
    simp only [Result.andThen_ok, sliced, e1, Int.toNat_natCast]
    rw [if_neg (by omega), show n + 1 - n = 1 by omega]
    by_cases h0 : n = 0
    · subst h0; simp [Addr.add]
    · simp [Addr.add]; omega
  obtain ⟨news, hnews⟩ : ∃ news, news = (itemCells h (n + 1)).drop ((i + 1) * 2) := ⟨_, rfl⟩
  have hnl : news.length = (n - i) * 2 := by rw [hnews, List.length_drop, itemCells_len]; omega
  have happ : ∀ (ty : TypeId) (w' : World), SL W B rs w' → (Builtin.append_ #[33, 33] ty #[.slice (some ⟨g, off, none⟩) i c, .slice (some A') (n - i) (c - (i + 1))]).run Try.prog w' = .ok (.slice (some ⟨g, off, none⟩) n c) (w'.setCells g (off + i * 2) news) := fun ty w' hS' => by
    have hcell : ∀ j, j < (n + 1) * 2 → w'.cell? ⟨g, off + j, none⟩ = some ((itemCells h (n + 1))[j]!) := fun j hj => hS'.rowCell it hi j (by
      rw [getElem!_pos _ _ (by rw [itemCells_len]; exact hj)]; exact List.getElem?_eq_getElem _)
    have h1 := run_append_room_cells (P := Try.prog) w' 33 ty 26 ti Try.underlying33 hi0 g off i c A' (n - i) (c - (i + 1)) news (by rw [hz1]; exact hnl)
      (fun j u hu => by
        have hj : j < news.length := (List.getElem?_eq_some_iff.1 hu).1
        rw [hA', if_neg (by omega), Addr.add_mid]
        rw [hnews, List.getElem?_drop] at hu
        rw [Nat.add_assoc]
        exact hS'.rowCell it hi _ hu)
      (fun u hu => itemCells_one h (n + 1) u (by rw [hnews] at hu; exact List.mem_of_mem_drop hu)) (by omega)
      (fun j hj => by rw [hz1, Nat.add_assoc, hcell _ (by omega)]; rfl)
      (fun j hj => by rw [hz1]; exact hS'.rowFree it hi _ (by omega))
    rw [hz1, show i + (n - i) = n by omega] at h1
    exact h1
  have HAPP := Lib.hid happ
  have hb : ((i : Int) == (i : Int) + 1) = false := by rw [beq_eq_false_iff_ne]; omega
  have HS := Lib.hid hS
  have HNL := Lib.hid (And.intro hnews hnl)
  have hii := (List.getElem?_eq_some_iff.1 hi).1
  clear hS happ hnews hnl hA' hz0 hz1 hz2 hi0 e9 hnc
  go_enter Try.func21, Try.ntmps21
  go_upto_region 5 with fail
  refine wp_region_sl [0,1,2,3,4,5] [6] [7] [] HS.out (List.nil_sublist _) (by kernel_rfl) (by kernel_rfl) (.cons rfl .nil) (fun C cw _ hC => ?_)
  repeat (refine pl_look rfl rfl rfl (fun Kv hK => ?_); go_big_quiet_op; refine hK _ ?_; clear hK Kv)
  clear hC
  refine pl_end ?_
  intro w1 hS1
  have happ := HAPP.out 33 w1 hS1
  have hS2 := SL.setRun it news (i * 2) _ _ _ hS1 hi (by rw [HNL.out.2]; omega)
  rw [show i * 2 + news.length = n * 2 by rw [HNL.out.2]; omega] at hS2
  refine pm_append_run rfl rfl (.tmp 22) (.tmp 25) 33 rfl _ _ _ _ rfl rfl happ (hS2.sub (List.nil_sublist _)) (fun Kv hK => hK _ _ ?_)
  clear happ
  refine pm_end ?_
  obtain ⟨w2, hw2⟩ : ∃ w2, w1.setCells g (off + i * 2) news = w2 := ⟨_, rfl⟩
  rw [hw2] at hS2 ⊢
  clear hw2
  have hi2 : (rs.set it (.row 26 2 (.slice (some ⟨g, off, none⟩) (n + 1) c) (n + 1) ((itemCells h (n + 1)).take (i * 2) ++ news ++ (itemCells h (n + 1)).drop (n * 2))))[it]? = some (.row 26 2 (.slice (some ⟨g, off, none⟩) (n + 1) c) (n + 1) ((itemCells h (n + 1)).take (i * 2) ++ news ++ (itemCells h (n + 1)).drop (n * 2))) := List.getElem?_set_self hii
  have hcl : ∀ ty : TypeId, (Builtin.clear_ #[33] ty #[.slice (some ⟨g, off + n * 2, none⟩) 1 (c - n)]).run Try.prog w2 = .ok (.tuple #[]) (w2.setCells g (off + n * 2) [.int .i64 0, .int .i64 0]) := fun ty => clear_item ty g (off + n * 2) (c - n) w2
    (fun j hj => by
      have hl := (hS2.row it hi2).1
      have hj2 : n * 2 + j < ((itemCells h (n + 1)).take (i * 2) ++ news ++ (itemCells h (n + 1)).drop (n * 2)).length := by rw [hl]; omega
      rw [Nat.add_assoc, hS2.rowCell it hi2 (n * 2 + j) (List.getElem?_eq_getElem hj2)]; rfl)
    (fun j hj => hS2.rowFree it hi2 _ (by omega))
  have hS3 := SL.setRun it [.int .i64 0, .int .i64 0] (n * 2) _ _ _ hS2 hi2 (by simp; omega)
  rw [List.set_set] at hS3
  have hS4 := hS3.cutRow it (List.getElem?_set_self hii) n (by omega) (by omega)
  rw [List.set_set] at hS4
  have e5 : (((itemCells h (n + 1)).take (i * 2) ++ news ++ (itemCells h (n + 1)).drop (n * 2)).take (n * 2) ++ [Value.int .i64 0, .int .i64 0] ++ ((itemCells h (n + 1)).take (i * 2) ++ news ++ (itemCells h (n + 1)).drop (n * 2)).drop (n * 2 + [Value.int .i64 0, .int .i64 0].length)).take (n * 2) = itemCells (delF h i) n := by
    have l1 : ((itemCells h (n + 1)).take (i * 2) ++ news).length = n * 2 := by rw [List.length_append, List.length_take, itemCells_len, HNL.out.2]; omega
    rw [delF_cells h n i hlt, ← HNL.out.1]
    rw [List.take_append_of_le_length (l₁ := (itemCells h (n + 1)).take (i * 2) ++ news) (by omega), List.take_of_length_le (l := (itemCells h (n + 1)).take (i * 2) ++ news) (by omega)]
    rw [List.append_assoc, List.take_append_of_le_length (by omega), List.take_of_length_le (by omega)]
  rw [e5] at hS4
  have HS4 := Lib.hid hS4
  clear hS1 hS2 hS3 hS4 e5 hi2
  go_wp2_with fail
  go_ret
  exact ⟨rfl, HS4.out⟩
set_option maxHeartbeats 2000000 in
theorem ahead_no (k1 i1 k2 i2 : Int) (hno : ¬ (⟨k1, i1⟩ : ItemV).lt ⟨k2, i2⟩) (w : World) :
    Calls Try.prog 20 #[.agg #[.int .i64 k1, .int .i64 i1], .agg #[.int .i64 k2, .int .i64 i2]] w fun e w' => e = .returned (.bool false) ∧ Below w.heap.size w w' := by
  have HS0 := Lib.hid (((SL.start (Nat.le_refl w.heap.size)).alloc #[.int .i64 k1, .int .i64 i1] 26).alloc #[.int .i64 k2, .int .i64 i2] 26)
  have h1 : ¬ k1 < k2 := fun h => hno (.inl h)
  by_cases h2 : k1 = k2
  · have h3 : ¬ i1 < i2 := fun h => hno (.inr ⟨h2, h⟩)
    have h2b : (k1 == k2) = true := by simpa using h2
    clear hno h2
    go_enter Try.func20, Try.ntmps20
    go_wp2_with fail
    go_ret
    exact ⟨rfl, HS0.out.below⟩
  · have h2b : (k1 == k2) = false := by simpa using h2
    clear hno h2
    go_enter Try.func20, Try.ntmps20
    go_wp2_with fail
    go_ret
    exact ⟨rfl, HS0.out.below⟩
end Go.Proofs.Ytaaffahjlkfbgaa
