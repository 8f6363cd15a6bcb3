/- container/heap's Push and Pop over a pile's row; a pile's New, Put, Take, Len. -/
import Derived.Test.YtjpejclfppbboaaPileC
import Derived.Test.YtjpejclfppbboaaIarr
namespace Go.Proofs.Ytjpejclfppbboaa
open Go.ChangeShapes Go.WideShapes Go.ChangeAt Go.RowKit
set_option linter.unusedVariables false
theorem meth_push (k : Nat) (w : World) (a : Addr) : (method (k + 1) 163 (.pointer (some a)) "Push").run Try.prog w = .ok (128, .pointer (some a)) w := by kernel_rfl
theorem meth_pop (k : Nat) (w : World) (a : Addr) : (method (k + 1) 163 (.pointer (some a)) "Pop").run Try.prog w = .ok (127, .pointer (some a)) w := by kernel_rfl
set_option maxRecDepth 100000 in
set_option maxHeartbeats 4000000 in
theorem heapPush_any (W : World) (B : Nat) (rs : List Rs) (w : World) (pb n : Nat) (v : Value) (f : Nat → ItemV) (x : ItemV) (hS : SL W B (.blk pb #[v] 161 :: .row 148 2 v n (itemCells f n) :: rs) w) (hn : n ≤ 900000) :
 Calls Try.prog 97 #[.iface 163 (.pointer (some ⟨pb, 0, none⟩)), .iface 148 (.agg #[.int .i64 x.key, .int .i64 x.id])] w fun e w' => e = .returned (.tuple #[]) ∧ ∃ v', SL W B (.blk pb #[v'] 161 :: .row 148 2 v' (n + 1) (itemCells (putM f n x) (n + 1)) :: rs) w' := by
 have HPU := Lib.hid (rowPush_any W B rs w pb n v f x hS (by omega))
 have hm : ∀ q, (method (q + 1) 163 (.pointer (some ⟨pb, 0, none⟩)) "Push").run Try.prog w = .ok (128, .pointer (some ⟨pb, 0, none⟩)) w := fun q => meth_push q w _
 clear hS
 go_enter Try.func97, Try.ntmps97
 go_wp2_with (first
  | (go_at_call 128; (with_reducible refine HPU.out.mono ?_); rintro e w2 ⟨rfl, v', hS2⟩
     obtain ⟨A, c, rfl, _, _⟩ := (hS2.row 1 rfl).slice_
     have c2 : w2.cell? ⟨pb, 0, none⟩ = some (.slice A (n + 1) c) := hS2.cell 0 rfl 0 rfl
     have hm2 : ∀ q, (method (q + 1) 163 (.pointer (some ⟨pb, 0, none⟩)) "Len").run Try.prog w2 = .ok (124, .slice A (n + 1) c) w2 := fun q => meth_len q w2 _ _ c2
     have HUP := Lib.hid (up_any W B rs w2 pb (n + 1) c A (upd f n x) n hS2 (by omega) (by omega))
     have HLE := Lib.hid (rowLen_any A (n + 1) c w2)
     clear hm hS2)
  | (go_at_call 124; (with_reducible refine HLE.out.mono ?_); rintro e w3 ⟨rfl, rfl⟩
     clear hm2)
  | (go_at_call 100; (with_reducible refine HUP.out.mono ?_); rintro e w4 ⟨rfl, hS4⟩
     have HS4 := Lib.hid hS4
     clear hS4 c2))
 refine bodyPost_end (results_none rfl _ _ _) rfl ⟨rfl, .slice A (n + 1) c, HS4.out⟩
set_option maxRecDepth 100000 in
set_option maxHeartbeats 4000000 in
theorem heapPop_any (W : World) (B : Nat) (rs : List Rs) (w : World) (pb n : Nat) (v : Value) (f : Nat → ItemV) (hS : SL W B (.blk pb #[v] 161 :: .row 148 2 v (n + 1) (itemCells f (n + 1)) :: rs) w) (hn : n ≤ 900000) :
 Calls Try.prog 98 #[.iface 163 (.pointer (some ⟨pb, 0, none⟩))] w fun e w' => e = .returned (.iface 148 (.agg #[.int .i64 (f 0).key, .int .i64 (f 0).id])) ∧ ∃ v', SL W B (.blk pb #[v'] 161 :: .row 148 2 v' n (itemCells (takeM f n) n) :: rs) w' := by
 obtain ⟨A, c, rfl, _, _⟩ := (hS.row 1 rfl).slice_
 have c0 : w.cell? ⟨pb, 0, none⟩ = some (.slice A (n + 1) c) := hS.cell 0 rfl 0 rfl
 have hm : ∀ q, (method (q + 1) 163 (.pointer (some ⟨pb, 0, none⟩)) "Len").run Try.prog w = .ok (124, .slice A (n + 1) c) w := fun q => meth_len q w _ _ c0
 have hms : ∀ q, (method (q + 1) 163 (.pointer (some ⟨pb, 0, none⟩)) "Swap").run Try.prog w = .ok (126, .slice A (n + 1) c) w := fun q => meth_swap q w _ _ c0
 have HLE := Lib.hid (rowLen_any A (n + 1) c w)
 have HSW : Hid (Calls Try.prog 126 #[.slice A (n + 1) c, .int .i64 0, .int .i64 n] w fun e w' => e = .returned (.tuple #[]) ∧ SL W B (.blk pb #[.slice A (n + 1) c] 161 :: .row 148 2 (.slice A (n + 1) c) (n + 1) (itemCells (swapF f 0 n) (n + 1)) :: rs) w') := Lib.hid (swap_any W B _ w 1 (n + 1) c A f 0 n hS rfl (by omega) (by omega) (by omega))
 have HTL : Hid (f 0 = takeM f n n) := Lib.hid takeM_last.symm
 rw [HTL.out]
 clear hS c0
 go_enter Try.func98, Try.ntmps98
 go_wp2_with (first
  | (go_at_call 124; (with_reducible refine HLE.out.mono ?_); rintro e w1 ⟨rfl, rfl⟩
     clear hm)
  | (go_at_call 126; (with_reducible refine HSW.out.mono ?_); rintro e w2 ⟨rfl, hS2⟩
     have HDN := Lib.hid (down_any W B rs w2 pb n (n + 1) c A (swapF f 0 n) hS2 (by omega) (by omega))
     clear hms hS2)
  | (go_at_call 101; (with_reducible refine HDN.out.mono ?_); rintro e w3 ⟨vb, rfl, hS3⟩
     have hm3 : ∀ q, (method (q + 1) 163 (.pointer (some ⟨pb, 0, none⟩)) "Pop").run Try.prog w3 = .ok (127, .pointer (some ⟨pb, 0, none⟩)) w3 := fun q => meth_pop q w3 _
     have HPO := Lib.hid (rowPop_any W B rs w3 pb n _ (takeM f n) hS3 (by omega))
     clear hS3)
  | (go_at_call 127; (with_reducible refine HPO.out.mono ?_); rintro e w4 ⟨rfl, v', hS4⟩
     have HS4 := Lib.hid hS4
     clear hS4 hm3))
 go_ret
 exact ⟨rfl, v', HS4.out⟩
/-- What a pile holds: so many things, each so often. -/
structure PileIs (f : Nat → ItemV) (n : Nat) (M : ItemV → Nat) : Prop where
 heap : Heap f n
 cnt : ∀ x, cnt x f n = M x
def PileRs (pb : Nat) (v : Value) (n : Nat) (f : Nat → ItemV) (rs : List Rs) : List Rs := .blk pb #[v] 161 :: .row 148 2 v n (itemCells f n) :: rs
theorem PileIs.put {f : Nat → ItemV} {n : Nat} {M : ItemV → Nat} (h : PileIs f n M) (x : ItemV) : PileIs (putM f n x) (n + 1) (fun y => M y + if x = y then 1 else 0) :=
 ⟨putM_heap x h.heap, fun y => by rw [putM_cnt, h.cnt]⟩
theorem PileIs.take {f : Nat → ItemV} {n : Nat} {M : ItemV → Nat} (h : PileIs f (n + 1) M) : PileIs (takeM f n) n (fun y => M y - if f 0 = y then 1 else 0) :=
 ⟨takeM_heap h.heap, fun y => by have := takeM_cnt y f n; rw [h.cnt] at this; omega⟩
theorem cnt_pos {f : Nat → ItemV} {n k : Nat} (h : k < n) : 0 < cnt (f k) f n := by
 induction n with
 | zero => omega
 | succ n ih =>
   rw [Go.Proofs.Ytjpejclfppbboaa.cnt]
   by_cases e : k = n
   · subst e; rw [if_pos rfl]; omega
   · have := ih (by omega); omega
theorem cnt_some {f : Nat → ItemV} {n : Nat} {x : ItemV} (h : 0 < cnt x f n) : ∃ k, k < n ∧ f k = x := by
 induction n with
 | zero => exact absurd h (by simp [Go.Proofs.Ytjpejclfppbboaa.cnt])
 | succ n ih =>
   rw [Go.Proofs.Ytjpejclfppbboaa.cnt] at h
   by_cases e : f n = x
   · exact ⟨n, by omega, e⟩
   · rw [if_neg e] at h
     obtain ⟨k, h1, h2⟩ := ih (by omega)
     exact ⟨k, by omega, h2⟩
/-- What is taken is there, and nothing that is there is ahead of it. -/
theorem PileIs.first {f : Nat → ItemV} {n : Nat} {M : ItemV → Nat} (h : PileIs f (n + 1) M) : 0 < M (f 0) ∧ ∀ x, 0 < M x → ¬ x.lt (f 0) := by
 refine ⟨by rw [← h.cnt]; exact cnt_pos (by omega), fun x hx => ?_⟩
 rw [← h.cnt] at hx
 obtain ⟨k, hk, rfl⟩ := cnt_some hx
 exact h.heap.least k hk
theorem PileIs.empty : PileIs (fun _ => ⟨0, 0⟩) 0 (fun _ => 0) := ⟨fun k h0 h1 => absurd h1 (by omega), fun _ => rfl⟩
theorem new_any (W : World) (B : Nat) (rs : List Rs) (w : World) (hS : SL W B rs w) :
 Calls Try.prog 83 #[] w fun e w' => ∃ pb, e = .returned (.pointer (some ⟨pb, 0, none⟩)) ∧ SL W B (PileRs pb (.slice none 0 0) 0 (fun _ => ⟨0, 0⟩) rs) w' := by
 have HS := Lib.hid ((hS.nil 148 2).alloc #[.slice none 0 0] 161)
 clear hS
 go_enter Try.func83, Try.ntmps83
 go_wp2_with fail
 go_ret
 exact ⟨_, rfl, HS.out⟩
set_option maxRecDepth 100000 in
set_option maxHeartbeats 4000000 in
theorem put_any (W : World) (B : Nat) (rs : List Rs) (w : World) (pb n : Nat) (v : Value) (f : Nat → ItemV) (x : ItemV) (hS : SL W B (PileRs pb v n f rs) w) (hn : n ≤ 900000) :
 Calls Try.prog 84 #[.pointer (some ⟨pb, 0, none⟩), .agg #[.int .i64 x.key, .int .i64 x.id]] w fun e w' => e = .returned (.tuple #[]) ∧ ∃ v', SL W B (PileRs pb v' (n + 1) (putM f n x) rs) w' := by
 have hS1 : SL W B (.blk pb #[v] 161 :: .row 148 2 v n (itemCells f n) :: .blk w.heap.size #[.int .i64 x.key, .int .i64 x.id] 148 :: rs) (w.alloc (.cells #[.int .i64 x.key, .int .i64 x.id] 148)) := by
  have h := hS.alloc #[.int .i64 x.key, .int .i64 x.id] 148
  exact h.perm ((List.Perm.swap _ _ _).trans (.cons _ (.swap _ _ _)))
 clear hS
 go_enter Try.func84, Try.ntmps84
 go_upto_region 1 with fail
 obtain ⟨xb, hxb⟩ : ∃ xb, xb = w.heap.size := ⟨_, rfl⟩
 generalize (w.alloc (.cells #[.int .i64 x.key, .int .i64 x.id] 148)) = w1 at *
 rw [← hxb] at hS1 ⊢
 clear hxb
 go_upto_region 2 with fail
 refine wp_region_sl [0,1,2,3,4,5] [6] [] [.blk xb #[.int .i64 x.key, .int .i64 x.id] 148] hS1 (.cons _ (.cons _ (.cons_cons _ (List.nil_sublist _)))) (by kernel_rfl) (by kernel_rfl) .nil (fun C cw _ hC => ?_)
 have q0 : ∀ c', (cw c').cell? ⟨xb, 0, none⟩ = some (.int .i64 x.key) := fun c' => (hC c').cell 0 rfl 0 rfl
 have q1 : ∀ c', (cw c').cell? ⟨xb, 1, none⟩ = some (.int .i64 x.id) := fun c' => (hC c').cell 0 rfl 1 rfl
 repeat (first | (refine pl_look rfl rfl rfl (fun Kv hK => ?_); go_big_quiet_op; refine hK _ ?_; clear hK Kv) | (refine pl_told (.pointer (some ⟨pb, 0, none⟩)) rfl rfl (fun w _ => rfl) (fun Kv hK => ?_); go_simp; refine hK _ ?_; clear hK Kv))
 clear q0 q1 hC
 refine pl_end ?_
 intro w2 hS2
 refine pm_eff rfl rfl fun Kv hK => ?_
 go_simp
 refine eff_call (heapPush_any W B _ w2 pb n v f x hS2 hn) (fun e w3 h => ?_)
 obtain ⟨rfl, v', hS3⟩ := h
 left
 refine ⟨_, rfl, hS3.sub (.cons _ (.cons _ (.cons_cons _ (List.nil_sublist _)))), hK _ _ ?_⟩
 refine pm_end ?_
 have HS3 := Lib.hid hS3
 clear hK Kv hS2 hS3 hS1
 go_wp2_with fail
 refine bodyPost_end (results_none rfl _ _ _) rfl ⟨rfl, v', ?_⟩
 exact SL.sub (l' := PileRs pb v' (n + 1) (putM f n x) rs) HS3.out (.cons_cons _ (.cons_cons _ (.cons _ (List.Sublist.refl _))))
set_option maxRecDepth 100000 in
set_option maxHeartbeats 4000000 in
theorem take_none (W : World) (B : Nat) (rs : List Rs) (w : World) (pb : Nat) (v : Value) (f : Nat → ItemV) (hS : SL W B (PileRs pb v 0 f rs) w) :
 Calls Try.prog 85 #[.pointer (some ⟨pb, 0, none⟩)] w fun e w' => e = .returned (.tuple #[.agg #[.int .i64 0, .int .i64 0], .bool false]) ∧ SL W B (PileRs pb v 0 f rs) w' := by
 have hS0 := hS.alloc #[.int .i64 0, .int .i64 0] 148
 obtain ⟨A, c, rfl, _, _⟩ := (hS.row 1 rfl).slice_
 clear hS
 go_enter Try.func85, Try.ntmps85
 go_upto_region 1 with fail
 obtain ⟨zb, hzb⟩ : ∃ zb, zb = w.heap.size := ⟨_, rfl⟩
 generalize (w.alloc (.cells #[.int .i64 0, .int .i64 0] 148)) = w1 at *
 rw [← hzb] at hS0 ⊢
 clear hzb
 have c0 : w1.cell? ⟨pb, 0, none⟩ = some (.slice A 0 c) := hS0.cell 1 rfl 0 rfl
 have HS := Lib.hid hS0
 clear hS0
 go_wp2_with (refine wpList_store_abs rfl 148 (.tmp 2) (.tmp 14) rfl rfl zb #[.int .i64 0, .int .i64 0] rfl rfl _ _ (HS.out.blk 0 rfl) (by kernel_rfl) rfl (by simp [Value.oneCell']) ?_; intro w5 ho5 hh5; have HU := Lib.hid (HS.out.only 0 rfl ho5 hh5); clear ho5 hh5)
 exact retArr2 rfl _ _ zb 148 _ _ _ rfl rfl (HU.out.blk 0 rfl) Try.underlying148 rfl (by kernel_rfl) ⟨rfl, HU.out.tail⟩
theorem item_assert (x : ItemV) (w : World) : (Instr.typeAssert (.iface 148 (.agg #[.int .i64 x.key, .int .i64 x.id])) 20 148 false).run Try.prog w = .ok (.agg #[.int .i64 x.key, .int .i64 x.id]) w := by kernel_rfl
set_option maxRecDepth 100000 in
set_option maxHeartbeats 400000 in
theorem take_any (W : World) (B : Nat) (rs : List Rs) (w : World) (pb n : Nat) (v : Value) (f : Nat → ItemV) (hS : SL W B (PileRs pb v (n + 1) f rs) w) (hn : n ≤ 900000) :
 Calls Try.prog 85 #[.pointer (some ⟨pb, 0, none⟩)] w fun e w' => e = .returned (.tuple #[.agg #[.int .i64 (f 0).key, .int .i64 (f 0).id], .bool true]) ∧ ∃ v', SL W B (PileRs pb v' n (takeM f n) rs) w' := by
 have hS0 := hS.alloc #[.int .i64 0, .int .i64 0] 148
 obtain ⟨A, c, rfl, _, _⟩ := (hS.row 1 rfl).slice_
 clear hS
 go_enter Try.func85, Try.ntmps85
 go_upto_region 1 with fail
 obtain ⟨zb, hzb⟩ : ∃ zb, zb = w.heap.size := ⟨_, rfl⟩
 generalize (w.alloc (.cells #[.int .i64 0, .int .i64 0] 148)) = w1 at *
 rw [← hzb] at hS0 ⊢
 clear hzb
 have c0 : w1.cell? ⟨pb, 0, none⟩ = some (.slice A (n + 1) c) := hS0.cell 1 rfl 0 rfl
 have hS1 : SL W B (.blk pb #[.slice A (n + 1) c] 161 :: .row 148 2 (.slice A (n + 1) c) (n + 1) (itemCells f (n + 1)) :: .blk zb #[.int .i64 0, .int .i64 0] 148 :: rs) w1 := hS0.perm ((List.Perm.swap _ _ _).trans (.cons _ (.swap _ _ _)))
 have HHP := Lib.hid (heapPop_any W B _ w1 pb n _ f hS1 hn)
 clear hS0 hS1
 obtain ⟨x, hx⟩ : ∃ x, f 0 = x := ⟨_, rfl⟩
 rw [hx] at HHP
 have HX := Lib.hid hx
 clear hx
 go_upto_region 3 with fail
 have hta := item_assert x
 go_wp2_with (first
  | (go_at_call 98; (with_reducible refine HHP.out.mono ?_); rintro e w2 ⟨rfl, v', hS2⟩
     have HS := Lib.hid hS2
     clear hS2 c0)
  | (refine wpList_store_abs rfl 148 (.tmp 2) (.tmp 20) rfl rfl zb #[.int .i64 x.key, .int .i64 x.id] rfl rfl _ _ (HS.out.blk 2 rfl) (by kernel_rfl) rfl (by simp [Value.oneCell']) ?_; intro w5 ho5 hh5; have HU := Lib.hid (HS.out.only 2 rfl ho5 hh5); clear ho5 hh5))
 refine retArr2 rfl _ _ zb 148 _ _ _ rfl rfl (HU.out.blk 2 rfl) Try.underlying148 rfl (by kernel_rfl) ⟨by rw [HX.out]; rfl, v', ?_⟩
 exact SL.sub (l' := PileRs pb v' n (takeM f n) rs) HU.out (.cons_cons _ (.cons_cons _ (.cons _ (List.Sublist.refl _))))
end Go.Proofs.Ytjpejclfppbboaa
