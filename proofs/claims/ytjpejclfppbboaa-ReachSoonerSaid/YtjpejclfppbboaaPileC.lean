/- The methods of a pile's row that change its length: Push, Pop. -/
import Derived.Test.YtjpejclfppbboaaPileB
namespace Go.Proofs.Ytjpejclfppbboaa
open Go.ChangeShapes Go.WideShapes Go.ChangeAt Go.RowKit
set_option linter.unusedVariables false
theorem item_info : (Try.prog.info? 148).map (fun i => (i.zero, i.size, i.bytes)) = some (some (.agg #[.int .i64 0, .int .i64 0]), 2, 16) := by kernel_rfl
set_option maxRecDepth 100000 in
set_option maxHeartbeats 4000000 in
theorem rowPush_any (W : World) (B : Nat) (rs : List Rs) (w : World) (pb n : Nat) (v : Value) (f : Nat → ItemV) (x : ItemV) (hS : SL W B (.blk pb #[v] 161 :: .row 148 2 v n (itemCells f n) :: rs) w) (hn : n ≤ 1000000) :
 Calls Try.prog 128 #[.pointer (some ⟨pb, 0, none⟩), .iface 148 (.agg #[.int .i64 x.key, .int .i64 x.id])] w fun e w' => e = .returned (.tuple #[]) ∧ ∃ v', SL W B (.blk pb #[v'] 161 :: .row 148 2 v' (n + 1) (itemCells (upd f n x) (n + 1)) :: rs) w' := by
 obtain ⟨i0, hi0, hz0, hz1, hz2⟩ := info_parts item_info
 have HI := Lib.hid (And.intro hi0 (And.intro hz0 (And.intro hz1 hz2)))
 have HE : Hid (itemCells f n ++ [Value.int .i64 x.key, .int .i64 x.id] = itemCells (upd f n x) (n + 1)) := Lib.hid (by
  rw [itemCells_succ, upd_at, itemCells_ext (g := upd f n x) (fun k hk => (upd_ne f x (by omega)).symm)]
  rfl)
 obtain ⟨A, c, rfl, _, _⟩ := (hS.row 1 rfl).slice_
 clear hi0 hz0 hz1 hz2
 go_enter Try.func128, Try.ntmps128
 go_upto_region 0 with fail
 refine wp_region_sl [0,1,2,3,4,5] [6,7] [8,9] [.blk pb #[.slice A n c] 161] hS (by simp) (by kernel_rfl) (by kernel_rfl) (.cons rfl (.cons rfl .nil)) (fun C cw _ hC => ?_)
 have q0 : ∀ c', (cw c').cell? ⟨pb, 0, none⟩ = some (.slice A n c) := fun c' => (hC c').cell 0 rfl 0 rfl
 repeat (first | (refine pl_look rfl rfl rfl (fun Kv hK => ?_); go_big_quiet_op; refine hK _ ?_; clear hK Kv) | (refine pl_told (.pointer (some ⟨pb, 0, none⟩)) rfl rfl (fun w _ => rfl) (fun Kv hK => ?_); go_simp; refine hK _ ?_; clear hK Kv))
 refine pl_told (.agg #[.int .i64 x.key, .int .i64 x.id]) rfl rfl (fun w _ => by kernel_rfl) (fun Kv hK => ?_)
 refine hK _ ?_
 clear hK Kv q0 hC
 refine pl_end ?_
 intro w1 hS1
 refine pm_eff rfl rfl fun Kv hK => ?_
 go_simp
 have hS2 := hS1.alloc #[.int .i64 x.key, .int .i64 x.id] 148
 refine ⟨hS2.sub (by simp), hK _ _ ?_⟩
 clear hK Kv hS2
 refine pm_append rfl rfl _ _ 159 rfl hS1 1 i0 (.agg #[.int .i64 0, .int .i64 0]) 2 16 Try.underlying159 HI.out.1 HI.out.2.1 HI.out.2.2.1 HI.out.2.2.2 rfl (by decide) _ n 1 _ rfl rfl _ rfl rfl (by decide) rfl (by simp [Value.oneCell']) (by omega) (by decide) (fun v' w' hS3 hz => ⟨hS3.sub (by simp), fun Kv hK => hK _ _ ?_⟩)
 refine pm_end ?_
 obtain ⟨A', c', rfl, _, _⟩ := (hS3.row 1 rfl).slice_
 have d0 : w'.cell? ⟨pb, 0, none⟩ = some (.slice A n c) := hS3.cell 0 rfl 0 rfl
 have d1 := hS3.free 0 rfl 0
 have hS4 := hS3.setCell 0 rfl 0 (.slice A' (n + 1) c')
 have HS4 := Lib.hid hS4
 clear hS1 hS3 hS4 hS
 go_wp2_with fail
 refine bodyPost_end (results_none rfl _ _ _) rfl ⟨rfl, .slice A' (n + 1) c', ?_⟩
 have h := HS4.out
 have e := HE.out
 rw [← e]
 exact h
/-- One thing less at the end: memory stands. -/
theorem SL.shorten {W w : World} {B : Nat} {l : List Rs} (h : SL W B l w) (i : Nat) {e : TypeId} {n c g off : Nat} {f : Nat → ItemV} (hi : l[i]? = some (.row e 2 (.slice (some ⟨g, off, none⟩) (n + 1) c) (n + 1) (itemCells f (n + 1)))) : SL W B (l.set i (.row e 2 (.slice (some ⟨g, off, none⟩) n c) n (itemCells f n))) w := by
 have hb := h.block _ (List.mem_of_getElem? hi) g rfl
 refine h.turn i hi rfl rfl rfl (Nat.le_refl _) (fun _ _ _ => rfl) ?_ (fun g' hg' => ?_)
 · have hr := h.row i hi
   refine ⟨by rw [itemCells_len], ?_⟩
   rcases hr.2 with ⟨h0, h1⟩ | ⟨g', off', cap, cur, e1, hb', hg, hnc, hcm, hcs, ht⟩
   · omega
   · simp only [Value.slice.injEq, Option.some.injEq, Addr.mk.injEq] at e1
     obtain ⟨⟨rfl, rfl, _⟩, _, rfl⟩ := e1
     refine .inr ⟨g, off, c, cur, rfl, hb', hg, by omega, hcm, hcs, ?_⟩
     rw [← itemCells_take, ← ht, List.take_take, Nat.min_eq_left (by omega)]
 · simp only [Rs.block, Value.ownBlock, Option.some.injEq] at hg'
   subst hg'
   exact ⟨.inl rfl, hb.2⟩
set_option maxRecDepth 100000 in
set_option maxHeartbeats 4000000 in
theorem rowPop_any (W : World) (B : Nat) (rs : List Rs) (w : World) (pb n : Nat) (v : Value) (f : Nat → ItemV) (hS : SL W B (.blk pb #[v] 161 :: .row 148 2 v (n + 1) (itemCells f (n + 1)) :: rs) w) (hn : n ≤ 1000000) :
 Calls Try.prog 127 #[.pointer (some ⟨pb, 0, none⟩)] w fun e w' => e = .returned (.iface 148 (.agg #[.int .i64 (f n).key, .int .i64 (f n).id])) ∧ ∃ v', SL W B (.blk pb #[v'] 161 :: .row 148 2 v' n (itemCells f n) :: rs) w' := by
 obtain ⟨A, c, rfl, hnc, _⟩ := (hS.row 1 rfl).slice_
 obtain ⟨b, o, rfl, hb, d0, d1⟩ := items_at (hS.reads 1 rfl) (Nat.lt_succ_self n)
 obtain ⟨x, hx⟩ : ∃ x, f n = x := ⟨_, rfl⟩
 rw [hx] at d0 d1 ⊢
 have c0 : w.cell? ⟨pb, 0, none⟩ = some (.slice (some ⟨b, o, none⟩) (n + 1) c) := hS.cell 0 rfl 0 rfl
 have c1 := hS.free 0 rfl 0
 have hpb := (hS.lt 0 rfl).2
 have hS2 := hS.alloc #[.int .i64 x.key, .int .i64 x.id] 148
 have HS2 := Lib.hid hS2
 clear hS hS2
 go_enter Try.func127, Try.ntmps127
 go_upto_region 3 with fail
 obtain ⟨gx, hgx⟩ : ∃ gx, gx = w.heap.size := ⟨_, rfl⟩
 obtain ⟨w1, hw1⟩ : ∃ w1, w1 = w.alloc (Obj.cells #[.int .i64 x.key, .int .i64 x.id] 148) := ⟨_, rfl⟩
 have hS2 := HS2.out
 rw [← hw1, ← hgx] at hS2 ⊢
 clear c0 c1 hpb d0 d1 hw1 hgx HS2 hb
 have e0 : w1.cell? ⟨pb, 0, none⟩ = some (.slice (some ⟨b, o, none⟩) (n + 1) c) := hS2.cell 1 rfl 0 rfl
 have e1 := hS2.free 1 rfl 0
 have e2 : w1.cell? ⟨gx, 0, none⟩ = some (.int .i64 x.key) := hS2.cell 0 rfl 0 rfl
 have e3 : w1.cell? ⟨gx, 1, none⟩ = some (.int .i64 x.id) := hS2.cell 0 rfl 1 rfl
 have hne := hS2.ne 0 1 rfl rfl (by omega)
 have hne' := hne.symm
 have hS3 := (hS2.setCell 1 rfl 0 (.slice (some ⟨b, o, none⟩) n c)).shorten 2 rfl
 have HS3 := Lib.hid hS3
 clear hS2 hS3
 go_wp2_with fail
 go_ret
 exact ⟨rfl, .slice (some ⟨b, o, none⟩) n c, HS3.out.tail⟩
end Go.Proofs.Ytjpejclfppbboaa
