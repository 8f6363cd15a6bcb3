/- The walk of slices.Repeat of one number. -/
import Derived.Test.YtgnmbmlpfjlbiaaPlanK
import Derived.Test.YtgnmbmlpfjlbiaaFlowMost
import Derived.Laws.CopyOwn
import Derived.Shelf.Bits.Mul64
import Derived.Ground.NamesProg
namespace Go.Proofs.Ytgnmbmlpfjlbiaa
open Go.ChangeShapes Go.WideShapes Go.ChangeAt Go.RowKit Go.Shelf
set_option linter.unusedVariables false
def Try.mulL_ren : Go.Shelf.Ren := ⟨fun | 212 => 48 | 263 => 51 | 264 => 52 | n => n, fun | 46 => 94 | 51 => 104 | 146 => 105 | 53 => 107 | 148 => 108 | n => n, fun | n => n⟩
theorem Try.mulL : Go.Proofs.Lays.n212 Try.prog Try.mulL_ren := {
  mixed := by kernel_rfl
  f212 := Try.func48.trans (congrArg some (by kernel_rfl))
  f263 := Try.func51.trans (congrArg some (by kernel_rfl))
  f264 := Try.func52.trans (congrArg some (by kernel_rfl))
  t46 := Try.underlying94
  a46 := Try.isAgg94
  z46 := Try.sizeOf94
  v46 := Try.zeroValue94
  t51 := Try.underlying104
  a51 := Try.isAgg104
  z51 := Try.sizeOf104
  v51 := Try.zeroValue104
  t53 := Try.underlying107
  a53 := Try.isAgg107
  z53 := Try.sizeOf107
  v53 := Try.zeroValue107
  t146 := Try.underlying105
  a146 := Try.isAgg105
  z146 := Try.sizeOf105
  v146 := Try.zeroValue105
  t148 := Try.underlying108
  a148 := Try.isAgg108
  z148 := Try.sizeOf108
  v148 := Try.zeroValue108 }
theorem mul_one (N : Nat) (hN : N ≤ 1000) (w : World) : Calls Try.prog 48 #[.int .u64 1, .int .u64 N] w fun e w' => e = .returned (.tuple #[.int .u64 0, .int .u64 N]) ∧ w' = w := by
  have h := Any.bits_Mul Try.mulL 1 N (by omega) (by omega) w
  change Calls Try.prog 48 _ _ _ at h
  have e1 : 1 * N / 18446744073709551616 = 0 := by omega
  have e2 : 1 * N % 18446744073709551616 = N := by omega
  rw [e1, e2] at h
  exact h
def fillF (z : Int) (k : Nat) : Nat → Int := fun j => if j < k then z else 0
theorem fill_row (z : Int) (N k m : Nat) (h : k + m ≤ N) : ((iarr (fillF z k) N).toList.take k ++ List.replicate m (Value.int .i64 z) ++ (iarr (fillF z k) N).toList.drop (k + m)).toArray = iarr (fillF z (k + m)) N := by
  apply Array.ext_getElem?
  intro i
  rw [List.getElem?_toArray]
  have hl : ((iarr (fillF z k) N).toList.take k).length = k := by simp [iarr_size]; omega
  by_cases hi : i < N
  · rw [iarr_get _ _ _ hi]
    by_cases h1 : i < k
    · rw [List.getElem?_append_left (by simp [iarr_size]; omega), List.getElem?_append_left (by omega), List.getElem?_take, if_pos h1, Array.getElem?_toList, iarr_get _ _ _ hi]
      unfold fillF
      rw [if_pos h1, if_pos (by omega)]
    · by_cases h2 : i < k + m
      · rw [List.getElem?_append_left (by simp [iarr_size]; omega), List.getElem?_append_right (by omega), hl, List.getElem?_replicate, if_pos (by omega)]
        unfold fillF
        rw [if_pos h2]
      · rw [List.getElem?_append_right (by simp [iarr_size]; omega), List.getElem?_drop]
        have e : k + m + (i - ((iarr (fillF z k) N).toList.take k ++ List.replicate m (Value.int .i64 z)).length) = i := by simp [iarr_size]; omega
        rw [e, Array.getElem?_toList, iarr_get _ _ _ hi]
        unfold fillF
        rw [if_neg (by omega), if_neg (by omega)]
  · rw [Array.getElem?_eq_none (by rw [iarr_size]; omega), List.getElem?_eq_none]
    simp [iarr_size]
    omega
theorem ints_elem : Try.prog.underlying 30 = some (.slice (Try.prog.elem 30)) := by kernel_rfl
theorem ints_size (w : World) : (sizeOf (Try.prog.elem 30)).run Try.prog w = .ok 1 w := by kernel_rfl
section
variable {P : Program} {Pn : List PanicEntry → World → Prop} {lo : List Oper} {K : World → Prop} {Lm : Act → World → Prop} {rest : List Nat} {i : Nat} {o : Oper} {a : Act} {w : World}
theorem pm_copy_run (hi0 : lo[i]? = some o) (hgd : o.guard = none) (s x : Operand) (t u : TypeId) (ho : o.op = .call { callee := .builtin .copy, args := #[s, x], argTypes := #[t, u] }) (v y v' : Value) (w2 : World) (hs : a.eval s = v) (hx : a.eval x = y)
    (hr : (Builtin.copy_ #[t, u] o.type #[v, y]).run P w = .ok v' w2) (hk : K w2) (hK : ∀ Kv : Act → World → Prop, (∀ a w, wpPlanM P lo.toArray K Pn Lm rest a w → Kv a w) → Kv (a.put o.dst v') w2) : wpPlanM P lo.toArray K Pn Lm (i :: rest) a w := by
  refine pm_eff hi0 hgd fun Kv hKv => ?_
  unfold execOp
  simp only [ho, resolve, invoke, builtin, Sem.run_bind, Sem.run_pure, Result.andThen_ok, List.map_toArray, List.map_cons, List.map_nil, hs, hx, hr]
  exact ⟨hk, hK Kv hKv⟩
end
theorem only_below {W w w' : World} {B g : Nat} (hb : Below B W w) (h : Only g w w') (hg : B ≤ g) : Below B W w' := hb.trans ⟨h.os, h.tape, h.output, by have := h.size; omega, fun k hk => h.block k (by omega)⟩
/-- copy into a row that is filled up to k, out of what holds z. -/
theorem copy_fill {W w : World} {B : Nat} (z : Int) (N k m gf sLen sCap : Nat) (a : Addr) (hS : SL W B [.blk gf (iarr (fillF z k) N) 2] w) (hk : k < N) (hm : m = Nat.min sLen (N - k)) (hsrc : ∀ j, j < m → w.cell? (a.add j) = some (.int .i64 z)) :
    ∃ w2, (∀ ty, (Builtin.copy_ #[30, 30] ty #[.slice (some ⟨gf, k, none⟩) (N - k) (N - k), .slice (some a) sLen sCap]).run Try.prog w = .ok (.int .i64 (m : Int)) w2) ∧ SL W B [.blk gf (iarr (fillF z (k + m)) N) 2] w2 := by
  have hmN : k + m ≤ N := by have : m ≤ N - k := hm ▸ Nat.min_le_right _ _; omega
  refine ⟨w.setRow gf (iarr (fillF z (k + m)) N), fun ty => ?_, ?_⟩
  · have h := run_copy_row (P := Try.prog) w 30 30 ty 2 gf k (N - k) (N - k) a sLen sCap (iarr (fillF z k) N) 2 (List.replicate m (.int .i64 z)) Try.underlying30 (by kernel_rfl) (hS.blk 0 rfl) (by simpa using hm)
      (fun j v hv => by
        rw [List.getElem?_replicate] at hv
        split at hv
        · rename_i hj; injection hv with hv; subst hv; exact hsrc j hj
        · cases hv) (by rw [iarr_size]; simpa using hmN) (by intro v hv; rw [List.mem_replicate] at hv; rw [hv.2]; rfl)
    rw [List.length_replicate, fill_row z N k m hmN] at h
    exact h
  · exact hS.only 0 rfl (only_setRow _ _ _) (setRow_heap _ _ _ _ _ _ (hS.blk 0 rfl))
set_option maxRecDepth 100000 in
set_option maxHeartbeats 4000000 in
theorem repeat_any (z : Int) (N g c : Nat) (w : World) (hN1 : 1 ≤ N) (hN : N ≤ 1000) (h0 : w.cell? ⟨g, 0, none⟩ = some (.int .i64 z)) :
    Calls Try.prog 41 #[.slice (some ⟨g, 0, none⟩) 1 c, .int .i64 N] w fun e w' => ∃ gf, e = .returned (.slice (some ⟨gf, 0, none⟩) N N) ∧ SL w w.heap.size [.blk gf (iarr (fun _ => z) N) 2] w' := by
  have hmul := mul_one N hN
  have hmk := make_ints N (by omega)
  have HS0 := Lib.hid (SL.start (Nat.le_refl w.heap.size))
  have H0 := Lib.hid h0
  clear h0
  go_enter Try.func41, Try.ntmps41
  go_upto_region 7 with (go_at_call 48; (with_reducible refine (hmul _).mono ?_); rintro e w1 ⟨rfl, hw1⟩; obtain rfl := hw1.symm)
  clear hmul
  have hS1 := HS0.out.alloc (iarr (fun _ => 0) N) 2
  have h01 := (hS1.below.cell (World.block_lt_of_cell? _ _ H0.out)).trans H0.out
  clear hmk
  generalize (w.alloc (.cells (iarr (fun _ => 0) N) 2)) = w1 at *
  obtain ⟨gf, hgf⟩ : ∃ gf, gf = w.heap.size := ⟨_, rfl⟩
  have HGF := Lib.hid hgf
  rw [← hgf] at hS1 ⊢
  clear hgf
  have e0 : iarr (fun _ => 0) N = iarr (fillF z 0) N := iarr_ext fun i _ => by unfold fillF; rw [if_neg (by omega)]
  rw [e0] at hS1
  obtain ⟨w2, hr, hS2⟩ := copy_fill z N 0 1 gf 1 c ⟨g, 0, none⟩ hS1 (by omega) (by show 1 = min 1 (N - 0); omega) (fun j hj => (by
    have e : j = 0 := by omega
    rw [e]
    exact h01))
  simp only [Nat.sub_zero, Nat.zero_add] at hr hS2
  have hr : ∀ ty, (Builtin.copy_ #[30, 30] ty #[.slice (some ⟨gf, 0, none⟩) N N, .slice (some ⟨g, 0, none⟩) 1 c]).run Try.prog w1 = .ok (.int .i64 1) w2 := hr
  have HS2 := Lib.hid hS2
  clear hS2 hS1 h01
  go_wp2_with fail
  go_loopw [8] (fun v8 wr => ∃ k : Nat, v8 = .int .i64 k ∧ 1 ≤ k ∧ k ≤ N ∧ SL w w.heap.size [.blk gf (iarr (fillF z k) N) 2] wr) (fun v8 _ => N - (intOf v8).toNat)
  case atStart => exact ⟨1, rfl, by omega, by omega, by rw [← HGF.out]; exact HS2.out⟩
  case round =>
    clear HS2 hr
    obtain ⟨k, rfl, hk1, hkN, hS⟩ := hrel
    by_cases hlt : k < N
    · have hki : (k : Int) < (N : Int) := by omega
      have s2 : ∀ w' : World, (Instr.slice 30 (.slice (some ⟨gf, 0, none⟩) N N) none (some (.int .i64 (k : Int))) none).run Try.prog w' = .ok (.slice (some ⟨gf, 0, none⟩) k N) w' := fun w' => by
        rw [run_slice_h (P := Try.prog) w' 30 _ _ _ ints_elem _ _ (by omega) (by omega), ints_size]
        simp [sliced, Addr.add]
      have s3 : ∀ w' : World, (Instr.slice 30 (.slice (some ⟨gf, 0, none⟩) N N) (some (.int .i64 (k : Int))) none none).run Try.prog w' = .ok (.slice (some ⟨gf, k, none⟩) (N - k) (N - k)) w' := fun w' => by
        rw [run_slice_l (P := Try.prog) w' 30 _ _ _ ints_elem _ _ (by omega) (by omega), ints_size]
        have e1 : ((k : Int)).toNat = k := by omega
        simp only [Result.andThen_ok, sliced, e1]
        rw [if_neg (by omega)]
        simp [Addr.add]
        omega
      have hcp : ∀ w', SL w w.heap.size [.blk gf (iarr (fillF z k) N) 2] w' → ∃ w2, (∀ ty, (Builtin.copy_ #[30, 30] ty #[.slice (some ⟨gf, k, none⟩) (N - k) (N - k), .slice (some ⟨gf, 0, none⟩) k N]).run Try.prog w' = .ok (.int .i64 ((Nat.min k (N - k) : Nat) : Int)) w2) ∧ SL w w.heap.size [.blk gf (iarr (fillF z (k + Nat.min k (N - k))) N) 2] w2 := fun w' h =>
        copy_fill z N k _ gf k N ⟨gf, 0, none⟩ h hlt rfl (fun j hj => by
          have hjk : j < k := Nat.lt_of_lt_of_le hj (Nat.min_le_left _ _)
          rw [Addr.add_mid, Nat.zero_add]
          have := h.cell 0 rfl j (iarr_get _ _ _ (by omega))
          rw [this]
          unfold fillF
          rw [if_pos hjk])
      have hmin : Nat.min k (N - k) ≤ k ∧ Nat.min k (N - k) ≤ N - k ∧ 1 ≤ Nat.min k (N - k) := by
        refine ⟨Nat.min_le_left _ _, Nat.min_le_right _ _, ?_⟩
        show 1 ≤ min k (N - k)
        omega
      generalize Nat.min k (N - k) = m at *
      have HCP := Lib.hid hcp
      clear hcp
      go_upto_region 9 with fail
      refine wp_region_sl [0,1,2,3,4,5,6] [7,8] [9] [] hS (by simp) (by kernel_rfl) (by kernel_rfl) (.cons rfl .nil) (fun C cw _ hC => ?_)
      repeat (refine pl_look rfl rfl rfl (fun Kv hK => ?_); go_big_quiet_op; refine hK _ ?_; clear hK Kv)
      clear hC
      refine pl_end ?_
      intro w3 hS3
      obtain ⟨w4, hr4, hS4⟩ := HCP.out w3 hS3
      refine pm_copy_run rfl rfl (.tmp 41) (.tmp 44) 30 30 rfl _ _ _ _ rfl rfl (hr4 _) (hS4.sub (by simp)) (fun Kv hK => hK _ _ ?_)
      have hkm : IntKind.i64.wrap ((k : Int) + (m : Int)) = ((k + m : Nat) : Int) := by rw [IntKind.wrap_i64]; omega
      refine pm_eff rfl rfl fun Kv hK => ?_
      go_simp
      refine ⟨hS4.sub (by simp), hK _ _ ?_⟩
      clear hK Kv
      refine pm_end ?_
      have HS4 := Lib.hid hS4
      clear hS hS3 hS4 hr4 HCP s2 s3
      go_wp2_with fail
      go_roundw
      case rel => exact ⟨k + m, rfl, by omega, by omega, HS4.out⟩
      case measure => simp [intOf]; omega
    · obtain rfl : k = N := by omega
      have HS := Lib.hid hS
      clear hS
      go_wp2_with fail
      go_ret
      refine ⟨gf, rfl, ?_⟩
      have h := HS.out
      rw [iarr_ext (g := fun _ => z) (fun i hi => by unfold fillF; rw [if_pos hi])] at h
      exact h
end Go.Proofs.Ytgnmbmlpfjlbiaa
