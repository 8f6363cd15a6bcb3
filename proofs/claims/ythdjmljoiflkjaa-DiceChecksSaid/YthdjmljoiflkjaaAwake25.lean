/- law25.Awake: it answers true. -/
import Derived.Test.YthdjmljoiflkjaaTry
import Derived.Test.YthdjmljoiflkjaaEqual
import Derived.Test.YthdjmljoiflkjaaGraphAwake
namespace Go.Proofs.Ythdjmljoiflkjaa
open Go.ChangeShapes Go.WideShapes Go.ChangeAt Go.RowKit
set_option linter.unusedVariables false
theorem SL.readsB {W w : World} {B : Nat} {l : List Rs} (h : SL W B l w) (i : Nat) {g : Nat} {cs : Array Value} {t : TypeId} (hi : l[i]? = some (.blk g cs t)) {size n B' : Nat} (hn : cs.size = n * size) (hB : g < B') : Reads w B' size (some ⟨g, 0, none⟩) n cs.toList := by
  obtain ⟨h1, h2⟩ := reads_lit (h.blk i hi) hn
  refine ⟨h1, fun h0 => ?_⟩
  obtain ⟨ad, e, hb, hc⟩ := h2 h0
  injection e with e
  subst e
  exact ⟨_, rfl, hB, hc⟩
theorem int_info25 : (Try.prog.info? 3).map (fun i => (i.zero, i.size, i.bytes)) = some (some (.int .i64 0), 1, 8) := by kernel_rfl
/-- What Awake's dice does. -/
def AwR (g L : Nat) (b : Bool) (m : Nat) (l : List Rs) : Prop := b = true ∧ m = 2 ∧ ∃ v, l = [.row 3 1 v 3 [.int .i64 2, .int .i64 0, .int .i64 9], .blk L #[.int .u32 7, .int .u32 9] 31, .blk g #[v] 63]
set_option maxHeartbeats 1000000 in
theorem awake25_do (W w3 : World) (B s g L : Nat) (hg : g < L) (hL : L < s) (hS : SL W B (.blk (s + 1 + 1 + 1) #[.pointer (some ⟨s + 1 + 1, 0, none⟩)] 28 :: .blk (s + 1 + 1) #[.slice (some ⟨L, 0, none⟩) 2 2, .int .i64 0] 68 :: .blk (s + 1) #[.bool false] 4 :: .blk s #[.int .i64 0] 3 ::
      [.row 3 1 (.slice none 0 0) 0 [], .blk L #[.int .u32 7, .int .u32 9] 31, .blk g #[.slice none 0 0] 63]) w3) :
    Calls Try.prog 34 #[.pointer (some ⟨s + 1 + 1, 0, none⟩), .pointer (some ⟨g, 0, none⟩)] w3 (DoPost W B s (some ⟨L, 0, none⟩) 2 2 (AwR g L)) := by
  obtain ⟨i0, hi0, hz0, hz1, hz2⟩ := info_parts int_info25
  have HI := Lib.hid (And.intro hi0 (And.intro hz0 (And.intro hz1 hz2)))
  clear hi0 hz0 hz1 hz2
  go_enter Try.func34, Try.ntmps34
  go_wp2_with fail
  refine wp_region_sl [0,1,3,5] [2,4,6,7,8,9] [10] [.blk g #[.slice none 0 0] 63] hS (by simp) (by kernel_rfl) (by kernel_rfl) (.cons rfl .nil) (fun C cw _ hC => ?_)
  have q0 : ∀ c, (cw c).cell? ⟨g, 0, none⟩ = some (.slice none 0 0) := fun c => (hC c).cell 0 rfl 0 rfl
  repeat (refine pl_look rfl rfl rfl (fun Kv hK => ?_); go_big_quiet_op; refine hK _ ?_; clear hK Kv)
  clear q0 hC
  refine pl_end ?_
  intro w1 hS1
  refine pm_eff rfl rfl fun Kv hK => ?_
  go_simp
  refine eff_call (pick_yes w1 (s + 1 + 1) (s + 1 + 1) (some ⟨L, 0, none⟩) 2 [7, 9] 0 5 (hS1.blk 1 rfl) (hS1.readsB 5 rfl (size := 1) (n := 2) rfl (by omega)) (Nat.le_refl _) (by decide) (by unfold maxLen; decide) (by decide) (by decide) (by decide) (by decide)) (fun e w2 h => ?_)
  obtain ⟨rfl, hgr, hdc⟩ := h
  have hS2 : SL W B (.blk (s + 1 + 1 + 1) #[.pointer (some ⟨s + 1 + 1, 0, none⟩)] 28 :: .blk (s + 1 + 1) #[.slice (some ⟨L, 0, none⟩) 2 2, .int .i64 1] 68 :: .blk (s + 1) #[.bool false] 4 :: .blk s #[.int .i64 0] 3 ::
      [.row 3 1 (.slice none 0 0) 0 [], .blk L #[.int .u32 7, .int .u32 9] 31, .blk g #[.slice none 0 0] 63]) w2 := hS1.wrote 1 rfl hgr hdc
  clear hgr hdc hS1 hS
  refine .inl ⟨_, rfl, hS2.sub (by simp), hK _ _ ?_⟩
  clear hK Kv
  refine pm_eff rfl rfl fun Kv hK => ?_
  go_simp
  refine eff_call (pick_none w2 (s + 1 + 1) 0 (by decide)) (fun e w3 h => ?_)
  obtain ⟨rfl, rfl⟩ := h
  refine .inl ⟨_, rfl, hS2.sub (by simp), hK _ _ ?_⟩
  clear hK Kv
  refine pm_eff rfl rfl fun Kv hK => ?_
  go_simp
  refine eff_call (next_yes w2 (s + 1 + 1) (s + 1 + 1) (some ⟨L, 0, none⟩) 2 [7, 9] 1 (hS2.blk 1 rfl) (hS2.readsB 5 rfl (size := 1) (n := 2) rfl (by omega)) (Nat.le_refl _) (by decide) (by unfold maxLen; decide)) (fun e w4 h => ?_)
  obtain ⟨rfl, hgr, hdc⟩ := h
  have hS4 : SL W B (.blk (s + 1 + 1 + 1) #[.pointer (some ⟨s + 1 + 1, 0, none⟩)] 28 :: .blk (s + 1 + 1) #[.slice (some ⟨L, 0, none⟩) 2 2, .int .i64 2] 68 :: .blk (s + 1) #[.bool false] 4 :: .blk s #[.int .i64 0] 3 ::
      [.row 3 1 (.slice none 0 0) 0 [], .blk L #[.int .u32 7, .int .u32 9] 31, .blk g #[.slice none 0 0] 63]) w4 := hS2.wrote 1 rfl hgr hdc
  clear hgr hdc hS2
  refine .inl ⟨_, rfl, hS4.sub (by simp), hK _ _ ?_⟩
  clear hK Kv
  refine pm_eff rfl rfl fun Kv hK => ?_
  go_simp
  refine ⟨hS4.sub (by simp), hK _ _ ?_⟩
  clear hK Kv
  refine pm_eff rfl rfl fun Kv hK => ?_
  go_simp
  refine ⟨(hS4.alloc _ _).sub (by simp), hK _ _ ?_⟩
  clear hK Kv
  refine pm_append rfl rfl (.tmp 3) (.tmp 11) 63 rfl hS4 4 i0 _ 1 8 Try.underlying63 HI.out.1 HI.out.2.1 HI.out.2.2.1 HI.out.2.2.2 rfl (by decide) (.slice none 0 0) 0 3 _ rfl rfl _ rfl rfl (by decide) rfl (by simp [Value.oneCell']) (by decide) (by decide) ?_
  intro v' w' hS5 hz5
  refine ⟨hS5.sub (by simp), fun Kv hK => hK _ _ ?_⟩
  refine pm_end ?_
  obtain ⟨A', c', rfl, _, _⟩ := (hS5.row 4 rfl).slice_
  have e1 : w'.cell? ⟨g, 0, none⟩ = some (.slice none 0 0) := hS5.cell 6 rfl 0 rfl
  have e2 := hS5.free 6 rfl 0
  have hS6 : SL W B _ _ := hS5.setCell 6 rfl 0 (.slice A' 3 c')
  clear hS5 hS4
  go_wp2
  go_end0
  exact ⟨2, _, hS6, .inl ⟨rfl, rfl, rfl, _, rfl⟩⟩
set_option maxHeartbeats 1000000 in
theorem awake25 (w : World) : Calls Try.prog 11 #[] w fun e w' => e = .returned (.bool true) ∧ Below w.heap.size w w' := by
  have hmf : ∀ (fn : Fn) (first cap : Array Value) (w : World), (Instr.makeFunc fn first cap).run Try.prog w = .ok (.func fn first cap) w := fun _ _ _ _ => rfl
  have hcf : ∀ args w', (callFunc 34 args).run Try.prog w' = .ok (.enter 34 args) w' := fun _ _ => by simp [go_sem]
  have HCF := Lib.hid hcf
  clear hcf
  go_enter Try.func11, Try.ntmps11
  have hS0 := (((SL.start (Nat.le_refl w.heap.size)).alloc #[.slice none 0 0] 63).alloc #[.int .u32 7, .int .u32 9] 31).nil 3 1
  have hS1 : SL w w.heap.size [.row 3 1 (.slice none 0 0) 0 [], .blk (w.heap.size + 1) #[.int .u32 7, .int .u32 9] 31, .blk w.heap.size #[.slice none 0 0] 63] ((w.alloc (.cells #[.slice none 0 0] 63)).alloc (.cells #[.int .u32 7, .int .u32 9] 31)) := by simpa using hS0
  have HT := Lib.hid (try_any 34 #[.pointer (some ⟨w.heap.size, 0, none⟩)] (some ⟨w.heap.size + 1, 0, none⟩) 2 2 w _ w.heap.size (w.heap.size + 1 + 1) [.row 3 1 (.slice none 0 0) 0 [], .blk (w.heap.size + 1) #[.int .u32 7, .int .u32 9] 31, .blk w.heap.size #[.slice none 0 0] 63] (AwR w.heap.size (w.heap.size + 1)) (by simp) hS1 HCF.out
    (fun w3 hS3 => awake25_do w w3 w.heap.size (w.heap.size + 1 + 1) w.heap.size (w.heap.size + 1) (by omega) (by omega) hS3))
  clear hS0 hS1
  go_wp2_with (first
    | (go_at_call 12; (with_reducible refine HT.out.mono ?_); rintro e w2 ⟨b, m, l', rfl, ⟨rfl, rfl, v, rfl⟩, hS⟩
       obtain ⟨A', c', rfl, _, _⟩ := (hS.row 0 rfl).slice_
       have c0 : w2.cell? ⟨w.heap.size, 0, none⟩ = some (.slice A' 3 c') := hS.cell 2 rfl 0 rfl
       have HS := Lib.hid hS
       clear hS))
  have hS5 := HS.out.alloc #[.int .i64 2, .int .i64 0, .int .i64 9] 3
  have hE := equal_ints A' (some ⟨w2.heap.size, 0, none⟩) c' 3 [2, 0, 9] _ (hS5.reads 1 rfl) (reads_lit (size := 1) (n := 3) (hS5.blk 0 rfl) rfl) (by unfold maxLen; decide)
  refine hE.mono ?_
  rintro e w5 ⟨rfl, hb5⟩
  have HB := Lib.hid (hS5.call hb5)
  clear hE hb5 hS5 c0
  dsimp only
  go_wp2
  go_ret
  exact ⟨rfl, HB.out.below⟩
end Go.Proofs.Ythdjmljoiflkjaa
