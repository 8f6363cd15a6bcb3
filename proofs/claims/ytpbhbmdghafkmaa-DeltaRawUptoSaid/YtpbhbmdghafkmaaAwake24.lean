/- law24.Awake: a fixed fact. (printed by gen/awake24.py) -/
import Derived.Test.YtpbhbmdghafkmaaOne
import Derived.Test.YtpbhbmdghafkmaaDelta24
import Derived.Test.YtpbhbmdghafkmaaAwake23
namespace Go.Proofs.Ytpbhbmdghafkmaa
open Go.ChangeShapes Go.WideShapes Go.ChangeAt Go.RowKit
set_option linter.unusedVariables false
set_option linter.unusedSimpArgs false
def oneCost24 : InstV := { oneInst with cost := [[0, 0, 0], [0, 0, 3], [0, 4, 0]] }
theorem oneCost24_small : oneCost24.Small := by
 unfold oneCost24 oneInst
 refine ⟨by decide, by decide, by decide, by decide, by decide, by decide, by decide, ?_, ?_, by decide, by decide, by decide, by decide⟩
 · intro s hs; simp at hs; subst hs; simp
 · intro s hs; simp at hs; subst hs; simp
theorem change24_ex : changeM oneCost24 [⟨0, [0]⟩] ⟨2, 0, 0, 0, 0⟩ = some 0 := by decide +kernel
theorem rounds24_ex : roundsOf oneCost24 [⟨0, [0]⟩, ⟨0, []⟩] = 7 := by decide +kernel
theorem list3' {α : Type} {l : List α} (h : l.length = 3) : ∃ a b c, l = [a, b, c] := by
 match l, h with
 | [a, b, c], _ => exact ⟨a, b, c, rfl⟩
theorem bikes_one {w : World} {n m : Nat} {t1 t2 : TypeId} (h0 : w.heap[n]? = some (.cells #[.int .i64 0] t1 (0, 0))) (h1 : w.heap[m]? = some (.cells #[.int .i64 0, .slice (some ⟨n, 0, none⟩) 1 1] t2 (0, 0))) : Bikes w w.heap.size (some ⟨m, 0, none⟩) [⟨0, [0]⟩] := by
 refine ⟨fun _ => ⟨some ⟨n, 0, none⟩, 1⟩, reads_blk (n := 1) (size := 2) h1 rfl, fun i hi => ?_⟩
 have : i = 0 := by simp at hi; exact hi
 subst this
 exact reads_blk (n := 1) (size := 1) h0 rfl
theorem bikes_two {w : World} {n m : Nat} {t1 t2 : TypeId} (h0 : w.heap[n]? = some (.cells #[.int .i64 0] t1 (0, 0))) (h1 : w.heap[m]? = some (.cells #[.int .i64 0, .slice (some ⟨n, 0, none⟩) 1 1, .int .i64 0, .slice none 0 0] t2 (0, 0))) : Bikes w w.heap.size (some ⟨m, 0, none⟩) [⟨0, [0]⟩, ⟨0, []⟩] := by
 refine ⟨fun i => if i = 0 then ⟨some ⟨n, 0, none⟩, 1⟩ else ⟨none, 0⟩, reads_blk (n := 2) (size := 2) h1 rfl, fun i hi => ?_⟩
 have : i = 0 ∨ i = 1 := by simp at hi; omega
 rcases this with rfl | rfl
 · exact reads_blk (n := 1) (size := 1) h0 rfl
 · exact reads_nil _ _ _
set_option maxRecDepth 100000 in
set_option maxHeartbeats 8000000 in
theorem awake24 (w : World) : Calls Try.prog 19 #[] w fun e w' => e = .returned (.bool true) ∧ Below w.heap.size w w' := by
 have HON := Lib.hid (one_any w)
 go_enter Try.func19, Try.ntmps19
 go_wp2_with fail
 (with_reducible refine HON.out.mono ?_)
 rintro e w1 ⟨p, hk, ht, he, h1, h2, hS⟩
 obtain ⟨h0, h1', h2', rfl⟩ := list3' (show hk.length = 3 from h1)
 obtain ⟨k0, k1, k2, rfl⟩ := list3' (show ht.length = 3 from h2)
 obtain ⟨gk, ok, kc, hKA⟩ : ∃ g o c, Value.slice p.KA 3 p.kc = .slice (some ⟨g, o, none⟩) 3 c := by
  rcases (hS.row 2 rfl).in_ with h | ⟨g, o, c, h, _⟩
  · exact absurd h (by decide)
  · exact ⟨g, o, c, h⟩
 obtain ⟨g1, o1, c1', h1e⟩ : ∃ g o c, h1' = .slice (some ⟨g, o, none⟩) 3 c := by
  rcases (hS.row 5 rfl).in_ with h | ⟨g, o, c, h, _⟩
  · exact absurd h (by decide)
  · exact ⟨g, o, c, h⟩
 obtain ⟨g2, o2, c2', h2e⟩ : ∃ g o c, h2' = .slice (some ⟨g, o, none⟩) 3 c := by
  rcases (hS.row 6 rfl).in_ with h | ⟨g, o, c, h, _⟩
  · exact absurd h (by decide)
  · exact ⟨g, o, c, h⟩
 have hic2 : oneInst.cells p = #[.int .i64 40, .int .i64 1, .int .i64 5, .int .i64 1, .int .i64 3, .slice p.SA 1 p.sc, .slice p.CA 1 p.cc, .slice (some ⟨gk, ok, none⟩) 3 kc, .slice p.TA 3 p.tc] := by
  show #[Value.int .i64 40, .int .i64 1, .int .i64 5, .int .i64 1, .int .i64 3, .slice p.SA 1 p.sc, .slice p.CA 1 p.cc, .slice p.KA 3 p.kc, .slice p.TA 3 p.tc] = _
  rw [hKA]
 rw [hic2] at he
 subst he
 have hS2 := hS.alloc #[.int .i64 40, .int .i64 1, .int .i64 5, .int .i64 1, .int .i64 3, .slice p.SA 1 p.sc, .slice p.CA 1 p.cc, .slice (some ⟨gk, ok, none⟩) 3 kc, .slice p.TA 3 p.tc] 58
 have HKA := Lib.hid hKA
 subst h1e h2e
 obtain ⟨SA, sc, CA, cc, KA, kc2, TA, tc⟩ := p
 obtain ⟨rfl, rfl⟩ : KA = some ⟨gk, ok, none⟩ ∧ kc = kc2 := by simpa [eq_comm] using hKA
 have HS2 := Lib.hid hS2
 clear hS hS2 hic2 h1 h2 HON hKA HKA
 go_upto_region 2 with fail
 obtain ⟨xb, hxb⟩ : ∃ xb, xb = w1.heap.size := ⟨_, rfl⟩
 try dsimp only at HS2
 generalize (w1.alloc (.cells #[.int .i64 40, .int .i64 1, .int .i64 5, .int .i64 1, .int .i64 3, .slice SA 1 sc, .slice CA 1 cc, .slice (some ⟨gk, ok, none⟩) 3 kc, .slice TA 3 tc] 58)) = w2 at *
 rw [← hxb] at HS2 ⊢
 clear hxb
 refine wp_region_sl [0,1,2,3,4,5,6,7] [] [8,9,10,11] _ HS2.out (List.Sublist.refl _) (by kernel_rfl) (by kernel_rfl) (.cons rfl (.cons rfl (.cons rfl (.cons rfl .nil)))) (fun C cw _ hC => ?_)
 have q0 : ∀ c, (cw c).cell? ⟨xb, 7, none⟩ = some (.slice (some ⟨gk, ok, none⟩) 3 kc) := fun c => (hC c).cell 0 rfl 7 rfl
 have q1 : ∀ c, (cw c).cell? ⟨gk, ok + 1, none⟩ = some (.slice (some ⟨g1, o1, none⟩) 3 c1') := fun c => (hC c).rowCell 3 rfl 1 rfl
 have q2 : ∀ c, (cw c).cell? ⟨gk, ok + 2, none⟩ = some (.slice (some ⟨g2, o2, none⟩) 3 c2') := fun c => (hC c).rowCell 3 rfl 2 rfl
 repeat (refine pl_look rfl rfl rfl (fun Kv hK => ?_); go_big_quiet_op; refine hK _ ?_; clear hK Kv)
 clear q0 q1 q2 hC HS2
 refine pl_end ?_
 intro w5 hS5
 refine pm_end ?_
 have y0 : w5.cell? ⟨g1, o1 + 2, none⟩ = some (.int .i64 0) := hS5.rowCell 6 rfl 2 rfl
 have y0f := hS5.rowFree 6 rfl (o1 + 2) (by decide)
 have hS6 := hS5.setRowCell 6 rfl 2 (by decide) (.int .i64 3)
 have y1 : (w5.setCell ⟨g1, o1 + 2, none⟩ (.int .i64 3)).cell? ⟨g2, o2 + 1, none⟩ = some (.int .i64 0) := hS6.rowCell 7 rfl 1 rfl
 have y1f := hS6.rowFree 7 rfl (o2 + 1) (by decide)
 have HS7 := Lib.hid (hS6.setRowCell 7 rfl 1 (by decide) (.int .i64 4))
 clear hS5 hS6
 go_upto_region 3 with fail
 clear y0 y0f y1 y1f
 have hS7 : SL w w.heap.size (.blk xb #[.int .i64 40, .int .i64 1, .int .i64 5, .int .i64 1, .int .i64 3, .slice SA 1 sc, .slice CA 1 cc, .slice (some ⟨gk, ok, none⟩) 3 kc, .slice TA 3 tc] 58 :: instRs ⟨SA, sc, CA, cc, some ⟨gk, ok, none⟩, kc, TA, tc⟩ oneCost24 [h0, .slice (some ⟨g1, o1, none⟩) 3 c1', .slice (some ⟨g2, o2, none⟩) 3 c2'] [k0, k1, k2]) _ := HS7.out
 generalize ((w5.setCell ⟨g1, o1 + 2, none⟩ (.int .i64 3)).setCell ⟨g2, o2 + 1, none⟩ (.int .i64 4)) = w6 at *
 clear HS7
 have HS7 := Lib.hid hS7
 have HIN : Hid (InstIn w6 w6.heap.size ⟨SA, sc, CA, cc, some ⟨gk, ok, none⟩, kc, TA, tc⟩ oneCost24) := Lib.hid (instIn_own hS7 (fun r hr => by simp only [List.mem_cons]; exact .inr hr) rfl rfl)
 have hS8 := (hS7.alloc #[.int .i64 0] 3).alloc #[.int .i64 0, .slice (some ⟨w6.heap.size, 0, none⟩) 1 1] 44
 have hsz : (w6.alloc (.cells #[.int .i64 0] 3)).heap.size = w6.heap.size + 1 := Array.size_push _
 rw [hsz] at hS8
 obtain ⟨n, hn⟩ : ∃ n, w6.heap.size = n := ⟨_, rfl⟩
 obtain ⟨w8, hw8⟩ : ∃ w8, (w6.alloc (.cells #[.int .i64 0] 3)).alloc (.cells #[.int .i64 0, .slice (some ⟨w6.heap.size, 0, none⟩) 1 1] 44) = w8 := ⟨_, rfl⟩
 rw [hw8] at hS8
 have HW8 := Lib.hid (And.intro hn hw8)
 rw [hn] at hS8
 have HS8 := Lib.hid hS8
 have HCH : Hid (Calls Try.prog 25 #[.agg #[.int .i64 40, .int .i64 1, .int .i64 5, .int .i64 1, .int .i64 3, .slice SA 1 sc, .slice CA 1 cc, .slice (some ⟨gk, ok, none⟩) 3 kc, .slice TA 3 tc], .slice (some ⟨n + 1, 0, none⟩) 1 1, .agg #[.int .i64 2, .int .i64 0, .int .i64 0, .int .i64 0, .int .i64 0]] w8 fun e w' => e = .returned (.tuple #[.int .i64 0, .bool true]) ∧ Below w8.heap.size w8 w') := Lib.hid (by
  have hI := instIn_own hS8 (fun r hr => by simp only [List.mem_cons]; exact .inr (.inr (.inr hr))) rfl rfl
  have h := change_any oneCost24 ⟨SA, sc, CA, cc, some ⟨gk, ok, none⟩, kc, TA, tc⟩ (some ⟨n + 1, 0, none⟩) 1 [⟨0, [0]⟩] 2 0 0 0 0 w8 hI oneCost24_small (bikes_one (hS8.blk 1 rfl) (hS8.blk 0 rfl)) (by decide) (by decide)
  rw [change24_ex] at h
  refine h.mono fun e w' hh => ?_
  obtain ⟨⟨d, okk, rfl, rfl, rfl⟩, hb⟩ := hh
  exact ⟨rfl, hb⟩)
 clear hS7 hS8 hsz hn hw8
 have a0 : w6.cell? ⟨xb, 0, none⟩ = some (.int .i64 40) := HS7.out.cell 0 rfl 0 rfl
 have a1 : w6.cell? ⟨xb, 1, none⟩ = some (.int .i64 1) := HS7.out.cell 0 rfl 1 rfl
 have a2 : w6.cell? ⟨xb, 2, none⟩ = some (.int .i64 5) := HS7.out.cell 0 rfl 2 rfl
 have a3 : w6.cell? ⟨xb, 3, none⟩ = some (.int .i64 1) := HS7.out.cell 0 rfl 3 rfl
 have a4 : w6.cell? ⟨xb, 4, none⟩ = some (.int .i64 3) := HS7.out.cell 0 rfl 4 rfl
 have a5 : w6.cell? ⟨xb, 5, none⟩ = some (.slice SA 1 sc) := HS7.out.cell 0 rfl 5 rfl
 have a6 : w6.cell? ⟨xb, 6, none⟩ = some (.slice CA 1 cc) := HS7.out.cell 0 rfl 6 rfl
 have a7 : w6.cell? ⟨xb, 7, none⟩ = some (.slice (some ⟨gk, ok, none⟩) 3 kc) := HS7.out.cell 0 rfl 7 rfl
 have a8 : w6.cell? ⟨xb, 8, none⟩ = some (.slice TA 3 tc) := HS7.out.cell 0 rfl 8 rfl
 have HCR : Hid (Calls Try.prog 25 #[.agg #[.int .i64 40, .int .i64 1, .int .i64 5, .int .i64 1, .int .i64 3, .slice SA 1 sc, .slice CA 1 cc, .slice (some ⟨gk, ok, none⟩) 3 kc, .slice TA 3 tc], .slice (some ⟨w6.heap.size + 1, 0, none⟩) 1 1, .agg #[.int .i64 2, .int .i64 0, .int .i64 0, .int .i64 0, .int .i64 0]] ((w6.alloc (.cells #[.int .i64 0] 3)).alloc (.cells #[.int .i64 0, .slice (some ⟨w6.heap.size, 0, none⟩) 1 1] 44)) fun e w' => e = .returned (.tuple #[.int .i64 0, .bool true]) ∧ Below w8.heap.size w8 w') := Lib.hid (by
  have h := HCH.out
  rw [← HW8.out.1] at h
  rw [HW8.out.2]
  exact h)
 go_upto_region 4 with (go_at_call 25; (with_reducible refine HCR.out.mono ?_); rintro e w10 ⟨rfl, hb10⟩
                        have HS10 := Lib.hid (HS8.out.call hb10).tail.tail
                        clear hb10 HCH HCR)
 clear a0 a1 a2 a3 a4 a5 a6 a7 a8
 have hS10 := HS10.out
 have hS12 := (hS10.alloc #[.int .i64 0] 3).alloc #[.int .i64 0, .slice (some ⟨w10.heap.size, 0, none⟩) 1 1, .int .i64 0, .slice none 0 0] 44
 have hsz : (w10.alloc (.cells #[.int .i64 0] 3)).heap.size = w10.heap.size + 1 := Array.size_push _
 rw [hsz] at hS12
 have HRR : Hid (Calls Try.prog 23 #[.agg #[.int .i64 40, .int .i64 1, .int .i64 5, .int .i64 1, .int .i64 3, .slice SA 1 sc, .slice CA 1 cc, .slice (some ⟨gk, ok, none⟩) 3 kc, .slice TA 3 tc], .slice (some ⟨w10.heap.size + 1, 0, none⟩) 2 2] ((w10.alloc (.cells #[.int .i64 0] 3)).alloc (.cells #[.int .i64 0, .slice (some ⟨w10.heap.size, 0, none⟩) 1 1, .int .i64 0, .slice none 0 0] 44)) fun e w' => e = .returned (.int .i64 7) ∧ Below ((w10.alloc (.cells #[.int .i64 0] 3)).alloc (.cells #[.int .i64 0, .slice (some ⟨w10.heap.size, 0, none⟩) 1 1, .int .i64 0, .slice none 0 0] 44)).heap.size ((w10.alloc (.cells #[.int .i64 0] 3)).alloc (.cells #[.int .i64 0, .slice (some ⟨w10.heap.size, 0, none⟩) 1 1, .int .i64 0, .slice none 0 0] 44)) w') := Lib.hid (by
  have hI := instIn_own hS12 (fun r hr => by simp only [List.mem_cons]; exact .inr (.inr (.inr hr))) rfl rfl
  have h := rounds_any oneCost24 ⟨SA, sc, CA, cc, some ⟨gk, ok, none⟩, kc, TA, tc⟩ (some ⟨w10.heap.size + 1, 0, none⟩) 2 [⟨0, [0]⟩, ⟨0, []⟩] _ hI oneCost24_small (bikes_two (hS12.blk 1 rfl) (hS12.blk 0 rfl)) (by decide) (by decide)
  rw [rounds24_ex] at h
  exact h)
 have HS12 := Lib.hid hS12
 clear hS12 hsz
 have a0 : w10.cell? ⟨xb, 0, none⟩ = some (.int .i64 40) := hS10.cell 0 rfl 0 rfl
 have a1 : w10.cell? ⟨xb, 1, none⟩ = some (.int .i64 1) := hS10.cell 0 rfl 1 rfl
 have a2 : w10.cell? ⟨xb, 2, none⟩ = some (.int .i64 5) := hS10.cell 0 rfl 2 rfl
 have a3 : w10.cell? ⟨xb, 3, none⟩ = some (.int .i64 1) := hS10.cell 0 rfl 3 rfl
 have a4 : w10.cell? ⟨xb, 4, none⟩ = some (.int .i64 3) := hS10.cell 0 rfl 4 rfl
 have a5 : w10.cell? ⟨xb, 5, none⟩ = some (.slice SA 1 sc) := hS10.cell 0 rfl 5 rfl
 have a6 : w10.cell? ⟨xb, 6, none⟩ = some (.slice CA 1 cc) := hS10.cell 0 rfl 6 rfl
 have a7 : w10.cell? ⟨xb, 7, none⟩ = some (.slice (some ⟨gk, ok, none⟩) 3 kc) := hS10.cell 0 rfl 7 rfl
 have a8 : w10.cell? ⟨xb, 8, none⟩ = some (.slice TA 3 tc) := hS10.cell 0 rfl 8 rfl
 have hxl := (hS10.lt 0 rfl).2
 clear hS10
 go_wp2_with first
  | (go_at_call 23; (with_reducible refine HRR.out.mono ?_); rintro e w13 ⟨rfl, hb13⟩
     have HS13 := Lib.hid (HS12.out.call hb13)
     clear hb13 HRR)
  | (go_at_call 12; (with_reducible refine (awake23 _).mono ?_); rintro e w14 ⟨rfl, hb14⟩
     have HS14 := Lib.hid (HS13.out.call hb14)
     clear hb14)
 go_ret
 exact ⟨rfl, HS14.out.below⟩
end Go.Proofs.Ytpbhbmdghafkmaa
