/- The walk of law OrderSorts. -/
import Derived.Test.YtaaffahjlkfbgaaOrd
namespace Go.Proofs.Ytaaffahjlkfbgaa
open Go.ChangeShapes Go.WideShapes Go.ChangeAt Go.RowKit
set_option linter.unusedVariables false
set_option maxRecDepth 100000 in
set_option maxHeartbeats 8000000 in
theorem orderSorts0 (W : World) (n : Int) (A : Option Addr) (cap : Nat) (l : List LinkV) (hr : Links W W.heap.size A l) (hl : l.length ≤ maxLen) (hok : ∀ a ∈ l, a.ok) (n0 : 0 ≤ n) (n1 : n ≤ 255) :
    Calls Try.prog 8 #[.int .u8 n, .slice A l.length cap] W fun e w' => e = .returned (.bool true) ∧ Below W.heap.size W w' := by
  have HS0 := Lib.hid (SL.start (Nat.le_refl W.heap.size))
  obtain ⟨N, L, hlo, hgr⟩ := lawO_pack cap hr hl hok n0 n1
  obtain ⟨out, hg, hs⟩ := exists_out N L
  have HLO := Lib.hid hlo
  have HGR := Lib.hid hgr
  have hzl : (ordL N out).length ≤ maxLen := by
    have := hg.len
    have := hlo.n8
    unfold ordL maxLen
    split
    · omega
    · simp
  have HZL := Lib.hid hzl
  have HG := Lib.hid (And.intro hg hs)
  obtain ⟨okb, hokb⟩ : ∃ okb, decide (out.length = N) = okb := ⟨_, rfl⟩
  have HOKB := Lib.hid hokb
  obtain ⟨zs, hzs⟩ : ∃ zs, ordL N out = zs := ⟨_, rfl⟩
  have HZS := Lib.hid hzs
  rw [hzs] at HZL
  have HSO : Hid (∀ w (A : Option Addr) (cap : Nat), Arcs w w.heap.size A L → Calls Try.prog 32 #[.agg #[.int .i64 N, .slice A L.length cap]] w fun e w' => ∃ A' c', e = .returned (.tuple #[.slice A' zs.length c', .bool okb]) ∧ SL w w.heap.size [.row 3 1 (.slice A' zs.length c') zs.length (zs.map (.int .i64))] w') := Lib.hid (fun w A cap hr => by
    have h := sort_of N A cap L w hr HLO.out.check HG.out.1 HG.out.2
    unfold OrdPost at h
    rw [HZS.out, HOKB.out] at h
    exact h)
  have HSD : Hid (∀ w (A : Option Addr) (cap : Nat), Arcs w w.heap.size A L → Calls Try.prog 33 #[.agg #[.int .i64 N, .slice A L.length cap]] w fun e w' => ∃ A' c', e = .returned (.tuple #[.slice A' zs.length c', .bool okb]) ∧ SL w w.heap.size [.row 3 1 (.slice A' zs.length c') zs.length (zs.map (.int .i64))] w') := Lib.hid (fun w A cap hr => by
    have h := sorted_of N A cap L w hr HLO.out.check HG.out.1 HG.out.2
    unfold OrdPost at h
    rw [HZS.out, HOKB.out] at h
    exact h)
  clear hr hok hlo hgr hg hs hzl hokb hzs
  go_enter Try.func8, Try.ntmps8
  go_upto_region 4 with (first
    | (go_at_call 31; (with_reducible refine (awake08 _).mono ?_); rintro e w1 ⟨rfl, hb1⟩; have HS1 := Lib.hid (HS0.out.call hb1); clear hb1)
    | (go_at_call 23; (with_reducible refine (HGR.out _ HS1.out.below).mono ?_); rintro e w2 ⟨v, rfl, hS⟩
       obtain ⟨A2, c2, rfl, _, _⟩ := (hS.row 0 rfl).slice_
       have hS2 := HS1.out.join hS
       clear hS))
  have hS3 := hS2.alloc #[.int .i64 N, .slice A2 L.length c2] 45
  obtain ⟨gb, hgb⟩ : ∃ gb, gb = w2.heap.size := ⟨_, rfl⟩
  generalize (w2.alloc (.cells #[.int .i64 N, .slice A2 L.length c2] 45)) = w3 at *
  rw [← hgb] at hS3 ⊢
  clear hgb hS2
  have c0 : w3.cell? ⟨gb, 0, none⟩ = some (.int .i64 N) := hS3.cell 0 rfl 0 rfl
  have c1 : w3.cell? ⟨gb, 1, none⟩ = some (.slice A2 L.length c2) := hS3.cell 0 rfl 1 rfl
  have HM := Lib.hid (HSO.out _ _ c2 (hS3.reads 1 rfl))
  have HS3 := Lib.hid hS3
  clear hS3
  go_wp2_with (first
    | (go_at_call 32; (with_reducible refine HM.out.mono ?_); rintro e w4 ⟨A4, c4, rfl, hS⟩
       have hS4 := HS3.out.join hS
       have d0 : w4.cell? ⟨gb, 0, none⟩ = some (.int .i64 N) := hS4.cell 1 rfl 0 rfl
       have d1 : w4.cell? ⟨gb, 1, none⟩ = some (.slice A2 L.length c2) := hS4.cell 1 rfl 1 rfl
       have HM2 := Lib.hid (HSD.out _ _ c2 (hS4.reads 2 rfl))
       have HS4 := Lib.hid hS4
       clear hS hS4 c0 c1)
    | (go_at_call 33; (with_reducible refine HM2.out.mono ?_); rintro e w5 ⟨A5, c5, rfl, hS⟩
       have hS5 := HS4.out.join hS
       have HE := Lib.hid (equal_ints A4 A5 c4 c5 zs _ (hS5.reads 1 rfl) (hS5.reads 0 rfl) HZL.out)
       have HS5 := Lib.hid hS5
       clear hS hS5 d0 d1)
    | (go_at_call 34; (with_reducible refine HE.out.mono ?_); rintro e w6 ⟨rfl, hB⟩
       have HS6 := Lib.hid (HS5.out.call hB)
       clear hB))
  go_ret
  exact ⟨rfl, HS6.out.below⟩
set_option maxRecDepth 100000 in
theorem orderSorts_walk {H : Type} {enc : TypeId × Value → H} {base : Nat} (W : World) (n : Int) (_hn : (Lit.int .u8 n).wf = true) (v : Value) (d : DataW H) (p : List MemPlace) (o : Value.okWide Try.prog W .any base 39 v) (k : DataW.Trod enc Try.prog W 0 (fun _ => true) true 39 v d p) :
    Calls Try.prog 8 #[.int .u8 n, v] W fun e w' => e = .returned (.bool true) ∧ Below W.heap.size W w' := by
  obtain ⟨A, cap, l, rfl, hr, hl, hok⟩ := links_open o k
  simp [Lit.wf, IntKind.min, IntKind.max, IntKind.signed, IntKind.bits] at _hn
  exact orderSorts0 W n A cap l hr hl hok _hn.1 _hn.2
end Go.Proofs.Ytaaffahjlkfbgaa
