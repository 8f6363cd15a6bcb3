/- The walk of the law GraphReaches. -/
import Derived.Test.YthdjmljoiflkjaaComes
import Derived.Test.YthdjmljoiflkjaaGraphAwake
import Derived.Test.YthdjmljoiflkjaaEqual
import Derived.Test.YthdjmljoiflkjaaLinksOpen
namespace Go.Proofs.Ythdjmljoiflkjaa
open Go.ChangeShapes Go.WideShapes Go.ChangeAt Go.RowKit
set_option linter.unusedVariables false
theorem reads_barr {w : World} {g N : Nat} {f : Nat → Bool} {zs : List Bool} {t : TypeId} (h : w.heap[g]? = some (.cells (barr f N) t (0, 0))) (hz : zs.length = N) (hf : ∀ j (hj : j < zs.length), zs[j] = f j) : Reads w w.heap.size 1 (some ⟨g, 0, none⟩) zs.length (zs.map .bool) := by
  refine ⟨by simp, fun hn => ⟨_, rfl, (Array.getElem?_eq_some_iff.1 h).1, fun j u hu => ?_⟩⟩
  rw [Addr.add_mid, Nat.zero_add, cell_of_row _ _ _ _ _ _ h]
  rw [List.getElem?_map] at hu
  rcases Nat.lt_or_ge j zs.length with hlt | hge
  · rw [List.getElem?_eq_getElem hlt] at hu
    rw [barr_get _ _ _ (by omega), ← hf j hlt]
    exact hu
  · rw [List.getElem?_eq_none hge] at hu; cases hu
theorem bool_ext {f1 f2 : Nat → Bool} {N : Nat} {p : Nat → Prop} (h1 : ∀ j, j < N → (f1 j = true ↔ p j)) (h2 : ∀ j, j < N → (f2 j = true ↔ p j)) : ∀ j, j < N → f1 j = f2 j := by
  intro j hj
  have := h1 j hj
  have := h2 j hj
  rw [Bool.eq_iff_iff]
  simp_all
set_option maxHeartbeats 1000000 in
theorem graphReaches0 (W : World) (n s : Int) (A : Option Addr) (cap : Nat) (l : List LinkV) (hr : Links W W.heap.size A l) (hl : l.length ≤ maxLen) (hok : ∀ a ∈ l, a.ok) (h0 : 0 ≤ n) (h1 : n ≤ 255) :
    Calls Try.prog 9 #[.int .u8 n, .slice A l.length cap, .int .i64 s] W fun e w' => e = .returned (.bool true) ∧ Below W.heap.size W w' := by
  have HR := Lib.hid (And.intro hr (And.intro hl (And.intro hok (And.intro h0 h1))))
  have HC := Lib.hid (arcsOf_ok h0 h1 hok)
  obtain ⟨N, hN⟩ : ∃ N : Nat, (N : Int) = nodesOf n := ⟨(nodesOf n).toNat, by unfold nodesOf; omega⟩
  have hN1 : 1 ≤ N ∧ N ≤ 8 := by unfold nodesOf at hN; omega
  obtain ⟨L, hL⟩ : ∃ L, L = arcsOf (nodesOf n) l := ⟨_, rfl⟩
  have HCg : Hid (∀ w', Links w' w'.heap.size A l → Calls Try.prog 28 #[.int .u8 n, .slice A l.length cap] w' (GraphPost w' N L)) := fun w' h => by
    rw [hN, hL]; exact graph06_any n A cap l w' h hl h0 h1 hok
  rw [← hN] at HC
  rw [← hN] at hL
  rw [← hL] at HC
  have hLl : L.length ≤ 24 := by rw [hL]; unfold arcsOf; simp; omega
  have HIN : Hid (InN N L) := Lib.hid (by simpa using (inN_of_check HC.out).2.2.2)
  have hN8 : N ≤ 1000 := by omega
  have hL2 : L.length ≤ 20000 := by omega
  clear hr hl hok hL hN
  by_cases hs : 0 ≤ s ∧ s < N
  · obtain ⟨hs0, hs1⟩ := hs
    go_enter Try.func9, Try.ntmps9
    go_wp2_with (first
      | (go_at_call 24; (with_reducible refine (graph_awake _).mono ?_); rintro e w1 ⟨rfl, hb1⟩
         have HA1 : Hid (Links w1 w1.heap.size A l) := reads_more (Reads.below HR.out.1 hb1) hb1.size
         have HB1 := Lib.hid hb1
         clear hb1)
      | (go_at_call 28; (with_reducible refine (HCg.out _ HA1.out).mono ?_); rintro e w2 ⟨v, rfl, hS⟩
         obtain ⟨A2, c2, rfl, _, _⟩ := (hS.row 0 rfl).slice_
         have hS2 := (hS.rebase HB1.out HB1.out.size).alloc #[.int .i64 N, .slice A2 L.length c2] 51
         have HS2 := Lib.hid hS2
         have HA2 : Hid (Arcs (w2.alloc (.cells #[.int .i64 N, .slice A2 L.length c2] 51)) (w2.alloc (.cells #[.int .i64 N, .slice A2 L.length c2] 51)).heap.size A2 L) := hS2.reads 1 rfl
         clear hS hS2)
      | (go_at_call 27; (with_reducible refine (reach_ok N A2 c2 L s _ HA2.out HC.out hs0 hs1).mono ?_); rintro e w3 ⟨f, g, rfl, hg, hb, hf⟩
         have hS3 := HS2.out.call hb
         have c0 : w3.cell? ⟨w2.heap.size, 0, none⟩ = some (.int .i64 N) := hS3.cell 0 rfl 0 rfl
         have c1 : w3.cell? ⟨w2.heap.size, 1, none⟩ = some (.slice A2 L.length c2) := hS3.cell 0 rfl 1 rfl
         have HA3 : Hid (Arcs w3 w3.heap.size A2 L) := hS3.reads 1 rfl
         have HS3 := Lib.hid hS3
         have HG3 := Lib.hid (And.intro hg hf)
         clear hS3 hg hf hb)
      | (go_at_call 30; (with_reducible refine (comes_any N A2 c2 L s _ HA3.out hL2 hN8 HIN.out hs0 hs1).mono ?_); rintro e w4 ⟨f', g', rfl, hg', hb', hf'⟩
         have HS4 := Lib.hid (HS3.out.call hb')
         have HG4 : Hid (w4.heap[g]? = some (.cells (barr f N) 4 (0, 0))) := (hb'.block g (Array.getElem?_eq_some_iff.1 HG3.out.1).1).trans HG3.out.1
         have HG4' := Lib.hid hg'
         have HF := Lib.hid (bool_ext HG3.out.2 hf')
         have HZ : Hid (((List.range N).map f).length = N) := Lib.hid (by simp)
         clear hg' hb' hf'))
    have HE : Hid (Calls Try.prog 29 #[.slice (some ⟨g, 0, none⟩) N N, .slice (some ⟨g', 0, none⟩) N N] w4 fun e w' => e = .returned (.bool true) ∧ Below w4.heap.size w4 w') := by
      have := equal_bools (some ⟨g, 0, none⟩) (some ⟨g', 0, none⟩) N N ((List.range N).map f) w4 (reads_barr HG4.out HZ.out (by simp)) (reads_barr HG4'.out HZ.out (by intro j hj; simpa using HF.out j (by simpa using hj))) (by rw [HZ.out]; unfold maxLen; omega)
      rw [HZ.out] at this
      exact this
    (with_reducible refine HE.out.mono ?_); rintro e w5 ⟨rfl, hb5⟩
    have HB5 := Lib.hid (HS4.out.call hb5)
    clear hb5
    go_wp2
    go_ret
    exact ⟨rfl, HB5.out.below⟩
  · have hs' : checkG N L ≠ 0 ∨ s < 0 ∨ N ≤ s := .inr (by omega)
    have HS' := Lib.hid hs'
    have hLm : L.length ≤ maxLen := by unfold maxLen; omega
    clear hs'
    by_cases hneg : s < 0
    all_goals
      have hge : ¬ s < 0 → (N : Int) ≤ s := by intro h; omega
      have hd : ¬ s < 0 → decide ((N : Int) ≤ s) = true := by intro h; simpa using hge h
      clear hge
      go_enter Try.func9, Try.ntmps9
      go_wp2_with (first
        | (go_at_call 24; (with_reducible refine (graph_awake _).mono ?_); rintro e w1 ⟨rfl, hb1⟩
           have HA1 : Hid (Links w1 w1.heap.size A l) := reads_more (Reads.below HR.out.1 hb1) hb1.size
           have HB1 := Lib.hid hb1
           clear hb1)
        | (go_at_call 28; (with_reducible refine (HCg.out _ HA1.out).mono ?_); rintro e w2 ⟨v, rfl, hS⟩
           obtain ⟨A2, c2, rfl, _, _⟩ := (hS.row 0 rfl).slice_
           have hS2 := (hS.rebase HB1.out HB1.out.size).alloc #[.int .i64 N, .slice A2 L.length c2] 51
           have HS2 := Lib.hid hS2
           have HA2 : Hid (Arcs (w2.alloc (.cells #[.int .i64 N, .slice A2 L.length c2] 51)) (w2.alloc (.cells #[.int .i64 N, .slice A2 L.length c2] 51)).heap.size A2 L) := hS2.reads 1 rfl
           clear hS hS2)
        | (go_at_call 27; (with_reducible refine (reach_none N A2 c2 L s _ HA2.out hLm HS'.out).mono ?_); rintro e w3 ⟨rfl, hb⟩
           have hS3 := HS2.out.call hb
           have c0 : w3.cell? ⟨w2.heap.size, 0, none⟩ = some (.int .i64 N) := hS3.cell 0 rfl 0 rfl
           have HS3 := Lib.hid hS3
           clear hS3 hb))
    all_goals
      go_ret
      exact ⟨rfl, HS3.out.below⟩
theorem graphReaches_walk {H : Type} {enc : TypeId × Value → H} {base : Nat} (W : World) (n : Int) (_hn : (Lit.int .u8 n).wf = true) (v : Value) (d : DataW H) (p : List MemPlace) (o : Value.okWide Try.prog W .any base 58 v) (k : DataW.Trod enc Try.prog W 0 (fun _ => true) true 58 v d p)
    (i : Int) (_hi : (Lit.int .i64 i).wf = true) :
    Calls Try.prog 9 #[.int .u8 n, v, .int .i64 i] W fun e w' => e = .returned (.bool true) ∧ Below W.heap.size W w' := by
  obtain ⟨A, cap, l, rfl, hr, hl, hok⟩ := links_open o k
  simp [Lit.wf, IntKind.min, IntKind.max, IntKind.signed, IntKind.bits] at _hn
  exact graphReaches0 W n i A cap l hr hl hok _hn.1 _hn.2
end Go.Proofs.Ythdjmljoiflkjaa
