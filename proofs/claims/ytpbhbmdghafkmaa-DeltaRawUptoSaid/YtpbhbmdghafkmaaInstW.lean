/- Contracts of package inst: may, square, numbers, Nodes, Check. -/
import Derived.Test.YtpbhbmdghafkmaaNest
import Derived.Test.YtpbhbmdghafkmaaRows
import Derived.Outline
namespace Go.Proofs.Ytpbhbmdghafkmaa
open Go.ChangeShapes Go.WideShapes Go.ChangeAt Go.RowKit
set_option linter.unusedVariables false
theorem may_any (n least : Int) (w : World) : Calls Try.prog 70 #[.int .i64 n, .int .i64 least] w fun e w' => e = .returned (.bool (mayB n least)) ∧ w = w' := by
 by_cases h1 : least ≤ n
 · by_cases h2 : n ≤ 1000000000
   · have H : Hid (mayB n least = true) := Lib.hid (by simp [mayB, h1, h2])
     go_enter Try.func70, Try.ntmps70
     go_wp2
     go_ret
     exact ⟨retBool (by rw [H.out]), rfl⟩
   · have H : Hid (mayB n least = false) := Lib.hid (by simp [mayB, h1, h2])
     go_enter Try.func70, Try.ntmps70
     go_wp2
     go_ret
     exact ⟨retBool (by rw [H.out]), rfl⟩
 · have H : Hid (mayB n least = false) := Lib.hid (by simp [mayB, h1])
   go_enter Try.func70, Try.ntmps70
   go_wp2
   go_ret
   exact ⟨retBool (by rw [H.out]), rfl⟩
theorem many_any (n most : Int) (w : World) : Calls Try.prog 51 #[.int .i64 n, .int .i64 most] w fun e w' => e = .returned (.bool (manyB n most)) ∧ w = w' := by
 by_cases h1 : 1 ≤ n
 · by_cases h2 : n ≤ most
   · have H : Hid (manyB n most = true) := Lib.hid (by simp [manyB, h1, h2])
     go_enter Try.func51, Try.ntmps51
     go_wp2
     go_ret
     exact ⟨retBool (by rw [H.out]), rfl⟩
   · have H : Hid (manyB n most = false) := Lib.hid (by simp [manyB, h1, h2])
     go_enter Try.func51, Try.ntmps51
     go_wp2
     go_ret
     exact ⟨retBool (by rw [H.out]), rfl⟩
 · have H : Hid (manyB n most = false) := Lib.hid (by simp [manyB, h1])
   go_enter Try.func51, Try.ntmps51
   go_wp2
   go_ret
   exact ⟨retBool (by rw [H.out]), rfl⟩
theorem instNodes_any (x : InstV) (p : IAt) (w : World) (h1 : x.sats.length ≤ 1000) (h2 : x.custs.length ≤ 1000) : Calls Try.prog 53 #[.agg (x.cells p)] w fun e w' => e = .returned (.int .i64 (x.n : Nat)) ∧ Below w.heap.size w w' := by
 have HN : Hid ((1 : Int) + x.sats.length + x.custs.length = (x.n : Nat)) := Lib.hid (by unfold InstV.n; omega)
 unfold InstV.cells
 go_enter Try.func53, Try.ntmps53
 go_wp2
 go_ret
 exact ⟨retInt HN.out, (Below.refl _ _).alloc (Nat.le_refl _) _⟩
theorem sqRow_any (A : Option Addr) (n c b N : Nat) (w : World) (hb : b < w.heap.size) (hc : w.cell? ⟨b, 0, none⟩ = some (.int .i64 N)) : Calls Try.prog 69 #[.slice A n c, .pointer (some ⟨b, 0, none⟩)] w fun e w' => e = .returned (.bool (!decide (n = N))) ∧ w = w' := by
 by_cases h : n = N
 · subst h
   go_enter Try.func69, Try.ntmps69
   go_wp2
   go_ret
   exact ⟨retBool (by simp), rfl⟩
 · have H : Hid (decide (n = N) = false) := Lib.hid (by simp [h])
   have hne : ¬ (n : Int) = (N : Int) := by omega
   clear h
   go_enter Try.func69, Try.ntmps69
   go_wp2
   go_ret
   exact ⟨retBool (by rw [H.out]; simp; omega), rfl⟩
set_option maxHeartbeats 1000000 in
theorem index_sq (A : Option Addr) (c b N : Nat) (m : List (List Int)) (w : World) (hr : Mat w w.heap.size A m) (hl : m.length ≤ maxLen) (hb : b < w.heap.size) (hc : w.cell? ⟨b, 0, none⟩ = some (.int .i64 N)) :
 Calls Try.prog 81 #[.slice A m.length c, .func (.func 69) #[] #[.pointer (some ⟨b, 0, none⟩)]] w fun e w' => (∃ i : Int, e = .returned (.int .i64 i) ∧ decide (0 ≤ i) = !(m.all fun r => decide (r.length = N))) ∧ w = w' := by
 unfold maxLen at hl
 have HR := Lib.hid hr
 clear hr
 have hcf : ∀ args w', (callFunc 69 args).run Try.prog w' = .ok (.enter 69 args) w' := fun _ _ => by simp [go_sem]
 go_enter Try.func81, Try.ntmps81
 go_wp2
 go_loop [8] (fun i => ∃ k : Nat, k ≤ m.length ∧ i = .int .i64 k ∧ Hid ((m.take k).all (fun r => decide (r.length = N)) = true)) (fun i => m.length - (intOf i).toNat)
 case atStart => exact ⟨0, by omega, rfl, Lib.hid rfl⟩
 case round =>
  obtain ⟨k, hk, rfl, HZ⟩ := hrel
  by_cases hlt : k < m.length
  · obtain ⟨g, o, a, c2, rfl, hg, e1, _⟩ := mat_at HR.out hlt
    have HQ := Lib.hid (all_take (fun r : List Int => decide (r.length = N)) m k hlt)
    obtain ⟨x, hx⟩ : ∃ x, m[k] = x := ⟨_, rfl⟩
    have HX := Lib.hid hx
    rw [hx] at e1
    clear hx
    by_cases hn : x.length = N
    · have hd : (!decide (x.length = N)) = false := by simp [hn]
      have HN := Lib.hid hn
      clear hn
      go_wp2_with (go_at_call 69; (with_reducible refine (sqRow_any _ _ _ _ N _ hb hc).mono ?_); rintro e w5 ⟨rfl, rfl⟩)
      go_round
      case rel => exact ⟨k + 1, by omega, by go_num, Lib.hid (by rw [HQ.out, HZ.out, HX.out]; simp [HN.out])⟩
      case measure => simp [intOf]; omega
    · have hd : (!decide (x.length = N)) = true := by simp [hn]
      have HN := Lib.hid hn
      clear hn
      go_wp2_with (go_at_call 69; (with_reducible refine (sqRow_any _ _ _ _ N _ hb hc).mono ?_); rintro e w5 ⟨rfl, rfl⟩)
      go_ret
      refine ⟨⟨_, rfl, ?_⟩, rfl⟩
      have hf : m.all (fun r => decide (r.length = N)) = false := by
       cases h : m.all (fun r => decide (r.length = N))
       · rfl
       · exact absurd (of_decide_eq_true (List.all_eq_true.1 h _ (List.getElem_mem hlt))) (by rw [HX.out]; exact HN.out)
      rw [hf]
      simp
  · obtain rfl : k = m.length := by omega
    rw [List.take_length] at HZ
    go_wp2
    go_ret
    exact ⟨⟨_, rfl, by rw [HZ.out]; rfl⟩, rfl⟩
theorem contains_sq (A : Option Addr) (c b N : Nat) (m : List (List Int)) (w : World) (hr : Mat w w.heap.size A m) (hl : m.length ≤ maxLen) (hb : b < w.heap.size) (hc : w.cell? ⟨b, 0, none⟩ = some (.int .i64 N)) :
 Calls Try.prog 68 #[.slice A m.length c, .func (.func 69) #[] #[.pointer (some ⟨b, 0, none⟩)]] w fun e w' => e = .returned (.bool (!(m.all fun r => decide (r.length = N)))) ∧ w = w' := by
 have HI := Lib.hid (index_sq A c b N m w hr hl hb hc)
 clear hr hl hb hc
 obtain ⟨B, hB⟩ : ∃ B, (!(m.all fun r => decide (r.length = N))) = B := ⟨_, rfl⟩
 rw [hB] at HI ⊢
 clear hB
 go_enter Try.func68, Try.ntmps68
 go_wp2_with (go_at_call 81; (with_reducible refine HI.out.mono ?_); rintro e w5 ⟨⟨i, rfl, hi⟩, rfl⟩; have HB := Lib.hid hi; clear hi)
 go_ret
 exact ⟨retBool HB.out, rfl⟩
theorem square_any (A : Option Addr) (c N : Nat) (m : List (List Int)) (w : World) (hr : Mat w w.heap.size A m) (hl : m.length ≤ maxLen) :
 Calls Try.prog 52 #[.slice A m.length c, .int .i64 N] w fun e w' => e = .returned (.bool (sqB m N)) ∧ Below w.heap.size w w' := by
 have hB : Below w.heap.size w (w.alloc (.cells #[.int .i64 N] 3)) := (Below.refl _ _).alloc (Nat.le_refl _) _
 have HI := Lib.hid (contains_sq A c w.heap.size N m (w.alloc (.cells #[.int .i64 N] 3)) (mat_more (hr.below hB) (by simp)) hl (by simp) (by go_simp))
 have HB := Lib.hid hB
 unfold maxLen at hl
 clear hr hB
 by_cases h : m.length = N
 · have HE : Hid (sqB m N = m.all fun r => decide (r.length = N)) := Lib.hid (by simp [sqB, h])
   obtain ⟨B, hB⟩ : ∃ B, (m.all fun r => decide (r.length = N)) = B := ⟨_, rfl⟩
   rw [hB] at HI HE
   clear hB
   subst h
   go_enter Try.func52, Try.ntmps52
   go_wp2_with (go_at_call 68; (with_reducible refine HI.out.mono ?_); rintro e w5 ⟨rfl, rfl⟩)
   go_ret
   exact ⟨retBool HE.out.symm, HB.out⟩
 · have HE : Hid (sqB m N = false) := Lib.hid (by simp [sqB, h])
   have hne : ((m.length : Int) == (N : Int)) = false := by simp; omega
   clear h
   go_enter Try.func52, Try.ntmps52
   go_wp2
   go_ret
   exact ⟨retBool (by rw [HE.out]), HB.out⟩
end Go.Proofs.Ytpbhbmdghafkmaa
