/- law17.at: one of some numbers, round and round. -/
import Derived.Test.YtjpejclfppbboaaPlanS
import Derived.Test.YtjpejclfppbboaaInst
import Derived.Test.YtjpejclfppbboaaRows
namespace Go.Proofs.Ytjpejclfppbboaa
open Go.ChangeShapes Go.WideShapes Go.ChangeAt Go.RowKit
set_option linter.unusedVariables false
def atM (l : List Int) (i : Nat) : Int := if l.length = 0 then 0 else l.getD (i % l.length) 0
theorem atM_in {l : List Int} (h : ∀ n ∈ l, 0 ≤ n ∧ n ≤ 255) (i : Nat) : 0 ≤ atM l i ∧ atM l i ≤ 255 := by
  unfold atM
  split
  · omega
  · rename_i h0
    have hlt : i % l.length < l.length := Nat.mod_lt _ (by omega)
    rw [List.getD_eq_getElem?_getD, List.getElem?_eq_getElem hlt]
    exact h _ (List.getElem_mem hlt)
theorem u8s_at {w : World} {B : Nat} {A : Option Addr} {l : List Int} (h : Reads w B 1 A l.length (l.map (.int .u8))) {k : Nat} (hk : k < l.length) : ∃ b o, A = some ⟨b, o, none⟩ ∧ b < B ∧ w.cell? ⟨b, o + k, none⟩ = some (.int .u8 l[k]) := by
  obtain ⟨b, o, e, hb, hc⟩ := reads_plain h (by omega) (by decide)
  exact ⟨b, o, e, hb, hc k _ (by simp [hk])⟩
set_option maxRecDepth 100000 in
set_option maxHeartbeats 2000000 in
theorem at17_any (A : Option Addr) (c i : Nat) (l : List Int) (w : World) (h : Reads w w.heap.size 1 A l.length (l.map (.int .u8))) (hu : ∀ n ∈ l, 0 ≤ n ∧ n ≤ 255) (hl : l.length ≤ maxLen) (hi : i ≤ 1000000) :
    Calls Try.prog 67 #[.slice A l.length c, .int .i64 i] w fun e w' => e = .returned (.int .i64 (atM l i)) ∧ w = w' := by
  unfold maxLen at hl
  obtain ⟨N, hN⟩ : ∃ N, l.length = N := ⟨_, rfl⟩
  have HN := Lib.hid hN
  have HA : Hid (atM l i = if N = 0 then 0 else l.getD (i % N) 0) := Lib.hid (by unfold atM; rw [hN])
  obtain ⟨r, hr⟩ : ∃ r, atM l i = r := ⟨_, rfl⟩
  rw [hr] at HA ⊢
  rw [hN] at hl ⊢
  by_cases h0 : N = 0
  · have HR : Hid (r = 0) := Lib.hid (by rw [HA.out, if_pos h0])
    clear h hu hN hr
    subst h0
    go_enter Try.func67, Try.ntmps67
    go_wp2_with fail
    go_ret
    exact ⟨by rw [HR.out]; rfl, rfl⟩
  · obtain ⟨j, hj⟩ : ∃ j, i % N = j := ⟨_, rfl⟩
    have hjN : j < N := by rw [← hj]; exact Nat.mod_lt _ (by omega)
    have hjl : j < l.length := by omega
    obtain ⟨b, o, hA, hb, hc⟩ := u8s_at h hjl
    have HR : Hid (r = l[j]) := Lib.hid (by rw [HA.out, if_neg h0, hj]; simp [hjl])
    have hin := hu _ (List.getElem_mem hjl)
    obtain ⟨u, hue⟩ : ∃ u, l[j] = u := ⟨_, rfl⟩
    rw [hue] at hc HR hin
    subst hA
    have hmod : (i : Int) % (N : Int) = (j : Int) := by rw [← hj]; exact (Int.natCast_emod i N).symm
    have hmt : (i : Int).tmod (N : Int) = (j : Int) := by rw [Int.tmod_eq_emod_of_nonneg (by omega)]; exact hmod
    have hN0 : ((N : Int) == 0) = false := by rw [beq_eq_false_iff_ne]; omega
    have hN1 : (1 : Int) ≤ (N : Int) := by omega
    clear h hu hN hr hj hue h0 HA
    go_enter Try.func67, Try.ntmps67
    go_wp2_with fail
    go_ret
    exact ⟨by rw [HR.out]; rfl, rfl⟩
end Go.Proofs.Ytjpejclfppbboaa
