/- law23.Apply: what its parts share. (printed by gen/lawapply.py) -/
import Derived.Test.YtpbhbmdghafkmaaLawS
import Derived.Deep.CutBlock
import Derived.Deep.CutRange
import Derived.Deep.DeepCutAuto
namespace Go.Proofs.Ytpbhbmdghafkmaa
open Go.ChangeShapes Go.WideShapes Go.ChangeAt Go.RowKit
set_option linter.unusedVariables false
set_option linter.unusedSimpArgs false
theorem info_rowL : (Try.prog.info? 42).map (fun i => (i.zero, i.size, i.bytes)) = some (some (.slice none 0 0), 1, 24) := by kernel_rfl
def LApplyPost (w : World) (o : Option (List BikeV)) (e : Ending) (w' : World) : Prop :=
 match o with
 | none => e = .returned (.tuple #[.slice none 0 0, .bool false]) ∧ Below w.heap.size w w'
 | some bs => ∃ A c, e = .returned (.tuple #[.slice A bs.length c, .bool true]) ∧ Bikes w' w'.heap.size A bs ∧ Below w.heap.size w w'
/-- Numbers from p on, turned one by one. -/
def trn (s : List Int) (p j : Nat) : Nat → List Int
 | 0 => s
 | k + 1 => (trn s p j k).set (p + k) (s.getD (j - k) 0)
theorem trn_len (s : List Int) (p j : Nat) : ∀ k, (trn s p j k).length = s.length
 | 0 => rfl
 | k + 1 => by unfold trn; rw [List.length_set, trn_len s p j k]
theorem trn_get (s : List Int) (p j : Nat) (hj : j < s.length) : ∀ k, p + k ≤ j + 1 → ∀ x, (trn s p j k)[x]? = if p ≤ x ∧ x < p + k then s[j + p - x]? else s[x]?
 | 0, _, x => by rw [if_neg (by omega)]; rfl
 | k + 1, h, x => by
   unfold trn
   rw [List.getElem?_set, trn_len]
   by_cases e : p + k = x
   · subst e
     rw [if_pos rfl, if_pos (by omega), if_pos (by omega), show j + p - (p + k) = j - k by omega]
     have : j - k < s.length := by omega
     simp [this]
   · rw [if_neg e, trn_get s p j hj k (by omega) x]
     by_cases h1 : p ≤ x ∧ x < p + k
     · rw [if_pos h1, if_pos (by omega)]
     · rw [if_neg h1, if_neg (by omega)]
theorem trn_all (s : List Int) (p j : Nat) (hp : p ≤ j) (hj : j < s.length) : trn s p j (j + 1 - p) = s.take p ++ ((s.drop p).take (j + 1 - p)).reverse ++ s.drop (j + 1) := by
 apply List.ext_getElem?
 intro x
 rw [trn_get s p j hj _ (by omega) x, List.append_assoc, List.getElem?_append]
 have l1 : (s.take p).length = p := by rw [List.length_take]; omega
 have l2 : ((s.drop p).take (j + 1 - p)).reverse.length = j + 1 - p := by rw [List.length_reverse, List.length_take, List.length_drop]; omega
 have l3 : ((s.drop p).take (j + 1 - p)).length = j + 1 - p := by rw [List.length_take, List.length_drop]; omega
 rw [l1]
 by_cases h1 : x < p
 · rw [if_neg (by omega), if_pos h1, List.getElem?_take, if_pos h1]
 · rw [if_neg h1, List.getElem?_append, l2]
   by_cases h2 : x < j + 1
   · rw [if_pos (by omega), if_pos (by omega), List.getElem?_reverse (by rw [l3]; omega), l3, List.getElem?_take, if_pos (by omega), List.getElem?_drop]
     congr 1
     omega
   · rw [if_neg (by omega), if_neg (by omega), List.getElem?_drop]
     congr 1
     omega
section
variable {W w : World} {B nb lb mb n : Nat} {MC : Array Value} {v8 v : Value} {qs : List (BikeV × Value)} {g off c gk ok k : Nat} {R : List Rs}
theorem lkr_sub : (LK nb lb mb n MC v qs ++ R).Sublist (LR nb lb mb n MC v8 v qs R) := by
 have e : LR nb lb mb n MC v8 v qs R = LR nb lb mb n MC v8 v qs [] ++ R := by unfold LR; simp
 rw [e]
 exact List.Sublist.append_right lk_sub R
theorem lkr_k (h : SL W B (LK nb lb mb n MC v qs ++ R) w) : SL W B (LK nb lb mb n MC v qs) w := h.sub (List.sublist_append_left _ _)
theorem lr_set_one {l : List Int} {s : Int} {L b : Nat} (h : SL W B (LR nb lb mb n MC v8 v (qs.set k ((⟨s, l⟩ : BikeV), .slice (some ⟨gk, ok, none⟩) L b)) R) w) (hk : k < qs.length) {j : Nat} (hj : j < l.length) (x : Int) :
 SL W B (LR nb lb mb n MC v8 v (qs.set k ((⟨s, l.set j x⟩ : BikeV), .slice (some ⟨gk, ok, none⟩) L b)) R) (w.setCell ⟨gk, ok + j, none⟩ (.int .i64 x)) := by
 have hk' : k < (qs.set k ((⟨s, l⟩ : BikeV), Value.slice (some ⟨gk, ok, none⟩) L b)).length := by simpa using hk
 have e : (qs.set k ((⟨s, l⟩ : BikeV), Value.slice (some ⟨gk, ok, none⟩) L b))[k]'hk' = (⟨s, l⟩, .slice (some ⟨gk, ok, none⟩) L b) := by simp
 have h1 := lr_set1 (L := L) (b := b) (gk := gk) (ok := ok) h hk' (by rw [e]) (j := j) (by rw [e]; exact hj) x
 rw [List.set_set, e] at h1
 exact h1
theorem lr_bury2 {r s : Rs} (h : SL W B (r :: s :: LR nb lb mb n MC v8 v qs R) w) : SL W B (s :: LR nb lb mb n MC v8 v qs (r :: R)) w := by
 have e : LR nb lb mb n MC v8 v qs (r :: R) = LR nb lb mb n MC v8 v qs [] ++ (r :: R) := by unfold LR; simp
 have e2 : LR nb lb mb n MC v8 v qs R = LR nb lb mb n MC v8 v qs [] ++ R := by unfold LR; simp
 refine h.perm ((List.Perm.swap _ _ _).trans (List.Perm.cons _ ?_))
 rw [e, e2]
 exact List.perm_middle.symm
theorem lr_sub2 : [Rs.blk lb #[v] 81, .blk mb MC 33].Sublist (LR nb lb mb n MC v8 v qs R) := .cons _ (.cons_cons _ (.cons _ (.cons_cons _ (List.nil_sublist _))))
end
end Go.Proofs.Ytpbhbmdghafkmaa
