/- The walk of Tree.Way. -/
import Derived.Test.YtaaffahjlkfbgaaFrom
import Derived.Test.YtaaffahjlkfbgaaReverse
namespace Go.Proofs.Ytaaffahjlkfbgaa
open Go.ChangeShapes Go.WideShapes Go.ChangeAt Go.RowKit
set_option linter.unusedVariables false
/-- Back from a node, arc by arc, as a tree tells. -/
inductive Back (l : List ArcV) (by_ : Nat → Int) : Nat → List Int → Prop
  | stop {v : Nat} : by_ v = -1 → Back l by_ v []
  | step {v u k : Nat} {ks : List Int} (hk : k < l.length) : by_ v = (k : Int) → l[k].fr = (u : Int) → Back l by_ u ks → Back l by_ v ((k : Int) :: ks)
def lenOf : Value → Nat
  | .slice _ n _ => n
  | _ => 0
def WayPost (W : World) (B : Nat) (rs : List Rs) (ks : List Int) (e : Ending) (w' : World) : Prop :=
  ∃ v, e = .returned v ∧ SL W B (.row 3 1 v ks.length (ks.reverse.map (.int .i64)) :: rs) w'
set_option maxRecDepth 100000 in
set_option maxHeartbeats 4000000 in
theorem way_none (W : World) (B : Nat) (rs : List Rs) (w : World) (M : Int) (A : Option Addr) (n cap : Nat) (far : Nat → Int) (N fb bb i1 : Nat) (tn : Int) (hS : SL W B rs w) (h1 : rs[i1]? = some (.blk fb (iarr far N) 2)) (hN : N ≤ 1000) (h : tn < 0 ∨ N ≤ tn ∨ FAR ≤ far tn.toNat) :
    Calls Try.prog 49 #[.agg #[.slice (some ⟨fb, 0, none⟩) N N, .slice (some ⟨bb, 0, none⟩) N N], .agg #[.int .i64 M, .slice A n cap], .int .i64 tn] w (WayPost W B rs []) := by
  have hS1 := (hS.alloc #[.slice (some ⟨fb, 0, none⟩) N N, .slice (some ⟨bb, 0, none⟩) N N] 50).alloc #[.int .i64 M, .slice A n cap] 45
  simp only [alloc_size] at hS1
  have H1 := Lib.hid h1
  clear hS h1
  go_enter Try.func49, Try.ntmps49
  go_upto_region 1 with fail
  obtain ⟨tb, htb⟩ : ∃ tb, tb = w.heap.size := ⟨_, rfl⟩
  obtain ⟨gb, hgb⟩ : ∃ gb, gb = w.heap.size + 1 := ⟨_, rfl⟩
  generalize ((w.alloc (Obj.cells #[.slice (some ⟨fb, 0, none⟩) N N, .slice (some ⟨bb, 0, none⟩) N N] 50)).alloc (Obj.cells #[.int .i64 M, .slice A n cap] 45)) = w0 at *
  rw [← hgb, ← htb] at hS1 ⊢
  clear htb hgb
  have c0 : w0.cell? ⟨tb, 0, none⟩ = some (.slice (some ⟨fb, 0, none⟩) N N) := hS1.cell 1 rfl 0 rfl
  have c1 : w0.cell? ⟨tb, 1, none⟩ = some (.slice (some ⟨bb, 0, none⟩) N N) := hS1.cell 1 rfl 1 rfl
  have HS : Hid (SL W B (.row 3 1 (.slice none 0 0) 0 [] :: rs) w0) := Lib.hid ((hS1.tail.tail).nil 3 1)
  by_cases h0 : tn < 0
  · clear hS1 h
    go_wp2_with fail
    go_ret
    exact ⟨_, rfl, HS.out⟩
  · by_cases h2 : N ≤ tn
    · clear hS1 h
      go_wp2_with fail
      go_ret
      exact ⟨_, rfl, HS.out⟩
    · have h3 : (1152921504606846976 : Int) ≤ far tn.toNat := by unfold FAR at h; omega
      have c2 : w0.cell? ⟨fb, tn.toNat, none⟩ = some (.int .i64 (far tn.toNat)) := hS1.cell (i1 + 2) H1.out tn.toNat (iarr_get _ _ _ (by omega))
      clear hS1 h
      go_wp2_with fail
      go_ret
      exact ⟨_, rfl, HS.out⟩
set_option maxRecDepth 100000 in
set_option maxHeartbeats 4000000 in
theorem way_any (W : World) (B : Nat) (rs : List Rs) (w : World) (M : Int) (A : Option Addr) (cap : Nat) (l : List ArcV) (far by_ : Nat → Int) (N fb bb i1 i2 : Nat) (tn : Nat) (ks : List Int) (hS : SL W B rs w) (h1 : rs[i1]? = some (.blk fb (iarr far N) 2)) (h2 : rs[i2]? = some (.blk bb (iarr by_ N) 3)) (hA : ∀ w', SL W B rs w' → Arcs w' w'.heap.size A l) (hl : l.length ≤ 20000) (hin : InN N l) (hN : N ≤ 1000) (hto : tn < N) (hf : far tn < FAR) (hb : Back l by_ tn ks) (hlen : ks.length ≤ N) :
    Calls Try.prog 49 #[.agg #[.slice (some ⟨fb, 0, none⟩) N N, .slice (some ⟨bb, 0, none⟩) N N], .agg #[.int .i64 M, .slice A l.length cap], .int .i64 tn] w (WayPost W B rs ks) := by
  have hS1 := (hS.alloc #[.slice (some ⟨fb, 0, none⟩) N N, .slice (some ⟨bb, 0, none⟩) N N] 50).alloc #[.int .i64 M, .slice A l.length cap] 45
  simp only [alloc_size] at hS1
  obtain ⟨i0, hi0, hz0, hz1, hz2⟩ := info_parts int_info
  have HI := Lib.hid (And.intro hi0 (And.intro hz0 (And.intro hz1 hz2)))
  have HA := Lib.hid hA
  have HIN := Lib.hid hin
  have H12 := Lib.hid (And.intro h1 h2)
  have HB := Lib.hid hb
  have hf0 : ¬ (1152921504606846976 : Int) ≤ far tn := by unfold FAR at hf; omega
  clear hS hi0 hz0 hz1 hz2 hA hin h1 h2 hb hf
  go_enter Try.func49, Try.ntmps49
  go_upto_region 1 with fail
  obtain ⟨tb, htb⟩ : ∃ tb, tb = w.heap.size := ⟨_, rfl⟩
  obtain ⟨gb, hgb⟩ : ∃ gb, gb = w.heap.size + 1 := ⟨_, rfl⟩
  generalize ((w.alloc (Obj.cells #[.slice (some ⟨fb, 0, none⟩) N N, .slice (some ⟨bb, 0, none⟩) N N] 50)).alloc (Obj.cells #[.int .i64 M, .slice A l.length cap] 45)) = w0 at *
  rw [← hgb, ← htb] at hS1 ⊢
  clear htb hgb
  have c0 : w0.cell? ⟨tb, 0, none⟩ = some (.slice (some ⟨fb, 0, none⟩) N N) := hS1.cell 1 rfl 0 rfl
  have c1 : w0.cell? ⟨tb, 1, none⟩ = some (.slice (some ⟨bb, 0, none⟩) N N) := hS1.cell 1 rfl 1 rfl
  have c2 : w0.cell? ⟨fb, tn, none⟩ = some (.int .i64 (far tn)) := hS1.cell (i1 + 2) H12.out.1 tn (iarr_get _ _ _ hto)
  have HS := Lib.hid (hS1.nil 3 1)
  clear hS1
  go_wp2_with fail
  clear c0 c1 c2
  go_loopw [2, 7] (fun vt v7 wr => ∃ (cur : Nat) (done rest : List Int), vt = .int .i64 cur ∧ cur < N ∧ Back l by_ cur rest ∧ ks = done ++ rest ∧ SL W B (.row 3 1 v7 done.length (done.map (.int .i64)) :: .blk gb #[.int .i64 M, .slice A l.length cap] 45 :: .blk tb #[.slice (some ⟨fb, 0, none⟩) N N, .slice (some ⟨bb, 0, none⟩) N N] 50 :: rs) wr) (fun _ v7 _ => ks.length - lenOf v7)
  case atStart => exact ⟨tn, [], ks, rfl, hto, HB.out, rfl, HS.out⟩
  case round =>
    clear HS
    obtain ⟨cur, done, rest, rfl, hcur, hback, hks, hS⟩ := hrel
    obtain ⟨A7, c7, rfl, _, _⟩ := (hS.row 0 rfl).slice_
    have hdl : done.length ≤ N := by rw [hks] at hlen; simp at hlen; omega
    have c0 : wr.cell? ⟨tb, 1, none⟩ = some (.slice (some ⟨bb, 0, none⟩) N N) := hS.cell 2 rfl 1 rfl
    have c1 : wr.cell? ⟨gb, 1, none⟩ = some (.slice A l.length cap) := hS.cell 1 rfl 1 rfl
    have c2 : wr.cell? ⟨bb, cur, none⟩ = some (.int .i64 (by_ cur)) := hS.cell (i2 + 3) H12.out.2 cur (iarr_get _ _ _ hcur)
    have HKS := Lib.hid hks
    cases hback with
    | stop hby =>
      rw [hby] at c2
      have HS := Lib.hid hS
      clear hS hks hby
      go_wp2_with (go_at_call 52; (with_reducible refine (reverse_any _ _ _ _ 0 _ _ HS.out rfl (by omega)).mono ?_); rintro e w2 ⟨rfl, hS2⟩; have HS2 := Lib.hid hS2; clear hS2 c0 c1 c2)
      go_ret
      have hk := HKS.out
      rw [List.append_nil] at hk
      subst hk
      exact ⟨_, rfl, (SL.sub (l' := _ :: rs) HS2.out (.cons_cons _ (.cons _ (.cons _ (List.Sublist.refl _)))))⟩
    | @step _ u k ks2 hk hby hfr hback =>
      rw [hby] at c2
      have hu : u < N := by have := (HIN.out _ (List.getElem_mem hk)).1; omega
      obtain ⟨b, o, rfl, hb, d0, d1, d2⟩ := arcs_at (HA.out wr hS.tail.tail.tail) hk
      rw [hfr] at d0
      have HBK := Lib.hid hback
      have hdk : done.length < ks.length := by rw [hks]; simp
      have HFR := Lib.hid hfr
      clear hks hby hfr hback d1 d2
      have hlt : (k : Int) < (l.length : Int) := by omega
      go_wp2_with (at_builtin; refine stopHere ?_)
      show wpList _ _ _ _ _ _
      refine wpList_append_sl rfl _ _ 48 rfl hS 0 i0 (.int .i64 0) 1 8 Try.underlying48 HI.out.1 HI.out.2.1 HI.out.2.2.1 HI.out.2.2.2 rfl (by decide) _ _ 1 _ rfl rfl _ rfl rfl (by decide) rfl (by simp [Value.oneCell']) (by omega) (by decide) ?_
      intro v' w' hS8 hz8
      obtain ⟨A8, c8, rfl, _, _⟩ := (hS8.row 0 rfl).slice_
      have HS8 : Hid (SL W B (.row 3 1 (.slice A8 (done.length + 1) c8) (done ++ [(k : Int)]).length ((done ++ [(k : Int)]).map (.int .i64)) :: .blk gb #[.int .i64 M, .slice (some ⟨b, o, none⟩) l.length cap] 45 :: .blk tb #[.slice (some ⟨fb, 0, none⟩) N N, .slice (some ⟨bb, 0, none⟩) N N] 50 :: rs) w') := Lib.hid (by rw [List.length_append, List.map_append]; exact hS8)
      have e0 : w'.cell? ⟨gb, 1, none⟩ = some (.slice (some ⟨b, o, none⟩) l.length cap) := HS8.out.cell 1 rfl 1 rfl
      obtain ⟨b', o', hA', hb', d0', _⟩ := arcs_at (HA.out w' HS8.out.tail.tail.tail) hk
      simp only [Option.some.injEq, Addr.mk.injEq, and_true] at hA'
      obtain ⟨rfl, rfl⟩ := hA'
      rw [HFR.out] at d0'
      clear hS8 hS c0 c1 c2 d0
      go_wp2_with fail
      go_roundw
      case rel => exact ⟨u, done ++ [(k : Int)], ks2, rfl, hu, HBK.out, by rw [HKS.out]; simp, HS8.out⟩
      case measure => simp [lenOf]; omega
end Go.Proofs.Ytaaffahjlkfbgaa
