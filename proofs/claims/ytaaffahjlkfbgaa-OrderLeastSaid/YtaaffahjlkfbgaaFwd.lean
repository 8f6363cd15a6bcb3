/- Law 08's forward: a graph whose arcs all lead from lesser nodes to greater ones; its order is whole. -/
import Derived.Test.YtaaffahjlkfbgaaOrd
namespace Go.Proofs.Ytaaffahjlkfbgaa
open Go.ChangeShapes Go.WideShapes Go.ChangeAt Go.RowKit
set_option linter.unusedVariables false
def fwdA (a : ArcV) : ArcV := ⟨if a.to < a.fr then a.to else a.fr, if a.fr < a.to then a.to else a.fr, a.wt⟩
def fwd (l : List ArcV) : List ArcV := (l.filter fun a => a.fr != a.to).map fwdA
theorem fwd_yes {l : List ArcV} {k : Nat} (hk : k < l.length) (h : l[k].fr ≠ l[k].to) : fwd (l.take (k + 1)) = fwd (l.take k) ++ [fwdA l[k]] := by
  unfold fwd
  rw [List.take_succ_eq_append_getElem hk, List.filter_append, List.map_append]
  simp [h]
theorem fwd_no {l : List ArcV} {k : Nat} (hk : k < l.length) (h : l[k].fr = l[k].to) : fwd (l.take (k + 1)) = fwd (l.take k) := by
  unfold fwd
  rw [List.take_succ_eq_append_getElem hk, List.filter_append]
  simp [h]
theorem fwd_len (l : List ArcV) : (fwd l).length ≤ l.length := by
  unfold fwd; rw [List.length_map]; exact List.length_filter_le _ _
theorem fwd_mem {l : List ArcV} {b : ArcV} (h : b ∈ fwd l) : ∃ a ∈ l, a.fr ≠ a.to ∧ b = fwdA a := by
  unfold fwd at h
  obtain ⟨a, ha, rfl⟩ := List.mem_map.1 h
  rw [List.mem_filter] at ha
  exact ⟨a, ha.1, by simpa using ha.2, rfl⟩
theorem fwd_up {l : List ArcV} {b : ArcV} (h : b ∈ fwd l) : b.fr < b.to := by
  obtain ⟨a, _, hn, rfl⟩ := fwd_mem h
  show (if a.to < a.fr then a.to else a.fr) < (if a.fr < a.to then a.to else a.fr)
  split <;> split <;> omega
/-- Nothing stands still but the end. -/
theorem up_whole {N : Nat} {l : List ArcV} {out : List Int} (hup : ∀ a ∈ l, a.fr < a.to) (hin : InN N l) (hs : Stop N l out) : N ≤ out.length := by
  have key : ∀ i, i < N → (i : Int) ∈ out := by
    intro i
    induction i using Nat.strongRecOn with
    | _ i ih =>
      intro hi
      apply Classical.byContradiction
      intro hn
      refine hs i hi ⟨hn, fun a ha hto => ?_⟩
      have h1 := hup a ha
      have h2 := hin a ha
      have := ih a.fr.toNat (by omega) (by omega)
      rwa [Int.toNat_of_nonneg h2.1.1] at this
  apply Classical.byContradiction
  intro hn
  obtain ⟨i, j, h1, h2, h3⟩ := pigeon out.length (fun i => out.idxOf (i : Int)) (fun i hi => List.idxOf_lt_length_of_mem (key i (by omega)))
  have hi := key i (by omega)
  have hj := key j (by omega)
  have ei := List.getElem_idxOf (List.idxOf_lt_length_of_mem hi)
  have ej := List.getElem_idxOf (List.idxOf_lt_length_of_mem hj)
  have h3' : out.idxOf (i : Int) = out.idxOf (j : Int) := h3
  have : (i : Int) = (j : Int) := by
    rw [← ei, ← ej]
    congr 1
  omega
theorem lawO_fwd {N : Nat} {L : List ArcV} (h : LawO N L) : LawO N (fwd L) := by
  have hin : InN N (fwd L) := by
    intro b hb
    obtain ⟨a, ha, hn, rfl⟩ := fwd_mem hb
    have := h.inn a ha
    show (0 ≤ (if a.to < a.fr then a.to else a.fr) ∧ (if a.to < a.fr then a.to else a.fr) < _) ∧ 0 ≤ (if a.fr < a.to then a.to else a.fr) ∧ (if a.fr < a.to then a.to else a.fr) < _
    split <;> split <;> omega
  have hwt : ∀ b ∈ fwd L, -32768 ≤ b.wt ∧ b.wt ≤ 32767 := by
    intro b hb
    obtain ⟨a, ha, hn, rfl⟩ := fwd_mem hb
    exact h.wt a ha
  have hl := fwd_len L
  have h24 := h.len
  have hn8 := h.n8
  refine ⟨h.n1, h.n8, by omega, ?_, hin, hwt⟩
  unfold checkG
  rw [if_neg (by omega)]
  unfold rangeG
  rw [if_neg]
  intro hb
  obtain ⟨b, hb1, hb2⟩ := List.any_eq_true.1 hb
  have h1 := hin b hb1
  have h2 := hwt b hb1
  unfold badArc at hb2
  simp only [decide_eq_true_eq] at hb2
  omega
set_option maxRecDepth 100000 in
set_option maxHeartbeats 4000000 in
theorem forward_any (W : World) (n : Int) (A : Option Addr) (cap : Nat) (m : Nat) (N : Nat) (L : List ArcV) (w : World) (hW : Below W.heap.size W w) (hlo : LawO N L) (hgr : ∀ w', Below W.heap.size W w' → Calls Try.prog 23 #[.int .u8 n, .slice A m cap] w' (GraphPost w' N L)) :
    Calls Try.prog 35 #[.int .u8 n, .slice A m cap] w (GraphPost w N (fwd L)) := by
  have HS0 := Lib.hid ((SL.start (Nat.le_refl w.heap.size)).alloc #[.int .i64 0, .slice none 0 0] 45)
  obtain ⟨i0, hi0, hz0, hz1, hz2⟩ := info_parts arc_info
  have HI := Lib.hid (And.intro hi0 (And.intro hz0 (And.intro hz1 hz2)))
  have HIN := Lib.hid hlo.inn
  have hlen := hlo.len
  have hn8 := hlo.n8
  have HGR := Lib.hid (hgr _ (hW.trans (HS0.out.below.mono hW.size)))
  clear hi0 hz0 hz1 hz2 hlo hgr hW
  obtain ⟨gb, hgb⟩ : ∃ gb, gb = w.heap.size := ⟨_, rfl⟩
  go_enter Try.func35, Try.ntmps35
  go_upto_region 2 with (first
    | (go_at_call 23; (with_reducible refine HGR.out.mono ?_); rintro e w2 ⟨v, rfl, hS⟩
       obtain ⟨A2, c2, rfl, _, _⟩ := (hS.row 0 rfl).slice_
       have hS2 := HS0.out.join hS
       clear hS))
  have hS3 := hS2.alloc #[.int .i64 N, .slice A2 L.length c2] 45
  obtain ⟨hb, hhb⟩ : ∃ hb, hb = w2.heap.size := ⟨_, rfl⟩
  generalize (w2.alloc (.cells #[.int .i64 N, .slice A2 L.length c2] 45)) = w3 at *
  rw [← hhb, ← hgb] at hS3
  rw [← hhb, ← hgb]
  have HS3 : Hid (SL w gb [.row 55 3 (.slice none 0 0) 0 [], .blk hb #[.int .i64 N, .slice A2 L.length c2] 45, .row 55 3 (.slice A2 L.length c2) L.length (arcCells L), .blk gb #[.int .i64 0, .slice none 0 0] 45] w3) := Lib.hid (hS3.nil 55 3)
  have c0 : w3.cell? ⟨hb, 1, none⟩ = some (.slice A2 L.length c2) := hS3.cell 0 rfl 1 rfl
  clear hhb hS2 hS3 HS0 HGR
  go_wp2_with fail
  clear c0
  go_loopw [6, 15] (fun v6 i wr => ∃ (k : Nat) (A6 : Option Addr) (c6 : Nat), k ≤ L.length ∧ i = .int .i64 k ∧ v6 = .slice A6 (fwd (L.take k)).length c6 ∧ SL w gb [.row 55 3 (.slice A6 (fwd (L.take k)).length c6) (fwd (L.take k)).length (arcCells (fwd (L.take k))), .blk hb #[.int .i64 N, .slice A2 L.length c2] 45, .row 55 3 (.slice A2 L.length c2) L.length (arcCells L), .blk gb #[.int .i64 0, .slice none 0 0] 45] wr) (fun _ i _ => L.length - (intOf i).toNat)
  case atStart => exact ⟨0, none, 0, by omega, rfl, rfl, HS3.out⟩
  case round =>
    clear HS3
    obtain ⟨k, A6, c6, hk, rfl, rfl, hS⟩ := hrel
    by_cases hlt : k < L.length
    · obtain ⟨b, p, rfl, hb2, a0, a1, a2⟩ := arcs_at (hS.reads 2 rfl) hlt
      obtain ⟨⟨f0, f1⟩, t0, t1⟩ := HIN.out _ (List.getElem_mem hlt)
      have HY := Lib.hid (fwd_yes hlt)
      have HN := Lib.hid (fwd_no hlt)
      have hfl := fwd_len (L.take k)
      rw [List.length_take] at hfl
      obtain ⟨fk, hfk⟩ : ∃ fk, fwd (L.take k) = fk := ⟨_, rfl⟩
      rw [hfk] at hS HY HN hfl
      obtain ⟨a, ha⟩ : ∃ a, L[k] = a := ⟨_, rfl⟩
      rw [ha] at a0 a1 a2 f0 f1 t0 t1 HY HN
      have hS2 := hS.alloc #[.int .i64 a.fr, .int .i64 a.to, .int .i64 a.wt] 55
      have hz1 : b < wr.heap.size := hb2
      have HFK := Lib.hid hfk
      rw [hfk]
      clear ha hfk hS
      go_upto_region 6 with fail
      obtain ⟨ar, har⟩ : ∃ ar, ar = wr.heap.size := ⟨_, rfl⟩
      generalize (wr.alloc (.cells #[.int .i64 a.fr, .int .i64 a.to, .int .i64 a.wt] 55)) = w8 at *
      rw [← har] at hS2 ⊢
      clear har a0 a1 a2 hz1 hb2
      have y0 : w8.cell? ⟨ar, 0, none⟩ = some (.int .i64 a.fr) := hS2.cell 0 rfl 0 rfl
      have y1 : w8.cell? ⟨ar, 1, none⟩ = some (.int .i64 a.to) := hS2.cell 0 rfl 1 rfl
      have y2 : w8.cell? ⟨ar, 2, none⟩ = some (.int .i64 a.wt) := hS2.cell 0 rfl 2 rfl
      by_cases heq : a.fr = a.to
      · have hne : (a.fr != a.to) = false := by simp [heq]
        have HS2 := Lib.hid hS2
        have HEQ := Lib.hid heq
        clear hS2 heq
        go_wp2_with fail
        go_roundw
        case rel => exact ⟨k + 1, A6, c6, by omega, by go_num, by rw [HN.out HEQ.out], by rw [HN.out HEQ.out]; exact HS2.out.tail⟩
        case measure => simp [intOf]; omega
      · have hne : (a.fr != a.to) = true := by simp [heq]
        have HEQ := Lib.hid heq
        clear heq
        obtain ⟨B, hB⟩ : ∃ B, fwdA a = B := ⟨_, rfl⟩
        have b0 : (if a.to < a.fr then a.to else a.fr) = B.fr := by rw [← hB]; rfl
        have b1 : (if a.fr < a.to then a.to else a.fr) = B.to := by rw [← hB]; rfl
        have b2 : a.wt = B.wt := by rw [← hB]; rfl
        have HB := Lib.hid hB
        have hS4 : SL w gb [.row 55 3 (.slice A6 fk.length c6) fk.length (arcCells fk), .blk ar #[.int .i64 a.fr, .int .i64 a.to, .int .i64 a.wt] 55, .blk hb #[.int .i64 N, .slice (some ⟨b, p, none⟩) L.length c2] 45, .row 55 3 (.slice (some ⟨b, p, none⟩) L.length c2) L.length (arcCells L), .blk gb #[.int .i64 0, .slice none 0 0] 45] w8 := hS2.perm (.swap _ _ _)
        clear hS2 hB
        go_wp2_with (at_builtin; refine stopHere ?_)
        show wpList _ _ _ _ _ _
        refine wpList_append_sl rfl _ _ 43 rfl hS4 0 i0 _ 3 24 Try.underlying43 HI.out.1 HI.out.2.1 HI.out.2.2.1 HI.out.2.2.2 rfl (by decide) _ _ 1 _ rfl rfl _ rfl rfl (by decide) rfl (by simp [Value.oneCell']) (by omega) (by decide) ?_
        intro v9 w9 hS9 hz9
        obtain ⟨A9, c9, rfl, _, _⟩ := (hS9.row 0 rfl).slice_
        have HS9 := Lib.hid hS9
        clear hS4 hS9 y0 y1 y2 hz9
        go_wp2_with fail
        go_roundw
        case rel =>
          have hol : (fk ++ [B]).length = fk.length + 1 := by simp
          refine ⟨_, _, _, ⟨k + 1, by omega, by go_num, A9, c9, by rw [HY.out HEQ.out, HB.out, hol], ?_⟩, rfl, rfl, rfl⟩
          rw [HY.out HEQ.out, HB.out, hol, arcCells_snoc, ← hgb]
          exact HS9.out.sub (.cons_cons _ (.cons _ (List.Sublist.refl _)))
        case measure => simp [intOf]; omega
    · obtain rfl : k = L.length := by omega
      rw [List.take_length] at hS ⊢
      obtain ⟨fl, hfl⟩ : ∃ fl, fwd L = fl := ⟨_, rfl⟩
      rw [hfl] at hS ⊢
      have HFL := Lib.hid hfl
      have c1 : wr.cell? ⟨hb, 1, none⟩ = some (.slice A2 L.length c2) := hS.cell 1 rfl 1 rfl
      have c2' := hS.free 1 rfl 1
      have HS5 : Hid (SL w gb [.row 55 3 (.slice A6 fl.length c6) fl.length (arcCells fl), .blk hb #[.int .i64 N, .slice A6 fl.length c6] 45, .row 55 3 (.slice A2 L.length c2) L.length (arcCells L), .blk gb #[.int .i64 0, .slice none 0 0] 45] (wr.setCell ⟨hb, 1, none⟩ (.slice A6 fl.length c6))) := Lib.hid (hS.setCell 1 rfl 1 (.slice A6 fl.length c6))
      clear hS hfl
      go_upto_region 10 with fail
      generalize (wr.setCell ⟨hb, 1, none⟩ (.slice A6 fl.length c6)) = w5 at *
      have d0 : w5.cell? ⟨hb, 0, none⟩ = some (.int .i64 N) := HS5.out.cell 1 rfl 0 rfl
      have d1 : w5.cell? ⟨hb, 1, none⟩ = some (.slice A6 fl.length c6) := HS5.out.cell 1 rfl 1 rfl
      clear c1 c2'
      have H1C : Hid ((#[Value.int .i64 N, Value.slice A6 fl.length c6] : Array Value).all (·.oneCell') = true) := Lib.hid (by simp [Value.oneCell'])
      go_wp2_with (refine wpList_store_abs rfl 45 (.tmp 4) (.tmp 43) rfl rfl gb #[.int .i64 N, .slice A6 fl.length c6] rfl rfl 45 _ (HS5.out.blk 3 rfl) (by kernel_rfl) rfl H1C.out ?_; intro w6 ho6 hg6; have HS6 := Lib.hid (HS5.out.only 3 rfl ho6 hg6); clear ho6 hg6)
      refine retArr rfl _ _ gb 45 #[.int .i64 N, .slice A6 fl.length c6] _ rfl (HS6.out.blk 3 rfl) Try.underlying45 rfl (by kernel_rfl) ?_
      refine ⟨_, rfl, ?_⟩
      rw [HFL.out, ← hgb]
      exact HS6.out.sub (.cons_cons _ (List.nil_sublist _))
end Go.Proofs.Ytaaffahjlkfbgaa
