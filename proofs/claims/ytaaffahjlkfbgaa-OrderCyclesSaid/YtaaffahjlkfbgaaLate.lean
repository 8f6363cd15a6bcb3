/- The walk of order.Late. -/
import Derived.Test.YtaaffahjlkfbgaaLateM
import Derived.Test.YtaaffahjlkfbgaaFarB
import Derived.Test.YtaaffahjlkfbgaaCopyI
import Derived.Test.YtaaffahjlkfbgaaSorted
namespace Go.Proofs.Ytaaffahjlkfbgaa
open Go.ChangeShapes Go.WideShapes Go.ChangeAt Go.RowKit
set_option linter.unusedVariables false
section
variable {P : Program} {lo : List Oper} {K : World → Prop} {Lq : Act → Prop} {a : Act} {i : Nat} {rest : List Nat} {o : Oper}
/-- max of two. -/
theorem pl_max (x y : Operand) (ts : Array TypeId) (k k' : IntKind) (X Y z : Int) (hi : lo[i]? = some o) (hw : Region.wanted o (yielded lo.toArray a.tmps) = true) (ho : o.op = .call { callee := .builtin .max, args := #[x, y], argTypes := ts }) (hx : a.eval x = .int k X) (hy : a.eval y = .int k' Y) (hz : (if X < Y then Y else X) = z)
    (hk : ∀ Kv : Act → Prop, (∀ a, wpPlanL P lo.toArray K Lq rest a → Kv a) → Kv (a.put o.dst (.int k z))) : wpPlanL P lo.toArray K Lq (i :: rest) a :=
  pl_told (.int k z) hi hw (fun w _ => by
    unfold execOp
    simp only [ho, resolve, invoke, builtin, Sem.run_bind, Sem.run_pure, Result.andThen_ok, List.map_toArray, List.map_cons, List.map_nil, hx, hy, run_max_int2, gt_iff_lt, hz]) hk
end
theorem mem_outK {l : List ArcV} {x : Int} {m : Nat} : (m : Int) ∈ outK l x l.length ↔ ∃ h : m < l.length, l[m].fr = x := by
  unfold outK
  rw [List.mem_map]
  constructor
  · rintro ⟨k, hk, e⟩
    have : k = m := Int.ofNat.inj e
    subst this
    rw [List.mem_filter] at hk
    have h1 : k < l.length := by simpa using hk.1
    refine ⟨h1, ?_⟩
    have := hk.2
    rw [List.getElem?_eq_getElem h1] at this
    simpa using this
  · rintro ⟨h, e⟩
    refine ⟨m, ?_, rfl⟩
    rw [List.mem_filter]
    refine ⟨by simpa using h, ?_⟩
    rw [List.getElem?_eq_getElem h]
    simpa using e
def frAt (l : List ArcV) (k : Nat) : Int := match l[k]? with | some a => a.fr | none => -1
theorem frAt_at {l : List ArcV} {k : Nat} (hk : k < l.length) : frAt l k = l[k].fr := by
  unfold frAt; rw [List.getElem?_eq_getElem hk]
theorem wt_of_check {N : Int} {l : List ArcV} (h : checkG N l = 0) : ∀ a ∈ l, -1099511627776 ≤ a.wt ∧ a.wt ≤ 1099511627776 := by
  intro a ha
  obtain ⟨k, hk, rfl⟩ := List.getElem_of_mem ha
  apply Classical.byContradiction
  intro hn
  have h2 := rangeG_bad (N := N) hk (.inr (.inr (by omega)))
  unfold checkG at h
  split at h
  · simp at h
  · rw [h2] at h; simp at h
theorem sort_two (N : Nat) (A : Option Addr) (cap : Nat) (l : List ArcV) (w : World) (hr : Arcs w w.heap.size A l) (hck : checkG N l = 0) :
    Calls Try.prog 32 #[.agg #[.int .i64 N, .slice A l.length cap]] w fun e w' => ∃ (out : List Int) (A' : Option Addr) (n' c' : Nat) (okb : Bool), e = .returned (.tuple #[.slice A' n' c', .bool okb]) ∧ Grd N l out ∧ Stop N l out ∧ (okb = true → out.length = N ∧ n' = N ∧ SL w w.heap.size [.row 3 1 (.slice A' N c') N (out.map (.int .i64))] w') ∧ (okb = false → out.length < N ∧ n' = 0) ∧ Below w.heap.size w w' := by
  refine (sort_any N A cap l w hr hck).mono ?_
  rintro e w' ⟨out, hg, hs, ⟨h1, A', c', rfl, h3⟩ | ⟨h1, rfl, h3⟩⟩
  · exact ⟨out, A', N, c', true, rfl, hg, hs, fun _ => ⟨h1, rfl, h3⟩, fun h => (by cases h), h3.below⟩
  · exact ⟨out, none, 0, 0, false, rfl, hg, hs, fun h => (by cases h), fun _ => ⟨h1, rfl⟩, h3⟩
def LateBad (w : World) (k : Int) (e : Ending) (w' : World) : Prop := e = .returned (.tuple #[.slice none 0 0, .int .i64 k]) ∧ Below w.heap.size w w'
set_option maxRecDepth 100000 in
set_option maxHeartbeats 2000000 in
theorem late_size (N : Int) (A : Option Addr) (cap n : Nat) (AF : Option Addr) (nF cF : Nat) (w : World) (hF : nF ≤ maxLen) (hne : (nF : Int) ≠ N) :
    Calls Try.prog 36 #[.agg #[.int .i64 N, .slice A n cap], .slice AF nF cF] w (LateBad w 4) := by
  have HS0 := Lib.hid ((SL.start (Nat.le_refl w.heap.size)).alloc #[.int .i64 N, .slice A n cap] 45)
  have hb : ((nF : Int) != N) = true := by simpa using hne
  clear hne
  go_enter Try.func36, Try.ntmps36
  go_wp2_with fail
  go_ret2
  exact ⟨rfl, HS0.out.below⟩
set_option maxRecDepth 100000 in
set_option maxHeartbeats 4000000 in
theorem late_check (N : Nat) (A : Option Addr) (cap : Nat) (l : List ArcV) (AF : Option Addr) (cF : Nat) (w : World) (hr : Arcs w w.heap.size A l) (hl : l.length ≤ maxLen) (hN : N ≤ maxLen) (hck : checkG N l ≠ 0) :
    Calls Try.prog 36 #[.agg #[.int .i64 N, .slice A l.length cap], .slice AF N cF] w (LateBad w (checkG N l)) := by
  have hS0 := (SL.start (Nat.le_refl w.heap.size)).alloc #[.int .i64 N, .slice A l.length cap] 45
  have HRD : Hid (Arcs (w.alloc (.cells #[.int .i64 N, .slice A l.length cap] 45)) (w.alloc (.cells #[.int .i64 N, .slice A l.length cap] 45)).heap.size A l) := Lib.hid (reads_more (Reads.below hr hS0.below) (by simp))
  have HS0 := Lib.hid hS0
  have HL := Lib.hid hl
  have hb : ((N : Int) != (N : Int)) = false := by simp
  obtain ⟨k, hk⟩ : ∃ k, checkG N l = k := ⟨_, rfl⟩
  rw [hk] at hck
  have hz : (k != 0) = true := by simpa using hck
  have HK := Lib.hid hk
  rw [hk]
  clear hr hl hck hS0 hk
  go_enter Try.func36, Try.ntmps36
  go_wp2_with (go_at_call 39; (with_reducible refine (checkG_any N A cap l _ HRD.out HL.out).mono ?_); rintro e w2 ⟨rfl, hB⟩; rw [HK.out]; have HS1 := Lib.hid (HS0.out.call hB); clear hB)
  go_ret2
  exact ⟨rfl, HS1.out.below⟩
set_option maxRecDepth 100000 in
set_option maxHeartbeats 4000000 in
theorem late_far (N : Nat) (A : Option Addr) (cap : Nat) (l : List ArcV) (AF : Option Addr) (cF : Nat) (FL : List Int) (w : World) (hr : Arcs w w.heap.size A l) (hrF : Reads w w.heap.size 1 AF FL.length (FL.map (.int .i64))) (hFN : FL.length = N) (hck : checkG N l = 0) (hfar : ∃ x ∈ FL, farB x = true) :
    Calls Try.prog 36 #[.agg #[.int .i64 N, .slice A l.length cap], .slice AF N cF] w (LateBad w 2) := by
  subst hFN
  have hS0 := (SL.start (Nat.le_refl w.heap.size)).alloc #[.int .i64 FL.length, .slice A l.length cap] 45
  have HRD : Hid (Arcs (w.alloc (.cells #[.int .i64 FL.length, .slice A l.length cap] 45)) (w.alloc (.cells #[.int .i64 FL.length, .slice A l.length cap] 45)).heap.size A l) := Lib.hid (reads_more (Reads.below hr hS0.below) (by simp))
  obtain ⟨_, hN, hl, _⟩ := inN_of_check hck
  have HRF : Hid (∀ (rs : List Rs) w', SL w w.heap.size rs w' → Reads w' w'.heap.size 1 AF FL.length (FL.map (.int .i64))) := Lib.hid (fun rs w' h => reads_more (Reads.below hrF h.below) h.below.size)
  have HS0 := Lib.hid hS0
  have hl2 : l.length ≤ maxLen := by unfold maxLen; omega
  have HL := Lib.hid hl2
  have hb : ((FL.length : Int) != (FL.length : Int)) = false := by simp
  have hz : ((0 : Int) != 0) = false := rfl
  have HCK := Lib.hid hck
  have HFAR := Lib.hid hfar
  clear hr hl hl2 hck hS0 hrF hfar
  go_enter Try.func36, Try.ntmps36
  go_wp2_with (first
    | (go_at_call 39; (with_reducible refine (checkG_any FL.length A cap l _ HRD.out HL.out).mono ?_); rintro e w2 ⟨rfl, hB⟩; rw [HCK.out]; have HS1 := Lib.hid (HS0.out.call hB); clear hB)
    | (go_at_call 54; (with_reducible refine (contains_farB AF cF FL _ (HRF.out _ _ HS1.out) (by omega)).mono ?_); rintro e w3 ⟨⟨b, rfl, hbf⟩, hB⟩
       obtain rfl : b = true := hbf.2 HFAR.out
       have HS2 := Lib.hid (HS1.out.call hB); clear hB hbf))
  go_ret2
  exact ⟨rfl, HS2.out.below⟩
def LateFin (w : World) (N : Nat) (l : List ArcV) (FL : List Int) (e : Ending) (w' : World) : Prop :=
  ∃ out, Grd N l out ∧ Stop N l out ∧ ((out.length = N ∧ ∃ g v, e = .returned (.tuple #[.slice (some ⟨g, 0, none⟩) N N, .int .i64 0]) ∧ SL w w.heap.size [.blk g (iarr v N) 2] w' ∧ LateOf N l (fun j => FL.getD j 0) v) ∨ (out.length < N ∧ LateBad w 7 e w'))
set_option maxRecDepth 100000 in
set_option maxHeartbeats 8000000 in
theorem late_fin (N : Nat) (A : Option Addr) (cap : Nat) (l : List ArcV) (AF : Option Addr) (cF : Nat) (FL : List Int) (w : World) (hr : Arcs w w.heap.size A l) (hrF : Reads w w.heap.size 1 AF FL.length (FL.map (.int .i64))) (hFN : FL.length = N) (hck : checkG N l = 0) (hfar : ¬ ∃ x ∈ FL, farB x = true) :
    Calls Try.prog 36 #[.agg #[.int .i64 N, .slice A l.length cap], .slice AF N cF] w (LateFin w N l FL) := by
  have hS0 := (SL.start (Nat.le_refl w.heap.size)).alloc #[.int .i64 N, .slice A l.length cap] 45
  have HR : Hid (∀ (rs : List Rs) w', SL w w.heap.size rs w' → Arcs w' w'.heap.size A l) := Lib.hid (fun rs w' h => reads_more (Reads.below hr h.below) h.below.size)
  have HRF : Hid (∀ (rs : List Rs) w', SL w w.heap.size rs w' → Reads w' w'.heap.size 1 AF FL.length (FL.map (.int .i64))) := Lib.hid (fun rs w' h => reads_more (Reads.below hrF h.below) h.below.size)
  obtain ⟨_, hN, hl, hin⟩ := inN_of_check hck
  simp only [Int.toNat_natCast] at hin
  have HWT := Lib.hid (wt_of_check hck)
  have hNn : N ≤ 1000 := by omega
  obtain ⟨i0, hi0, hz0, hz1, hz2⟩ := info_parts int64_info
  have HI := Lib.hid (And.intro hi0 (And.intro hz0 (And.intro hz1 hz2)))
  have HIN := Lib.hid hin
  have HCK := Lib.hid hck
  have hl2 : l.length ≤ maxLen := by unfold maxLen; omega
  have HL := Lib.hid hl2
  have hz : ((0 : Int) != 0) = false := rfl
  have hb : ((N : Int) != (N : Int)) = false := by simp
  have hlo : ∀ j, -1125899906842624 ≤ FL.getD j 0 ∧ FL.getD j 0 ≤ 1125899906842624 := by
    intro j
    rw [List.getD_eq_getElem?_getD]
    by_cases h : j < FL.length
    · rw [List.getElem?_eq_getElem h]
      have : farB FL[j] = false := by
        cases hf : farB FL[j]
        · rfl
        · exact absurd ⟨_, List.getElem_mem h, hf⟩ hfar
      unfold farB at this
      simp at this
      simp
      omega
    · rw [List.getElem?_eq_none (by omega)]; simp
  have HLO := Lib.hid hlo
  have HFAR := Lib.hid hfar
  have HFN := Lib.hid hFN
  clear hr hi0 hz0 hz1 hz2 hin hck hl2 hN hrF hlo hfar
  go_enter Try.func36, Try.ntmps36
  go_upto_region 1 with fail
  obtain ⟨gb, hgb⟩ : ∃ gb, gb = w.heap.size := ⟨_, rfl⟩
  obtain ⟨w0, hw0⟩ : ∃ w0, w0 = w.alloc (.cells #[.int .i64 N, .slice A l.length cap] 45) := ⟨_, rfl⟩
  have HS0 : Hid (SL w w.heap.size [.blk gb #[.int .i64 N, .slice A l.length cap] 45] w0) := Lib.hid (by rw [hgb, hw0]; exact hS0)
  rw [← hw0, ← hgb]
  clear hS0 hw0 hgb
  have c0 : w0.cell? ⟨gb, 0, none⟩ = some (.int .i64 N) := HS0.out.cell 0 rfl 0 rfl
  have c1 : w0.cell? ⟨gb, 1, none⟩ = some (.slice A l.length cap) := HS0.out.cell 0 rfl 1 rfl
  have HCF : Hid (∀ w', SL w w.heap.size [.blk gb #[.int .i64 N, .slice A l.length cap] 45] w' → Calls Try.prog 54 #[.slice AF N cF, .func (.func 55) #[] #[]] w' fun e w'' => (∃ b : Bool, e = .returned (.bool b) ∧ (b = true ↔ ∃ x ∈ FL, farB x = true)) ∧ Below w'.heap.size w' w'') := Lib.hid (fun w' h => by
    have hc := contains_farB AF cF FL w' (HRF.out _ _ h) (by omega)
    rw [HFN.out] at hc
    exact hc)
  go_upto_region 9 with (first
    | (go_at_call 39; (with_reducible refine (checkG_any N A cap l _ (HR.out _ _ HS0.out) HL.out).mono ?_); rintro e w2 ⟨rfl, hB⟩; rw [HCK.out]
       have hS1 := HS0.out.call hB
       have d0 : w2.cell? ⟨gb, 0, none⟩ = some (.int .i64 N) := hS1.cell 0 rfl 0 rfl
       have d1 : w2.cell? ⟨gb, 1, none⟩ = some (.slice A l.length cap) := hS1.cell 0 rfl 1 rfl
       have HS1 := Lib.hid hS1
       clear hB hS1 c0 c1)
    | (go_at_call 54; (with_reducible refine (HCF.out _ HS1.out).mono ?_); rintro e w3 ⟨⟨b, rfl, hbf⟩, hB⟩
       obtain rfl : b = false := by
         cases b
         · rfl
         · exact absurd (hbf.1 rfl) HFAR.out
       have hS2 := HS1.out.call hB
       have e0 : w3.cell? ⟨gb, 0, none⟩ = some (.int .i64 N) := hS2.cell 0 rfl 0 rfl
       have e1 : w3.cell? ⟨gb, 1, none⟩ = some (.slice A l.length cap) := hS2.cell 0 rfl 1 rfl
       have HS2 := Lib.hid hS2
       clear hB hbf hS2 d0 d1)
    | (go_at_call 32; (with_reducible refine (sort_two N A cap l _ (HR.out _ _ HS2.out) HCK.out).mono ?_); rintro e w4 ⟨out, A', n', c', okb, rfl, hg, hst, hyes, hno, hB⟩
       have hS3 := HS2.out.call hB
       have f0 : w4.cell? ⟨gb, 0, none⟩ = some (.int .i64 N) := hS3.cell 0 rfl 0 rfl
       have f1 : w4.cell? ⟨gb, 1, none⟩ = some (.slice A l.length cap) := hS3.cell 0 rfl 1 rfl
       have HS3 := Lib.hid hS3
       have HY : Hid (okb = true → out.length = N ∧ n' = N ∧ SL w w.heap.size [.row 3 1 (.slice A' N c') N (out.map (.int .i64)), .blk gb #[.int .i64 N, .slice A l.length cap] 45] w4) := Lib.hid (fun h => ⟨(hyes h).1, (hyes h).2.1, HS2.out.join (hyes h).2.2⟩)
       have HNO := Lib.hid hno
       have HG := Lib.hid hg
       have HST := Lib.hid hst
       clear hB hS3 hg hst hyes hno e0 e1))
  cases okb with
  | false =>
    obtain ⟨h1, rfl⟩ := HNO.out rfl
    clear HY HNO
    go_wp2_with fail
    go_ret2
    exact ⟨out, HG.out, HST.out, .inr ⟨h1, rfl, HS3.out.below⟩⟩
  | true =>
    obtain ⟨hoN, rfl, hS4⟩ := HY.out rfl
    have HS4 := Lib.hid hS4
    have HON := Lib.hid hoN
    clear HY HNO hS4 HS0 HS1 HS2 HS3 HCF
    go_upto_region 12 with (at_make; refine wpList_make_rep _ rfl _ _ 47 rfl 2 i0 (.int .i64 0) Try.underlying47 HI.out.1 HI.out.2.1 HI.out.2.2.1 rfl .i64 .i64 n' n' n' rfl rfl rfl rfl ?b2 ?b3 ?_
                            case b2 => rw [HI.out.2.2.2]; omega
                            case b3 => unfold maxLen; omega
                            intro w5 hg5 hb5 hz5
                            obtain ⟨ob, hob⟩ : ∃ ob, ob = w4.heap.size := ⟨_, rfl⟩
                            have hS := HS4.out.made hb5 hg5
                            rw [← hob] at hS
                            have HS5 : Hid (SL w w.heap.size [.blk ob (iarr (fun _ => 0) n') 2, .row 3 1 (.slice A' n' c') n' (out.map (.int .i64)), .blk gb #[.int .i64 n', .slice A l.length cap] 45] w5) := Lib.hid (by
                              have e : iarr (fun _ => 0) n' = Array.replicate n' (.int .i64 0) := by
                                rw [← madeCells_one (.int .i64 0) n' rfl]
                                show _ = madeCells #[Value.int .i64 0] n'
                                rw [iarr_made]
                              rw [e]
                              exact hS)
                            rw [← hob]
                            clear hg5 hb5 hz5 hS hob f0 f1 HS4)
    have HRF5 := Lib.hid (HRF.out _ _ HS5.out)
    rw [HFN.out] at HRF5
    have HRF6 : Hid (Reads w5 w5.heap.size 1 AF FL.length (FL.map (.int .i64))) := Lib.hid (HRF.out _ _ HS5.out)
    go_wp2_with (with_reducible refine wpList_copy_ints rfl (.tmp 37) (.tmp 38) 47 47 rfl 2 Try.underlying47 (by kernel_rfl) ob n' n' rfl AF FL cF ?d1 _ HRF6.out (fun _ => 0) 2 (HS5.out.blk 0 rfl) ?_
                 case d1 => rw [HFN.out]; rfl
                 intro w6 v6 ho6 hh6
                 have HS6 := Lib.hid (HS5.out.only 0 rfl ho6 hh6)
                 clear ho6 hh6)
    obtain ⟨BEG, hbeg⟩ : ∃ BEG : Nat → Int, BEG = fun j => FL.getD j 0 := ⟨_, rfl⟩
    have HS7 : Hid (SL w w.heap.size [.blk ob (iarr BEG n') 2, .row 3 1 (.slice A' n' c') n' (out.map (.int .i64)), .blk gb #[.int .i64 n', .slice A l.length cap] 45] w6) := Lib.hid (by
      have e : iarr BEG n' = iarr (laidOver FL fun _ => 0) n' := iarr_ext fun j _ => by
        rw [hbeg]
        show FL.getD j 0 = _
        unfold laidOver
        rw [List.getD_eq_getElem?_getD]
        cases FL[j]? <;> rfl
      rw [e]
      exact HS6.out)
    have HBG : Hid (∀ j, -1125899906842624 ≤ BEG j ∧ BEG j ≤ 1125899906842624) := Lib.hid (by rw [hbeg]; exact HLO.out)
    have HBE := Lib.hid hbeg
    clear hbeg HS6 HS5 HRF5 HRF6 HLO
    go_loopw [42] (fun i42 wr => ∃ (t : Nat) (v : Nat → Int), t ≤ n' ∧ i42 = .int .i64 t ∧ LateK l BEG v (fun m => frAt l m ∈ out.take t) ∧ (∀ j, j < n' → v j ≤ 1125899906842624 + t * 1099511627776) ∧ SL w w.heap.size [.blk ob (iarr v n') 2, .row 3 1 (.slice A' n' c') n' (out.map (.int .i64)), .blk gb #[.int .i64 n', .slice A l.length cap] 45] wr) (fun i42 _ => n' - (intOf i42).toNat)
    case atStart => exact ⟨0, BEG, by omega, rfl, LateK.start (by simp), fun j _ => by have := HBG.out j; omega, HS7.out⟩
    case round =>
      clear HS7
      obtain ⟨t, v, ht, rfl, hK, hle, hS⟩ := hrel
      have HK := Lib.hid hK
      have HLE := Lib.hid hle
      clear hK hle
      by_cases hlt : t < n'
      · have hto : t < out.length := by rw [HON.out]; exact hlt
        obtain ⟨i, hi, hgt, hnx⟩ := HG.out.at_ t hto
        have hik := hnx.1
        have HNX := Lib.hid hnx
        have HGT := Lib.hid hgt
        have HI2 := Lib.hid hi
        obtain ⟨bk, ok, rfl, hbk, e0⟩ := ints_at (by have h := hS.reads 1 rfl; rw [← HON.out] at h; exact h) hto
        rw [hi] at e0
        have d0 : wr.cell? ⟨gb, 0, none⟩ = some (.int .i64 n') := hS.cell 2 rfl 0 rfl
        have d1 : wr.cell? ⟨gb, 1, none⟩ = some (.slice A l.length cap) := hS.cell 2 rfl 1 rfl
        have HS := Lib.hid hS
        have HO := Lib.hid (out_any (n' : Int) A cap l (i : Int) wr (HR.out _ _ hS) (by omega))
        have HMEM := Lib.hid (fun t (ht : t < (outK l (i : Int) l.length).length) => outK_mem ht)
        have HALL := Lib.hid (fun m => mem_outK (l := l) (x := (i : Int)) (m := m))
        have hkl := outK_len l (i : Int) l.length
        obtain ⟨ks, hks⟩ : ∃ ks, ks = outK l (i : Int) l.length := ⟨_, rfl⟩
        rw [← hks] at HO HMEM HALL hkl
        clear hS hks hnx hgt hi hbk
        go_wp2_with (go_at_call 53; (with_reducible refine HO.out.mono ?_); rintro e w9 ⟨vk, rfl, hown, hB9⟩
                     have hS9 := HS.out.got hown hB9
                     obtain ⟨Ak, ck, rfl, _, _⟩ := (hS9.row 0 rfl).slice_
                     have HS9 := Lib.hid hS9
                     clear hS9 hown hB9 d0 d1 e0)
        clear HO HS
        obtain ⟨V, hV⟩ : ∃ V, v i = V := ⟨_, rfl⟩
        have hV0 : -1125899906842624 ≤ V := by have h1 := HBG.out i; have h2 := HK.out.low i; omega
        have hV1 : V ≤ 1125899906842624 + t * 1099511627776 := by have := HLE.out i hik; omega
        have hV2 : V ≤ 2251799813685248 := by omega
        go_loopw [50] (fun i50 wi => ∃ (s : Nat) (v : Nat → Int), s ≤ ks.length ∧ i50 = .int .i64 s ∧ LateK l BEG v (fun m => frAt l m ∈ out.take t ∨ (m : Int) ∈ ks.take s) ∧ v i = V ∧ (∀ j, j < n' → v j ≤ 1125899906842624 + (t + 1) * 1099511627776) ∧ SL w w.heap.size [.row 3 1 (.slice Ak ks.length ck) ks.length (ks.map (.int .i64)), .blk ob (iarr v n') 2, .row 3 1 (.slice (some ⟨bk, ok, none⟩) n' c') n' (out.map (.int .i64)), .blk gb #[.int .i64 n', .slice A l.length cap] 45] wi) (fun i50 _ => ks.length - (intOf i50).toNat)
        case atStart => exact ⟨0, v, by omega, rfl, HK.out.of (fun m _ => by simp), hV, fun j hj => by have := HLE.out j hj; omega, HS9.out⟩
        case round =>
          clear HS9 HK HLE hV
          obtain ⟨s, v, hs, rfl, hK, hvi, hle, hS⟩ := hrel
          have HK := Lib.hid hK
          have HLE := Lib.hid hle
          have HVI := Lib.hid hvi
          clear hK hle hvi
          by_cases hlts : s < ks.length
          · obtain ⟨m, hm, hml, hfr⟩ := HMEM.out s hlts
            obtain ⟨bj, oj, rfl, hbj, e0⟩ := ints_at (hS.reads 0 rfl) hlts
            rw [hm] at e0
            obtain ⟨b, p, rfl, hb, a0, a1, a2⟩ := arcs_at (HR.out _ _ hS) hml
            obtain ⟨⟨f0, f1⟩, t0, t1⟩ := HIN.out _ (List.getElem_mem hml)
            have hwt := HWT.out _ (List.getElem_mem hml)
            have hni : l[m].to.toNat ≠ i := by
              intro e
              have := HNX.out.2.1.2 _ (List.getElem_mem hml) (by omega)
              rw [hfr] at this
              exact HNX.out.2.1.1 this
            have hno : l[m].to ∉ out.take t := fun h => by
              have := HGT.out.closed _ (List.getElem_mem hml) h
              rw [hfr] at this
              exact HNX.out.2.1.1 this
            have hstep := HK.out.step hml (by omega) (fun m' hm' hp => by
              obtain ⟨⟨g0, g1⟩, _, _⟩ := HIN.out _ (List.getElem_mem hm')
              rcases hp with hp | hp
              · rw [frAt_at hm'] at hp
                intro e
                have : l[m'].fr = l[m].to := by omega
                rw [this] at hp
                exact hno hp
              · obtain ⟨_, h2⟩ := (HALL.out m').1 (List.mem_of_mem_take hp)
                omega)
            have htk : ks.take (s + 1) = ks.take s ++ [(m : Int)] := by rw [List.take_succ_eq_append_getElem hlts, hm]
            have HST : Hid (LateK l BEG (relaxA v l[m]) (fun m => frAt l m ∈ out.take t ∨ (m : Int) ∈ ks.take (s + 1))) := Lib.hid (hstep.of (fun k _ => by
              rw [htk, List.mem_append, List.mem_singleton]
              constructor
              · rintro ((h | h) | rfl)
                · exact .inl h
                · exact .inr (.inl h)
                · exact .inr (.inr rfl)
              · rintro (h | h | h)
                · exact .inl (.inl h)
                · exact .inl (.inr h)
                · exact .inr (by omega)))
            have hm2 : (m : Int) < (l.length : Int) := by omega
            obtain ⟨a, ha⟩ : ∃ a, l[m] = a := ⟨_, rfl⟩
            rw [ha] at a0 a1 a2 f0 f1 t0 t1 hwt HST hni hfr
            obtain ⟨hwt0, hwt1⟩ := hwt
            obtain ⟨T, hT⟩ : ∃ T, v a.to.toNat = T := ⟨_, rfl⟩
            have y0 : wr.cell? ⟨gb, 1, none⟩ = some (.slice (some ⟨b, p, none⟩) l.length cap) := hS.cell 3 rfl 1 rfl
            have hS2 := hS.alloc #[.int .i64 a.fr, .int .i64 a.to, .int .i64 a.wt] 55
            have hz1 : b < wr.heap.size := hb
            have HTT := Lib.hid hT
            have HNI := Lib.hid hni
            have HFR := Lib.hid hfr
            clear ha hno hstep htk hT hni hfr hbj hm hS
            go_upto_region 20 with fail
            obtain ⟨ar, har⟩ : ∃ ar, ar = wr.heap.size := ⟨_, rfl⟩
            generalize (wr.alloc (.cells #[.int .i64 a.fr, .int .i64 a.to, .int .i64 a.wt] 55)) = w8 at *
            rw [← har] at hS2 ⊢
            clear har a0 a1 a2 hz1 hb y0 e0
            refine wp_region_sl [0,1,2,3,4,5,6,7,8,9,10,11,12,13,14,15,16] [] [17] _ hS2 (List.Sublist.refl _) (by kernel_rfl) (by kernel_rfl) (.cons rfl .nil) (fun C cw _ hC => ?_)
            have q0 : ∀ c, (cw c).cell? ⟨ar, 1, none⟩ = some (.int .i64 a.to) := fun c => (hC c).cell 0 rfl 1 rfl
            have q1 : ∀ c, (cw c).cell? ⟨ar, 2, none⟩ = some (.int .i64 a.wt) := fun c => (hC c).cell 0 rfl 2 rfl
            have q2 : ∀ c, (cw c).cell? ⟨ob, a.to.toNat, none⟩ = some (.int .i64 T) := fun c => by rw [← HTT.out]; exact (hC c).cell 2 rfl _ (iarr_get _ _ _ (by omega))
            have q3 : ∀ c, (cw c).cell? ⟨ob, i, none⟩ = some (.int .i64 V) := fun c => by rw [← HVI.out]; exact (hC c).cell 2 rfl _ (iarr_get _ _ _ hik)
            repeat (first | (refine pl_look rfl rfl rfl (fun Kv hK => ?_); go_big_quiet_op; refine hK _ ?_; clear hK Kv) | (refine pl_max _ _ _ _ _ _ _ _ rfl rfl rfl rfl rfl rfl (fun Kv hK => ?_); go_simp; refine hK _ ?_; clear hK Kv))
            clear q0 q1 q2 q3 hC
            refine pl_end ?_
            intro w1 hS4
            refine pm_end ?_
            have y4 : w1.cell? ⟨ob, a.to.toNat, none⟩ = some (.int .i64 T) := by rw [← HTT.out]; exact hS4.cell 2 rfl _ (iarr_get _ _ _ (by omega))
            have y5 := hS4.free 2 rfl a.to.toNat
            have HS5 := Lib.hid (hS4.setInt 2 rfl a.to.toNat (if T < V + a.wt then V + a.wt else T))
            clear hS2 hS4
            go_wp2_with fail
            go_roundw
            case rel =>
              have hrv : ∀ j, relaxA v a j = if j = a.to.toNat then (if T < V + a.wt then V + a.wt else T) else v j := fun j => by
                unfold relaxA
                by_cases e : j = a.to.toNat
                · rw [if_pos e, if_pos e, HTT.out, HFR.out, Int.toNat_natCast, HVI.out]
                  split <;> omega
                · rw [if_neg e, if_neg e]
              refine ⟨s + 1, relaxA v a, by omega, by go_num, HST.out, ?_, ?_, ?_⟩
              · rw [relaxA_ne _ _ (fun h => HNI.out h.symm)]; exact HVI.out
              · intro j hj
                rw [hrv]
                have := HLE.out j hj
                split
                · have := HLE.out a.to.toNat (by omega)
                  rw [HTT.out] at this
                  split <;> omega
                · exact this
              · have e : iarr (relaxA v a) n' = iarr (fun j => if j = a.to.toNat then (if T < V + a.wt then V + a.wt else T) else v j) n' := iarr_ext fun j _ => hrv j
                rw [e]
                exact HS5.out.tail
            case measure => simp [intOf]; omega
          · obtain rfl : s = ks.length := by omega
            have HS := Lib.hid hS
            clear hS
            go_wp2_with fail
            go_roundw
            case rel =>
              refine ⟨t + 1, v, by omega, by go_num, HK.out.of (fun m hm => ?_), fun j hj => by have := HLE.out j hj; simpa using this, HS.out.tail⟩
              rw [List.take_length, List.take_succ_eq_append_getElem hto, HI2.out, List.mem_append, List.mem_singleton, HALL.out m, frAt_at hm]
              constructor
              · rintro (h | ⟨_, h⟩)
                · exact .inl h
                · exact .inr h
              · rintro (h | h)
                · exact .inl h
                · exact .inr ⟨hm, h⟩
            case measure => simp [intOf]; omega
      · obtain rfl : t = n' := by omega
        have HS := Lib.hid hS
        clear hS
        go_wp2_with fail
        go_ret2
        refine ⟨out, HG.out, HST.out, .inl ⟨HON.out, ob, v, rfl, HS.out.sub (.cons_cons _ (List.nil_sublist _)), ?_⟩⟩
        rw [← HBE.out]
        refine HK.out.all (fun m hm => ?_)
        rw [frAt_at hm, ← HON.out, List.take_length]
        have hfr := (HIN.out _ (List.getElem_mem hm)).1
        have := HG.out.full HON.out l[m].fr.toNat (by omega)
        rw [Int.toNat_of_nonneg hfr.1] at this
        exact this
end Go.Proofs.Ytaaffahjlkfbgaa
