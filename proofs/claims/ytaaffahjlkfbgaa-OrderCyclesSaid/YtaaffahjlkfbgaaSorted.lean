/- The walk of law 08's sorted; order.Sort of a graph that may not be. -/
import Derived.Test.YtaaffahjlkfbgaaSort
import Derived.Test.YtaaffahjlkfbgaaReachP
namespace Go.Proofs.Ytaaffahjlkfbgaa
open Go.ChangeShapes Go.WideShapes Go.ChangeAt Go.RowKit
set_option linter.unusedVariables false
set_option maxRecDepth 100000 in
set_option maxHeartbeats 4000000 in
theorem sort_bad (N : Int) (A : Option Addr) (cap : Nat) (l : List ArcV) (w : World) (hr : Arcs w w.heap.size A l) (hl : l.length ≤ maxLen) (hck : checkG N l ≠ 0) :
    Calls Try.prog 32 #[.agg #[.int .i64 N, .slice A l.length cap]] w fun e w' => e = .returned (.tuple #[.slice none 0 0, .bool false]) ∧ Below w.heap.size w w' := by
  have hS0 := (SL.start (Nat.le_refl w.heap.size)).alloc #[.int .i64 N, .slice A l.length cap] 45
  have HRD : Hid (Arcs (w.alloc (.cells #[.int .i64 N, .slice A l.length cap] 45)) (w.alloc (.cells #[.int .i64 N, .slice A l.length cap] 45)).heap.size A l) := Lib.hid (reads_more (Reads.below hr hS0.below) (by simp))
  have HS0 := Lib.hid hS0
  have HL := Lib.hid hl
  have hz : (checkG N l != 0) = true := by simpa using hck
  clear hr hl hck hS0
  go_enter Try.func32, Try.ntmps32
  go_wp2_with (go_at_call 39; (with_reducible refine (checkG_any N A cap l _ HRD.out HL.out).mono ?_); rintro e w2 ⟨rfl, hB⟩; have HS1 := Lib.hid (HS0.out.call hB); clear hB)
  go_ret2
  exact ⟨rfl, HS1.out.below⟩
/-- Free, as far as the first k arcs tell. -/
def freeK (l : List ArcV) (done : List Int) (i k : Nat) : Bool := decide ((i : Int) ∉ done ∧ ∀ t, ∀ h : t < l.length, t < k → l[t].to = (i : Int) → l[t].fr ∈ done)
theorem freeK_zero {l : List ArcV} {done : List Int} {i : Nat} : freeK l done i 0 = !decide ((i : Int) ∈ done) := by
  unfold freeK
  by_cases h : (i : Int) ∈ done <;> simp [h]
theorem freeK_no {l : List ArcV} {done : List Int} {i k : Nat} (h : freeK l done i k = false) : freeK l done i (k + 1) = false := by
  unfold freeK at *
  rw [decide_eq_false_iff_not] at h ⊢
  exact fun g => h ⟨g.1, fun t ht htk => g.2 t ht (by omega)⟩
theorem freeK_yes {l : List ArcV} {done : List Int} {i k : Nat} (hk : k < l.length) (h : freeK l done i k = true) : freeK l done i (k + 1) = decide (l[k].to = (i : Int) → l[k].fr ∈ done) := by
  unfold freeK at *
  rw [decide_eq_true_iff] at h
  apply decide_eq_decide.2
  constructor
  · intro g hto
    exact g.2 k hk (by omega) hto
  · intro g
    refine ⟨h.1, fun t ht htk hto => ?_⟩
    by_cases e : t = k
    · subst e; exact g hto
    · exact h.2 t ht (by omega) hto
theorem freeK_all {l : List ArcV} {done : List Int} {i : Nat} : freeK l done i l.length = decide (FreeN l done i) := by
  unfold freeK FreeN
  apply decide_eq_decide.2
  constructor
  · rintro ⟨h1, h2⟩
    refine ⟨h1, fun a ha hto => ?_⟩
    obtain ⟨t, ht, rfl⟩ := List.getElem_of_mem ha
    exact h2 t ht ht hto
  · rintro ⟨h1, h2⟩
    exact ⟨h1, fun t ht _ hto => h2 _ (List.getElem_mem ht) hto⟩
/-- The least that is free from m on; -1: there is none. -/
def LeastFrom (N : Nat) (l : List ArcV) (done : List Int) (m : Nat) (nx : Int) : Prop :=
  (nx = -1 ∧ ∀ j, m ≤ j → j < N → ¬ FreeN l done j) ∨ ∃ q : Nat, nx = (q : Int) ∧ m ≤ q ∧ q < N ∧ FreeN l done q ∧ ∀ j, m ≤ j → j < q → ¬ FreeN l done j
theorem LeastFrom.yes {N : Nat} {l : List ArcV} {done : List Int} {m : Nat} {nx : Int} (h : LeastFrom N l done (m + 1) nx) (hm : m < N) (hf : FreeN l done m) : LeastFrom N l done m m := .inr ⟨m, rfl, Nat.le_refl _, hm, hf, fun j h1 h2 => by omega⟩
theorem LeastFrom.no {N : Nat} {l : List ArcV} {done : List Int} {m : Nat} {nx : Int} (h : LeastFrom N l done (m + 1) nx) (hf : ¬ FreeN l done m) : LeastFrom N l done m nx := by
  rcases h with ⟨h1, h2⟩ | ⟨q, h1, h2, h3, h4, h5⟩
  · refine .inl ⟨h1, fun j hj hjN => ?_⟩
    by_cases e : j = m
    · subst e; exact hf
    · exact h2 j (by omega) hjN
  · refine .inr ⟨q, h1, by omega, h3, h4, fun j hj hjq => ?_⟩
    by_cases e : j = m
    · subst e; exact hf
    · exact h5 j (by omega) hjq
set_option maxRecDepth 100000 in
set_option maxHeartbeats 8000000 in
theorem sorted_any (N : Nat) (A : Option Addr) (cap : Nat) (l : List ArcV) (w : World) (hr : Arcs w w.heap.size A l) (hck : checkG N l = 0) :
    Calls Try.prog 33 #[.agg #[.int .i64 N, .slice A l.length cap]] w (SortPost w N l) := by
  have hS0 := (SL.start (Nat.le_refl w.heap.size)).alloc #[.int .i64 N, .slice A l.length cap] 45
  have HR : Hid (∀ (rs : List Rs) w', SL w w.heap.size rs w' → Arcs w' w'.heap.size A l) := Lib.hid (fun rs w' h => reads_more (Reads.below hr h.below) h.below.size)
  obtain ⟨_, hN, hl, hin⟩ := inN_of_check hck
  simp only [Int.toNat_natCast] at hin
  have hNn : N ≤ 1000 := by omega
  obtain ⟨i0, hi0, hz0, hz1, hz2⟩ := info_parts int_info
  have HI := Lib.hid (And.intro hi0 (And.intro hz0 (And.intro hz1 hz2)))
  obtain ⟨ib, hib, hbz0, hbz1, hbz2⟩ := info_parts bool_info
  have HB := Lib.hid (And.intro hib (And.intro hbz0 (And.intro hbz1 hbz2)))
  have HIN := Lib.hid hin
  clear hr hi0 hz0 hz1 hz2 hin hck hN hib hbz0 hbz1 hbz2
  go_enter Try.func33, Try.ntmps33
  go_upto_region 2 with fail
  obtain ⟨gb, hgb⟩ : ∃ gb, gb = w.heap.size := ⟨_, rfl⟩
  obtain ⟨w0, hw0⟩ : ∃ w0, w0 = w.alloc (.cells #[.int .i64 N, .slice A l.length cap] 45) := ⟨_, rfl⟩
  have HS0 : Hid (SL w w.heap.size [.blk gb #[.int .i64 N, .slice A l.length cap] 45] w0) := Lib.hid (by rw [hgb, hw0]; exact hS0)
  rw [← hw0, ← hgb]
  clear hS0 hw0 hgb
  have c0 : w0.cell? ⟨gb, 0, none⟩ = some (.int .i64 N) := HS0.out.cell 0 rfl 0 rfl
  go_wp2_with (at_make; refine wpList_make_rep _ rfl _ _ 65 rfl 4 ib (.bool false) Try.underlying65 HB.out.1 HB.out.2.1 HB.out.2.2.1 rfl .i64 .i64 N N N rfl rfl rfl rfl ?b2 ?b3 ?_
               case b2 => rw [HB.out.2.2.2]; omega
               case b3 => unfold maxLen; omega
               intro w4 hg4 hb4 hz4
               obtain ⟨db, hdb⟩ : ∃ db, db = w0.heap.size := ⟨_, rfl⟩
               have hS := (HS0.out.made hb4 hg4).nil 3 1
               have HS2 : Hid (SL w w.heap.size [.row 3 1 (.slice none 0 0) 0 [], .blk db (barr (fun j => decide ((j : Int) ∈ ([] : List Int))) N) 4, .blk gb #[.int .i64 N, .slice A l.length cap] 45] w4) := Lib.hid (by
                 have e : barr (fun j => decide ((j : Int) ∈ ([] : List Int))) N = Array.replicate N (.bool false) := by
                   rw [← barr_rep]
                   exact barr_ext fun i _ => by simp
                 rw [e, hdb]
                 simpa using hS)
               rw [← hdb]
               clear hg4 hb4 hz4 hS hdb c0)
  clear HS0
  go_loopw [4] (fun v4 wr => ∃ (out : List Int) (A4 : Option Addr) (c4 : Nat), v4 = .slice A4 out.length c4 ∧ Grd N l out ∧ SL w w.heap.size [.row 3 1 (.slice A4 out.length c4) out.length (out.map (.int .i64)), .blk db (barr (fun j => decide ((j : Int) ∈ out)) N) 4, .blk gb #[.int .i64 N, .slice A l.length cap] 45] wr) (fun v4 _ => N - lenOfS v4)
  case atStart => exact ⟨[], none, 0, rfl, .nil, HS2.out⟩
  case round =>
    clear HS2
    obtain ⟨out, A4, c4, rfl, hgrd, hS⟩ := hrel
    have hlen := hgrd.len
    have HG := Lib.hid hgrd
    clear hgrd
    have c0 : wr.cell? ⟨gb, 0, none⟩ = some (.int .i64 N) := hS.cell 2 rfl 0 rfl
    by_cases hlt : out.length < N
    · have HS := Lib.hid hS
      clear hS
      obtain ⟨wo, rfl⟩ : ∃ wo : World, wo = wr := ⟨_, rfl⟩
      go_wp2_with fail
      clear c0
      go_loopw [6, 7] (fun v6 v7 wi => ∃ (m : Nat) (nx : Int), m ≤ N ∧ v7 = .int .i64 ((m : Int) - 1) ∧ v6 = .int .i64 nx ∧ LeastFrom N l out m nx ∧ SL w w.heap.size [.row 3 1 (.slice A4 out.length c4) out.length (out.map (.int .i64)), .blk db (barr (fun j => decide ((j : Int) ∈ out)) N) 4, .blk gb #[.int .i64 N, .slice A l.length cap] 45] wi) (fun _ v7 _ => (intOf v7 + 1).toNat)
      case atStart => exact ⟨N, -1, Nat.le_refl _, rfl, rfl, .inl ⟨rfl, fun j h1 h2 => by omega⟩, HS.out⟩
      case round =>
        clear HS
        obtain ⟨m, nx, hm, rfl, rfl, hlf, hS⟩ := hrel
        have HLF := Lib.hid hlf
        clear hlf
        cases m with
        | zero =>
          have em : ((0 : Nat) : Int) - 1 = -1 := rfl
          rw [em]
          clear em
          rcases HLF.out with ⟨rfl, hst⟩ | ⟨q, rfl, _, hq, hfq, hlq⟩
          · have HST : Hid (Stop N l out) := Lib.hid (fun i hi => hst i (Nat.zero_le _) hi)
            have HBW := Lib.hid hS.below
            clear hS hst
            go_wp2_with fail
            go_ret2
            exact ⟨out, HG.out, HST.out, .inr ⟨hlt, rfl, HBW.out⟩⟩
          · have hnx : NextN N l out q := ⟨hq, hfq, fun j hj => hlq j (Nat.zero_le _) hj⟩
            have HGR := Lib.hid (Grd.snoc HG.out hnx)
            have HNX := Lib.hid hnx
            clear hlq hfq hnx
            have d0 : wr.cell? ⟨db, q, none⟩ = some (.bool (decide ((q : Int) ∈ out))) := hS.cell 1 rfl q (barr_get _ _ _ hq)
            have d1 := hS.free 1 rfl q
            have hS5 := hS.setBool 1 rfl q true
            have hS5 : SL w w.heap.size [.row 3 1 (.slice A4 out.length c4) out.length (out.map (.int .i64)), .blk db (barr (fun j => decide ((j : Int) ∈ out ++ [(q : Int)])) N) 4, .blk gb #[.int .i64 N, .slice A l.length cap] 45] (wr.setCell ⟨db, q, none⟩ (.bool true)) := by
              have e : barr (fun j => decide ((j : Int) ∈ out ++ [(q : Int)])) N = barr (fun j => if j = q then true else decide ((j : Int) ∈ out)) N := barr_ext fun j _ => by
                by_cases ej : j = q
                · subst ej; rw [if_pos rfl]; simp
                · rw [if_neg ej]
                  apply decide_eq_decide.2
                  constructor
                  · intro h
                    rcases List.mem_append.1 h with h | h
                    · exact h
                    · simp at h; omega
                  · exact fun h => List.mem_append_left _ h
              rw [e]
              exact hS5
            have HS5 := Lib.hid hS5
            clear hS hS5
            go_upto_region 19 with fail
            generalize (wr.setCell ⟨db, q, none⟩ (.bool true)) = w5 at *
            have hS5 := HS5.out
            clear d0 d1
            go_wp2_with (at_builtin; refine stopHere ?_)
            show wpList _ _ _ _ _ _
            refine wpList_append_sl rfl _ _ 48 rfl hS5 0 i0 (.int .i64 0) 1 8 Try.underlying48 HI.out.1 HI.out.2.1 HI.out.2.2.1 HI.out.2.2.2 rfl (by decide) _ _ 1 _ rfl rfl _ rfl rfl (by decide) rfl (by simp [Value.oneCell']) (by omega) (by decide) ?_
            intro v8 w8 hS8 hz8
            obtain ⟨A8, c8, rfl, _, _⟩ := (hS8.row 0 rfl).slice_
            have HS8 := Lib.hid hS8
            clear hS8 hS5 hz8
            go_wp2_with fail
            go_roundw
            case rel =>
              have hol : (out ++ [(q : Int)]).length = out.length + 1 := by simp
              refine ⟨out ++ [(q : Int)], A8, c8, by rw [hol], HGR.out, ?_⟩
              rw [hol, List.map_append]
              exact HS8.out
            case measure => simp [lenOfS]; omega
        | succ m =>
          have em : ((m + 1 : Nat) : Int) - 1 = (m : Int) := by omega
          rw [em]
          clear em
          have d0 : wr.cell? ⟨db, m, none⟩ = some (.bool (decide ((m : Int) ∈ out))) := hS.cell 1 rfl m (barr_get _ _ _ (by omega))
          have d1 : wr.cell? ⟨gb, 1, none⟩ = some (.slice A l.length cap) := hS.cell 2 rfl 1 rfl
          have HS := Lib.hid hS
          clear hS
          go_wp2_with fail
          clear d0 d1
          have hfk := freeK_zero (l := l) (done := out) (i := m)
          rw [← hfk]
          clear hfk
          go_loopw [8, 34] (fun v8 v34 wk => ∃ k : Nat, k ≤ l.length ∧ v34 = .int .i64 k ∧ v8 = .bool (freeK l out m k) ∧ SL w w.heap.size [.row 3 1 (.slice A4 out.length c4) out.length (out.map (.int .i64)), .blk db (barr (fun j => decide ((j : Int) ∈ out)) N) 4, .blk gb #[.int .i64 N, .slice A l.length cap] 45] wk) (fun _ v34 _ => l.length - (intOf v34).toNat)
          case atStart => exact ⟨0, by omega, rfl, rfl, HS.out⟩
          case round =>
            clear HS
            obtain ⟨k, hk, rfl, rfl, hS⟩ := hrel
            by_cases hltk : k < l.length
            · obtain ⟨b, p, rfl, hb, a0, a1, a2⟩ := arcs_at (HR.out _ _ hS) hltk
              obtain ⟨⟨f0, f1⟩, t0, t1⟩ := HIN.out _ (List.getElem_mem hltk)
              have HFN := Lib.hid (freeK_no (l := l) (done := out) (i := m) (k := k))
              have HFY := Lib.hid (freeK_yes (l := l) (done := out) (i := m) hltk)
              obtain ⟨a, ha⟩ : ∃ a, l[k] = a := ⟨_, rfl⟩
              rw [ha] at a0 a1 a2 f0 f1 t0 t1 HFY
              clear ha
              have hS2 := hS.alloc #[.int .i64 a.fr, .int .i64 a.to, .int .i64 a.wt] 55
              have hz1 : b < wr.heap.size := hb
              go_upto_region 12 with fail
              obtain ⟨ar, har⟩ : ∃ ar, ar = wr.heap.size := ⟨_, rfl⟩
              generalize (wr.alloc (.cells #[.int .i64 a.fr, .int .i64 a.to, .int .i64 a.wt] 55)) = w9 at *
              rw [← har] at hS2 ⊢
              clear har hS a0 a1 a2 hz1 hb
              have y0 : w9.cell? ⟨ar, 0, none⟩ = some (.int .i64 a.fr) := hS2.cell 0 rfl 0 rfl
              have y1 : w9.cell? ⟨ar, 1, none⟩ = some (.int .i64 a.to) := hS2.cell 0 rfl 1 rfl
              have efr : ((a.fr.toNat : Nat) : Int) = a.fr := by omega
              have y2 : w9.cell? ⟨db, a.fr.toNat, none⟩ = some (.bool (decide (a.fr ∈ out))) := by
                have h := hS2.cell 2 rfl a.fr.toNat (barr_get _ _ _ (by omega))
                rw [efr] at h
                exact h
              have HS2 := Lib.hid hS2
              clear hS2 efr
              obtain ⟨fk, hfk⟩ : ∃ fk, freeK l out m k = fk := ⟨_, rfl⟩
              have HFK := Lib.hid hfk
              rw [hfk]
              clear hfk
              cases fk with
              | false =>
                go_wp2_with fail
                go_roundw
                case rel => exact ⟨k + 1, by omega, by go_num, by rw [HFN.out HFK.out], HS2.out.tail⟩
                case measure => simp [intOf]; omega
              | true =>
                by_cases hto : a.to = (m : Int)
                · have hne : (a.to != (m : Int)) = false := by simp [hto]
                  have HTO := Lib.hid hto
                  clear hto
                  go_wp2_with fail
                  go_roundw
                  case rel =>
                    refine ⟨k + 1, by omega, by go_num, ?_, HS2.out.tail⟩
                    rw [HFY.out HFK.out]
                    congr 1
                    apply decide_eq_decide.2
                    exact ⟨fun h _ => h, fun h => h HTO.out⟩
                  case measure => simp [intOf]; omega
                · have hne : (a.to != (m : Int)) = true := by simp [hto]
                  have HTO := Lib.hid hto
                  clear hto
                  go_wp2_with fail
                  go_roundw
                  case rel =>
                    refine ⟨k + 1, by omega, by go_num, ?_, HS2.out.tail⟩
                    rw [HFY.out HFK.out, decide_eq_true (fun h => absurd h HTO.out)]
                  case measure => simp [intOf]; omega
            · obtain rfl : k = l.length := by omega
              have HS := Lib.hid hS
              clear hS
              have hfa := freeK_all (l := l) (done := out) (i := m)
              rw [hfa]
              clear hfa
              by_cases hfr : FreeN l out m
              · have hd : decide (FreeN l out m) = true := decide_eq_true hfr
                have HFR := Lib.hid hfr
                rw [hd]
                clear hd hfr
                go_wp2_with fail
                go_roundw
                case rel => exact ⟨m, m, by omega, rfl, rfl, HLF.out.yes (by omega) HFR.out, HS.out⟩
                case measure => simp [intOf]
              · have hd : decide (FreeN l out m) = false := decide_eq_false hfr
                have HFR := Lib.hid hfr
                rw [hd]
                clear hd hfr
                go_wp2_with fail
                go_roundw
                case rel => exact ⟨m, nx, by omega, rfl, rfl, HLF.out.no HFR.out, HS.out⟩
                case measure => simp [intOf]
    · have he : out.length = N := by omega
      have HS := Lib.hid hS
      clear hS
      go_wp2_with fail
      go_ret2
      refine ⟨out, HG.out, HG.out.stop_full he, .inl ⟨he, A4, c4, by rw [← he]; rfl, ?_⟩⟩
      have h := HS.out.sub (l' := [.row 3 1 (.slice A4 out.length c4) out.length (out.map (.int .i64))]) (.cons_cons _ (List.nil_sublist _))
      rw [he] at h
      exact h
end Go.Proofs.Ytaaffahjlkfbgaa
