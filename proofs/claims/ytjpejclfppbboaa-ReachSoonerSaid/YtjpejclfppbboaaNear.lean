/- path.Near, of a graph that may be, with arcs that weigh nothing at least. (printed by gen/near.py) -/
import Derived.Test.YtjpejclfppbboaaNearC
import Derived.Test.YtjpejclfppbboaaNearD
import Derived.Test.YtjpejclfppbboaaTurned
import Derived.Test.YtjpejclfppbboaaPile
import Derived.Test.YtjpejclfppbboaaRowRun
import Derived.Deep.LoopGhost
import Derived.Deep.CutRange
import Derived.Deep.CutBlock
import Derived.Deep.DeepCutAuto
import Derived.WalkSpells
import Derived.Outline
namespace Go.Proofs.Ytjpejclfppbboaa
open Go.ChangeShapes Go.WideShapes Go.ChangeAt Go.RowKit
set_option linter.unusedVariables false
set_option linter.unusedSimpArgs false
theorem make_bools (N : Nat) (hN : N ≤ 1000) (w : World) : (Instr.makeSlice 80 (.int .i64 (N : Int)) (.int .i64 (N : Int))).run Try.prog w = .ok (.slice (some ⟨w.heap.size, 0, none⟩) N N) (w.alloc (.cells (barr (fun _ => false) N) 4)) := by
 have hb : (Try.prog.info? 4).map (fun i => (i.zero, i.size, i.bytes)) = some (some (.bool false), 1, 1) := by kernel_rfl
 obtain ⟨i, h1, h2, h3, h4⟩ := info_parts hb
 have := run_make (P := Try.prog) w 80 4 i _ Try.underlying80 h1 h2 .i64 .i64 N N (by omega) (by omega) (by rw [h4]; omega) (by omega)
 rw [this, h3]
 simp only [Int.toNat_natCast, Nat.mul_one]
 rw [← barr_made]; rfl
theorem put_kv (W : World) (B : Nat) (rs : List Rs) (w : World) (pb n : Nat) (v : Value) (f : Nat → ItemV) (k i : Int) (hS : SL W B (PileRs pb v n f rs) w) (hn : n ≤ 900000) :
 Calls Try.prog 84 #[.pointer (some ⟨pb, 0, none⟩), .agg #[.int .i64 k, .int .i64 i]] w fun e w' => e = .returned (.tuple #[]) ∧ ∃ v', SL W B (PileRs pb v' (n + 1) (putM f n ⟨k, i⟩) rs) w' := put_any W B rs w pb n v f ⟨k, i⟩ hS hn
theorem take_kv (W : World) (B : Nat) (rs : List Rs) (w : World) (pb n : Nat) (v : Value) (f : Nat → ItemV) (k i : Int) (hf : f 0 = ⟨k, i⟩) (hS : SL W B (PileRs pb v (n + 1) f rs) w) (hn : n ≤ 900000) :
 Calls Try.prog 85 #[.pointer (some ⟨pb, 0, none⟩)] w fun e w' => e = .returned (.tuple #[.agg #[.int .i64 k, .int .i64 i], .bool true]) ∧ ∃ v', SL W B (PileRs pb v' n (takeM f n) rs) w' := by
 have h := take_any W B rs w pb n v f hS hn
 rw [hf] at h; exact h
theorem pile_in {W w : World} {B pb n : Nat} {v : Value} {f : Nat → ItemV} {r : Rs} {rs : List Rs} (h : SL W B (r :: PileRs pb v n f rs) w) : SL W B (PileRs pb v n f (r :: rs)) w :=
 h.perm (List.perm_append_comm_assoc [r] [_, _] rs)
theorem eff_store2 {P : Program} {Pn : List PanicEntry → World → Prop} {o : Oper} {a : Act} {w : World} {next : Value → World → Prop} (ty : TypeId) (x y : Operand) (ho : o.op = .store ty x y) (g : Nat) (u v : Value) (hx : a.eval x = .pointer (some ⟨g, 0, none⟩)) (hy : a.eval y = .agg #[u, v])
 (ht : w.there g 0 2) (hi : (P.info? ty).map (·.size) = some 2) (h1 : u.oneCell' = true) (h2 : v.oneCell' = true) (h : next undef ((w.setCell ⟨g, 0, none⟩ u).setCell ⟨g, 1, none⟩ v)) : effRes P Pn next ((execOp a.eval o).run P w) := by
 unfold execOp
 simp only [ho, hx, hy, Instr.storeAt, Instr.sureAddr, Sem.run_bind, Sem.run_pure, Result.andThen_ok, run_storeVar_mid w g 0 ty #[u, v] ht hi (by simp [h1, h2])]
 exact h
theorem SL.thereBlk {W w : World} {B : Nat} {l : List Rs} (h : SL W B l w) (i : Nat) {g : Nat} {cs : Array Value} {t : TypeId} (hi : l[i]? = some (.blk g cs t)) {n : Nat} (hn : n ≤ cs.size) : w.there g 0 n := fun j hj => by
 have hj2 : j < cs.size := by omega
 have h1 := h.cell i hi j (Array.getElem?_eq_getElem hj2)
 have h2 := h.free i hi j
 rw [Nat.zero_add]
 exact ⟨by rw [h1]; rfl, h2⟩
theorem outK_memN {l : List ArcV} {i : Int} {n : Nat} {x : Int} (h : x ∈ outK l i n) : ∃ k : Nat, ∃ hk : k < l.length, x = (k : Int) ∧ l[k].fr = i := by
 unfold outK at h
 obtain ⟨k, hk, rfl⟩ := List.mem_map.1 h
 obtain ⟨_, h2⟩ := List.mem_filter.1 hk
 have h3 : l[k]?.map ArcV.fr = some i := by simpa using h2
 by_cases hkl : k < l.length
 · rw [List.getElem?_eq_getElem hkl] at h3
   exact ⟨k, hkl, rfl, by simpa using h3⟩
 · rw [List.getElem?_eq_none (by omega)] at h3; cases h3
theorem outK_in {l : List ArcV} {i : Int} {k : Nat} (hk : k < l.length) (h : l[k].fr = i) : (k : Int) ∈ outK l i l.length := by
 unfold outK
 refine List.mem_map.2 ⟨k, List.mem_filter.2 ⟨List.mem_range.2 hk, ?_⟩, rfl⟩
 rw [List.getElem?_eq_getElem hk]
 simp [h]
theorem checkF_ok {N : Nat} {l : List ArcV} {f : Nat} (h : checkG N l = 0) (hf : f < N) : checkF N l f = 0 := by
 unfold checkF
 rw [if_neg (by omega), if_pos (by omega)]
def NearPost (W : World) (N : Nat) (l : List ArcV) (s : Nat) (e : Ending) (w' : World) : Prop :=
 ∃ (fb bb : Nat) (far by_ : Nat → Int), e = .returned (.tuple #[.agg #[.slice (some ⟨fb, 0, none⟩) N N, .slice (some ⟨bb, 0, none⟩) N N], .int .i64 0]) ∧ SL W W.heap.size [.blk fb (iarr far N) 2, .blk bb (iarr by_ N) 3] w' ∧ Looked N l s far by_
/-- In the midst: what is known of the numbers. -/
def NearSt (N : Nat) (l : List ArcV) (s : Nat) (far : Nat → Int) (by_ : Nat → Int) (done : Nat → Bool) (f : Nat → ItemV) (n : Nat) (ok : Bool) (y : ItemV) : Prop :=
 ∃ (M : ItemV → Nat) (rank : Nat → Nat), Dij N l s far by_ done M rank (fun _ => False) (fun _ => False) ∧ ((ok = true ∧ 0 < M y ∧ (∀ z, 0 < M z → ¬ z.lt y) ∧ PileIs f n (fun z => M z - if y = z then 1 else 0)) ∨ (ok = false ∧ ∀ z, M z = 0))
theorem dij_cur {N : Nat} {l : List ArcV} {s : Nat} {far : Nat → Int} {by_ : Nat → Int} {done : Nat → Bool} {M : ItemV → Nat} {rank : Nat → Nat} {D : Nat → Prop} {j : Nat} (hI : NearIn N l s) (hd : Dij N l s far by_ done M rank (fun u => u = j) D) : j < N ∧ 0 ≤ far j ∧ far j ≤ 1099511627776000 := by
 obtain ⟨h1, h2, _⟩ := hd.last j rfl
 have h3 := hd.reach j h1 h2
 have h4 := (hd.rk j h1 h3).2.2
 have h5 := (hd.rk j h1 h3).1
 have h6 := (hd.pos j h1).1
 have h7 := hI.nN
 have h8 : (rank j : Int) * DearI ≤ 1000 * DearI := Int.mul_le_mul_of_nonneg_right (by omega) (by decide)
 unfold DearI at *
 exact ⟨h1, h6, by omega⟩
set_option maxRecDepth 100000 in
set_option maxHeartbeats 16000000 in
theorem near_any (N s : Nat) (A : Option Addr) (cap : Nat) (l : List ArcV) (w : World) (hr : Arcs w w.heap.size A l) (hck : checkG N l = 0) (hs : s < N) (h0 : ∀ a ∈ l, 0 ≤ a.wt) (hNL : N * (l.length + 1) + 2 ≤ 800000) :
 Calls Try.prog 57 #[.agg #[.int .i64 (N : Int), .slice A l.length cap], .int .i64 (s : Int)] w (NearPost w N l s) := by
 obtain ⟨_, hN1, hL, hinn⟩ := inN_of_check hck
 have hN : N ≤ 1000 := by omega
 have hinn : InN N l := by simpa using hinn
 have hI : NearIn N l s := ⟨hinn, fun a ha => ⟨h0 a ha, by
  have hb : badArc N a = false := by
   unfold checkG rangeG at hck
   cases hb : badArc N a
   · rfl
   · rw [if_neg (by omega), if_pos (List.any_eq_true.2 ⟨a, ha, hb⟩)] at hck; cases hck
  unfold badArc at hb
  have := of_decide_eq_false hb
  unfold DearI
  omega⟩, hs, hN⟩
 have HI := Lib.hid hI
 have HR := Lib.hid hr
 have HNL := Lib.hid hNL
 have H0 := Lib.hid h0
 have HCK := Lib.hid (checkF_ok (f := s) hck hs)
 have hS := (((SL.start (W := w) (Nat.le_refl w.heap.size)).alloc #[.int .i64 (N : Int), .slice A l.length cap] 111).alloc #[.slice none 0 0, .slice none 0 0] 115)
 simp only [alloc_size] at hS
 obtain ⟨gb, hgb⟩ : ∃ b, w.heap.size = b := ⟨_, rfl⟩
 obtain ⟨rb, hrb⟩ : ∃ b, gb + 1 = b := ⟨_, rfl⟩
 obtain ⟨w0, hw0⟩ : ∃ x, (w.alloc (.cells #[.int .i64 (N : Int), .slice A l.length cap] 111)).alloc (.cells #[.slice none 0 0, .slice none 0 0] 115) = x := ⟨_, rfl⟩
 have HS0 : Hid (SL w w.heap.size [.blk rb #[.slice none 0 0, .slice none 0 0] 115, .blk gb #[.int .i64 (N : Int), .slice A l.length cap] 111] w0) := Lib.hid (by rw [← hrb, ← hgb, ← hw0]; exact hS)
 have HW0 := Lib.hid (And.intro hgb (And.intro hrb hw0))
 clear hS hgb hrb hw0 hr hck h0 hI hinn hNL hN1
 go_enter Try.func57, Try.ntmps57
 go_upto_region 1 with fail
 rw [HW0.out.2.2, HW0.out.1, HW0.out.2.1]
 have y0 : w0.cell? ⟨gb, 0, none⟩ = some (.int .i64 (N : Int)) := HS0.out.cell 1 rfl 0 rfl
 have y1 : w0.cell? ⟨gb, 1, none⟩ = some (.slice A l.length cap) := HS0.out.cell 1 rfl 1 rfl
 have HC1 : Hid (Calls Try.prog 79 #[.agg #[.int .i64 (N : Int), .slice A l.length cap], .int .i64 (s : Int)] w0 fun e w' => e = .returned (.int .i64 0) ∧ Below w0.heap.size w0 w') := Lib.hid (by
  have h := checkF_any (N : Int) A cap l (s : Int) w0 (reads_more (Reads.below HR.out HS0.out.below) HS0.out.below.size) (by unfold maxLen; omega)
  rw [HCK.out] at h
  exact h)
 go_upto_region 4 with (go_at_call 79; (with_reducible refine HC1.out.mono ?_); rintro e w1 ⟨rfl, hb⟩; have HS1 : Hid (SL w w.heap.size [.blk rb #[.slice none 0 0, .slice none 0 0] 115, .blk gb #[.int .i64 (N : Int), .slice A l.length cap] 111] w1) := Lib.hid (HS0.out.call hb); clear hb)
 clear y0 y1 HC1 HS0 HW0
 have y1 : w1.cell? ⟨gb, 1, none⟩ = some (.slice A l.length cap) := HS1.out.cell 1 rfl 1 rfl
 have HC2 := Lib.hid (contains_neg A cap l w1 (reads_more (Reads.below HR.out HS1.out.below) HS1.out.below.size) (by omega) H0.out)
 go_upto_region 6 with (go_at_call 80; (with_reducible refine HC2.out.mono ?_); rintro e w2 ⟨rfl, hb⟩; have HS2 : Hid (SL w w.heap.size [.blk rb #[.slice none 0 0, .slice none 0 0] 115, .blk gb #[.int .i64 (N : Int), .slice A l.length cap] 111] w2) := Lib.hid (HS1.out.call hb); clear hb)
 clear y1 HC2 HS1 H0
 have hS2 := HS2.out
 go_cut [7, 8] (fun v7 v8 wx => ∃ tb fb bb db : Nat, v7 = .pointer (some ⟨tb, 0, none⟩) ∧ v8 = .slice (some ⟨db, 0, none⟩) N N ∧ SL w w.heap.size (.blk tb #[.slice (some ⟨fb, 0, none⟩) N N, .slice (some ⟨bb, 0, none⟩) N N] 115 :: .blk fb (iarr (BS.start s).far N) 2 :: .blk bb (iarr (BS.start s).by_ N) 3 :: .blk db (barr (fun _ => false) N) 4 :: [.blk rb #[.slice none 0 0, .slice none 0 0] 115, .blk gb #[.int .i64 (N : Int), .slice A l.length cap] 111]) wx)
 case first =>
  have hmb := make_bools N hN
  refine wp_region_slb [0,1,2,4,5] [3,6,7,8] [9] [.blk gb #[.int .i64 (N : Int), .slice A l.length cap] 111] hS2 (.cons _ (.cons_cons _ (List.nil_sublist _))) (by kernel_rfl) (by kernel_rfl) (.cons rfl .nil) (fun C cw _ hC => ?_)
  have q0 : ∀ c, (cw c).cell? ⟨gb, 0, none⟩ = some (.int .i64 (N : Int)) := fun c => (hC c).cell 0 rfl 0 rfl
  repeat (refine pl_look rfl rfl rfl (fun Kv hK => ?_); go_big_quiet_op; refine hK _ ?_; clear hK Kv)
  clear q0 hC
  refine pl_end ?_
  intro w3 hS
  refine pb_three 3 6 7 (by kernel_rfl) (by kernel_rfl) (by kernel_rfl) (by kernel_rfl) ?_ ?_ ?_
  · skip
    refine kOp_eff rfl rfl fun Kv hK => ?_
    go_simp
    refine eff_call (start_any N s w3 hN hs) (fun e w4 hc => ?_)
    obtain ⟨fb, bb, rfl, hc⟩ := hc
    have hS := hS.join hc
    clear hc
    have hS : SL w w.heap.size (.blk fb (iarr (BS.start s).far N) 2 :: .blk bb (iarr (BS.start s).by_ N) 3 :: [.blk rb #[.slice none 0 0, .slice none 0 0] 115, .blk gb #[.int .i64 (N : Int), .slice A l.length cap] 111]) w4 := hS
    refine .inl ⟨_, rfl, hS.sub (.cons _ (.cons _ (.cons _ (.cons_cons _ (List.nil_sublist _))))), hK _ _ ?_⟩
    clear hK Kv
    refine pb_two 6 7 (by kernel_rfl) (by kernel_rfl) (by kernel_rfl) ?_ ?_
    · skip
      refine kOp_eff rfl rfl fun Kv hK => ?_
      go_simp
      have hS := hS.alloc (barr (fun _ => false) N) 4
      obtain ⟨db, hdb⟩ : ∃ b, w4.heap.size = b := ⟨_, rfl⟩
      obtain ⟨w5, hw5⟩ : ∃ x, w4.alloc (.cells (barr (fun _ => false) N) 4) = x := ⟨_, rfl⟩
      rw [hdb, hw5] at hS
      rw [hdb, hw5]
      clear hdb hw5
      have hS : SL w w.heap.size (.blk db (barr (fun _ => false) N) 4 :: .blk fb (iarr (BS.start s).far N) 2 :: .blk bb (iarr (BS.start s).by_ N) 3 :: [.blk rb #[.slice none 0 0, .slice none 0 0] 115, .blk gb #[.int .i64 (N : Int), .slice A l.length cap] 111]) w5 := hS
      refine ⟨hS.sub (.cons _ (.cons _ (.cons _ (.cons _ (.cons_cons _ (List.nil_sublist _)))))), hK _ _ ?_⟩
      clear hK Kv
      refine pb_one 7 (by kernel_rfl) (by kernel_rfl) ?_
      refine kOp_eff rfl rfl fun Kv hK => ?_
      go_simp
      have hS := hS.alloc #[.slice none 0 0, .slice none 0 0] 115
      obtain ⟨tb, htb⟩ : ∃ b, w5.heap.size = b := ⟨_, rfl⟩
      obtain ⟨w6, hw6⟩ : ∃ x, w5.alloc (.cells #[.slice none 0 0, .slice none 0 0] 115) = x := ⟨_, rfl⟩
      rw [htb, hw6] at hS
      rw [htb, hw6]
      clear htb hw6
      have hS : SL w w.heap.size (.blk tb #[.slice none 0 0, .slice none 0 0] 115 :: .blk db (barr (fun _ => false) N) 4 :: .blk fb (iarr (BS.start s).far N) 2 :: .blk bb (iarr (BS.start s).by_ N) 3 :: [.blk rb #[.slice none 0 0, .slice none 0 0] 115, .blk gb #[.int .i64 (N : Int), .slice A l.length cap] 111]) w6 := hS
      refine ⟨hS.sub (.cons _ (.cons _ (.cons _ (.cons _ (.cons _ (.cons_cons _ (List.nil_sublist _))))))), hK _ _ ?_⟩
      clear hK Kv
      refine pb_one 8 (by kernel_rfl) (by kernel_rfl) ?_
      refine kOp_eff rfl rfl fun Kv hK => ?_
      have htr := hS.thereBlk 0 rfl (n := 2) (by decide)
      have hS := (hS.setCell 0 rfl 0 (.slice (some ⟨fb, 0, none⟩) N N)).setCell 0 rfl 1 (.slice (some ⟨bb, 0, none⟩) N N)
      refine eff_store2 115 _ _ rfl tb (.slice (some ⟨fb, 0, none⟩) N N) (.slice (some ⟨bb, 0, none⟩) N N) rfl rfl htr (by kernel_rfl) rfl rfl ?_
      obtain ⟨w7, hw7⟩ : ∃ x, (w6.setCell ⟨tb, 0, none⟩ (.slice (some ⟨fb, 0, none⟩) N N)).setCell ⟨tb, 1, none⟩ (.slice (some ⟨bb, 0, none⟩) N N) = x := ⟨_, rfl⟩
      rw [hw7] at hS ⊢
      clear hw7 htr
      have hS : SL w w.heap.size (.blk tb #[.slice (some ⟨fb, 0, none⟩) N N, .slice (some ⟨bb, 0, none⟩) N N] 115 :: .blk db (barr (fun _ => false) N) 4 :: .blk fb (iarr (BS.start s).far N) 2 :: .blk bb (iarr (BS.start s).by_ N) 3 :: [.blk rb #[.slice none 0 0, .slice none 0 0] 115, .blk gb #[.int .i64 (N : Int), .slice A l.length cap] 111]) w7 := hS
      refine ⟨hS.sub (.cons _ (.cons _ (.cons _ (.cons _ (.cons _ (.cons_cons _ (List.nil_sublist _))))))), hK _ _ ?_⟩
      clear hK Kv
      refine pb_end (by kernel_rfl) ?_
      have hS : SL w w.heap.size (.blk tb #[.slice (some ⟨fb, 0, none⟩) N N, .slice (some ⟨bb, 0, none⟩) N N] 115 :: .blk fb (iarr (BS.start s).far N) 2 :: .blk bb (iarr (BS.start s).by_ N) 3 :: .blk db (barr (fun _ => false) N) 4 :: [.blk rb #[.slice none 0 0, .slice none 0 0] 115, .blk gb #[.int .i64 (N : Int), .slice A l.length cap] 111]) w7 := hS.pick [0, 2, 3, 1, 4, 5] (by decide) rfl
      have HS9 := Lib.hid hS
      clear hS hmb
      go_wp2_with fail
      go_meet
      exact ⟨_, _, _, _, rfl, rfl, HS9.out⟩
    · skip
      refine kOp_eff rfl rfl fun Kv hK => ?_
      go_simp
      have hS := hS.alloc #[.slice none 0 0, .slice none 0 0] 115
      obtain ⟨tb, htb⟩ : ∃ b, w4.heap.size = b := ⟨_, rfl⟩
      obtain ⟨w5, hw5⟩ : ∃ x, w4.alloc (.cells #[.slice none 0 0, .slice none 0 0] 115) = x := ⟨_, rfl⟩
      rw [htb, hw5] at hS
      rw [htb, hw5]
      clear htb hw5
      have hS : SL w w.heap.size (.blk tb #[.slice none 0 0, .slice none 0 0] 115 :: .blk fb (iarr (BS.start s).far N) 2 :: .blk bb (iarr (BS.start s).by_ N) 3 :: [.blk rb #[.slice none 0 0, .slice none 0 0] 115, .blk gb #[.int .i64 (N : Int), .slice A l.length cap] 111]) w5 := hS
      refine ⟨hS.sub (.cons _ (.cons _ (.cons _ (.cons _ (.cons_cons _ (List.nil_sublist _)))))), hK _ _ ?_⟩
      clear hK Kv
      refine pb_two 6 8 (by kernel_rfl) (by kernel_rfl) (by kernel_rfl) ?_ ?_
      · skip
        refine kOp_eff rfl rfl fun Kv hK => ?_
        go_simp
        have hS := hS.alloc (barr (fun _ => false) N) 4
        obtain ⟨db, hdb⟩ : ∃ b, w5.heap.size = b := ⟨_, rfl⟩
        obtain ⟨w6, hw6⟩ : ∃ x, w5.alloc (.cells (barr (fun _ => false) N) 4) = x := ⟨_, rfl⟩
        rw [hdb, hw6] at hS
        rw [hdb, hw6]
        clear hdb hw6
        have hS : SL w w.heap.size (.blk db (barr (fun _ => false) N) 4 :: .blk tb #[.slice none 0 0, .slice none 0 0] 115 :: .blk fb (iarr (BS.start s).far N) 2 :: .blk bb (iarr (BS.start s).by_ N) 3 :: [.blk rb #[.slice none 0 0, .slice none 0 0] 115, .blk gb #[.int .i64 (N : Int), .slice A l.length cap] 111]) w6 := hS
        refine ⟨hS.sub (.cons _ (.cons _ (.cons _ (.cons _ (.cons _ (.cons_cons _ (List.nil_sublist _))))))), hK _ _ ?_⟩
        clear hK Kv
        refine pb_one 8 (by kernel_rfl) (by kernel_rfl) ?_
        refine kOp_eff rfl rfl fun Kv hK => ?_
        have htr := hS.thereBlk 1 rfl (n := 2) (by decide)
        have hS := (hS.setCell 1 rfl 0 (.slice (some ⟨fb, 0, none⟩) N N)).setCell 1 rfl 1 (.slice (some ⟨bb, 0, none⟩) N N)
        refine eff_store2 115 _ _ rfl tb (.slice (some ⟨fb, 0, none⟩) N N) (.slice (some ⟨bb, 0, none⟩) N N) rfl rfl htr (by kernel_rfl) rfl rfl ?_
        obtain ⟨w7, hw7⟩ : ∃ x, (w6.setCell ⟨tb, 0, none⟩ (.slice (some ⟨fb, 0, none⟩) N N)).setCell ⟨tb, 1, none⟩ (.slice (some ⟨bb, 0, none⟩) N N) = x := ⟨_, rfl⟩
        rw [hw7] at hS ⊢
        clear hw7 htr
        have hS : SL w w.heap.size (.blk db (barr (fun _ => false) N) 4 :: .blk tb #[.slice (some ⟨fb, 0, none⟩) N N, .slice (some ⟨bb, 0, none⟩) N N] 115 :: .blk fb (iarr (BS.start s).far N) 2 :: .blk bb (iarr (BS.start s).by_ N) 3 :: [.blk rb #[.slice none 0 0, .slice none 0 0] 115, .blk gb #[.int .i64 (N : Int), .slice A l.length cap] 111]) w7 := hS
        refine ⟨hS.sub (.cons _ (.cons _ (.cons _ (.cons _ (.cons _ (.cons_cons _ (List.nil_sublist _))))))), hK _ _ ?_⟩
        clear hK Kv
        refine pb_end (by kernel_rfl) ?_
        have hS : SL w w.heap.size (.blk tb #[.slice (some ⟨fb, 0, none⟩) N N, .slice (some ⟨bb, 0, none⟩) N N] 115 :: .blk fb (iarr (BS.start s).far N) 2 :: .blk bb (iarr (BS.start s).by_ N) 3 :: .blk db (barr (fun _ => false) N) 4 :: [.blk rb #[.slice none 0 0, .slice none 0 0] 115, .blk gb #[.int .i64 (N : Int), .slice A l.length cap] 111]) w7 := hS.pick [1, 2, 3, 0, 4, 5] (by decide) rfl
        have HS9 := Lib.hid hS
        clear hS hmb
        go_wp2_with fail
        go_meet
        exact ⟨_, _, _, _, rfl, rfl, HS9.out⟩
      · skip
        refine kOp_eff rfl rfl fun Kv hK => ?_
        have htr := hS.thereBlk 0 rfl (n := 2) (by decide)
        have hS := (hS.setCell 0 rfl 0 (.slice (some ⟨fb, 0, none⟩) N N)).setCell 0 rfl 1 (.slice (some ⟨bb, 0, none⟩) N N)
        refine eff_store2 115 _ _ rfl tb (.slice (some ⟨fb, 0, none⟩) N N) (.slice (some ⟨bb, 0, none⟩) N N) rfl rfl htr (by kernel_rfl) rfl rfl ?_
        obtain ⟨w6, hw6⟩ : ∃ x, (w5.setCell ⟨tb, 0, none⟩ (.slice (some ⟨fb, 0, none⟩) N N)).setCell ⟨tb, 1, none⟩ (.slice (some ⟨bb, 0, none⟩) N N) = x := ⟨_, rfl⟩
        rw [hw6] at hS ⊢
        clear hw6 htr
        have hS : SL w w.heap.size (.blk tb #[.slice (some ⟨fb, 0, none⟩) N N, .slice (some ⟨bb, 0, none⟩) N N] 115 :: .blk fb (iarr (BS.start s).far N) 2 :: .blk bb (iarr (BS.start s).by_ N) 3 :: [.blk rb #[.slice none 0 0, .slice none 0 0] 115, .blk gb #[.int .i64 (N : Int), .slice A l.length cap] 111]) w6 := hS
        refine ⟨hS.sub (.cons _ (.cons _ (.cons _ (.cons _ (.cons_cons _ (List.nil_sublist _)))))), hK _ _ ?_⟩
        clear hK Kv
        refine pb_one 6 (by kernel_rfl) (by kernel_rfl) ?_
        refine kOp_eff rfl rfl fun Kv hK => ?_
        go_simp
        have hS := hS.alloc (barr (fun _ => false) N) 4
        obtain ⟨db, hdb⟩ : ∃ b, w6.heap.size = b := ⟨_, rfl⟩
        obtain ⟨w7, hw7⟩ : ∃ x, w6.alloc (.cells (barr (fun _ => false) N) 4) = x := ⟨_, rfl⟩
        rw [hdb, hw7] at hS
        rw [hdb, hw7]
        clear hdb hw7
        have hS : SL w w.heap.size (.blk db (barr (fun _ => false) N) 4 :: .blk tb #[.slice (some ⟨fb, 0, none⟩) N N, .slice (some ⟨bb, 0, none⟩) N N] 115 :: .blk fb (iarr (BS.start s).far N) 2 :: .blk bb (iarr (BS.start s).by_ N) 3 :: [.blk rb #[.slice none 0 0, .slice none 0 0] 115, .blk gb #[.int .i64 (N : Int), .slice A l.length cap] 111]) w7 := hS
        refine ⟨hS.sub (.cons _ (.cons _ (.cons _ (.cons _ (.cons _ (.cons_cons _ (List.nil_sublist _))))))), hK _ _ ?_⟩
        clear hK Kv
        refine pb_end (by kernel_rfl) ?_
        have hS : SL w w.heap.size (.blk tb #[.slice (some ⟨fb, 0, none⟩) N N, .slice (some ⟨bb, 0, none⟩) N N] 115 :: .blk fb (iarr (BS.start s).far N) 2 :: .blk bb (iarr (BS.start s).by_ N) 3 :: .blk db (barr (fun _ => false) N) 4 :: [.blk rb #[.slice none 0 0, .slice none 0 0] 115, .blk gb #[.int .i64 (N : Int), .slice A l.length cap] 111]) w7 := hS.pick [1, 2, 3, 0, 4, 5] (by decide) rfl
        have HS9 := Lib.hid hS
        clear hS hmb
        go_wp2_with fail
        go_meet
        exact ⟨_, _, _, _, rfl, rfl, HS9.out⟩
  · skip
    refine kOp_eff rfl rfl fun Kv hK => ?_
    go_simp
    have hS := hS.alloc (barr (fun _ => false) N) 4
    obtain ⟨db, hdb⟩ : ∃ b, w3.heap.size = b := ⟨_, rfl⟩
    obtain ⟨w4, hw4⟩ : ∃ x, w3.alloc (.cells (barr (fun _ => false) N) 4) = x := ⟨_, rfl⟩
    rw [hdb, hw4] at hS
    rw [hdb, hw4]
    clear hdb hw4
    have hS : SL w w.heap.size (.blk db (barr (fun _ => false) N) 4 :: [.blk rb #[.slice none 0 0, .slice none 0 0] 115, .blk gb #[.int .i64 (N : Int), .slice A l.length cap] 111]) w4 := hS
    refine ⟨hS.sub (.cons _ (.cons _ (.cons_cons _ (List.nil_sublist _)))), hK _ _ ?_⟩
    clear hK Kv
    refine pb_two 3 7 (by kernel_rfl) (by kernel_rfl) (by kernel_rfl) ?_ ?_
    · skip
      refine kOp_eff rfl rfl fun Kv hK => ?_
      go_simp
      refine eff_call (start_any N s w4 hN hs) (fun e w5 hc => ?_)
      obtain ⟨fb, bb, rfl, hc⟩ := hc
      have hS := hS.join hc
      clear hc
      have hS : SL w w.heap.size (.blk fb (iarr (BS.start s).far N) 2 :: .blk bb (iarr (BS.start s).by_ N) 3 :: .blk db (barr (fun _ => false) N) 4 :: [.blk rb #[.slice none 0 0, .slice none 0 0] 115, .blk gb #[.int .i64 (N : Int), .slice A l.length cap] 111]) w5 := hS
      refine .inl ⟨_, rfl, hS.sub (.cons _ (.cons _ (.cons _ (.cons _ (.cons_cons _ (List.nil_sublist _)))))), hK _ _ ?_⟩
      clear hK Kv
      refine pb_one 7 (by kernel_rfl) (by kernel_rfl) ?_
      refine kOp_eff rfl rfl fun Kv hK => ?_
      go_simp
      have hS := hS.alloc #[.slice none 0 0, .slice none 0 0] 115
      obtain ⟨tb, htb⟩ : ∃ b, w5.heap.size = b := ⟨_, rfl⟩
      obtain ⟨w6, hw6⟩ : ∃ x, w5.alloc (.cells #[.slice none 0 0, .slice none 0 0] 115) = x := ⟨_, rfl⟩
      rw [htb, hw6] at hS
      rw [htb, hw6]
      clear htb hw6
      have hS : SL w w.heap.size (.blk tb #[.slice none 0 0, .slice none 0 0] 115 :: .blk fb (iarr (BS.start s).far N) 2 :: .blk bb (iarr (BS.start s).by_ N) 3 :: .blk db (barr (fun _ => false) N) 4 :: [.blk rb #[.slice none 0 0, .slice none 0 0] 115, .blk gb #[.int .i64 (N : Int), .slice A l.length cap] 111]) w6 := hS
      refine ⟨hS.sub (.cons _ (.cons _ (.cons _ (.cons _ (.cons _ (.cons_cons _ (List.nil_sublist _))))))), hK _ _ ?_⟩
      clear hK Kv
      refine pb_one 8 (by kernel_rfl) (by kernel_rfl) ?_
      refine kOp_eff rfl rfl fun Kv hK => ?_
      have htr := hS.thereBlk 0 rfl (n := 2) (by decide)
      have hS := (hS.setCell 0 rfl 0 (.slice (some ⟨fb, 0, none⟩) N N)).setCell 0 rfl 1 (.slice (some ⟨bb, 0, none⟩) N N)
      refine eff_store2 115 _ _ rfl tb (.slice (some ⟨fb, 0, none⟩) N N) (.slice (some ⟨bb, 0, none⟩) N N) rfl rfl htr (by kernel_rfl) rfl rfl ?_
      obtain ⟨w7, hw7⟩ : ∃ x, (w6.setCell ⟨tb, 0, none⟩ (.slice (some ⟨fb, 0, none⟩) N N)).setCell ⟨tb, 1, none⟩ (.slice (some ⟨bb, 0, none⟩) N N) = x := ⟨_, rfl⟩
      rw [hw7] at hS ⊢
      clear hw7 htr
      have hS : SL w w.heap.size (.blk tb #[.slice (some ⟨fb, 0, none⟩) N N, .slice (some ⟨bb, 0, none⟩) N N] 115 :: .blk fb (iarr (BS.start s).far N) 2 :: .blk bb (iarr (BS.start s).by_ N) 3 :: .blk db (barr (fun _ => false) N) 4 :: [.blk rb #[.slice none 0 0, .slice none 0 0] 115, .blk gb #[.int .i64 (N : Int), .slice A l.length cap] 111]) w7 := hS
      refine ⟨hS.sub (.cons _ (.cons _ (.cons _ (.cons _ (.cons _ (.cons_cons _ (List.nil_sublist _))))))), hK _ _ ?_⟩
      clear hK Kv
      refine pb_end (by kernel_rfl) ?_
      have hS : SL w w.heap.size (.blk tb #[.slice (some ⟨fb, 0, none⟩) N N, .slice (some ⟨bb, 0, none⟩) N N] 115 :: .blk fb (iarr (BS.start s).far N) 2 :: .blk bb (iarr (BS.start s).by_ N) 3 :: .blk db (barr (fun _ => false) N) 4 :: [.blk rb #[.slice none 0 0, .slice none 0 0] 115, .blk gb #[.int .i64 (N : Int), .slice A l.length cap] 111]) w7 := hS.pick [0, 1, 2, 3, 4, 5] (by decide) rfl
      have HS9 := Lib.hid hS
      clear hS hmb
      go_wp2_with fail
      go_meet
      exact ⟨_, _, _, _, rfl, rfl, HS9.out⟩
    · skip
      refine kOp_eff rfl rfl fun Kv hK => ?_
      go_simp
      have hS := hS.alloc #[.slice none 0 0, .slice none 0 0] 115
      obtain ⟨tb, htb⟩ : ∃ b, w4.heap.size = b := ⟨_, rfl⟩
      obtain ⟨w5, hw5⟩ : ∃ x, w4.alloc (.cells #[.slice none 0 0, .slice none 0 0] 115) = x := ⟨_, rfl⟩
      rw [htb, hw5] at hS
      rw [htb, hw5]
      clear htb hw5
      have hS : SL w w.heap.size (.blk tb #[.slice none 0 0, .slice none 0 0] 115 :: .blk db (barr (fun _ => false) N) 4 :: [.blk rb #[.slice none 0 0, .slice none 0 0] 115, .blk gb #[.int .i64 (N : Int), .slice A l.length cap] 111]) w5 := hS
      refine ⟨hS.sub (.cons _ (.cons _ (.cons _ (.cons_cons _ (List.nil_sublist _))))), hK _ _ ?_⟩
      clear hK Kv
      refine pb_one 3 (by kernel_rfl) (by kernel_rfl) ?_
      refine kOp_eff rfl rfl fun Kv hK => ?_
      go_simp
      refine eff_call (start_any N s w5 hN hs) (fun e w6 hc => ?_)
      obtain ⟨fb, bb, rfl, hc⟩ := hc
      have hS := hS.join hc
      clear hc
      have hS : SL w w.heap.size (.blk fb (iarr (BS.start s).far N) 2 :: .blk bb (iarr (BS.start s).by_ N) 3 :: .blk tb #[.slice none 0 0, .slice none 0 0] 115 :: .blk db (barr (fun _ => false) N) 4 :: [.blk rb #[.slice none 0 0, .slice none 0 0] 115, .blk gb #[.int .i64 (N : Int), .slice A l.length cap] 111]) w6 := hS
      refine .inl ⟨_, rfl, hS.sub (.cons _ (.cons _ (.cons _ (.cons _ (.cons _ (.cons_cons _ (List.nil_sublist _))))))), hK _ _ ?_⟩
      clear hK Kv
      refine pb_one 8 (by kernel_rfl) (by kernel_rfl) ?_
      refine kOp_eff rfl rfl fun Kv hK => ?_
      have htr := hS.thereBlk 2 rfl (n := 2) (by decide)
      have hS := (hS.setCell 2 rfl 0 (.slice (some ⟨fb, 0, none⟩) N N)).setCell 2 rfl 1 (.slice (some ⟨bb, 0, none⟩) N N)
      refine eff_store2 115 _ _ rfl tb (.slice (some ⟨fb, 0, none⟩) N N) (.slice (some ⟨bb, 0, none⟩) N N) rfl rfl htr (by kernel_rfl) rfl rfl ?_
      obtain ⟨w7, hw7⟩ : ∃ x, (w6.setCell ⟨tb, 0, none⟩ (.slice (some ⟨fb, 0, none⟩) N N)).setCell ⟨tb, 1, none⟩ (.slice (some ⟨bb, 0, none⟩) N N) = x := ⟨_, rfl⟩
      rw [hw7] at hS ⊢
      clear hw7 htr
      have hS : SL w w.heap.size (.blk fb (iarr (BS.start s).far N) 2 :: .blk bb (iarr (BS.start s).by_ N) 3 :: .blk tb #[.slice (some ⟨fb, 0, none⟩) N N, .slice (some ⟨bb, 0, none⟩) N N] 115 :: .blk db (barr (fun _ => false) N) 4 :: [.blk rb #[.slice none 0 0, .slice none 0 0] 115, .blk gb #[.int .i64 (N : Int), .slice A l.length cap] 111]) w7 := hS
      refine ⟨hS.sub (.cons _ (.cons _ (.cons _ (.cons _ (.cons _ (.cons_cons _ (List.nil_sublist _))))))), hK _ _ ?_⟩
      clear hK Kv
      refine pb_end (by kernel_rfl) ?_
      have hS : SL w w.heap.size (.blk tb #[.slice (some ⟨fb, 0, none⟩) N N, .slice (some ⟨bb, 0, none⟩) N N] 115 :: .blk fb (iarr (BS.start s).far N) 2 :: .blk bb (iarr (BS.start s).by_ N) 3 :: .blk db (barr (fun _ => false) N) 4 :: [.blk rb #[.slice none 0 0, .slice none 0 0] 115, .blk gb #[.int .i64 (N : Int), .slice A l.length cap] 111]) w7 := hS.pick [2, 0, 1, 3, 4, 5] (by decide) rfl
      have HS9 := Lib.hid hS
      clear hS hmb
      go_wp2_with fail
      go_meet
      exact ⟨_, _, _, _, rfl, rfl, HS9.out⟩
  · skip
    refine kOp_eff rfl rfl fun Kv hK => ?_
    go_simp
    have hS := hS.alloc #[.slice none 0 0, .slice none 0 0] 115
    obtain ⟨tb, htb⟩ : ∃ b, w3.heap.size = b := ⟨_, rfl⟩
    obtain ⟨w4, hw4⟩ : ∃ x, w3.alloc (.cells #[.slice none 0 0, .slice none 0 0] 115) = x := ⟨_, rfl⟩
    rw [htb, hw4] at hS
    rw [htb, hw4]
    clear htb hw4
    have hS : SL w w.heap.size (.blk tb #[.slice none 0 0, .slice none 0 0] 115 :: [.blk rb #[.slice none 0 0, .slice none 0 0] 115, .blk gb #[.int .i64 (N : Int), .slice A l.length cap] 111]) w4 := hS
    refine ⟨hS.sub (.cons _ (.cons _ (.cons_cons _ (List.nil_sublist _)))), hK _ _ ?_⟩
    clear hK Kv
    refine pb_two 3 6 (by kernel_rfl) (by kernel_rfl) (by kernel_rfl) ?_ ?_
    · skip
      refine kOp_eff rfl rfl fun Kv hK => ?_
      go_simp
      refine eff_call (start_any N s w4 hN hs) (fun e w5 hc => ?_)
      obtain ⟨fb, bb, rfl, hc⟩ := hc
      have hS := hS.join hc
      clear hc
      have hS : SL w w.heap.size (.blk fb (iarr (BS.start s).far N) 2 :: .blk bb (iarr (BS.start s).by_ N) 3 :: .blk tb #[.slice none 0 0, .slice none 0 0] 115 :: [.blk rb #[.slice none 0 0, .slice none 0 0] 115, .blk gb #[.int .i64 (N : Int), .slice A l.length cap] 111]) w5 := hS
      refine .inl ⟨_, rfl, hS.sub (.cons _ (.cons _ (.cons _ (.cons _ (.cons_cons _ (List.nil_sublist _)))))), hK _ _ ?_⟩
      clear hK Kv
      refine pb_two 6 8 (by kernel_rfl) (by kernel_rfl) (by kernel_rfl) ?_ ?_
      · skip
        refine kOp_eff rfl rfl fun Kv hK => ?_
        go_simp
        have hS := hS.alloc (barr (fun _ => false) N) 4
        obtain ⟨db, hdb⟩ : ∃ b, w5.heap.size = b := ⟨_, rfl⟩
        obtain ⟨w6, hw6⟩ : ∃ x, w5.alloc (.cells (barr (fun _ => false) N) 4) = x := ⟨_, rfl⟩
        rw [hdb, hw6] at hS
        rw [hdb, hw6]
        clear hdb hw6
        have hS : SL w w.heap.size (.blk db (barr (fun _ => false) N) 4 :: .blk fb (iarr (BS.start s).far N) 2 :: .blk bb (iarr (BS.start s).by_ N) 3 :: .blk tb #[.slice none 0 0, .slice none 0 0] 115 :: [.blk rb #[.slice none 0 0, .slice none 0 0] 115, .blk gb #[.int .i64 (N : Int), .slice A l.length cap] 111]) w6 := hS
        refine ⟨hS.sub (.cons _ (.cons _ (.cons _ (.cons _ (.cons _ (.cons_cons _ (List.nil_sublist _))))))), hK _ _ ?_⟩
        clear hK Kv
        refine pb_one 8 (by kernel_rfl) (by kernel_rfl) ?_
        refine kOp_eff rfl rfl fun Kv hK => ?_
        have htr := hS.thereBlk 3 rfl (n := 2) (by decide)
        have hS := (hS.setCell 3 rfl 0 (.slice (some ⟨fb, 0, none⟩) N N)).setCell 3 rfl 1 (.slice (some ⟨bb, 0, none⟩) N N)
        refine eff_store2 115 _ _ rfl tb (.slice (some ⟨fb, 0, none⟩) N N) (.slice (some ⟨bb, 0, none⟩) N N) rfl rfl htr (by kernel_rfl) rfl rfl ?_
        obtain ⟨w7, hw7⟩ : ∃ x, (w6.setCell ⟨tb, 0, none⟩ (.slice (some ⟨fb, 0, none⟩) N N)).setCell ⟨tb, 1, none⟩ (.slice (some ⟨bb, 0, none⟩) N N) = x := ⟨_, rfl⟩
        rw [hw7] at hS ⊢
        clear hw7 htr
        have hS : SL w w.heap.size (.blk db (barr (fun _ => false) N) 4 :: .blk fb (iarr (BS.start s).far N) 2 :: .blk bb (iarr (BS.start s).by_ N) 3 :: .blk tb #[.slice (some ⟨fb, 0, none⟩) N N, .slice (some ⟨bb, 0, none⟩) N N] 115 :: [.blk rb #[.slice none 0 0, .slice none 0 0] 115, .blk gb #[.int .i64 (N : Int), .slice A l.length cap] 111]) w7 := hS
        refine ⟨hS.sub (.cons _ (.cons _ (.cons _ (.cons _ (.cons _ (.cons_cons _ (List.nil_sublist _))))))), hK _ _ ?_⟩
        clear hK Kv
        refine pb_end (by kernel_rfl) ?_
        have hS : SL w w.heap.size (.blk tb #[.slice (some ⟨fb, 0, none⟩) N N, .slice (some ⟨bb, 0, none⟩) N N] 115 :: .blk fb (iarr (BS.start s).far N) 2 :: .blk bb (iarr (BS.start s).by_ N) 3 :: .blk db (barr (fun _ => false) N) 4 :: [.blk rb #[.slice none 0 0, .slice none 0 0] 115, .blk gb #[.int .i64 (N : Int), .slice A l.length cap] 111]) w7 := hS.pick [3, 1, 2, 0, 4, 5] (by decide) rfl
        have HS9 := Lib.hid hS
        clear hS hmb
        go_wp2_with fail
        go_meet
        exact ⟨_, _, _, _, rfl, rfl, HS9.out⟩
      · skip
        refine kOp_eff rfl rfl fun Kv hK => ?_
        have htr := hS.thereBlk 2 rfl (n := 2) (by decide)
        have hS := (hS.setCell 2 rfl 0 (.slice (some ⟨fb, 0, none⟩) N N)).setCell 2 rfl 1 (.slice (some ⟨bb, 0, none⟩) N N)
        refine eff_store2 115 _ _ rfl tb (.slice (some ⟨fb, 0, none⟩) N N) (.slice (some ⟨bb, 0, none⟩) N N) rfl rfl htr (by kernel_rfl) rfl rfl ?_
        obtain ⟨w6, hw6⟩ : ∃ x, (w5.setCell ⟨tb, 0, none⟩ (.slice (some ⟨fb, 0, none⟩) N N)).setCell ⟨tb, 1, none⟩ (.slice (some ⟨bb, 0, none⟩) N N) = x := ⟨_, rfl⟩
        rw [hw6] at hS ⊢
        clear hw6 htr
        have hS : SL w w.heap.size (.blk fb (iarr (BS.start s).far N) 2 :: .blk bb (iarr (BS.start s).by_ N) 3 :: .blk tb #[.slice (some ⟨fb, 0, none⟩) N N, .slice (some ⟨bb, 0, none⟩) N N] 115 :: [.blk rb #[.slice none 0 0, .slice none 0 0] 115, .blk gb #[.int .i64 (N : Int), .slice A l.length cap] 111]) w6 := hS
        refine ⟨hS.sub (.cons _ (.cons _ (.cons _ (.cons _ (.cons_cons _ (List.nil_sublist _)))))), hK _ _ ?_⟩
        clear hK Kv
        refine pb_one 6 (by kernel_rfl) (by kernel_rfl) ?_
        refine kOp_eff rfl rfl fun Kv hK => ?_
        go_simp
        have hS := hS.alloc (barr (fun _ => false) N) 4
        obtain ⟨db, hdb⟩ : ∃ b, w6.heap.size = b := ⟨_, rfl⟩
        obtain ⟨w7, hw7⟩ : ∃ x, w6.alloc (.cells (barr (fun _ => false) N) 4) = x := ⟨_, rfl⟩
        rw [hdb, hw7] at hS
        rw [hdb, hw7]
        clear hdb hw7
        have hS : SL w w.heap.size (.blk db (barr (fun _ => false) N) 4 :: .blk fb (iarr (BS.start s).far N) 2 :: .blk bb (iarr (BS.start s).by_ N) 3 :: .blk tb #[.slice (some ⟨fb, 0, none⟩) N N, .slice (some ⟨bb, 0, none⟩) N N] 115 :: [.blk rb #[.slice none 0 0, .slice none 0 0] 115, .blk gb #[.int .i64 (N : Int), .slice A l.length cap] 111]) w7 := hS
        refine ⟨hS.sub (.cons _ (.cons _ (.cons _ (.cons _ (.cons _ (.cons_cons _ (List.nil_sublist _))))))), hK _ _ ?_⟩
        clear hK Kv
        refine pb_end (by kernel_rfl) ?_
        have hS : SL w w.heap.size (.blk tb #[.slice (some ⟨fb, 0, none⟩) N N, .slice (some ⟨bb, 0, none⟩) N N] 115 :: .blk fb (iarr (BS.start s).far N) 2 :: .blk bb (iarr (BS.start s).by_ N) 3 :: .blk db (barr (fun _ => false) N) 4 :: [.blk rb #[.slice none 0 0, .slice none 0 0] 115, .blk gb #[.int .i64 (N : Int), .slice A l.length cap] 111]) w7 := hS.pick [3, 1, 2, 0, 4, 5] (by decide) rfl
        have HS9 := Lib.hid hS
        clear hS hmb
        go_wp2_with fail
        go_meet
        exact ⟨_, _, _, _, rfl, rfl, HS9.out⟩
    · skip
      refine kOp_eff rfl rfl fun Kv hK => ?_
      go_simp
      have hS := hS.alloc (barr (fun _ => false) N) 4
      obtain ⟨db, hdb⟩ : ∃ b, w4.heap.size = b := ⟨_, rfl⟩
      obtain ⟨w5, hw5⟩ : ∃ x, w4.alloc (.cells (barr (fun _ => false) N) 4) = x := ⟨_, rfl⟩
      rw [hdb, hw5] at hS
      rw [hdb, hw5]
      clear hdb hw5
      have hS : SL w w.heap.size (.blk db (barr (fun _ => false) N) 4 :: .blk tb #[.slice none 0 0, .slice none 0 0] 115 :: [.blk rb #[.slice none 0 0, .slice none 0 0] 115, .blk gb #[.int .i64 (N : Int), .slice A l.length cap] 111]) w5 := hS
      refine ⟨hS.sub (.cons _ (.cons _ (.cons _ (.cons_cons _ (List.nil_sublist _))))), hK _ _ ?_⟩
      clear hK Kv
      refine pb_one 3 (by kernel_rfl) (by kernel_rfl) ?_
      refine kOp_eff rfl rfl fun Kv hK => ?_
      go_simp
      refine eff_call (start_any N s w5 hN hs) (fun e w6 hc => ?_)
      obtain ⟨fb, bb, rfl, hc⟩ := hc
      have hS := hS.join hc
      clear hc
      have hS : SL w w.heap.size (.blk fb (iarr (BS.start s).far N) 2 :: .blk bb (iarr (BS.start s).by_ N) 3 :: .blk db (barr (fun _ => false) N) 4 :: .blk tb #[.slice none 0 0, .slice none 0 0] 115 :: [.blk rb #[.slice none 0 0, .slice none 0 0] 115, .blk gb #[.int .i64 (N : Int), .slice A l.length cap] 111]) w6 := hS
      refine .inl ⟨_, rfl, hS.sub (.cons _ (.cons _ (.cons _ (.cons _ (.cons _ (.cons_cons _ (List.nil_sublist _))))))), hK _ _ ?_⟩
      clear hK Kv
      refine pb_one 8 (by kernel_rfl) (by kernel_rfl) ?_
      refine kOp_eff rfl rfl fun Kv hK => ?_
      have htr := hS.thereBlk 3 rfl (n := 2) (by decide)
      have hS := (hS.setCell 3 rfl 0 (.slice (some ⟨fb, 0, none⟩) N N)).setCell 3 rfl 1 (.slice (some ⟨bb, 0, none⟩) N N)
      refine eff_store2 115 _ _ rfl tb (.slice (some ⟨fb, 0, none⟩) N N) (.slice (some ⟨bb, 0, none⟩) N N) rfl rfl htr (by kernel_rfl) rfl rfl ?_
      obtain ⟨w7, hw7⟩ : ∃ x, (w6.setCell ⟨tb, 0, none⟩ (.slice (some ⟨fb, 0, none⟩) N N)).setCell ⟨tb, 1, none⟩ (.slice (some ⟨bb, 0, none⟩) N N) = x := ⟨_, rfl⟩
      rw [hw7] at hS ⊢
      clear hw7 htr
      have hS : SL w w.heap.size (.blk fb (iarr (BS.start s).far N) 2 :: .blk bb (iarr (BS.start s).by_ N) 3 :: .blk db (barr (fun _ => false) N) 4 :: .blk tb #[.slice (some ⟨fb, 0, none⟩) N N, .slice (some ⟨bb, 0, none⟩) N N] 115 :: [.blk rb #[.slice none 0 0, .slice none 0 0] 115, .blk gb #[.int .i64 (N : Int), .slice A l.length cap] 111]) w7 := hS
      refine ⟨hS.sub (.cons _ (.cons _ (.cons _ (.cons _ (.cons _ (.cons_cons _ (List.nil_sublist _))))))), hK _ _ ?_⟩
      clear hK Kv
      refine pb_end (by kernel_rfl) ?_
      have hS : SL w w.heap.size (.blk tb #[.slice (some ⟨fb, 0, none⟩) N N, .slice (some ⟨bb, 0, none⟩) N N] 115 :: .blk fb (iarr (BS.start s).far N) 2 :: .blk bb (iarr (BS.start s).by_ N) 3 :: .blk db (barr (fun _ => false) N) 4 :: [.blk rb #[.slice none 0 0, .slice none 0 0] 115, .blk gb #[.int .i64 (N : Int), .slice A l.length cap] 111]) w7 := hS.pick [3, 0, 1, 2, 4, 5] (by decide) rfl
      have HS9 := Lib.hid hS
      clear hS hmb
      go_wp2_with fail
      go_meet
      exact ⟨_, _, _, _, rfl, rfl, HS9.out⟩
 case rest =>
 clear hS2
 obtain ⟨tb, fb, bb, db, rfl, rfl, hS⟩ := hcut
 have hS3 := hS
 clear hS
 have HNW := Lib.hid (new_any w w.heap.size _ _ hS3)
 go_upto_region 8 with (go_at_call 83; (with_reducible refine HNW.out.mono ?_); rintro e w4 ⟨pb, rfl, hS4⟩)
 clear HNW hS3
 have hD0 := dij_start HI.out (BS.start s).by_ (fun _ => False)
 have hF0 : (BS.start s).far = fun j => if j = s then 0 else FarI := rfl
 rw [hF0] at hS4
 have hP0 := PileIs.empty.put ⟨0, (s : Int)⟩
 have HPUT := Lib.hid (put_kv _ _ _ _ pb 0 _ _ 0 (s : Int) hS4 (by omega))
 clear hS4 hF0
 go_upto_region 9 with (go_at_call 84; (with_reducible refine HPUT.out.mono ?_); rintro e w3 ⟨rfl, v3, hS3⟩)
 clear HPUT
 obtain ⟨f1, hf1⟩ : ∃ f1, f1 = putM (fun _ => (⟨0, 0⟩ : ItemV)) 0 ⟨0, (s : Int)⟩ := ⟨_, rfl⟩
 rw [← hf1] at hS3 hP0
 clear hf1
 obtain ⟨by0, hby0⟩ : ∃ f, (BS.start s).by_ = f := ⟨_, rfl⟩
 rw [hby0] at hS3 hD0
 clear hby0
 obtain ⟨y, hy⟩ : ∃ y, f1 0 = y := ⟨_, rfl⟩
 have hfst := hP0.first
 have htk := hP0.take
 rw [hy] at hfst htk
 have HTK := Lib.hid (take_kv _ _ _ _ pb 0 v3 f1 y.key y.id hy hS3 (by omega))
 have HSt : Hid (NearSt N l s (fun j => if j = s then 0 else FarI) by0 (fun _ => false) (takeM f1 0) 0 true y) := Lib.hid ⟨_, _, hD0, .inl ⟨rfl, hfst.1, hfst.2, htk⟩⟩
 clear hS3 hfst htk hy hP0 hD0
 go_wp2_with (go_at_call 85; (with_reducible refine HTK.out.mono ?_); rintro e w4 ⟨rfl, v4, hS4⟩
              have hS5 := hS4.alloc #[.int .i64 y.key, .int .i64 y.id] 148
              clear hS4)
 clear HTK
 obtain ⟨bx, hbx⟩ : ∃ bx, bx = w4.heap.size := ⟨_, rfl⟩
 generalize (w4.alloc (.cells #[.int .i64 y.key, .int .i64 y.id] 148)) = w5 at *
 rw [← hbx] at hS5 ⊢
 clear hbx
 have HS6 := Lib.hid (pile_in hS5)
 clear hS5 HS2
 go_loopg [10, 11] (N * (l.length + 1) + 2) (fun gk u10 u11 wr => ∃ (far : Nat → Int) (by_ : Nat → Int) (done : Nat → Bool) (f : Nat → ItemV) (n : Nat) (v : Value) (bx : Nat) (ok : Bool) (y : ItemV), u10 = .pointer (some ⟨bx, 0, none⟩) ∧ u11 = .bool ok ∧ SL w w.heap.size (PileRs pb v n f (.blk bx #[.int .i64 y.key, .int .i64 y.id] 148 :: .blk tb #[.slice (some ⟨fb, 0, none⟩) N N, .slice (some ⟨bb, 0, none⟩) N N] 115 :: .blk fb (iarr far N) 2 :: .blk bb (iarr by_ N) 3 :: .blk db (barr done N) 4 :: [.blk rb #[.slice none 0 0, .slice none 0 0] 115, .blk gb #[.int .i64 (N : Int), .slice A l.length cap] 111])) wr ∧ Hid (NearSt N l s far by_ done f n ok y) ∧ unseen done N * (l.length + 1) + n + (if ok then 1 else 0) < gk ∧ gk ≤ N * (l.length + 1) + 2)
 case atStart => exact ⟨_, _, fun _ => false, _, 0, _, bx, true, y, rfl, rfl, HS6.out, HSt, by rw [unseen_none]; simp, Nat.le_refl _⟩
 case round =>
  clear HS6 HSt
  obtain ⟨far, by_, done, f, n, v, bx, ok, y, rfl, rfl, hS, HSt, hms, hgk⟩ := hrel
  cases ok
  · have HLK : Hid (Looked N l s far by_) := Lib.hid (by
     obtain ⟨M, rank, hd, h | ⟨_, h⟩⟩ := HSt.out
     · cases h.1
     · exact dij_end HI.out hd h)
    have z0 : wr.cell? ⟨tb, 0, none⟩ = some (.slice (some ⟨fb, 0, none⟩) N N) := hS.cell 3 rfl 0 rfl
    have z1 : wr.cell? ⟨tb, 1, none⟩ = some (.slice (some ⟨bb, 0, none⟩) N N) := hS.cell 3 rfl 1 rfl
    have z2 : wr.cell? ⟨rb, 0, none⟩ = some (.slice none 0 0) := hS.cell 7 rfl 0 rfl
    have z3 : wr.cell? ⟨rb, 1, none⟩ = some (.slice none 0 0) := hS.cell 7 rfl 1 rfl
    have z4 := hS.free 7 rfl 0
    have z5 := hS.free 7 rfl 1
    have HU : Hid (SL w w.heap.size (PileRs pb v n f (.blk bx #[.int .i64 y.key, .int .i64 y.id] 148 :: .blk tb #[.slice (some ⟨fb, 0, none⟩) N N, .slice (some ⟨bb, 0, none⟩) N N] 115 :: .blk fb (iarr far N) 2 :: .blk bb (iarr by_ N) 3 :: .blk db (barr done N) 4 :: [.blk rb #[.slice (some ⟨fb, 0, none⟩) N N, .slice (some ⟨bb, 0, none⟩) N N] 115, .blk gb #[.int .i64 (N : Int), .slice A l.length cap] 111])) _) := Lib.hid ((hS.setCell 7 rfl 0 (.slice (some ⟨fb, 0, none⟩) N N)).setCell 7 rfl 1 (.slice (some ⟨bb, 0, none⟩) N N))
    clear hS HSt hms hgk
    go_wp2_with fail
    refine retArr2 rfl _ _ rb 115 _ _ _ rfl rfl (HU.out.blk 7 rfl) Try.underlying115 rfl (by kernel_rfl) ⟨fb, bb, far, by_, rfl, ?_, HLK.out⟩
    exact HU.out.sub (.cons _ (.cons _ (.cons _ (.cons _ (.cons_cons _ (.cons_cons _ (List.nil_sublist _)))))))
  · obtain ⟨M, rank, hd, ⟨_, hy0, hymin, hp⟩ | ⟨h, _⟩⟩ := HSt.out
    case inr => cases h
    obtain ⟨j, hj, hid, hk1, hk2⟩ := hd.items y hy0
    obtain ⟨yk, yi⟩ := y
    simp only at hid hk1 hk2
    subst hid
    have HD := Lib.hid (And.intro hd (And.intro hy0 (And.intro hymin hp)))
    have HMS : Hid (unseen done N * (l.length + 1) + n + 1 < gk) := Lib.hid (by simpa using hms)
    clear hd hy0 hymin hp hk1 hk2 HSt hms
    obtain ⟨wo, rfl⟩ : ∃ wo : World, wo = wr := ⟨_, rfl⟩
    obtain ⟨gO, rfl⟩ : ∃ gO : Nat, gO = gk := ⟨_, rfl⟩
    go_upto_block 1 with fail
    go_cut [] (fun wx => ∃ (far' : Nat → Int) (by' : Nat → Int) (done' : Nat → Bool) (M' : ItemV → Nat) (rank' : Nat → Nat) (f' : Nat → ItemV) (n' : Nat) (v' : Value), SL w w.heap.size (PileRs pb v' n' f' (.blk bx #[.int .i64 yk, .int .i64 (j : Int)] 148 :: .blk tb #[.slice (some ⟨fb, 0, none⟩) N N, .slice (some ⟨bb, 0, none⟩) N N] 115 :: .blk fb (iarr far' N) 2 :: .blk bb (iarr by' N) 3 :: .blk db (barr done' N) 4 :: [.blk rb #[.slice none 0 0, .slice none 0 0] 115, .blk gb #[.int .i64 (N : Int), .slice A l.length cap] 111])) wx ∧ Hid (Dij N l s far' by' done' M' rank' (fun _ => False) (fun _ => False)) ∧ Hid (PileIs f' n' M') ∧ unseen done' N * (l.length + 1) + n' + 1 < gO)
    case first =>
     have y1 : wo.cell? ⟨bx, 1, none⟩ = some (.int .i64 (j : Int)) := hS.cell 2 rfl 1 rfl
     have y2 : wo.cell? ⟨db, j, none⟩ = some (.bool (done j)) := hS.cell 6 rfl j (barr_get _ _ _ hj)
     cases hdn : done j
     · rw [hdn] at y2
       have HM := Lib.hid (dij_mark HD.out.1 HD.out.2.1 HD.out.2.2.1 (by simpa using hdn))
       have y3 := hS.free 6 rfl j
       have hS1 : SL w w.heap.size (PileRs pb v n f (.blk bx #[.int .i64 yk, .int .i64 (j : Int)] 148 :: .blk tb #[.slice (some ⟨fb, 0, none⟩) N N, .slice (some ⟨bb, 0, none⟩) N N] 115 :: .blk fb (iarr far N) 2 :: .blk bb (iarr by_ N) 3 :: .blk db (barr (setB done j) N) 4 :: [.blk rb #[.slice none 0 0, .slice none 0 0] 115, .blk gb #[.int .i64 (N : Int), .slice A l.length cap] 111])) (wo.setCell ⟨db, j, none⟩ (.bool true)) := hS.setBool 6 rfl j true
       clear hS
       go_upto_region 14 with fail
       generalize (wo.setCell ⟨db, j, none⟩ (.bool true)) = w5 at *
       clear y1 y2 y3
       have y1 : w5.cell? ⟨bx, 1, none⟩ = some (.int .i64 (j : Int)) := hS1.cell 2 rfl 1 rfl
       have g0 : w5.cell? ⟨gb, 0, none⟩ = some (.int .i64 (N : Int)) := hS1.cell 8 rfl 0 rfl
       have g1 : w5.cell? ⟨gb, 1, none⟩ = some (.slice A l.length cap) := hS1.cell 8 rfl 1 rfl
       have HS1 := Lib.hid hS1
       have HOU := Lib.hid (out_any (N : Int) A cap l (j : Int) w5 (reads_more (Reads.below HR.out hS1.below) hS1.below.size) (by omega))
       clear hS1
       obtain ⟨os, hos⟩ : ∃ os, outK l (j : Int) l.length = os := ⟨_, rfl⟩
       have HOS : Hid ((∀ x ∈ os, ∃ k : Nat, ∃ hk : k < l.length, x = (k : Int) ∧ l[k].fr = (j : Int)) ∧ (∀ k (hk : k < l.length), l[k].fr = (j : Int) → (k : Int) ∈ os) ∧ os.length ≤ l.length) := Lib.hid (by rw [← hos]; exact ⟨fun x hx => outK_memN hx, fun k hk h => outK_in hk h, outK_len _ _ _⟩)
       rw [hos] at HOU
       clear hos
       go_wp2_with (go_at_call 86; (with_reducible refine HOU.out.mono ?_); rintro e w6 ⟨vo, rfl, ho, hbo⟩
                    have hS2 := HS1.out.got ho hbo
                    obtain ⟨oA, oc, rfl, _, _⟩ := (hS2.row 0 rfl).slice_
                    clear ho hbo)
       clear HOU y1 g0 g1 HS1
       have hS3 := (pile_in hS2).pick (l' := (PileRs pb v n f (.blk bx #[.int .i64 yk, .int .i64 (j : Int)] 148 :: .blk tb #[.slice (some ⟨fb, 0, none⟩) N N, .slice (some ⟨bb, 0, none⟩) N N] 115 :: .blk fb (iarr far N) 2 :: .blk bb (iarr by_ N) 3 :: .blk db (barr (setB done j) N) 4 :: (.row 3 1 (.slice oA os.length oc) os.length (os.map (.int .i64)) :: [.blk rb #[.slice none 0 0, .slice none 0 0] 115, .blk gb #[.int .i64 (N : Int), .slice A l.length cap] 111])))) [0, 1, 3, 4, 5, 6, 7, 2, 8, 9] (by decide) rfl
       have HS3 := Lib.hid hS3
       obtain ⟨m, hm⟩ : ∃ m, os.length = m := ⟨_, rfl⟩
       have HM9 := Lib.hid hm
       rw [hm] at HS3 ⊢
       have hml : m ≤ l.length := by rw [← hm]; exact HOS.out.2.2
       clear hS2 hS3 hm
       go_loopg [64] (m + 1) (fun gk' u64 wi => ∃ (k : Nat) (far' : Nat → Int) (by' : Nat → Int) (M' : ItemV → Nat) (rank' : Nat → Nat) (f' : Nat → ItemV) (n' : Nat) (v' : Value), k ≤ m ∧ u64 = .int .i64 k ∧ m - k < gk' ∧ SL w w.heap.size (PileRs pb v' n' f' (.blk bx #[.int .i64 yk, .int .i64 (j : Int)] 148 :: .blk tb #[.slice (some ⟨fb, 0, none⟩) N N, .slice (some ⟨bb, 0, none⟩) N N] 115 :: .blk fb (iarr far' N) 2 :: .blk bb (iarr by' N) 3 :: .blk db (barr (setB done j) N) 4 :: (.row 3 1 (.slice oA m oc) m (os.map (.int .i64)) :: [.blk rb #[.slice none 0 0, .slice none 0 0] 115, .blk gb #[.int .i64 (N : Int), .slice A l.length cap] 111]))) wi ∧ Hid (Dij N l s far' by' (setB done j) M' rank' (fun u => u = j) (fun k' => (k' : Int) ∈ os.take k)) ∧ Hid (PileIs f' n' M') ∧ Hid (far' j = yk) ∧ Hid (unseen (setB done j) N * (l.length + 1) + n' + (m - k) + 1 < gO))
       case atStart => exact ⟨0, far, by_, _, rank, f, n, v, by omega, rfl, by omega, HS3.out, Lib.hid (dij_same (by simpa using HM.out.2.2) (fun k hk => by simp at hk)), Lib.hid HD.out.2.2.2, Lib.hid (by simpa using HM.out.1), Lib.hid (by
        have h1 : unseen (setB done j) N + 1 = unseen done N := by simpa using HM.out.2.1
        have h2 := HMS.out
        rw [← h1, Nat.add_mul] at h2
        omega)⟩
       case round =>
        clear HS3 HM HD HMS
        obtain ⟨k, far', by', M', rank', f', n', v', hk, rfl, hgk', hS, HD, HP, HYK, HMS⟩ := hrel
        by_cases hlt : k < m
        · have hko : k < os.length := by rw [HM9.out]; exact hlt
          obtain ⟨a, ha, hae, haf⟩ := HOS.out.1 _ (List.getElem_mem hko)
          obtain ⟨og, oo, rfl⟩ : ∃ g o, oA = some ⟨g, o, none⟩ := by
           rcases (hS.row 7 rfl).in_ with e | ⟨g, o, c, e, _⟩
           · omega
           · simp only [Value.slice.injEq] at e; exact ⟨g, o, e.1⟩
          have d9 : wr.cell? ⟨og, oo + k, none⟩ = some (.int .i64 (a : Int)) := hS.rowCell 7 rfl k (by rw [List.getElem?_map, List.getElem?_eq_getElem hko, hae]; rfl)
          obtain ⟨b, o, rfl, hbB, e0, e1, e2⟩ := arcs_at HR.out ha
          have d0 := (hS.below.cell (p := ⟨b, o + a * 3, none⟩) hbB).trans e0
          have d1 := (hS.below.cell (p := ⟨b, o + a * 3 + 1, none⟩) hbB).trans e1
          have d2 := (hS.below.cell (p := ⟨b, o + a * 3 + 2, none⟩) hbB).trans e2
          obtain ⟨⟨f0, f1⟩, t0, t1⟩ := HI.out.inn _ (List.getElem_mem ha)
          have hcc := HI.out.heavy _ (List.getElem_mem ha)
          obtain ⟨t, ht⟩ : ∃ t : Nat, l[a].to = (t : Int) := ⟨l[a].to.toNat, by omega⟩
          obtain ⟨c, hc⟩ : ∃ r, l[a].wt = r := ⟨_, rfl⟩
          have HAR : Hid (ArcG l a j t c) := Lib.hid ⟨ha, haf, ht, hc.symm⟩
          have HTK : Hid (∀ k' : Nat, (k' : Int) ∈ os.take (k + 1) → (k' : Int) ∈ os.take k ∨ k' = a) := Lib.hid (fun k' h => by
           rw [List.take_succ_eq_append_getElem hko, List.mem_append] at h
           rcases h with h | h
           · exact .inl h
           · rw [List.mem_singleton, hae] at h; exact .inr (by omega))
          rw [haf] at d0
          rw [ht] at d1 t0 t1
          rw [hc] at d2 hcc
          unfold DearI at hcc
          obtain ⟨hc0, hc1⟩ := hcc
          have htN : t < N := by omega
          have g1 : wr.cell? ⟨gb, 1, none⟩ = some (.slice (some ⟨b, o, none⟩) l.length cap) := hS.cell 9 rfl 1 rfl
          have hS2 := pile_in (hS.alloc #[.int .i64 (j : Int), .int .i64 (t : Int), .int .i64 c] 113)
          have hz1 : b < wr.heap.size := Nat.lt_of_lt_of_le hbB hS.size
          obtain ⟨cb1, cb2, cb3⟩ := dij_cur HI.out HD.out
          rw [HYK.out] at cb2 cb3
          have hpt := HD.out.pos t htN
          unfold FarI at hpt
          obtain ⟨hpt0, hpt1⟩ := hpt
          clear hS ht hc f0 f1 t0 t1 e0 e1 e2 hae haf
          go_upto_region 18 with fail
          obtain ⟨ar, har⟩ : ∃ ar, ar = wr.heap.size := ⟨_, rfl⟩
          generalize (wr.alloc (.cells #[.int .i64 (j : Int), .int .i64 (t : Int), .int .i64 c] 113)) = w9 at *
          rw [← har] at hS2 ⊢
          clear har d0 d1 d2 d9 hz1 g1
          have y0 : w9.cell? ⟨bx, 0, none⟩ = some (.int .i64 yk) := hS2.cell 3 rfl 0 rfl
          have y2 : w9.cell? ⟨ar, 2, none⟩ = some (.int .i64 c) := hS2.cell 2 rfl 2 rfl
          have y1 : w9.cell? ⟨ar, 1, none⟩ = some (.int .i64 (t : Int)) := hS2.cell 2 rfl 1 rfl
          have x0 : w9.cell? ⟨tb, 0, none⟩ = some (.slice (some ⟨fb, 0, none⟩) N N) := hS2.cell 4 rfl 0 rfl
          have x1 : w9.cell? ⟨fb, t, none⟩ = some (.int .i64 (far' t)) := hS2.cell 5 rfl t (iarr_get _ _ _ htN)
          by_cases hnear : yk + c < far' t
          · have hnb : n' ≤ 800000 := by have := HMS.out; have := HNL.out; omega
            have hk2 := dij_near HI.out HD.out HAR.out (by rw [HYK.out]; exact hnear)
            have hne : j ≠ t := by
             intro e
             subst e
             rw [HYK.out] at hnear
             omega
            rw [HYK.out] at hk2
            have HK : Hid (Dij N l s (fun j => if j = t then yk + c else far' j) (setF by' t (a : Int)) (setB done j) _ _ (fun u => u = j) (fun k' => (k' : Int) ∈ os.take (k + 1))) := Lib.hid (dij_same hk2 (fun k' h => .inl (HTK.out k' h)))
            have HNE := Lib.hid hne
            have HS2 := Lib.hid hS2
            clear hk2 hne hS2
            go_upto_region 20 with fail
            clear x0 x1 y0 y1 y2
            go_cut [] (fun wx => SL w w.heap.size (PileRs pb v' n' f' (.blk ar #[.int .i64 (j : Int), .int .i64 (t : Int), .int .i64 c] 113 :: (.blk bx #[.int .i64 yk, .int .i64 (j : Int)] 148 :: .blk tb #[.slice (some ⟨fb, 0, none⟩) N N, .slice (some ⟨bb, 0, none⟩) N N] 115 :: .blk fb (iarr (fun j => if j = t then yk + c else far' j) N) 2 :: .blk bb (iarr (setF by' t (a : Int)) N) 3 :: .blk db (barr (setB done j) N) 4 :: (.row 3 1 (.slice (some ⟨og, oo, none⟩) m oc) m (os.map (.int .i64)) :: [.blk rb #[.slice none 0 0, .slice none 0 0] 115, .blk gb #[.int .i64 (N : Int), .slice (some ⟨b, o, none⟩) l.length cap] 111])))) wx)
            case first =>
             have hS2 := HS2.out
             refine wp_region_sl [0,1,2,3,4,5,6,7,8,9] [10,11] [12,13] [.blk ar #[.int .i64 (j : Int), .int .i64 (t : Int), .int .i64 c] 113, .blk tb #[.slice (some ⟨fb, 0, none⟩) N N, .slice (some ⟨bb, 0, none⟩) N N] 115] hS2 (.cons _ (.cons _ (.cons_cons _ (.cons _ (.cons_cons _ (List.nil_sublist _)))))) (by kernel_rfl) (by kernel_rfl) (.cons rfl (.cons rfl .nil)) (fun C cw _ hC => ?_)
             have q1 : ∀ d, (cw d).cell? ⟨ar, 1, none⟩ = some (.int .i64 (t : Int)) := fun d => (hC d).cell 0 rfl 1 rfl
             have q2 : ∀ d, (cw d).cell? ⟨tb, 0, none⟩ = some (.slice (some ⟨fb, 0, none⟩) N N) := fun d => (hC d).cell 1 rfl 0 rfl
             have q3 : ∀ d, (cw d).cell? ⟨tb, 1, none⟩ = some (.slice (some ⟨bb, 0, none⟩) N N) := fun d => (hC d).cell 1 rfl 1 rfl
             repeat (refine pl_look rfl rfl rfl (fun Kv hK => ?_); go_big_quiet_op; refine hK _ ?_; clear hK Kv)
             clear q1 q2 q3 hC HS2
             refine pl_end ?_
             intro w1 hS
             clear hS2
             refine pm_eff rfl rfl fun Kv hK => ?_
             go_simp
             refine ⟨hS.sub (.cons _ (.cons _ (.cons_cons _ (.cons _ (.cons_cons _ (List.nil_sublist _)))))), hK _ _ ?_⟩
             clear hK Kv
             refine pm_eff rfl rfl fun Kv hK => ?_
             have z1 : w1.cell? ⟨fb, t, none⟩ = some (.int .i64 (far' t)) := hS.cell 5 rfl t (iarr_get _ _ _ htN)
             have z2 := hS.free 5 rfl t
             go_simp
             have hS := hS.setInt 5 rfl t (yk + c)
             refine ⟨hS.sub (.cons _ (.cons _ (.cons_cons _ (.cons _ (.cons_cons _ (List.nil_sublist _)))))), hK _ _ ?_⟩
             clear hK Kv z1 z2
             refine pm_end ?_
             generalize (w1.setCell ⟨fb, t, none⟩ (.int .i64 (yk + c))) = w2 at *
             have z1 : w2.cell? ⟨bb, t, none⟩ = some (.int .i64 (by' t)) := hS.cell 6 rfl t (iarr_get _ _ _ htN)
             have z2 := hS.free 6 rfl t
             have HS9 := Lib.hid (hS.setInt 6 rfl t (a : Int))
             clear hS
             go_wp2_with fail
             go_meet
             exact HS9.out
            case rest =>
            clear HS2
            have hS := hcut
            have y1 : wc.cell? ⟨ar, 1, none⟩ = some (.int .i64 (t : Int)) := hS.cell 2 rfl 1 rfl
            have HPUT := Lib.hid (put_kv _ _ _ _ pb n' v' f' (yk + c) (t : Int) hS (by omega))
            clear hS hcut
            go_wp2_with (go_at_call 84; (with_reducible refine HPUT.out.mono ?_); rintro e w7 ⟨rfl, v7, hS7⟩
                         have HS7 := Lib.hid (hS7.sub (.cons_cons _ (.cons_cons _ (.cons _ (List.Sublist.refl _)))))
                         clear hS7)
            clear HPUT
            go_roundg (m - k)
            case measure => omega
            case rel => exact ⟨k + 1, _, _, _, _, _, n' + 1, v7, by omega, by go_num, by omega, HS7.out, HK, Lib.hid (HP.out.put ⟨yk + c, (t : Int)⟩), Lib.hid (by rw [if_neg HNE.out]; exact HYK.out), Lib.hid (by have := HMS.out; omega)⟩
          · have HK : Hid (Dij N l s far' by' (setB done j) M' rank' (fun u => u = j) (fun k' => (k' : Int) ∈ os.take (k + 1))) := Lib.hid (dij_same HD.out (fun k' h => by
             rcases HTK.out k' h with h1 | rfl
             · exact .inl h1
             · refine .inr fun v c' ha' => ?_
               obtain ⟨e1, e2⟩ := HAR.out.one ha'
               rw [e1, e2, HYK.out]
               omega))
            have HS2 := Lib.hid (hS2.sub (.cons_cons _ (.cons_cons _ (.cons _ (List.Sublist.refl _)))))
            clear hS2
            go_wp2_with fail
            go_roundg (m - k)
            case measure => omega
            case rel => exact ⟨k + 1, _, _, _, _, _, n', v', by omega, by go_num, by omega, HS2.out, HK, HP, HYK, Lib.hid (by have := HMS.out; omega)⟩
        · obtain rfl : k = m := by omega
          have HS := Lib.hid (hS.sub (.cons_cons _ (.cons_cons _ (.cons_cons _ (.cons_cons _ (.cons_cons _ (.cons_cons _ (.cons_cons _ (.cons _ (List.Sublist.refl _)))))))))) 
          have HDE : Hid (Dij N l s far' by' (setB done j) M' rank' (fun _ => False) (fun _ => False)) := Lib.hid (dij_round HD.out (fun k' hk' hf => by rw [List.take_of_length_le (by rw [HM9.out]; exact Nat.le_refl _)]; exact HOS.out.2.1 k' hk' hf))
          clear hS
          go_wp2_with fail
          go_meet
          exact ⟨far', by', _, M', rank', f', n', v', HS.out, HDE, HP, by have := HMS.out; omega⟩
     · rw [hdn] at y2
       have HS := Lib.hid hS
       clear hS
       have HK := Lib.hid (dij_skip HD.out.1 (y := ⟨yk, (j : Int)⟩) (by simpa using hdn))
       go_wp2_with fail
       go_meet
       exact ⟨far, by_, done, _, rank, f, n, v, HS.out, HK, Lib.hid HD.out.2.2.2, HMS.out⟩
    case rest =>
    clear hS HD HMS
    obtain ⟨far', by', done', M', rank', f', n', v', hS, HD, HP, hms⟩ := hcut
    have y0 : wc.cell? ⟨bx, 0, none⟩ = some (.int .i64 yk) := hS.cell 2 rfl 0 rfl
    have y1 : wc.cell? ⟨bx, 1, none⟩ = some (.int .i64 (j : Int)) := hS.cell 2 rfl 1 rfl
    have hS1 := pile_in (hS.alloc #[.int .i64 yk, .int .i64 (j : Int)] 148)
    have hlb := (hS.lt 2 rfl).2
    clear hS
    go_upto_region 11 with fail
    obtain ⟨b2, hb2⟩ : ∃ b2, b2 = wc.heap.size := ⟨_, rfl⟩
    generalize (wc.alloc (.cells #[.int .i64 yk, .int .i64 (j : Int)] 148)) = w7 at *
    rw [← hb2] at hS1 ⊢
    clear hb2 y0 y1 hlb
    have hS2 : SL w w.heap.size (PileRs pb v' n' f' (.blk b2 #[.int .i64 yk, .int .i64 (j : Int)] 148 :: .blk tb #[.slice (some ⟨fb, 0, none⟩) N N, .slice (some ⟨bb, 0, none⟩) N N] 115 :: .blk fb (iarr far' N) 2 :: .blk bb (iarr by' N) 3 :: .blk db (barr done' N) 4 :: [.blk rb #[.slice none 0 0, .slice none 0 0] 115, .blk gb #[.int .i64 (N : Int), .slice A l.length cap] 111])) w7 := hS1.sub (.cons_cons _ (.cons_cons _ (.cons_cons _ (.cons _ (List.Sublist.refl _)))))
    have hnb : n' ≤ 800000 := by have := HNL.out; omega
    clear hS1
    have HMS := Lib.hid hms
    clear hms
    cases n' with
    | zero =>
      have HTK := Lib.hid (take_none _ _ _ _ pb v' f' hS2)
      have hM0 : ∀ z, M' z = 0 := fun z => (HP.out.cnt z).symm
      have HM0 := Lib.hid hM0
      clear hS2 hM0
      go_wp2_with (go_at_call 85; (with_reducible refine HTK.out.mono ?_); rintro e w8 ⟨rfl, hS8⟩
                   have z0 : w8.cell? ⟨b2, 0, none⟩ = some (.int .i64 yk) := hS8.cell 2 rfl 0 rfl
                   have z1 : w8.cell? ⟨b2, 1, none⟩ = some (.int .i64 (j : Int)) := hS8.cell 2 rfl 1 rfl
                   have z2 := hS8.free 2 rfl 0
                   have z3 := hS8.free 2 rfl 1
                   have HS9 : Hid (SL w w.heap.size _ _) := Lib.hid ((hS8.setCell 2 rfl 0 (.int .i64 0)).setCell 2 rfl 1 (.int .i64 0))
                   clear hS8)
      go_roundg (unseen done' N * (l.length + 1) + 0 + 1)
      case measure => exact HMS.out
      case rel => exact ⟨far', by', done', f', 0, v', b2, false, ⟨0, 0⟩, rfl, rfl, HS9.out, Lib.hid ⟨M', rank', HD.out, .inr ⟨rfl, HM0.out⟩⟩, by simp, by have := HMS.out; omega⟩
    | succ m =>
      obtain ⟨y, hy⟩ : ∃ y, f' 0 = y := ⟨_, rfl⟩
      have hfst := HP.out.first
      have htk := HP.out.take
      rw [hy] at hfst htk
      have HTK := Lib.hid (take_kv _ _ _ _ pb m v' f' y.key y.id hy hS2 (by omega))
      have HSt : Hid (NearSt N l s far' by' done' (takeM f' m) m true y) := Lib.hid ⟨_, _, HD.out, .inl ⟨rfl, hfst.1, hfst.2, htk⟩⟩
      clear hS2 hfst htk hy
      go_wp2_with (go_at_call 85; (with_reducible refine HTK.out.mono ?_); rintro e w8 ⟨rfl, v8, hS8⟩
                   have z0 : w8.cell? ⟨b2, 0, none⟩ = some (.int .i64 yk) := hS8.cell 2 rfl 0 rfl
                   have z1 : w8.cell? ⟨b2, 1, none⟩ = some (.int .i64 (j : Int)) := hS8.cell 2 rfl 1 rfl
                   have z2 := hS8.free 2 rfl 0
                   have z3 := hS8.free 2 rfl 1
                   have HS9 : Hid (SL w w.heap.size _ _) := Lib.hid ((hS8.setCell 2 rfl 0 (.int .i64 y.key)).setCell 2 rfl 1 (.int .i64 y.id))
                   clear hS8)
      go_roundg (unseen done' N * (l.length + 1) + (m + 1) + 1)
      case measure => exact HMS.out
      case rel => exact ⟨far', by', done', _, m, v8, b2, true, y, rfl, rfl, HS9.out, HSt, by simp, by have := HMS.out; omega⟩
end Go.Proofs.Ytjpejclfppbboaa
