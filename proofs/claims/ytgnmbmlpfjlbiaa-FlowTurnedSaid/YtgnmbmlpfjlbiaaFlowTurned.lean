/- The walk of law FlowTurned. -/
import Derived.Test.YtgnmbmlpfjlbiaaLawNet
namespace Go.Proofs.Ytgnmbmlpfjlbiaa
open Go.ChangeShapes Go.WideShapes Go.ChangeAt Go.RowKit
set_option linter.unusedVariables false
theorem lawNet_turn {N : Nat} {L : List PipeV} {s t : Int} (h : LawNet N L s t) : endsP N (L.map turnP) t s = 0 := by
  have hck := checkP_good (N := N) (l := L.map turnP) (by have := h.n6; omega) (by simp; have := h.len; omega) (turn_in h.inn) (by
    intro p hp
    obtain ⟨q, _, rfl⟩ := List.mem_map.1 hp
    show (-1099511627776 : Int) ≤ 0 ∧ (0 : Int) ≤ 1099511627776
    omega)
  have := h.s0; have := h.s1; have := h.t0; have := h.t1; have := h.ne
  unfold endsP
  rw [if_neg (by omega), if_neg (by omega)]
def turnK (L : List PipeV) (k : Nat) : List PipeV := (L.take k).map turnP
theorem turnK_succ {L : List PipeV} {k : Nat} (h : k < L.length) : turnK L (k + 1) = turnK L k ++ [turnP L[k]] := by
  unfold turnK
  rw [List.take_succ_eq_append_getElem h, List.map_append]
  rfl
theorem turnK_all {L : List PipeV} : turnK L L.length = L.map turnP := by unfold turnK; rw [List.take_length]
set_option maxHeartbeats 4000000 in
theorem flowTurned0 (W : World) (n : Int) (A : Option Addr) (cap : Nat) (l : List TubeV) (a b : Int) (hr : Tubes W W.heap.size A l) (hl : l.length ≤ maxLen) (hok : ∀ x ∈ l, x.ok) (n0 : 0 ≤ n) (n1 : n ≤ 255) (a0 : 0 ≤ a) (a1 : a ≤ 255) (b0 : 0 ≤ b) (b1 : b ≤ 255) :
    Calls Try.prog 5 #[.int .u8 n, .slice A l.length cap, .int .u8 a, .int .u8 b] W fun e w' => e = .returned (.bool true) ∧ Below W.heap.size W w' := by
  obtain ⟨N, L, s, t, hLN, hnet, hend⟩ := lawNet_pack W n A cap l a b hr hl hok n0 n1 a0 a1 b0 b1
  have HLN := Lib.hid hLN
  have HNET := Lib.hid hnet
  have HEND := Lib.hid hend
  clear hr hl hok hLN hnet hend
  go_enter Try.func5, Try.ntmps5
  go_upto_region 4 with (first
    | (go_at_call 13; (with_reducible refine (awake09 _).mono ?_); rintro e w1 ⟨rfl, hb1⟩; have HB1 := Lib.hid hb1; clear hb1)
    | (go_at_call 14; (with_reducible refine (HNET.out _ HB1.out).mono ?_); rintro e w2 ⟨v, rfl, hS⟩
       obtain ⟨A2, c2, rfl, _, _⟩ := (hS.row 0 rfl).slice_
       have HS := Lib.hid (hS.rebase HB1.out HB1.out.size)
       clear hS))
  have hS := HS.out.alloc #[.int .i64 N, .slice A2 L.length c2] 26
  obtain ⟨xb, hxb⟩ : ∃ xb, xb = w2.heap.size := ⟨_, rfl⟩
  generalize (w2.alloc (Obj.cells #[.int .i64 N, .slice A2 L.length c2] 26)) = w3 at *
  rw [← hxb] at hS ⊢
  clear hxb
  have HS3 := Lib.hid hS
  have c0 : w3.cell? ⟨xb, 0, none⟩ = some (.int .i64 N) := hS.cell 0 rfl 0 rfl
  have c1 : w3.cell? ⟨xb, 1, none⟩ = some (.slice A2 L.length c2) := hS.cell 0 rfl 1 rfl
  clear hS
  go_upto_region 6 with (go_at_call 15; (with_reducible refine (HEND.out _ _).mono ?_); rintro e w4 ⟨rfl, hb4⟩
                         have hS4 := HS3.out.call hb4
                         have c2 : w4.cell? ⟨xb, 0, none⟩ = some (.int .i64 N) := hS4.cell 0 rfl 0 rfl
                         have hz4 := (hS4.lt 0 rfl).2
                         have HS4 := Lib.hid hS4
                         clear hb4 c0 c1 hS4)
  have hS5 := (HS4.out.alloc #[.int .i64 N, .slice none 0 0] 26).nil 40 4
  obtain ⟨yb, hyb⟩ : ∃ yb, yb = w4.heap.size := ⟨_, rfl⟩
  generalize (w4.alloc (Obj.cells #[.int .i64 N, .slice none 0 0] 26)) = w5 at *
  rw [← hyb] at hS5 ⊢
  clear hyb c2 hz4
  have c3 : w5.cell? ⟨xb, 1, none⟩ = some (.slice A2 L.length _) := hS5.cell 2 rfl 1 rfl
  have HS5 := Lib.hid hS5
  clear hS5
  have hL14 : L.length ≤ 14 := HLN.out.len
  obtain ⟨i0, hi0, hz0, hz1, hz2⟩ := info_parts pipe_info
  have HI := Lib.hid (And.intro hi0 (And.intro hz0 (And.intro hz1 hz2)))
  clear hi0 hz0 hz1 hz2
  go_wp2_with fail
  clear c3
  go_loopw [39] (fun i wr => ∃ (k : Nat) (v : Value), k ≤ L.length ∧ i = .int .i64 k ∧ SL W W.heap.size [.row 40 4 v (turnK L k).length (pipeCells (turnK L k)), .blk yb #[.int .i64 N, v] 26, .blk xb #[.int .i64 N, .slice A2 L.length c2] 26, .row 40 4 (.slice A2 L.length c2) L.length (pipeCells L)] wr) (fun i _ => L.length - (intOf i).toNat)
  case atStart => exact ⟨0, _, by omega, rfl, by simpa [turnK, pipeCells] using HS5.out⟩
  case round =>
    clear HS5
    obtain ⟨k, v, hk, rfl, hS⟩ := hrel
    by_cases hlt : k < L.length
    · have hR : Pipes wr wr.heap.size A2 L := hS.reads 3 rfl
      obtain ⟨b, o, rfl, hb, d0, d1, d2, d3⟩ := pipes_at hR hlt
      obtain ⟨p, hp⟩ : ∃ p, L[k] = p := ⟨_, rfl⟩
      rw [hp] at d0 d1 d2 d3
      have HQ : Hid (turnK L (k + 1) = turnK L k ++ [turnP p]) := Lib.hid (by rw [← hp]; exact turnK_succ hlt)
      have htl : (turnK L k).length ≤ 14 := by unfold turnK; simp; omega
      have c0 : wr.cell? ⟨yb, 1, none⟩ = some v := hS.cell 1 rfl 1 rfl
      have hz := (hS.lt 1 rfl).2
      have hS6 := hS.alloc #[.int .i64 p.fr, .int .i64 p.to, .int .i64 p.room, .int .i64 p.cost] 40
      clear hR hp hS
      go_wp2_with (at_builtin; refine stopHere ?_)
      show wpList _ _ _ _ _ _
      refine wpList_append_sl rfl _ _ 24 rfl hS6 1 i0 _ 4 32 Try.underlying24 HI.out.1 HI.out.2.1 HI.out.2.2.1 HI.out.2.2.2 rfl (by decide) v _ 1 _ rfl rfl _ rfl (by simp) (by decide) rfl (by simp [Value.oneCell']) (by omega) (by decide) ?_
      intro v' w' hS8 hz8
      obtain ⟨A', c', rfl, _, _⟩ := (hS8.row 1 rfl).slice_
      have e1 : w'.cell? ⟨yb, 1, none⟩ = some v := hS8.cell 2 rfl 1 rfl
      have e2 := hS8.free 2 rfl 1
      have HS9 := Lib.hid (hS8.setCell 2 rfl 1 (.slice A' ((turnK L k).length + 1) c')).tail
      clear hS8 hS6 c0 d0 d1 d2 d3
      go_wp2
      go_roundw
      case rel =>
        refine ⟨k + 1, .slice A' ((turnK L k).length + 1) c', by omega, by go_num, ?_⟩
        rw [HQ.out, pipeCells_snoc, List.length_append]
        exact HS9.out
      case measure => simp [intOf]; omega
    · obtain rfl : k = L.length := by omega
      rw [turnK_all] at hS
      obtain ⟨A', c', rfl, _, _⟩ := (hS.row 0 rfl).slice_
      have c0 : wr.cell? ⟨xb, 0, none⟩ = some (.int .i64 N) := hS.cell 2 rfl 0 rfl
      have c1 : wr.cell? ⟨xb, 1, none⟩ = some (.slice A2 L.length c2) := hS.cell 2 rfl 1 rfl
      have HM1 : Hid (Calls Try.prog 16 #[.agg #[.int .i64 N, .slice A2 L.length c2], .int .i64 s, .int .i64 t] wr (MostPost wr N L s t)) := Lib.hid (most_any N A2 c2 L s t wr (hS.reads 3 rfl) HLN.out.ends)
      have HS := Lib.hid hS
      clear hS hk hlt
      go_wp2_with (first
        | (go_at_call 16; (with_reducible refine HM1.out.mono ?_); rintro e w6 ⟨y1, m1, lb1, rfl, hS6, hM1⟩
           have hS7 := HS.out.join hS6
           have c4 : w6.cell? ⟨yb, 0, none⟩ = some (.int .i64 N) := hS7.cell 2 rfl 0 rfl
           have c5 : w6.cell? ⟨yb, 1, none⟩ = some (.slice A' L.length c') := by have h := hS7.cell 2 rfl 1 rfl; rw [List.length_map] at h; exact h
           have HM2 : Hid (Calls Try.prog 16 #[.agg #[.int .i64 N, .slice A' L.length c'], .int .i64 t, .int .i64 s] w6 (MostPost w6 N (L.map turnP) t s)) := Lib.hid (by have h := most_any N A' c' (L.map turnP) t s w6 (hS7.reads 1 rfl) (lawNet_turn HLN.out); rw [List.length_map] at h; exact h)
           have HS7 := Lib.hid (And.intro hS7 hM1)
           clear hS7 hS6 hM1 c0 c1)
        | (go_at_call 16; (with_reducible refine HM2.out.mono ?_); rintro e w7 ⟨y2, m2, lb2, rfl, hS8, hM2⟩
           have heq : m1 = m2 := most_turned HLN.out.inn HLN.out.s0 HLN.out.s1 HLN.out.t0 HLN.out.t1 HS7.out.2 hM2
           subst heq
           have HS9 := Lib.hid (HS7.out.1.join hS8)
           clear hS8 hM2 c4 c5))
      go_ret
      exact ⟨rfl, HS9.out.below⟩
set_option maxRecDepth 100000 in
theorem flowTurned_walk {H : Type} {enc : TypeId × Value → H} {base : Nat} (W : World) (n : Int) (_hn : (Lit.int .u8 n).wf = true) (v : Value) (d : DataW H) (p : List MemPlace) (o : Value.okWide Try.prog W .any base 22 v) (k : DataW.Trod enc Try.prog W 0 (fun _ => true) true 22 v d p)
    (a : Int) (_ha : (Lit.int .u8 a).wf = true) (b : Int) (_hb : (Lit.int .u8 b).wf = true) :
    Calls Try.prog 5 #[.int .u8 n, v, .int .u8 a, .int .u8 b] W fun e w' => e = .returned (.bool true) ∧ Below W.heap.size W w' := by
  obtain ⟨A, cap, l, rfl, hr, hl, hok⟩ := tubes_open o k
  simp [Lit.wf, IntKind.min, IntKind.max, IntKind.signed, IntKind.bits] at _hn _ha _hb
  exact flowTurned0 W n A cap l a b hr hl hok _hn.1 _hn.2 _ha.1 _ha.2 _hb.1 _hb.2
end Go.Proofs.Ytgnmbmlpfjlbiaa
