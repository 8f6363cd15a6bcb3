/- The walk of law FlowRights. -/
import Derived.Test.YtgnmbmlpfjlbiaaFlowMosts
import Derived.Test.YtgnmbmlpfjlbiaaFlowRight
namespace Go.Proofs.Ytgnmbmlpfjlbiaa
open Go.ChangeShapes Go.WideShapes Go.ChangeAt Go.RowKit
set_option linter.unusedVariables false
/-- Right and Flows answer alike. -/
theorem rights_pack {N : Nat} {L : List PipeV} {s t : Int} (h : LawNet N L s t) (F : List Int) (hF : F.length ≤ maxLen) :
    ∃ (V : Int) (B : Bool), (∀ (w : World) (A2 AF : Option Addr) (c2 cF : Nat), Pipes w w.heap.size A2 L → Reads w w.heap.size 1 AF F.length (F.map (.int .i64)) → Calls Try.prog 21 #[.agg #[.int .i64 N, .slice A2 L.length c2], .slice AF F.length cF, .int .i64 s, .int .i64 t] w (fun e w' => e = .returned (.tuple #[.int .i64 V, .bool B]) ∧ Below w.heap.size w w')) ∧
      (∀ (w : World) (A2 AF : Option Addr) (c2 cF : Nat), Pipes w w.heap.size A2 L → Reads w w.heap.size 1 AF F.length (F.map (.int .i64)) → Calls Try.prog 17 #[.agg #[.int .i64 N, .slice A2 L.length c2], .slice AF F.length cF, .int .i64 s, .int .i64 t] w (fun e w' => e = .returned (.tuple #[.int .i64 V, .bool B]) ∧ Below w.heap.size w w')) := by
  have hl := h.len
  have h6 := h.n6
  by_cases hlen : F.length = L.length
  · have key : ∀ (w : World) (f : FuncId) (args : Array Value), Calls Try.prog f args w (FlowsPost w N L s t (fun k => F.getD k 0)) → ∀ (hg : Good N L s t (fun k => F.getD k 0)), Calls Try.prog f args w (fun e w' => e = .returned (.tuple #[.int .i64 (inn L (fun k => F.getD k 0) t), .bool true]) ∧ Below w.heap.size w w') := by
      intro w f args hc hg
      refine hc.mono fun e w' ⟨h1, h2⟩ => ⟨?_, h2⟩
      rcases h1 with ⟨_, he⟩ | ⟨hn, _⟩
      · exact he
      · exact absurd hg hn
    have key2 : ∀ (w : World) (f : FuncId) (args : Array Value), Calls Try.prog f args w (FlowsPost w N L s t (fun k => F.getD k 0)) → ∀ (hg : ¬ Good N L s t (fun k => F.getD k 0)), Calls Try.prog f args w (fun e w' => e = .returned (.tuple #[.int .i64 0, .bool false]) ∧ Below w.heap.size w w') := by
      intro w f args hc hg
      refine hc.mono fun e w' ⟨h1, h2⟩ => ⟨?_, h2⟩
      rcases h1 with ⟨hg', _⟩ | ⟨_, he⟩
      · exact absurd hg' hg
      · exact he
    have hR : ∀ (w : World) (A2 AF : Option Addr) (c2 cF : Nat), Pipes w w.heap.size A2 L → Reads w w.heap.size 1 AF F.length (F.map (.int .i64)) → Calls Try.prog 21 #[.agg #[.int .i64 N, .slice A2 L.length c2], .slice AF F.length cF, .int .i64 s, .int .i64 t] w (FlowsPost w N L s t (fun k => F.getD k 0)) := by
      intro w A2 AF c2 cF hp hr
      have := right_any N A2 AF c2 cF L F s t w hp hr hlen h.ends (fun k => F.getD k 0) (by intro k hk; simp [hk])
      rw [← hlen] at this ⊢
      exact this
    have hW : ∀ (w : World) (A2 AF : Option Addr) (c2 cF : Nat), Pipes w w.heap.size A2 L → Reads w w.heap.size 1 AF F.length (F.map (.int .i64)) → Calls Try.prog 17 #[.agg #[.int .i64 N, .slice A2 L.length c2], .slice AF F.length cF, .int .i64 s, .int .i64 t] w (FlowsPost w N L s t (fun k => F.getD k 0)) := by
      intro w A2 AF c2 cF hp hr
      have := flows_any N A2 AF c2 cF L F s t w hp hr hlen (by omega) (by omega) h.inn h.t0 h.t1 (fun k => F.getD k 0) (by intro k hk; simp [hk])
      rw [← hlen] at this ⊢
      exact this
    by_cases hg : Good N L s t (fun k => F.getD k 0)
    · exact ⟨_, _, fun w A2 AF c2 cF hp hr => key w _ _ (hR w A2 AF c2 cF hp hr) hg, fun w A2 AF c2 cF hp hr => key w _ _ (hW w A2 AF c2 cF hp hr) hg⟩
    · exact ⟨_, _, fun w A2 AF c2 cF hp hr => key2 w _ _ (hR w A2 AF c2 cF hp hr) hg, fun w A2 AF c2 cF hp hr => key2 w _ _ (hW w A2 AF c2 cF hp hr) hg⟩
  · exact ⟨0, false, fun w A2 AF c2 cF hp hr => right_bad N A2 AF c2 F.length cF L s t w hp (by unfold maxLen; omega) hF (.inr hlen),
      fun w A2 AF c2 cF hp hr => flows_len N A2 AF c2 F.length L.length cF s t w hF (by unfold maxLen; omega) hlen⟩
/-- flows[k] += d % 2, for the first k numbers of raw. -/
def stirred (y : Nat → Int) (raw : List Int) (k : Nat) : Nat → Int := fun j => if j < k then y j + (raw.getD j 0).tmod 2 else y j
theorem stirred_zero (y : Nat → Int) (raw : List Int) : stirred y raw 0 = y := by
  funext j
  simp [stirred]
theorem stirred_in {y : Nat → Int} {raw : List Int} {k : Nat} (h : k < raw.length) (j : Nat) : (if j = k then y k + raw[k].tmod 2 else stirred y raw k j) = stirred y raw (k + 1) j := by
  unfold stirred
  by_cases e : j = k
  · subst e; simp [h]
  · rw [if_neg e]
    by_cases h1 : j < k
    · rw [if_pos h1, if_pos (by omega)]
    · rw [if_neg h1, if_neg (by omega)]
theorem stirred_out {y : Nat → Int} {raw : List Int} {k n : Nat} (h : ¬ k < n) (j : Nat) (hj : j < n) : stirred y raw k j = stirred y raw (k + 1) j := by
  unfold stirred
  rw [if_pos (by omega), if_pos (by omega)]
theorem tmod_two (d : Int) : -1 ≤ d.tmod 2 ∧ d.tmod 2 ≤ 1 := by
  have h := Int.tmod_lt_of_pos d (b := 2) (by omega)
  have h2 := Int.lt_tmod_of_pos d (b := 2) (by omega)
  omega
set_option maxRecDepth 100000 in
set_option maxHeartbeats 8000000 in
theorem flowRights0 (W : World) (n : Int) (A : Option Addr) (cap : Nat) (l : List TubeV) (a b : Int) (AR : Option Addr) (rc : Nat) (raw : List Int) (hraw : Reads W W.heap.size 1 AR raw.length (raw.map (.int .i64))) (hrl : raw.length ≤ maxLen) (hrw : ∀ n ∈ raw, (Lit.int .i64 n).wf = true) (most : Bool) (hr : Tubes W W.heap.size A l) (hl : l.length ≤ maxLen) (hok : ∀ x ∈ l, x.ok) (n0 : 0 ≤ n) (n1 : n ≤ 255) (a0 : 0 ≤ a) (a1 : a ≤ 255) (b0 : 0 ≤ b) (b1 : b ≤ 255) :
    Calls Try.prog 6 #[.int .u8 n, .slice A l.length cap, .int .u8 a, .int .u8 b, .slice AR raw.length rc, .bool most] W fun e w' => e = .returned (.bool true) ∧ Below W.heap.size W w' := by
  obtain ⟨N, L, s, t, hLN, hnet, hend⟩ := lawNet_pack W n A cap l a b hr hl hok n0 n1 a0 a1 b0 b1
  have HLN := Lib.hid hLN
  have HNET := Lib.hid hnet
  have HEND := Lib.hid hend
  have HRAW := Lib.hid (And.intro hraw hrw)
  have hl14 := hLN.len
  unfold maxLen at hrl
  clear hr hl hok hLN hnet hend hraw hrw
  cases most
  · skip
    go_enter Try.func6, Try.ntmps6
    go_upto_region 4 with (first
      | (go_at_call 13; (with_reducible refine (awake09 _).mono ?_); rintro e w1 ⟨rfl, hb1⟩; have HB1 := Lib.hid hb1; clear hb1)
      | (go_at_call 14; (with_reducible refine (HNET.out _ HB1.out).mono ?_); rintro e w2 ⟨v, rfl, hS⟩
         obtain ⟨A2, c2, rfl, _, _⟩ := (hS.row 0 rfl).slice_
         have HS := Lib.hid (hS.rebase HB1.out HB1.out.size)
         clear hS))
    have hS := HS.out.alloc #[.int .i64 N, .slice A2 L.length c2] 26
    obtain ⟨xb, hxb⟩ : ∃ xb, xb = w2.heap.size := ⟨_, rfl⟩
    generalize (w2.alloc (Obj.cells #[.int .i64 N, .slice A2 L.length c2] 26)) = w3 at *
    rw [← hxb] at hS ⊢
    clear hxb
    have HS3 := Lib.hid hS
    have c0 : w3.cell? ⟨xb, 0, none⟩ = some (.int .i64 N) := hS.cell 0 rfl 0 rfl
    have c1 : w3.cell? ⟨xb, 1, none⟩ = some (.slice A2 L.length c2) := hS.cell 0 rfl 1 rfl
    clear hS
    obtain ⟨V, B, hRi, hFl⟩ := rights_pack HLN.out raw (by unfold maxLen; omega)
    have HRI := Lib.hid hRi
    have HFL := Lib.hid hFl
    clear hRi hFl
    have hvv : (V == V) = true := by simp
    have hbb : (B == B) = true := by simp
    go_wp2_with (first
      | (go_at_call 15; (with_reducible refine (HEND.out _ _).mono ?_); rintro e w4 ⟨rfl, hb4⟩
         have hS4 := HS3.out.call hb4
         have d0 : w4.cell? ⟨xb, 0, none⟩ = some (.int .i64 N) := hS4.cell 0 rfl 0 rfl
         have d1 : w4.cell? ⟨xb, 1, none⟩ = some (.slice A2 L.length c2) := hS4.cell 0 rfl 1 rfl
         have HC4 : Hid (Calls Try.prog 21 #[.agg #[.int .i64 N, .slice A2 L.length c2], .slice AR raw.length rc, .int .i64 s, .int .i64 t] w4 (fun e w' => e = .returned (.tuple #[.int .i64 V, .bool B]) ∧ Below w4.heap.size w4 w')) := Lib.hid (HRI.out w4 A2 AR c2 rc (hS4.reads 1 rfl) (reads_more (Reads.below HRAW.out.1 hS4.below) hS4.size))
         have HS4 := Lib.hid hS4
         clear hb4 c0 c1 hS4)
      | (go_at_call 21; (with_reducible refine HC4.out.mono ?_); rintro e w5 ⟨rfl, hb5⟩
         have hS5 := HS4.out.call hb5
         have e0 : w5.cell? ⟨xb, 0, none⟩ = some (.int .i64 N) := hS5.cell 0 rfl 0 rfl
         have e1 : w5.cell? ⟨xb, 1, none⟩ = some (.slice A2 L.length c2) := hS5.cell 0 rfl 1 rfl
         have HC5 : Hid (Calls Try.prog 17 #[.agg #[.int .i64 N, .slice A2 L.length c2], .slice AR raw.length rc, .int .i64 s, .int .i64 t] w5 (fun e w' => e = .returned (.tuple #[.int .i64 V, .bool B]) ∧ Below w5.heap.size w5 w')) := Lib.hid (HFL.out w5 A2 AR c2 rc (hS5.reads 1 rfl) (reads_more (Reads.below HRAW.out.1 hS5.below) hS5.size))
         have HS5 := Lib.hid hS5
         clear hb5 d0 d1 hS5)
      | (go_at_call 17; (with_reducible refine HC5.out.mono ?_); rintro e w6 ⟨rfl, hb6⟩
         have HS6 := Lib.hid (HS5.out.call hb6)
         clear hb6 e0 e1))
    go_ret
    exact ⟨rfl, HS6.out.below⟩
  · skip
    go_enter Try.func6, Try.ntmps6
    go_upto_region 4 with (first
      | (go_at_call 13; (with_reducible refine (awake09 _).mono ?_); rintro e w1 ⟨rfl, hb1⟩; have HB1 := Lib.hid hb1; clear hb1)
      | (go_at_call 14; (with_reducible refine (HNET.out _ HB1.out).mono ?_); rintro e w2 ⟨v, rfl, hS⟩
         obtain ⟨A2, c2, rfl, _, _⟩ := (hS.row 0 rfl).slice_
         have HS := Lib.hid (hS.rebase HB1.out HB1.out.size)
         clear hS))
    have hS := HS.out.alloc #[.int .i64 N, .slice A2 L.length c2] 26
    obtain ⟨xb, hxb⟩ : ∃ xb, xb = w2.heap.size := ⟨_, rfl⟩
    generalize (w2.alloc (Obj.cells #[.int .i64 N, .slice A2 L.length c2] 26)) = w3 at *
    rw [← hxb] at hS ⊢
    clear hxb
    have HS3 := Lib.hid hS
    have c0 : w3.cell? ⟨xb, 0, none⟩ = some (.int .i64 N) := hS.cell 0 rfl 0 rfl
    have c1 : w3.cell? ⟨xb, 1, none⟩ = some (.slice A2 L.length c2) := hS.cell 0 rfl 1 rfl
    clear hS
    go_upto_region 7 with (go_at_call 15; (with_reducible refine (HEND.out _ _).mono ?_); rintro e w4 ⟨rfl, hb4⟩
                           have hS4 := HS3.out.call hb4
                           have d0 : w4.cell? ⟨xb, 0, none⟩ = some (.int .i64 N) := hS4.cell 0 rfl 0 rfl
                           have d1 : w4.cell? ⟨xb, 1, none⟩ = some (.slice A2 L.length c2) := hS4.cell 0 rfl 1 rfl
                           have HM : Hid (Calls Try.prog 16 #[.agg #[.int .i64 N, .slice A2 L.length c2], .int .i64 s, .int .i64 t] w4 (MostPost w4 N L s t)) := Lib.hid (most_any N A2 c2 L s t w4 (hS4.reads 1 rfl) HLN.out.ends)
                           have HS4 := Lib.hid hS4
                           clear hb4 c0 c1 hS4)
    go_wp2_with (go_at_call 16; (with_reducible refine HM.out.mono ?_); rintro e w5 ⟨y, sum, lb, rfl, hS5, hM⟩
                 have HS6 := Lib.hid (HS4.out.join hS5)
                 have HY : Hid (∀ j, j < L.length → 0 ≤ y j ∧ y j ≤ 255) := Lib.hid (fun j hj => by
                   have h1 := hM.flow.feas j hj
                   have h2 := HLN.out.small _ (List.getElem_mem hj)
                   omega)
                 clear hS5 hM d0 d1)
    go_loopw [47] (fun i wr => ∃ k : Nat, k ≤ raw.length ∧ i = .int .i64 k ∧ SL W W.heap.size [.blk lb (iarr (stirred y raw k) L.length) 2, .blk xb #[.int .i64 N, .slice A2 L.length c2] 26, .row 40 4 (.slice A2 L.length c2) L.length (pipeCells L)] wr) (fun i _ => raw.length - (intOf i).toNat)
    case atStart => exact ⟨0, by omega, rfl, by rw [stirred_zero]; exact HS6.out⟩
    case round =>
      clear HS6
      obtain ⟨k, hk, rfl, hS⟩ := hrel
      by_cases hlt : k < raw.length
      · obtain ⟨b, o, rfl, hb, d0⟩ := ints_at (reads_more (Reads.below HRAW.out.1 hS.below) hS.size) hlt
        have hdw := HRAW.out.2 _ (List.getElem_mem hlt)
        obtain ⟨d, hd⟩ : ∃ d, raw[k] = d := ⟨_, rfl⟩
        rw [hd] at d0 hdw
        have HD : Hid (raw[k] = d) := Lib.hid hd
        clear hd
        simp [Lit.wf, IntKind.min, IntKind.max, IntKind.signed, IntKind.bits] at hdw
        have h2 := tmod_two d
        by_cases hkl : k < L.length
        · have hY := HY.out k hkl
          have hst : Hid (stirred y raw k k = y k) := Lib.hid (by simp [stirred])
          have g0 : wr.cell? ⟨lb, k, none⟩ = some (.int .i64 (y k)) := by rw [← hst.out]; exact hS.cell 0 rfl k (iarr_get _ _ _ hkl)
          have g1 := hS.free 0 rfl k
          have HS7 := Lib.hid (hS.setInt 0 rfl k (y k + d.tmod 2))
          clear hS
          go_wp2_with fail
          go_roundw
          case rel =>
            refine ⟨k + 1, by omega, by go_num, ?_⟩
            have h := HS7.out
            rw [iarr_ext (f := fun j => if j = k then y k + d.tmod 2 else stirred y raw k j) (g := stirred y raw (k + 1)) (fun j hj => by rw [← HD.out]; exact stirred_in hlt j)] at h
            exact h
          case measure => simp [intOf]; omega
        · have HS7 : Hid (SL W W.heap.size [.blk lb (iarr (stirred y raw (k + 1)) L.length) 2, .blk xb #[.int .i64 N, .slice A2 L.length c2] 26, .row 40 4 (.slice A2 L.length c2) L.length (pipeCells L)] wr) := by
            rw [iarr_ext (g := stirred y raw (k + 1)) (fun j hj => stirred_out hkl j hj)] at hS
            exact Lib.hid hS
          clear hS
          go_wp2_with fail
          go_roundw
          case rel => exact ⟨k + 1, by omega, by go_num, HS7.out⟩
          case measure => simp [intOf]; omega
      · obtain rfl : k = raw.length := by omega
        obtain ⟨F, hF⟩ : ∃ F, F = (List.range L.length).map (stirred y raw raw.length) := ⟨_, rfl⟩
        have hFl : F.length = L.length := by rw [hF]; simp
        have hRF : Reads wr wr.heap.size 1 (some ⟨lb, 0, none⟩) L.length (F.map (.int .i64)) := by
          have h := reads_iarr (hS.blk 0 rfl)
          rw [← hF, hFl] at h
          exact h
        obtain ⟨V, B, hRi, hFw⟩ := rights_pack HLN.out F (by unfold maxLen; omega)
        rw [hFl] at hRi hFw
        have HFW := Lib.hid hFw
        have HC4 : Hid (Calls Try.prog 21 #[.agg #[.int .i64 N, .slice A2 L.length c2], .slice (some ⟨lb, 0, none⟩) L.length L.length, .int .i64 s, .int .i64 t] wr (fun e w' => e = .returned (.tuple #[.int .i64 V, .bool B]) ∧ Below wr.heap.size wr w')) := Lib.hid (hRi wr A2 _ c2 _ (hS.reads 2 rfl) hRF)
        have HRF := Lib.hid hRF
        have d0 : wr.cell? ⟨xb, 0, none⟩ = some (.int .i64 N) := hS.cell 1 rfl 0 rfl
        have d1 : wr.cell? ⟨xb, 1, none⟩ = some (.slice A2 L.length c2) := hS.cell 1 rfl 1 rfl
        have HS4 := Lib.hid hS
        clear hS hRF hF hFl hRi hFw
        have hvv : (V == V) = true := by simp
        have hbb : (B == B) = true := by simp
        go_wp2_with (first
          | (go_at_call 21; (with_reducible refine HC4.out.mono ?_); rintro e w5 ⟨rfl, hb5⟩
             have hS5 := HS4.out.call hb5
             have e0 : w5.cell? ⟨xb, 0, none⟩ = some (.int .i64 N) := hS5.cell 1 rfl 0 rfl
             have e1 : w5.cell? ⟨xb, 1, none⟩ = some (.slice A2 L.length c2) := hS5.cell 1 rfl 1 rfl
             have HC5 : Hid (Calls Try.prog 17 #[.agg #[.int .i64 N, .slice A2 L.length c2], .slice (some ⟨lb, 0, none⟩) L.length L.length, .int .i64 s, .int .i64 t] w5 (fun e w' => e = .returned (.tuple #[.int .i64 V, .bool B]) ∧ Below w5.heap.size w5 w')) := Lib.hid (HFW.out w5 A2 _ c2 _ (hS5.reads 2 rfl) (reads_more (Reads.below HRF.out hb5) hb5.size))
             have HS5 := Lib.hid hS5
             clear hb5 d0 d1 hS5)
          | (go_at_call 17; (with_reducible refine HC5.out.mono ?_); rintro e w6 ⟨rfl, hb6⟩
             have HS6 := Lib.hid (HS5.out.call hb6)
             clear hb6 e0 e1))
        go_ret
        exact ⟨rfl, HS6.out.below⟩
set_option maxRecDepth 100000 in
theorem flowRights_walk {H : Type} {enc : TypeId × Value → H} {base : Nat} (W : World) (n : Int) (_hn : (Lit.int .u8 n).wf = true) (v : Value) (d : DataW H) (p : List MemPlace) (o : Value.okWide Try.prog W .any base 22 v) (k : DataW.Trod enc Try.prog W 0 (fun _ => true) true 22 v d p)
    (a : Int) (_ha : (Lit.int .u8 a).wf = true) (b : Int) (_hb : (Lit.int .u8 b).wf = true) (AR : Option Addr) (rc : Nat) (raw : List Int) (hraw : Reads W W.heap.size 1 AR raw.length (raw.map (.int .i64))) (hrl : raw.length ≤ maxLen) (hw : ∀ n ∈ raw, (Lit.int .i64 n).wf = true) (most : Bool) :
    Calls Try.prog 6 #[.int .u8 n, v, .int .u8 a, .int .u8 b, .slice AR raw.length rc, .bool most] W fun e w' => e = .returned (.bool true) ∧ Below W.heap.size W w' := by
  obtain ⟨A, cap, l, rfl, hr, hl, hok⟩ := tubes_open o k
  simp [Lit.wf, IntKind.min, IntKind.max, IntKind.signed, IntKind.bits] at _hn _ha _hb
  exact flowRights0 W n A cap l a b AR rc raw hraw hrl hw most hr hl hok _hn.1 _hn.2 _ha.1 _ha.2 _hb.1 _hb.2
end Go.Proofs.Ytgnmbmlpfjlbiaa
