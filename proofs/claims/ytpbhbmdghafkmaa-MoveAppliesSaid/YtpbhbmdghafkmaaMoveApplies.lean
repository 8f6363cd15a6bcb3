/- The walk of law MoveApplies. (printed by gen/moveapplies.py) -/
import Derived.Test.YtpbhbmdghafkmaaBoth23
import Derived.Test.YtpbhbmdghafkmaaMoveOpen
import Derived.Test.YtpbhbmdghafkmaaSameB
import Derived.Test.YtpbhbmdghafkmaaBikes23
import Derived.Test.YtpbhbmdghafkmaaAwake23
import Derived.Test.YtpbhbmdghafkmaaSmallMove
import Derived.Test.YtpbhbmdghafkmaaPhase
import Derived.Deep.CutBlock
import Derived.Deep.CutRange
import Derived.Deep.DeepCutAuto
namespace Go.Proofs.Ytpbhbmdghafkmaa
open Go.ChangeShapes Go.WideShapes Go.ChangeAt Go.RowKit
set_option linter.unusedVariables false
set_option linter.unusedSimpArgs false
set_option maxRecDepth 100000 in
set_option maxHeartbeats 8000000 in
theorem moveApplies_any (A : Option Addr) (c : Nat) (l : List Int) (sk sa si sb sj sats : Int) (w : World) (h1 : Reads w w.heap.size 1 A l.length (l.map (.int .u8))) (hu : ∀ n ∈ l, 0 ≤ n ∧ n ≤ 255) (hl : l.length ≤ maxLen) (hs : SmV.Ok ⟨sk, sa, si, sb, sj⟩) (hs8 : -128 ≤ sats ∧ sats ≤ 127) :
    Calls Try.prog 3 #[.slice A l.length c, .agg #[.int .u8 sk, .int .i8 sa, .int .i8 si, .int .i8 sb, .int .i8 sj], .int .i8 sats] w fun e w' => e = .returned (.bool true) ∧ Below w.heap.size w w' := by
  unfold maxLen at hl
  obtain ⟨hq1, hq2⟩ := hs8
  have hS := (SL.start (W := w) (Nat.le_refl w.heap.size)).alloc #[.int .u8 sk, .int .i8 sa, .int .i8 si, .int .i8 sb, .int .i8 sj] 25
  obtain ⟨nb, hnb⟩ : ∃ nb, w.heap.size = nb := ⟨_, rfl⟩
  obtain ⟨w0, hw0⟩ : ∃ w0, w.alloc (.cells #[.int .u8 sk, .int .i8 sa, .int .i8 si, .int .i8 sb, .int .i8 sj] 25) = w0 := ⟨_, rfl⟩
  rw [hw0] at hS
  have HS0 : Hid (SL w w.heap.size [.blk nb #[.int .u8 sk, .int .i8 sa, .int .i8 si, .int .i8 sb, .int .i8 sj] 25] w0) := Lib.hid (by rw [← hnb]; exact hS)
  have HAW := Lib.hid (awake23 w0)
  have HNB := Lib.hid hnb
  have HW0 := Lib.hid hw0
  have H1 := Lib.hid h1
  have HU := Lib.hid hu
  obtain ⟨N, hN⟩ : ∃ N, l.length = N := ⟨_, rfl⟩
  have HN := Lib.hid hN
  obtain ⟨mv, hmv⟩ : ∃ mv, SmV.move ⟨sk, sa, si, sb, sj⟩ = mv := ⟨_, rfl⟩
  have HMC : Hid (∀ wx, Calls Try.prog 15 #[.agg #[.int .u8 sk, .int .i8 sa, .int .i8 si, .int .i8 sb, .int .i8 sj]] wx (SmPost wx mv)) := Lib.hid (fun wx => by rw [← hmv]; exact smove_any sk sa si sb sj wx hs)
  obtain ⟨mk, ma, mi, mb, mj⟩ := mv
  rw [hN] at hl ⊢
  clear hS hnb hw0 h1 hu hs hN hmv
  go_enter Try.func3, Try.ntmps3
  go_upto_region 1 with fail
  rw [HW0.out, HNB.out]
  go_upto_region 3 with (go_at_call 12; (with_reducible refine HAW.out.mono ?_); rintro e w1 ⟨rfl, hb1⟩)
  have HS1 : Hid (SL w w.heap.size [.blk nb #[.int .u8 sk, .int .i8 sa, .int .i8 si, .int .i8 sb, .int .i8 sj] 25] w1) := Lib.hid (HS0.out.call hb1)
  clear hb1 HS0 HAW HW0
  by_cases h40 : N ≤ 40
  case neg =>
    have h40' : decide (40 < (N : Int)) = true := by rw [decide_eq_true_eq]; omega
    go_wp2_with fail
    go_ret
    exact ⟨rfl, HS1.out.below⟩
  have h40' : ¬ (40 : Int) < (N : Int) := by omega
  obtain ⟨bs, hbs⟩ : ∃ bs, bikesOf l = bs := ⟨_, rfl⟩
  obtain ⟨n, hn⟩ : ∃ n, bs.length = n := ⟨_, rfl⟩
  have HLN : Hid (bs.length = n ∧ n ≤ 41 ∧ (allStops bs).length ≤ 40) := Lib.hid (by
    have h1 := bikesTo_len l l.length
    have h2 := bikesTo_all l l.length
    have h3 := HN.out
    rw [← hn, ← hbs]
    unfold bikesOf
    omega)
  have HBF : Hid (∀ wx, Below w.heap.size w wx → Calls Try.prog 14 #[.slice A N c] wx fun e w' => ∃ A1 c1, e = .returned (.slice A1 n c1) ∧ Bikes w' w'.heap.size A1 bs ∧ Below wx.heap.size wx w') := Lib.hid (fun wx hb => by
    have h := bikes23_any A c l wx (reads_more (Reads.below H1.out hb) hb.size) HU.out (by rw [HN.out]; omega)
    rw [HN.out] at h
    refine h.mono fun e w' h => ?_
    obtain ⟨v, ps, rfl, hps, hS⟩ := h
    obtain ⟨A1, c1, rfl, _⟩ := own_open (P := []) hS
    rw [hbs] at hps
    have hpn : ps.length = n := by rw [← HLN.out.1, ← hps, List.length_map]
    rw [hpn] at hS ⊢
    refine ⟨A1, c1, rfl, ?_, hS.below⟩
    rw [← hps]
    exact own_bikes (P := []) hpn hS)
  obtain ⟨o, ho⟩ : ∃ o, applyM sats bs ⟨mk, ma, mi, mb, mj⟩ = o := ⟨_, rfl⟩
  have HO := Lib.hid ho
  have HAP : Hid (∀ wx A1 c1, Bikes wx wx.heap.size A1 bs → Calls Try.prog 13 #[.int .i64 sats, .slice A1 n c1, .agg #[.int .i64 mk, .int .i64 ma, .int .i64 mi, .int .i64 mb, .int .i64 mj]] wx (ABPost wx o)) := Lib.hid (fun wx A1 c1 hb => by
    have h := ab_any sats A1 c1 bs mk ma mi mb mj wx hb (by have := HLN.out; omega) (by have := HLN.out; omega)
    rw [ho, HLN.out.1] at h
    exact h)
  have HLP : Hid (∀ wx A1 c1, Bikes wx wx.heap.size A1 bs → Calls Try.prog 16 #[.int .i64 sats, .slice A1 n c1, .agg #[.int .i64 mk, .int .i64 ma, .int .i64 mi, .int .i64 mb, .int .i64 mj]] wx (ABPost wx o)) := Lib.hid (fun wx A1 c1 hb => by
    have h := lab_any sats A1 c1 bs mk ma mi mb mj wx hb (by have := HLN.out; omega) (by have := HLN.out; omega)
    rw [ho, HLN.out.1] at h
    exact h)
  have HLL : Hid (∀ l ok, AB o l ok → l.length ≤ 1000 ∧ ∀ b ∈ l, b.stops.length ≤ 1000000) := Lib.hid (fun l ok h => by
    rw [← ho] at h
    have h1 := ab_len h
    have h2 := HLN.out
    exact ⟨by omega, fun b hb => by have := stops_le_all hb; omega⟩)
  have hlt := (HS1.out.lt 0 rfl).2
  clear hbs hn ho
  go_upto_region 5 with fail
  go_cut [7, 8] (fun v7 v8 wx => ∃ A c l ok, v7 = .slice A (List.length l) c ∧ v8 = .bool ok ∧ AB o l ok ∧ Bikes wx wx.heap.size A l ∧ Below w1.heap.size w1 wx)
  case first =>
    have hb7 : Below w1.heap.size w1 w1 := Below.refl _ _
    refine wp_region_ph [0, 1, 2, 3, 4, 5, 6, 7, 8, 9, 10] [11] [] (SL.start (W := w1) (Nat.le_refl _)) (List.Sublist.refl _) (by kernel_rfl) (by kernel_rfl) (.cons rfl .nil) (fun C cw _ hC w8 hS8 => ?_)
    have hbc : ∀ c, Below w1.heap.size w1 (cw c) := fun c => hb7.trans ((hC c).below.mono hb7.size)
    have qm0 : ∀ c, (cw c).cell? ⟨nb, 0, none⟩ = some (.int .u8 sk) := fun c => ((hbc c).cell (p := ⟨nb, 0, none⟩) hlt).trans (HS1.out.cell 0 rfl 0 rfl)
    have qm1 : ∀ c, (cw c).cell? ⟨nb, 1, none⟩ = some (.int .i8 sa) := fun c => ((hbc c).cell (p := ⟨nb, 1, none⟩) hlt).trans (HS1.out.cell 0 rfl 1 rfl)
    have qm2 : ∀ c, (cw c).cell? ⟨nb, 2, none⟩ = some (.int .i8 si) := fun c => ((hbc c).cell (p := ⟨nb, 2, none⟩) hlt).trans (HS1.out.cell 0 rfl 2 rfl)
    have qm3 : ∀ c, (cw c).cell? ⟨nb, 3, none⟩ = some (.int .i8 sb) := fun c => ((hbc c).cell (p := ⟨nb, 3, none⟩) hlt).trans (HS1.out.cell 0 rfl 3 rfl)
    have qm4 : ∀ c, (cw c).cell? ⟨nb, 4, none⟩ = some (.int .i8 sj) := fun c => ((hbc c).cell (p := ⟨nb, 4, none⟩) hlt).trans (HS1.out.cell 0 rfl 4 rfl)
    refine ph_look 0 rfl (by kernel_rfl) rfl (by kernel_rfl) rfl rfl (fun Kv hK => ?_); go_big_quiet_op; refine hK _ ?_; clear hK Kv
    refine ph_look 1 rfl (by kernel_rfl) rfl (by kernel_rfl) rfl rfl (fun Kv hK => ?_); go_big_quiet_op; refine hK _ ?_; clear hK Kv
    refine ph_look 2 rfl (by kernel_rfl) rfl (by kernel_rfl) rfl rfl (fun Kv hK => ?_); go_big_quiet_op; refine hK _ ?_; clear hK Kv
    refine ph_look 4 rfl (by kernel_rfl) rfl (by kernel_rfl) rfl rfl (fun Kv hK => ?_); go_big_quiet_op; refine hK _ ?_; clear hK Kv
    refine ph_eff 3 rfl (by kernel_rfl) rfl rfl (fun Kv hK => ?_)
    go_simp
    refine eff_call (HBF.out _ (HS1.out.below.trans ((hb7.trans (hS8.below.mono hb7.size)).mono HS1.out.below.size))) (fun e w9 h => ?_)
    obtain ⟨A1, c1, rfl, hB9, hb9⟩ := h
    have hk9 := hS8.call hb9
    refine .inl ⟨_, rfl, hk9, hK _ _ ?_⟩
    clear hK Kv
    refine ph_eff 5 rfl (by kernel_rfl) rfl rfl (fun Kv hK => ?_)
    go_simp
    refine eff_call (HMC.out _) (fun e w10 h => ?_)
    obtain ⟨rfl, hb10⟩ := h
    have hk10 := hk9.call hb10
    refine .inl ⟨_, rfl, hk10, hK _ _ ?_⟩
    clear hK Kv
    unfold MoveV.cells
    refine ph_eff 6 rfl (by kernel_rfl) rfl rfl (fun Kv hK => ?_)
    go_simp
    refine eff_call (HAP.out _ _ _ (bikes_more (hB9.below hb10) hb10.size)) (fun e w11 h => ?_)
    obtain ⟨A8, c8, l8, ok8, rfl, hm8, hB8, hb11⟩ := h
    have hk11 := hk10.call hb11
    refine .inl ⟨_, rfl, hk11, hK _ _ ?_⟩
    clear hK Kv
    refine ph_look 7 rfl (by kernel_rfl) rfl (by kernel_rfl) rfl rfl (fun Kv hK => ?_); go_big_quiet_op; refine hK _ ?_; clear hK Kv
    refine ph_look 8 rfl (by kernel_rfl) rfl (by kernel_rfl) rfl rfl (fun Kv hK => ?_); go_big_quiet_op; refine hK _ ?_; clear hK Kv
    refine ph_look 9 rfl (by kernel_rfl) rfl (by kernel_rfl) rfl rfl (fun Kv hK => ?_); go_big_quiet_op; refine hK _ ?_; clear hK Kv
    refine ph_look 10 rfl (by kernel_rfl) rfl (by kernel_rfl) rfl rfl (fun Kv hK => ?_); go_big_quiet_op; refine hK _ ?_; clear hK Kv
    refine ph_end (by kernel_rfl) ?_
    have HB9 := Lib.hid hk11.below
    have HM8 := Lib.hid (And.intro hm8 hB8)
    clear hk11 hk10 hk9 hb9 hb10 hb11 hC hbc hS8 hm8 hB8 hB9 hb7
    go_wp2_with fail
    go_meet
    exact ⟨_, _, _, _, rfl, rfl, HM8.out.1, HM8.out.2, HB9.out⟩
  case rest =>
    obtain ⟨A8, c8, l8, ok8, rfl, rfl, hm8, hB8, hb8⟩ := hcut
    have HM8 := Lib.hid (And.intro hm8 (And.intro hB8 hb8))
    clear hm8 hB8 hb8
    obtain ⟨w5, rfl⟩ : ∃ w, w = wc := ⟨_, rfl⟩
    go_upto_region 6 with fail
    go_cut [9, 10] (fun v7 v8 wx => ∃ A c l ok, v7 = .slice A (List.length l) c ∧ v8 = .bool ok ∧ AB o l ok ∧ Bikes wx wx.heap.size A l ∧ Below w5.heap.size w5 wx)
    case first =>
      have hb7 : Below w1.heap.size w1 w5 := HM8.out.2.2
      refine wp_region_ph [0, 1, 2, 3, 4, 5, 6, 7, 8, 9, 10] [11] [] (SL.start (W := w5) (Nat.le_refl _)) (List.Sublist.refl _) (by kernel_rfl) (by kernel_rfl) (.cons rfl .nil) (fun C cw _ hC w8 hS8 => ?_)
      have hbc : ∀ c, Below w1.heap.size w1 (cw c) := fun c => hb7.trans ((hC c).below.mono hb7.size)
      have qm0 : ∀ c, (cw c).cell? ⟨nb, 0, none⟩ = some (.int .u8 sk) := fun c => ((hbc c).cell (p := ⟨nb, 0, none⟩) hlt).trans (HS1.out.cell 0 rfl 0 rfl)
      have qm1 : ∀ c, (cw c).cell? ⟨nb, 1, none⟩ = some (.int .i8 sa) := fun c => ((hbc c).cell (p := ⟨nb, 1, none⟩) hlt).trans (HS1.out.cell 0 rfl 1 rfl)
      have qm2 : ∀ c, (cw c).cell? ⟨nb, 2, none⟩ = some (.int .i8 si) := fun c => ((hbc c).cell (p := ⟨nb, 2, none⟩) hlt).trans (HS1.out.cell 0 rfl 2 rfl)
      have qm3 : ∀ c, (cw c).cell? ⟨nb, 3, none⟩ = some (.int .i8 sb) := fun c => ((hbc c).cell (p := ⟨nb, 3, none⟩) hlt).trans (HS1.out.cell 0 rfl 3 rfl)
      have qm4 : ∀ c, (cw c).cell? ⟨nb, 4, none⟩ = some (.int .i8 sj) := fun c => ((hbc c).cell (p := ⟨nb, 4, none⟩) hlt).trans (HS1.out.cell 0 rfl 4 rfl)
      refine ph_look 0 rfl (by kernel_rfl) rfl (by kernel_rfl) rfl rfl (fun Kv hK => ?_); go_big_quiet_op; refine hK _ ?_; clear hK Kv
      refine ph_look 1 rfl (by kernel_rfl) rfl (by kernel_rfl) rfl rfl (fun Kv hK => ?_); go_big_quiet_op; refine hK _ ?_; clear hK Kv
      refine ph_look 2 rfl (by kernel_rfl) rfl (by kernel_rfl) rfl rfl (fun Kv hK => ?_); go_big_quiet_op; refine hK _ ?_; clear hK Kv
      refine ph_look 4 rfl (by kernel_rfl) rfl (by kernel_rfl) rfl rfl (fun Kv hK => ?_); go_big_quiet_op; refine hK _ ?_; clear hK Kv
      refine ph_eff 3 rfl (by kernel_rfl) rfl rfl (fun Kv hK => ?_)
      go_simp
      refine eff_call (HBF.out _ (HS1.out.below.trans ((hb7.trans (hS8.below.mono hb7.size)).mono HS1.out.below.size))) (fun e w9 h => ?_)
      obtain ⟨A1, c1, rfl, hB9, hb9⟩ := h
      have hk9 := hS8.call hb9
      refine .inl ⟨_, rfl, hk9, hK _ _ ?_⟩
      clear hK Kv
      refine ph_eff 5 rfl (by kernel_rfl) rfl rfl (fun Kv hK => ?_)
      go_simp
      refine eff_call (HMC.out _) (fun e w10 h => ?_)
      obtain ⟨rfl, hb10⟩ := h
      have hk10 := hk9.call hb10
      refine .inl ⟨_, rfl, hk10, hK _ _ ?_⟩
      clear hK Kv
      unfold MoveV.cells
      refine ph_eff 6 rfl (by kernel_rfl) rfl rfl (fun Kv hK => ?_)
      go_simp
      refine eff_call (HLP.out _ _ _ (bikes_more (hB9.below hb10) hb10.size)) (fun e w11 h => ?_)
      obtain ⟨A8, c8, l8, ok8, rfl, hm8, hB8, hb11⟩ := h
      have hk11 := hk10.call hb11
      refine .inl ⟨_, rfl, hk11, hK _ _ ?_⟩
      clear hK Kv
      refine ph_look 7 rfl (by kernel_rfl) rfl (by kernel_rfl) rfl rfl (fun Kv hK => ?_); go_big_quiet_op; refine hK _ ?_; clear hK Kv
      refine ph_look 8 rfl (by kernel_rfl) rfl (by kernel_rfl) rfl rfl (fun Kv hK => ?_); go_big_quiet_op; refine hK _ ?_; clear hK Kv
      refine ph_look 9 rfl (by kernel_rfl) rfl (by kernel_rfl) rfl rfl (fun Kv hK => ?_); go_big_quiet_op; refine hK _ ?_; clear hK Kv
      refine ph_look 10 rfl (by kernel_rfl) rfl (by kernel_rfl) rfl rfl (fun Kv hK => ?_); go_big_quiet_op; refine hK _ ?_; clear hK Kv
      refine ph_end (by kernel_rfl) ?_
      have HB9 := Lib.hid hk11.below
      have HM8 := Lib.hid (And.intro hm8 hB8)
      clear hk11 hk10 hk9 hb9 hb10 hb11 hC hbc hS8 hm8 hB8 hB9 hb7
      go_wp2_with fail
      go_meet
      exact ⟨_, _, _, _, rfl, rfl, HM8.out.1, HM8.out.2, HB9.out⟩
    case rest =>
      obtain ⟨A9, c9, l9, ok9, rfl, rfl, hm9, hB9, hb9⟩ := hcut
      obtain ⟨rfl, rfl⟩ := HM8.out.1.same hm9
      have HSA : Hid (Calls Try.prog 17 #[.slice A8 l9.length c8, .slice A9 l9.length c9] wc (SameP wc l9 l9)) := Lib.hid (by
        have hx := HLL.out l9 ok9 hm9
        have hb : Below w5.heap.size w5 wc := hb9
        exact same23_any A8 A9 c8 c9 l9 l9 wc (bikes_more (HM8.out.2.1.below hb) hb.size) hB9 (by omega) (by omega) hx.2 hx.2)
      have HB9 := Lib.hid (HS1.out.below.trans ((HM8.out.2.2.trans (hb9.mono HM8.out.2.2.size)).mono HS1.out.below.size))
      clear hm9 hB9 hb9
      cases ok9 <;>
      · go_wp2_with (go_at_call 17; (with_reducible refine HSA.out.mono ?_); rintro e w12 ⟨rb, rfl, hrb, hb12⟩
                     obtain rfl : rb = true := hrb.2 rfl
                     have HBE := Lib.hid (HB9.out.trans (hb12.mono HB9.out.size))
                     clear hrb hb12)
        go_ret
        exact ⟨rfl, HBE.out⟩
set_option maxRecDepth 100000 in
theorem moveApplies_walk {H : Type} {enc : TypeId × Value → H} {base : Nat} (W : World) (A : Option Addr) (c : Nat) (l : List Int) (hr : Reads W W.heap.size 1 A l.length (l.map (.int .u8))) (hl : l.length ≤ maxLen) (hw : ∀ n ∈ l, (Lit.int .u8 n).wf = true)
    (v : Value) (d : DataW H) (p : List MemPlace) (o : Value.okWide Try.prog W .any base 25 v) (k : DataW.Trod enc Try.prog W 0 (fun _ => true) true 25 v d p) (sats : Int) (ws : (Lit.int .i8 sats).wf = true) :
    Calls Try.prog 3 #[.slice A l.length c, v, .int .i8 sats] W fun e w' => e = .returned (.bool true) ∧ Below W.heap.size W w' := by
  obtain ⟨s, rfl, hs⟩ := smm_open o k
  exact moveApplies_any A c l s.kind s.a s.i s.b s.j sats W hr (fun n hn => by have h := hw n hn; simp [Lit.wf, IntKind.min, IntKind.max, IntKind.signed, IntKind.bits] at h; omega) hl hs (by simp [Lit.wf, IntKind.min, IntKind.max, IntKind.signed, IntKind.bits] at ws; omega)
end Go.Proofs.Ytpbhbmdghafkmaa
