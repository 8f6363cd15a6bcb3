/- The walk of law10.right: does a result hold, by definition? -/
import Derived.Test.YtgnmbmlpfjlbiaaLawNet10
namespace Go.Proofs.Ytgnmbmlpfjlbiaa
open Go.ChangeShapes Go.WideShapes Go.ChangeAt Go.RowKit
set_option linter.unusedVariables false
def getI (l : List Int) (k : Nat) : Int := l.getD k 0
theorem getI_at {l : List Int} {k : Nat} (h : k < l.length) : l[k] = getI l k := by unfold getI; simp [h]
/-- A result holds. -/
def RightAll (N : Nat) (ps : List PipeV) (s t : Int) (want : Int) (X H : Nat → Int) (nf nh : Nat) (cst : Int) : Prop :=
  nf = ps.length ∧ Good N ps s t X ∧ inn ps X t = want ∧ nh = N ∧ (∀ v, v < N → -1125899906842624 ≤ H v ∧ H v ≤ 1125899906842624) ∧ Tight ps X H ∧ costF ps X = cst
/-- One pipe stands. -/
def PipeOk (ps : List PipeV) (X H : Nat → Int) (k : Nat) : Prop := ∀ hk : k < ps.length, (X k < ps[k].room → 0 ≤ ps[k].cost + H ps[k].fr.toNat - H ps[k].to.toNat) ∧ (0 < X k → ps[k].cost + H ps[k].fr.toNat - H ps[k].to.toNat ≤ 0)
def RPost (W : World) (R : Prop) (e : Ending) (w' : World) : Prop := (∃ b : Bool, e = .returned (.bool b) ∧ (b = true ↔ R)) ∧ Below W.heap.size W w'
theorem rpost_no {W w' : World} {R : Prop} (h : ¬ R) (hb : Below W.heap.size W w') : RPost W R (.returned (.bool false)) w' := ⟨⟨false, rfl, by simp [h]⟩, hb⟩
set_option maxRecDepth 100000 in
set_option maxHeartbeats 8000000 in
theorem right10_any (N : Nat) (A FA HA : Option Addr) (cap fc hc : Nat) (ps : List PipeV) (fl hl : List Int) (s t want cst : Int) (w : World) (hr : Pipes w w.heap.size A ps) (hf : Reads w w.heap.size 1 FA fl.length (fl.map (.int .i64))) (hh : Reads w w.heap.size 1 HA hl.length (hl.map (.int .i64))) (hfl : fl.length ≤ 20000) (hhl : hl.length ≤ 20000) (hN : N ≤ 1000) (hlen : ps.length ≤ 20000) (hin : InP N ps) (hC : Costs ps) (ht0 : 0 ≤ t) (ht1 : t < N) (hbig : Feas ps (getI fl) → ∀ k, k < ps.length → getI fl k ≤ 10000) :
    Calls Try.prog 28 #[.agg #[.int .i64 N, .slice A ps.length cap], .int .i64 s, .int .i64 t, .int .i64 want, .agg #[.slice FA fl.length fc, .int .i64 cst, .slice HA hl.length hc]] w (RPost w (RightAll N ps s t want (getI fl) (getI hl) fl.length hl.length cst)) := by
  have hS0 := ((SL.start (Nat.le_refl w.heap.size)).alloc #[.int .i64 N, .slice A ps.length cap] 26).alloc #[.slice FA fl.length fc, .int .i64 cst, .slice HA hl.length hc] 49
  have e1 : (w.alloc (.cells #[.int .i64 N, .slice A ps.length cap] 26)).heap.size = w.heap.size + 1 := Array.size_push _
  rw [e1] at hS0
  have HR : Hid (∀ w', Below w.heap.size w w' → Pipes w' w'.heap.size A ps ∧ Reads w' w'.heap.size 1 FA fl.length (fl.map (.int .i64)) ∧ Reads w' w'.heap.size 1 HA hl.length (hl.map (.int .i64))) := Lib.hid (fun w' h => ⟨reads_more (Reads.below hr h) h.size, reads_more (Reads.below hf h) h.size, reads_more (Reads.below hh h) h.size⟩)
  have HW := Lib.hid (And.intro hr (And.intro hf hh))
  have HIN := Lib.hid (And.intro hin (And.intro hC (And.intro ht0 (And.intro ht1 hbig))))
  obtain ⟨X, hX⟩ : ∃ X, X = getI fl := ⟨_, rfl⟩
  obtain ⟨H, hH⟩ : ∃ H, H = getI hl := ⟨_, rfl⟩
  rw [← hX, ← hH]
  have HXH := Lib.hid (And.intro hX hH)
  obtain ⟨R, hRR⟩ : ∃ R : Prop, R = RightAll N ps s t want X H fl.length hl.length cst := ⟨_, rfl⟩
  rw [← hRR]
  have HRR := Lib.hid hRR
  clear hr hf hh hin hC ht0 ht1 hbig e1 hX hH hRR
  go_enter Try.func28, Try.ntmps28
  go_upto_region 1 with fail
  generalize ((w.alloc (.cells #[.int .i64 N, .slice A ps.length cap] 26)).alloc (.cells #[.slice FA fl.length fc, .int .i64 cst, .slice HA hl.length hc] 49)) = w0 at *
  obtain ⟨zb, hzb⟩ : ∃ zb, zb = w.heap.size + 1 := ⟨_, rfl⟩
  obtain ⟨nb, hnb⟩ : ∃ nb, nb = w.heap.size := ⟨_, rfl⟩
  have HS0 : Hid (SL w w.heap.size [.blk zb #[.slice FA fl.length fc, .int .i64 cst, .slice HA hl.length hc] 49, .blk nb #[.int .i64 N, .slice A ps.length cap] 26] w0) := Lib.hid (by rw [hzb, hnb]; exact hS0)
  rw [← hzb, ← hnb]
  clear hS0 hzb hnb
  have c0 : w0.cell? ⟨nb, 0, none⟩ = some (.int .i64 N) := HS0.out.cell 1 rfl 0 rfl
  have c1 : w0.cell? ⟨nb, 1, none⟩ = some (.slice A ps.length cap) := HS0.out.cell 1 rfl 1 rfl
  have c2 : w0.cell? ⟨zb, 0, none⟩ = some (.slice FA fl.length fc) := HS0.out.cell 0 rfl 0 rfl
  by_cases hlen2 : fl.length = ps.length
  case neg =>
    have HF := Lib.hid (flows_len N A FA cap fl.length ps.length fc s t w0 (by unfold maxLen; omega) (by unfold maxLen; omega) hlen2)
    have HNO : Hid (¬ R) := Lib.hid (by rw [HRR.out]; exact fun h => hlen2 h.1)
    clear hlen2
    go_wp2_with (go_at_call 17; (with_reducible refine HF.out.mono ?_); rintro e w1 ⟨rfl, hb⟩; have HS1 := Lib.hid (HS0.out.call hb); clear hb c0 c1 c2)
    go_ret
    exact rpost_no HNO.out HS1.out.below
  case pos =>
  have HFL : Hid (Calls Try.prog 17 #[.agg #[.int .i64 N, .slice A ps.length cap], .slice FA fl.length fc, .int .i64 s, .int .i64 t] w0 (FlowsPost w0 N ps s t X)) := Lib.hid (by
    have h := flows_any N A FA cap fc ps fl s t w0 (HR.out _ HS0.out.below).1 (HR.out _ HS0.out.below).2.1 hlen2 hN hlen HIN.out.1 HIN.out.2.2.1 HIN.out.2.2.2.1 X (fun k hk => by rw [HXH.out.1]; exact getI_at hk)
    rw [hlen2]
    exact h)
  have HL2 := Lib.hid hlen2
  clear hlen2
  by_cases hg : Good N ps s t X
  case neg =>
    have HNO : Hid (¬ R) := Lib.hid (by rw [HRR.out]; exact fun h => hg h.2.1)
    have HG := Lib.hid hg
    clear hg
    go_wp2_with (go_at_call 17; (with_reducible refine HFL.out.mono ?_); rintro e w1 ⟨hor, hb⟩
                 obtain rfl : e = .returned (.tuple #[.int .i64 0, .bool false]) := by
                   rcases hor with ⟨hn, _⟩ | ⟨_, he⟩
                   · exact absurd hn HG.out
                   · exact he
                 have HS1 := Lib.hid (HS0.out.call hb)
                 clear hor hb c0 c1 c2)
    go_ret
    exact rpost_no HNO.out HS1.out.below
  case pos =>
  obtain ⟨M, hM⟩ : ∃ M, inn ps X t = M := ⟨_, rfl⟩
  have HG := Lib.hid (And.intro hg hM)
  clear hg hM
  go_upto_region 2 with (go_at_call 17; (with_reducible refine HFL.out.mono ?_); rintro e w1 ⟨hor, hb⟩
                         obtain rfl : e = .returned (.tuple #[.int .i64 M, .bool true]) := by
                           rcases hor with ⟨_, he⟩ | ⟨hn, _⟩
                           · rw [he, HG.out.2]
                           · exact absurd HG.out.1 hn
                         have HS1 := Lib.hid (HS0.out.call hb)
                         clear hor hb c0 c1 c2)
  by_cases hm : M = want
  case neg =>
    have hmb : (M != want) = true := by simpa using hm
    have HNO : Hid (¬ R) := Lib.hid (by rw [HRR.out]; exact fun h => hm (by rw [← HG.out.2]; exact h.2.2.1))
    clear hm
    go_wp2_with fail
    go_ret
    exact rpost_no HNO.out HS1.out.below
  case pos =>
  have hmb : (M != want) = false := by simpa using hm
  have c3 : w1.cell? ⟨zb, 2, none⟩ = some (.slice HA hl.length hc) := HS1.out.cell 0 rfl 2 rfl
  have c4 : w1.cell? ⟨nb, 0, none⟩ = some (.int .i64 N) := HS1.out.cell 1 rfl 0 rfl
  have c5 : w1.cell? ⟨nb, 1, none⟩ = some (.slice A ps.length cap) := HS1.out.cell 1 rfl 1 rfl
  have HM := Lib.hid hm
  clear hm
  by_cases hh2 : hl.length = N
  case neg =>
    have hhb : ((hl.length : Int) != (N : Int)) = true := by simp; omega
    have HNO : Hid (¬ R) := Lib.hid (by rw [HRR.out]; exact fun h => hh2 h.2.2.2.1)
    clear hh2
    go_wp2_with fail
    go_ret
    exact rpost_no HNO.out HS1.out.below
  case pos =>
  have hhb : ((hl.length : Int) != (N : Int)) = false := by simp; omega
  have HL := Lib.hid (And.intro HL2.out hh2)
  clear hh2
  go_wp2_with fail
  clear c3 c4 c5 hmb hhb
  go_loopw [47, 13] (fun u47 u13 wr => ∃ k : Nat, k ≤ ps.length ∧ u47 = .int .i64 k ∧ u13 = .int .i64 (costK ps X k) ∧ Hid (∀ j, j < k → PipeOk ps X H j) ∧ SL w w.heap.size [.blk zb #[.slice FA fl.length fc, .int .i64 cst, .slice HA hl.length hc] 49, .blk nb #[.int .i64 N, .slice A ps.length cap] 26] wr) (fun u47 _ _ => ps.length - (intOf u47).toNat)
  case atStart => exact ⟨0, by omega, rfl, rfl, Lib.hid fun j hj => absurd hj (by omega), HS1.out⟩
  case round =>
    clear HS1 HS0
    obtain ⟨k, hk, rfl, rfl, HOK, hS⟩ := hrel
    by_cases hlt : k < ps.length
    · obtain ⟨bA, oA, rfl, hbA, d0, d1, d2, d3⟩ := pipes_at HW.out.1 hlt
      obtain ⟨bF, oF, rfl, hbF, f0⟩ := ints_at HW.out.2.1 (k := k) (by have := HL.out.1; omega)
      rw [getI_at (by have := HL.out.1; omega), ← HXH.out.1] at f0
      obtain ⟨⟨p0, p1⟩, ⟨p2, p3⟩, p4, p5⟩ := HIN.out.1 _ (List.getElem_mem hlt)
      have hcc := HIN.out.2.1 _ (List.getElem_mem hlt)
      have hfe := HG.out.1.feas k hlt
      have hxs := HIN.out.2.2.2.2 (by rw [← HXH.out.1]; exact HG.out.1.feas) k hlt
      rw [← HXH.out.1] at hxs
      have hck := costK_le (C := 10000) HIN.out.2.1 (by decide) (fun j hj => ⟨(HG.out.1.feas j hj).1, by have h9 := HIN.out.2.2.2.2 (by rw [← HXH.out.1]; exact HG.out.1.feas) j hj; rw [← HXH.out.1] at h9; exact h9⟩) k hk
      have hcb : costK ps X k ≤ 10000 * 4294967296 * 20000 := by
        have h2 : (10000 : Int) * DearI * (k : Int) ≤ 10000 * DearI * 20000 := Int.mul_le_mul_of_nonneg_left (by omega) (by decide)
        have := hck.2
        unfold DearI at *
        omega
      have hmu : 0 ≤ X k * ps[k].cost ∧ X k * ps[k].cost ≤ 10000 * DearI := ⟨Int.mul_nonneg hfe.1 hcc.1, Int.mul_le_mul hxs hcc.2 hcc.1 (by omega)⟩
      have HCK := Lib.hid (costK_succ (x := X) hlt)
      obtain ⟨u, hu⟩ : ∃ u : Nat, ps[k].fr = (u : Int) := ⟨ps[k].fr.toNat, by omega⟩
      obtain ⟨v, hv⟩ : ∃ v : Nat, ps[k].to = (v : Int) := ⟨ps[k].to.toNat, by omega⟩
      have huN : u < N := by omega
      have hvN : v < N := by omega
      obtain ⟨bH, oH, rfl, hbH, g0⟩ := ints_at HW.out.2.2 (k := u) (by have := HL.out.2; omega)
      obtain ⟨bH', oH', eH, _, g1⟩ := ints_at HW.out.2.2 (k := v) (by have := HL.out.2; omega)
      obtain ⟨rfl, rfl⟩ : bH = bH' ∧ oH = oH' := by simpa using eH
      rw [getI_at (by have := HL.out.2; omega), ← HXH.out.2] at g0 g1
      obtain ⟨rm, hrm⟩ : ∃ r, ps[k].room = r := ⟨_, rfl⟩
      obtain ⟨ct, hct⟩ : ∃ r, ps[k].cost = r := ⟨_, rfl⟩
      have HOKK : Hid (PipeOk ps X H k ↔ ((X k < rm → 0 ≤ ct + H u - H v) ∧ (0 < X k → ct + H u - H v ≤ 0))) := Lib.hid (by
        unfold PipeOk
        rw [← hrm, ← hct]
        constructor
        · intro h; have h := h hlt; rw [hu, hv] at h; simpa using h
        · intro h _; rw [hu, hv]; simpa using h)
      rw [hct] at d3 hmu HCK hcc
      rw [hu] at d0
      rw [hv] at d1
      rw [hrm] at d2
      obtain ⟨q, hq⟩ : ∃ q, costK ps X k = q := ⟨_, rfl⟩
      rw [hq] at hck hcb HCK ⊢
      obtain ⟨xk, hxk⟩ : ∃ x, X k = x := ⟨_, rfl⟩
      obtain ⟨ha, hha⟩ : ∃ x, H u = x := ⟨_, rfl⟩
      obtain ⟨hb, hhb⟩ : ∃ x, H v = x := ⟨_, rfl⟩
      rw [hxk] at hmu HCK f0 HOKK hfe hxs
      rw [hha] at g0
      rw [hhb] at g1
      rw [hha, hhb] at HOKK
      have HHV := Lib.hid (And.intro hha hhb)
      have hul : (u : Int) < (hl.length : Int) := by have := HL.out.2; omega
      have hvl : (v : Int) < (hl.length : Int) := by have := HL.out.2; omega
      have hkl : (k : Int) < (fl.length : Int) := by have := HL.out.1; omega
      unfold DearI at hmu hcc
      have HNUM := Lib.hid (And.intro hcc (And.intro hck.1 (And.intro hcb (And.intro hmu (And.intro hfe.1 hxs)))))
      have e0 := (hS.below.cell hbA).trans d0
      have e1 := (hS.below.cell hbA).trans d1
      have e2 := (hS.below.cell hbA).trans d2
      have e3 := (hS.below.cell hbA).trans d3
      have hS2 := hS.alloc #[.int .i64 (u : Int), .int .i64 (v : Int), .int .i64 rm, .int .i64 ct] 40
      have hz9 : bA < wr.heap.size := World.block_lt_of_cell? wr _ e0
      clear hS hcc hfe hxs hck hcb hmu hu hv hrm hct hq hxk hha hhb p0 p1 p2 p3 p4 p5 eH d0 d1 d2 d3
      go_upto_region 8 with fail
      obtain ⟨pb, hpb⟩ : ∃ pb, pb = wr.heap.size := ⟨_, rfl⟩
      generalize (wr.alloc (.cells #[.int .i64 (u : Int), .int .i64 (v : Int), .int .i64 rm, .int .i64 ct] 40)) = w9 at *
      rw [← hpb] at hS2 ⊢
      clear hpb e0 e1 e2 e3 hz9
      refine wp_region_sl [0,1,2,3,4,5,6,7,8,9,10,11] [12,13] [] _ hS2 (List.Sublist.refl _) (by kernel_rfl) (by kernel_rfl) .nil (fun C cw _ hC => ?_)
      have q0 : ∀ c, (cw c).cell? ⟨pb, 0, none⟩ = some (.int .i64 (u : Int)) := fun c => (hC c).cell 0 rfl 0 rfl
      have q1 : ∀ c, (cw c).cell? ⟨pb, 1, none⟩ = some (.int .i64 (v : Int)) := fun c => (hC c).cell 0 rfl 1 rfl
      have q2 : ∀ c, (cw c).cell? ⟨zb, 2, none⟩ = some (.slice (some ⟨bH, oH, none⟩) hl.length hc) := fun c => (hC c).cell 1 rfl 2 rfl
      have q3 : ∀ c, (cw c).cell? ⟨bH, oH + u, none⟩ = some (.int .i64 ha) := fun c => ((hC c).below.cell hbH).trans g0
      have q4 : ∀ c, (cw c).cell? ⟨bH, oH + v, none⟩ = some (.int .i64 hb) := fun c => ((hC c).below.cell hbH).trans g1
      repeat (refine pl_look rfl rfl rfl (fun Kv hK => ?_); go_big_quiet_op; refine hK _ ?_; clear hK Kv)
      clear q0 q1 q2 q3 q4 hC hS2
      refine pl_end ?_
      intro w10 hS3
      refine pm_eff rfl rfl fun Kv hK => ?_
      go_simp
      refine ⟨hS3, hK _ _ ?_⟩
      clear hK Kv
      refine pm_eff rfl rfl fun Kv hK => ?_
      go_simp
      refine ⟨hS3, hK _ _ ?_⟩
      clear hK Kv
      refine pm_end ?_
      by_cases hbd : (-1125899906842624 ≤ ha ∧ ha ≤ 1125899906842624) ∧ (-1125899906842624 ≤ hb ∧ hb ≤ 1125899906842624)
      case neg =>
        have HNO : Hid (¬ R) := Lib.hid (by
          rw [HRR.out]
          intro h
          have h1 := h.2.2.2.2.1 u huN
          have h2 := h.2.2.2.2.1 v hvN
          rw [HHV.out.1] at h1
          rw [HHV.out.2] at h2
          exact hbd ⟨h1, h2⟩)
        have HS3 := Lib.hid hS3
        clear hS3
        by_cases z1 : ha < -1125899906842624
        · have y1 : decide (ha < -1125899906842624) = true := decide_eq_true z1
          go_wp2_with fail
          go_ret
          exact rpost_no HNO.out HS3.out.below
        · have y1 : decide (ha < -1125899906842624) = false := decide_eq_false z1
          by_cases z2 : 1125899906842624 < ha
          · have y2 : decide (1125899906842624 < ha) = true := decide_eq_true z2
            go_wp2_with fail
            go_ret
            exact rpost_no HNO.out HS3.out.below
          · have y2 : decide (1125899906842624 < ha) = false := decide_eq_false z2
            by_cases z3 : hb < -1125899906842624
            · have y3 : decide (hb < -1125899906842624) = true := decide_eq_true z3
              go_wp2_with fail
              go_ret
              exact rpost_no HNO.out HS3.out.below
            · have y3 : decide (hb < -1125899906842624) = false := decide_eq_false z3
              have y4 : decide (1125899906842624 < hb) = true := decide_eq_true (by omega)
              go_wp2_with fail
              go_ret
              exact rpost_no HNO.out HS3.out.below
      case pos =>
      have y1 : decide (ha < -1125899906842624) = false := decide_eq_false (by omega)
      have y2 : decide (1125899906842624 < ha) = false := decide_eq_false (by omega)
      have y3 : decide (hb < -1125899906842624) = false := decide_eq_false (by omega)
      have y4 : decide (1125899906842624 < hb) = false := decide_eq_false (by omega)
      go_upto_region 11 with fail
      clear y1 y2 y3 y4
      have hwr : IntKind.i64.wrap (ct + ha) = ct + ha := by rw [IntKind.wrap_i64]; have := HNUM.out; omega
      have HBD := Lib.hid hbd
      clear hbd
      obtain ⟨bd, hbd2⟩ : ∃ bd : Bool, decide ((xk < rm ∧ ct + ha < hb) ∨ (0 < xk ∧ hb < ct + ha)) = bd := ⟨_, rfl⟩
      have HBD2 := Lib.hid hbd2
      clear hbd2
      go_cut [109] (fun s109 wx => s109 = .bool bd ∧ SL w w.heap.size (.blk pb #[.int .i64 (u : Int), .int .i64 (v : Int), .int .i64 rm, .int .i64 ct] 40 :: [.blk zb #[.slice (some ⟨bF, oF, none⟩) fl.length fc, .int .i64 cst, .slice (some ⟨bH, oH, none⟩) hl.length hc] 49, .blk nb #[.int .i64 N, .slice (some ⟨bA, oA, none⟩) ps.length cap] 26]) wx)
      case first =>
        by_cases p1 : xk < rm
        · have y1 : decide (xk < rm) = true := decide_eq_true p1
          by_cases p2 : ct + ha < hb
          · have y2 : decide (ct + ha < hb) = true := decide_eq_true p2
            have PP := Lib.hid (And.intro p1 p2)
            clear p1 p2
            refine wp_region_sl [0,1,2,3,4,5,6,7,8,9,10,11,12,13,14,15,16,17,18,19,20,21,22,23,24,25,26,27,28,29,30,31] [] [] _ hS3 (List.Sublist.refl _) (by kernel_rfl) (by kernel_rfl) .nil (fun C cw _ hC => ?_)
            have q0 : ∀ c, (cw c).cell? ⟨zb, 0, none⟩ = some (.slice (some ⟨bF, oF, none⟩) fl.length fc) := fun c => (hC c).cell 1 rfl 0 rfl
            have q1 : ∀ c, (cw c).cell? ⟨bF, oF + k, none⟩ = some (.int .i64 xk) := fun c => ((hC c).below.cell hbF).trans f0
            have q2 : ∀ c, (cw c).cell? ⟨pb, 2, none⟩ = some (.int .i64 rm) := fun c => (hC c).cell 0 rfl 2 rfl
            have q3 : ∀ c, (cw c).cell? ⟨pb, 3, none⟩ = some (.int .i64 ct) := fun c => (hC c).cell 0 rfl 3 rfl
            repeat (first | (refine pl_look rfl rfl rfl (fun Kv hK => ?_); go_big_quiet_op; refine hK _ ?_; clear hK Kv) | (refine pl_skip rfl rfl (fun Kv hK => ?_); go_simp; refine hK _ ?_; clear hK Kv))
            clear q0 q1 q2 q3 hC
            refine pl_end ?_
            intro w11 hS4
            refine pm_end ?_
            clear hS3
            go_wp2_with fail
            go_meet
            exact ⟨congrArg Value.bool (by rw [← HBD2.out]; exact (decide_eq_true (by have := PP.out; omega)).symm), hS4⟩
          · have y2 : decide (ct + ha < hb) = false := decide_eq_false p2
            by_cases p3 : 0 < xk
            · have y3 : decide (0 < xk) = true := decide_eq_true p3
              by_cases p4 : hb < ct + ha
              · have y4 : decide (hb < ct + ha) = true := decide_eq_true p4
                have PP := Lib.hid (And.intro p1 (And.intro p2 (And.intro p3 p4)))
                clear p1 p2 p3 p4
                refine wp_region_sl [0,1,2,3,4,5,6,7,8,9,10,11,12,13,14,15,16,17,18,19,20,21,22,23,24,25,26,27,28,29,30,31] [] [] _ hS3 (List.Sublist.refl _) (by kernel_rfl) (by kernel_rfl) .nil (fun C cw _ hC => ?_)
                have q0 : ∀ c, (cw c).cell? ⟨zb, 0, none⟩ = some (.slice (some ⟨bF, oF, none⟩) fl.length fc) := fun c => (hC c).cell 1 rfl 0 rfl
                have q1 : ∀ c, (cw c).cell? ⟨bF, oF + k, none⟩ = some (.int .i64 xk) := fun c => ((hC c).below.cell hbF).trans f0
                have q2 : ∀ c, (cw c).cell? ⟨pb, 2, none⟩ = some (.int .i64 rm) := fun c => (hC c).cell 0 rfl 2 rfl
                have q3 : ∀ c, (cw c).cell? ⟨pb, 3, none⟩ = some (.int .i64 ct) := fun c => (hC c).cell 0 rfl 3 rfl
                repeat (first | (refine pl_look rfl rfl rfl (fun Kv hK => ?_); go_big_quiet_op; refine hK _ ?_; clear hK Kv) | (refine pl_skip rfl rfl (fun Kv hK => ?_); go_simp; refine hK _ ?_; clear hK Kv))
                clear q0 q1 q2 q3 hC
                refine pl_end ?_
                intro w11 hS4
                refine pm_end ?_
                clear hS3
                go_wp2_with fail
                go_meet
                exact ⟨congrArg Value.bool (by rw [← HBD2.out]; exact (decide_eq_true (by have := PP.out; omega)).symm), hS4⟩
              · have y4 : decide (hb < ct + ha) = false := decide_eq_false p4
                have PP := Lib.hid (And.intro p1 (And.intro p2 (And.intro p3 p4)))
                clear p1 p2 p3 p4
                refine wp_region_sl [0,1,2,3,4,5,6,7,8,9,10,11,12,13,14,15,16,17,18,19,20,21,22,23,24,25,26,27,28,29,30,31] [] [] _ hS3 (List.Sublist.refl _) (by kernel_rfl) (by kernel_rfl) .nil (fun C cw _ hC => ?_)
                have q0 : ∀ c, (cw c).cell? ⟨zb, 0, none⟩ = some (.slice (some ⟨bF, oF, none⟩) fl.length fc) := fun c => (hC c).cell 1 rfl 0 rfl
                have q1 : ∀ c, (cw c).cell? ⟨bF, oF + k, none⟩ = some (.int .i64 xk) := fun c => ((hC c).below.cell hbF).trans f0
                have q2 : ∀ c, (cw c).cell? ⟨pb, 2, none⟩ = some (.int .i64 rm) := fun c => (hC c).cell 0 rfl 2 rfl
                have q3 : ∀ c, (cw c).cell? ⟨pb, 3, none⟩ = some (.int .i64 ct) := fun c => (hC c).cell 0 rfl 3 rfl
                repeat (first | (refine pl_look rfl rfl rfl (fun Kv hK => ?_); go_big_quiet_op; refine hK _ ?_; clear hK Kv) | (refine pl_skip rfl rfl (fun Kv hK => ?_); go_simp; refine hK _ ?_; clear hK Kv))
                clear q0 q1 q2 q3 hC
                refine pl_end ?_
                intro w11 hS4
                refine pm_end ?_
                clear hS3
                go_wp2_with fail
                go_meet
                exact ⟨congrArg Value.bool (by rw [← HBD2.out]; exact (decide_eq_false (by have := PP.out; omega)).symm), hS4⟩
            · have y3 : decide (0 < xk) = false := decide_eq_false p3
              have PP := Lib.hid (And.intro p1 (And.intro p2 p3))
              clear p1 p2 p3
              refine wp_region_sl [0,1,2,3,4,5,6,7,8,9,10,11,12,13,14,15,16,17,18,19,20,21,22,23,24,25,26,27,28,29,30,31] [] [] _ hS3 (List.Sublist.refl _) (by kernel_rfl) (by kernel_rfl) .nil (fun C cw _ hC => ?_)
              have q0 : ∀ c, (cw c).cell? ⟨zb, 0, none⟩ = some (.slice (some ⟨bF, oF, none⟩) fl.length fc) := fun c => (hC c).cell 1 rfl 0 rfl
              have q1 : ∀ c, (cw c).cell? ⟨bF, oF + k, none⟩ = some (.int .i64 xk) := fun c => ((hC c).below.cell hbF).trans f0
              have q2 : ∀ c, (cw c).cell? ⟨pb, 2, none⟩ = some (.int .i64 rm) := fun c => (hC c).cell 0 rfl 2 rfl
              have q3 : ∀ c, (cw c).cell? ⟨pb, 3, none⟩ = some (.int .i64 ct) := fun c => (hC c).cell 0 rfl 3 rfl
              repeat (first | (refine pl_look rfl rfl rfl (fun Kv hK => ?_); go_big_quiet_op; refine hK _ ?_; clear hK Kv) | (refine pl_skip rfl rfl (fun Kv hK => ?_); go_simp; refine hK _ ?_; clear hK Kv))
              clear q0 q1 q2 q3 hC
              refine pl_end ?_
              intro w11 hS4
              refine pm_end ?_
              clear hS3
              go_wp2_with fail
              go_meet
              exact ⟨congrArg Value.bool (by rw [← HBD2.out]; exact (decide_eq_false (by have := PP.out; omega)).symm), hS4⟩
        · have y1 : decide (xk < rm) = false := decide_eq_false p1
          by_cases p3 : 0 < xk
          · have y3 : decide (0 < xk) = true := decide_eq_true p3
            by_cases p4 : hb < ct + ha
            · have y4 : decide (hb < ct + ha) = true := decide_eq_true p4
              have PP := Lib.hid (And.intro p1 (And.intro p3 p4))
              clear p1 p3 p4
              refine wp_region_sl [0,1,2,3,4,5,6,7,8,9,10,11,12,13,14,15,16,17,18,19,20,21,22,23,24,25,26,27,28,29,30,31] [] [] _ hS3 (List.Sublist.refl _) (by kernel_rfl) (by kernel_rfl) .nil (fun C cw _ hC => ?_)
              have q0 : ∀ c, (cw c).cell? ⟨zb, 0, none⟩ = some (.slice (some ⟨bF, oF, none⟩) fl.length fc) := fun c => (hC c).cell 1 rfl 0 rfl
              have q1 : ∀ c, (cw c).cell? ⟨bF, oF + k, none⟩ = some (.int .i64 xk) := fun c => ((hC c).below.cell hbF).trans f0
              have q2 : ∀ c, (cw c).cell? ⟨pb, 2, none⟩ = some (.int .i64 rm) := fun c => (hC c).cell 0 rfl 2 rfl
              have q3 : ∀ c, (cw c).cell? ⟨pb, 3, none⟩ = some (.int .i64 ct) := fun c => (hC c).cell 0 rfl 3 rfl
              repeat (first | (refine pl_look rfl rfl rfl (fun Kv hK => ?_); go_big_quiet_op; refine hK _ ?_; clear hK Kv) | (refine pl_skip rfl rfl (fun Kv hK => ?_); go_simp; refine hK _ ?_; clear hK Kv))
              clear q0 q1 q2 q3 hC
              refine pl_end ?_
              intro w11 hS4
              refine pm_end ?_
              clear hS3
              go_wp2_with fail
              go_meet
              exact ⟨congrArg Value.bool (by rw [← HBD2.out]; exact (decide_eq_true (by have := PP.out; omega)).symm), hS4⟩
            · have y4 : decide (hb < ct + ha) = false := decide_eq_false p4
              have PP := Lib.hid (And.intro p1 (And.intro p3 p4))
              clear p1 p3 p4
              refine wp_region_sl [0,1,2,3,4,5,6,7,8,9,10,11,12,13,14,15,16,17,18,19,20,21,22,23,24,25,26,27,28,29,30,31] [] [] _ hS3 (List.Sublist.refl _) (by kernel_rfl) (by kernel_rfl) .nil (fun C cw _ hC => ?_)
              have q0 : ∀ c, (cw c).cell? ⟨zb, 0, none⟩ = some (.slice (some ⟨bF, oF, none⟩) fl.length fc) := fun c => (hC c).cell 1 rfl 0 rfl
              have q1 : ∀ c, (cw c).cell? ⟨bF, oF + k, none⟩ = some (.int .i64 xk) := fun c => ((hC c).below.cell hbF).trans f0
              have q2 : ∀ c, (cw c).cell? ⟨pb, 2, none⟩ = some (.int .i64 rm) := fun c => (hC c).cell 0 rfl 2 rfl
              have q3 : ∀ c, (cw c).cell? ⟨pb, 3, none⟩ = some (.int .i64 ct) := fun c => (hC c).cell 0 rfl 3 rfl
              repeat (first | (refine pl_look rfl rfl rfl (fun Kv hK => ?_); go_big_quiet_op; refine hK _ ?_; clear hK Kv) | (refine pl_skip rfl rfl (fun Kv hK => ?_); go_simp; refine hK _ ?_; clear hK Kv))
              clear q0 q1 q2 q3 hC
              refine pl_end ?_
              intro w11 hS4
              refine pm_end ?_
              clear hS3
              go_wp2_with fail
              go_meet
              exact ⟨congrArg Value.bool (by rw [← HBD2.out]; exact (decide_eq_false (by have := PP.out; omega)).symm), hS4⟩
          · have y3 : decide (0 < xk) = false := decide_eq_false p3
            have PP := Lib.hid (And.intro p1 p3)
            clear p1 p3
            refine wp_region_sl [0,1,2,3,4,5,6,7,8,9,10,11,12,13,14,15,16,17,18,19,20,21,22,23,24,25,26,27,28,29,30,31] [] [] _ hS3 (List.Sublist.refl _) (by kernel_rfl) (by kernel_rfl) .nil (fun C cw _ hC => ?_)
            have q0 : ∀ c, (cw c).cell? ⟨zb, 0, none⟩ = some (.slice (some ⟨bF, oF, none⟩) fl.length fc) := fun c => (hC c).cell 1 rfl 0 rfl
            have q1 : ∀ c, (cw c).cell? ⟨bF, oF + k, none⟩ = some (.int .i64 xk) := fun c => ((hC c).below.cell hbF).trans f0
            have q2 : ∀ c, (cw c).cell? ⟨pb, 2, none⟩ = some (.int .i64 rm) := fun c => (hC c).cell 0 rfl 2 rfl
            have q3 : ∀ c, (cw c).cell? ⟨pb, 3, none⟩ = some (.int .i64 ct) := fun c => (hC c).cell 0 rfl 3 rfl
            repeat (first | (refine pl_look rfl rfl rfl (fun Kv hK => ?_); go_big_quiet_op; refine hK _ ?_; clear hK Kv) | (refine pl_skip rfl rfl (fun Kv hK => ?_); go_simp; refine hK _ ?_; clear hK Kv))
            clear q0 q1 q2 q3 hC
            refine pl_end ?_
            intro w11 hS4
            refine pm_end ?_
            clear hS3
            go_wp2_with fail
            go_meet
            exact ⟨congrArg Value.bool (by rw [← HBD2.out]; exact (decide_eq_false (by have := PP.out; omega)).symm), hS4⟩
      case rest =>
      clear hS3
      obtain ⟨rfl, hS3⟩ := hcut
      cases bd
      case true =>
        have hno := of_decide_eq_true HBD2.out
        have HNO : Hid (¬ R) := Lib.hid (by
          rw [HRR.out]
          intro h
          have h9 := HOKK.out.1 (fun hk' => h.2.2.2.2.2.1 k hk')
          rcases hno with h1 | h1
          · have := h9.1 h1.1; omega
          · have := h9.2 h1.1; omega)
        have HS3 := Lib.hid hS3
        clear hS3 hno
        go_wp2_with fail
        go_ret
        exact rpost_no HNO.out HS3.out.below
      case false =>
        have hno := of_decide_eq_false HBD2.out
        have HOK2 : Hid (PipeOk ps X H k) := Lib.hid (HOKK.out.2 ⟨fun h => by omega, fun h => by omega⟩)
        clear hno
        have hw1 : IntKind.i64.wrap (xk * ct) = xk * ct := by rw [IntKind.wrap_i64]; have := HNUM.out; omega
        have hw2 : IntKind.i64.wrap (q + xk * ct) = q + xk * ct := by rw [IntKind.wrap_i64]; have := HNUM.out; omega
        go_upto_region 13 with fail
        refine wp_region_sl [0,1,2,3,4,5,6,7,8,9] [] [10] _ hS3 (List.Sublist.refl _) (by kernel_rfl) (by kernel_rfl) (.cons rfl .nil) (fun C cw _ hC => ?_)
        have q0 : ∀ c, (cw c).cell? ⟨zb, 0, none⟩ = some (.slice (some ⟨bF, oF, none⟩) fl.length fc) := fun c => (hC c).cell 1 rfl 0 rfl
        have q1 : ∀ c, (cw c).cell? ⟨bF, oF + k, none⟩ = some (.int .i64 xk) := fun c => ((hC c).below.cell hbF).trans f0
        have q3 : ∀ c, (cw c).cell? ⟨pb, 3, none⟩ = some (.int .i64 ct) := fun c => (hC c).cell 0 rfl 3 rfl
        repeat (refine pl_look rfl rfl rfl (fun Kv hK => ?_); go_big_quiet_op; refine hK _ ?_; clear hK Kv)
        clear q0 q1 q3 hC hw1 hw2
        refine pl_end ?_
        intro w11 hS4
        refine pm_end ?_
        have HS4 := Lib.hid hS4
        clear hS3 hS4
        go_wp2_with fail
        go_roundw
        case rel => exact ⟨k + 1, by omega, by go_num, by rw [HCK.out], Lib.hid (fun j hj => by
          by_cases e : j = k
          · subst e; exact HOK2.out
          · exact HOK.out j (by omega)), HS4.out.tail⟩
        case measure => simp [intOf]; omega
    · obtain rfl : k = ps.length := by omega
      have c3 : wr.cell? ⟨zb, 2, none⟩ = some (.slice HA hl.length hc) := hS.cell 0 rfl 2 rfl
      have HS := Lib.hid hS
      clear hS
      go_wp2_with fail
      clear c3
      go_loopw [124] (fun u124 wi => ∃ i : Nat, i ≤ hl.length ∧ u124 = .int .i64 i ∧ Hid (∀ j, j < i → -1125899906842624 ≤ H j ∧ H j ≤ 1125899906842624) ∧ SL w w.heap.size [.blk zb #[.slice FA fl.length fc, .int .i64 cst, .slice HA hl.length hc] 49, .blk nb #[.int .i64 N, .slice A ps.length cap] 26] wi) (fun u124 _ => hl.length - (intOf u124).toNat)
      case atStart => exact ⟨0, by omega, rfl, Lib.hid fun j hj => absurd hj (by omega), HS.out⟩
      case round =>
        clear HS
        obtain ⟨i, hi, rfl, HB, hS⟩ := hrel
        by_cases hlt2 : i < hl.length
        · obtain ⟨bH, oH, rfl, hbH, g0⟩ := ints_at HW.out.2.2 (k := i) hlt2
          rw [getI_at hlt2, ← HXH.out.2] at g0
          have g1 := (hS.below.cell hbH).trans g0
          obtain ⟨ha, hha⟩ : ∃ x, H i = x := ⟨_, rfl⟩
          rw [hha] at g1
          have HHA := Lib.hid hha
          have hil : (i : Int) < (hl.length : Int) := by omega
          have HS := Lib.hid hS
          clear hS g0 hha
          by_cases z1 : ha < -1125899906842624
          · have y1 : decide (ha < -1125899906842624) = true := decide_eq_true z1
            have HNO : Hid (¬ R) := Lib.hid (by rw [HRR.out]; intro h; have h1 := h.2.2.2.2.1 i (by have := HL.out.2; omega); rw [HHA.out] at h1; omega)
            go_wp2_with fail
            go_ret
            exact rpost_no HNO.out HS.out.below
          · have y1 : decide (ha < -1125899906842624) = false := decide_eq_false z1
            by_cases z2 : 1125899906842624 < ha
            · have y2 : decide (1125899906842624 < ha) = true := decide_eq_true z2
              have HNO : Hid (¬ R) := Lib.hid (by rw [HRR.out]; intro h; have h1 := h.2.2.2.2.1 i (by have := HL.out.2; omega); rw [HHA.out] at h1; omega)
              go_wp2_with fail
              go_ret
              exact rpost_no HNO.out HS.out.below
            · have y2 : decide (1125899906842624 < ha) = false := decide_eq_false z2
              have HZ := Lib.hid (And.intro z1 z2)
              clear z1 z2
              go_wp2_with fail
              go_roundw
              case rel => exact ⟨i + 1, by omega, by go_num, Lib.hid (fun j hj => by
                by_cases e : j = i
                · subst e; rw [HHA.out]; have := HZ.out; omega
                · exact HB.out j (by omega)), HS.out⟩
              case measure => simp [intOf]; omega
        · obtain rfl : i = hl.length := by omega
          have c1 : wr.cell? ⟨zb, 1, none⟩ = some (.int .i64 cst) := hS.cell 0 rfl 1 rfl
          have HS := Lib.hid hS
          clear hS
          obtain ⟨q, hq⟩ : ∃ q, costK ps X ps.length = q := ⟨_, rfl⟩
          have HQ := Lib.hid hq
          rw [hq]
          clear hq
          go_wp2_with fail
          go_ret
          refine ⟨⟨_, rfl, ?_⟩, HS.out.below⟩
          rw [HRR.out, beq_iff_eq]
          constructor
          · intro h
            exact ⟨HL.out.1, HG.out.1, by rw [HG.out.2]; exact HM.out, HL.out.2, fun v hv => HB.out v (by have := HL.out.2; omega), fun j hj => HOK.out j hj hj, by unfold costF; rw [HQ.out]; exact h⟩
          · intro h
            have := h.2.2.2.2.2.2
            unfold costF at this
            rw [HQ.out] at this
            exact this
end Go.Proofs.Ytgnmbmlpfjlbiaa
