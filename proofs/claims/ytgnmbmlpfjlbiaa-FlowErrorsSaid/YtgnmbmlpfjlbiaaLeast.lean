/- The walk of law09.least: of all cuts, what goes through the least one. -/
import Derived.Test.YtgnmbmlpfjlbiaaLawNet
import Derived.Test.YtgnmbmlpfjlbiaaLeastM
namespace Go.Proofs.Ytgnmbmlpfjlbiaa
open Go.ChangeShapes Go.WideShapes Go.ChangeAt Go.RowKit
set_option linter.unusedVariables false
theorem wrap_pow (N : Nat) (h : N ≤ 6) : wrap64 ((2 : Int) ^ N) = ((2 ^ N : Nat) : Int) := by
  rcases (show N = 0 ∨ N = 1 ∨ N = 2 ∨ N = 3 ∨ N = 4 ∨ N = 5 ∨ N = 6 by omega) with rfl | rfl | rfl | rfl | rfl | rfl | rfl <;> (first | decide +kernel | (unfold wrap64; simp))
theorem and_one : ∀ x : Fin 64, bits BinOp.and IntKind.i64 ((x.val : Nat) : Int) 1 = ((x.val % 2 : Nat) : Int) := by decide +kernel
theorem bit_and (i v : Nat) (h : i < 64) : bits BinOp.and IntKind.i64 ((i : Int) / 2 ^ v) 1 = if i.testBit v then 1 else 0 := by
  have e : ((i : Int) / 2 ^ v) = ((i / 2 ^ v : Nat) : Int) := by simp
  have hx : i / 2 ^ v < 64 := Nat.lt_of_le_of_lt (Nat.div_le_self _ _) h
  rw [e, and_one ⟨i / 2 ^ v, hx⟩, Nat.testBit_eq_decide_div_mod_eq]
  have := Nat.mod_lt (i / 2 ^ v) (show 2 > 0 by omega)
  by_cases h1 : i / 2 ^ v % 2 = 1
  · rw [h1]; simp
  · rw [show i / 2 ^ v % 2 = 0 by omega]; simp
theorem bit_yes {i v : Nat} (h : i < 64) (hb : i.testBit v = true) : bits BinOp.and IntKind.i64 ((i : Int) / 2 ^ v) 1 = 1 := by rw [bit_and i v h, hb]; rfl
theorem bit_no {i v : Nat} (h : i < 64) (hb : i.testBit v = false) : bits BinOp.and IntKind.i64 ((i : Int) / 2 ^ v) 1 = 0 := by rw [bit_and i v h, hb]; rfl
set_option maxRecDepth 100000 in
set_option maxHeartbeats 8000000 in
theorem least_any (N : Nat) (A : Option Addr) (cap' : Nat) (ps : List PipeV) (s t : Int) (w : World) (hr : Pipes w w.heap.size A ps) (hN : N ≤ 6) (hl : ps.length ≤ 14) (hin : InP N ps) (hs0 : 0 ≤ s) (hs1 : s < N) (ht0 : 0 ≤ t) (ht1 : t < N) :
    Calls Try.prog 18 #[.agg #[.int .i64 N, .slice A ps.length cap'], .int .i64 s, .int .i64 t] w fun e w' => (∃ b, e = .returned (.int .i64 b) ∧ LeastK ps s t (2 ^ N) b) ∧ Below w.heap.size w w' := by
  have hS0 := (SL.start (Nat.le_refl w.heap.size)).alloc #[.int .i64 N, .slice A ps.length cap'] 26
  have HIN := Lib.hid hin
  have HR := Lib.hid hr
  clear hin hr
  go_enter Try.func18, Try.ntmps18
  go_wp2_with fail
  obtain ⟨E, hE⟩ : ∃ E : Nat, E = 2 ^ N := ⟨_, rfl⟩
  have hE64 : E ≤ 64 := by rw [hE]; exact Nat.le_trans (Nat.pow_le_pow_right (by omega) hN) (by decide)
  have hwr : wrap64 ((2 : Int) ^ N) = (E : Int) := by rw [hE]; exact wrap_pow N hN
  rw [hwr]
  have HE := Lib.hid (And.intro hE hwr)
  clear hE hwr
  go_loopw [7, 15] (fun vb vi wr => ∃ (i : Nat) (b : Int), i ≤ E ∧ vi = .int .i64 i ∧ vb = .int .i64 b ∧ LeastK ps s t i b ∧ b ≤ 4611686018427387904 ∧ 0 ≤ b ∧ SL w w.heap.size [.blk w.heap.size #[.int .i64 N, .slice A ps.length cap'] 26] wr) (fun _ vi _ => E - (intOf vi).toNat)
  case atStart => exact ⟨0, _, by omega, rfl, rfl, least_start, by omega, by omega, hS0⟩
  case round =>
    clear hS0
    obtain ⟨i, b, hi, rfl, rfl, hK, hb1, hb0, hS⟩ := hrel
    have HK := Lib.hid hK
    clear hK
    by_cases hlt : i < E
    · have hi64 : i < 64 := by omega
      have y1 : wr.cell? ⟨w.heap.size, 1, none⟩ = some (.slice A ps.length cap') := hS.cell 0 rfl 1 rfl
      cases es : i.testBit s.toNat
      · have hbs := bit_no hi64 es
        have HP := Lib.hid (least_pass HK.out (fun h => by rw [h.1] at es; cases es))
        have HS := Lib.hid hS
        clear hS es y1
        go_wp2_with fail
        go_roundw
        case rel => exact ⟨i + 1, b, by omega, by go_num, rfl, HP.out, hb1, hb0, HS.out⟩
        case measure => simp [intOf]; omega
      · have hbs := bit_yes hi64 es
        cases et : i.testBit t.toNat
        · have hbt := bit_no hi64 et
          have HSEP : Hid (Sep i s t) := Lib.hid ⟨es, et⟩
          have HS := Lib.hid hS
          clear hS es et
          obtain ⟨wo, rfl⟩ : ∃ wo : World, wo = wr := ⟨_, rfl⟩
          go_wp2_with fail
          clear y1
          clear hbs hbt
          go_loopw [9, 33] (fun vs vk w3 => ∃ k : Nat, k ≤ ps.length ∧ vk = .int .i64 k ∧ vs = .int .i64 (capK (bitsS i) ps k) ∧ SL w w.heap.size [.blk w.heap.size #[.int .i64 N, .slice A ps.length cap'] 26] w3) (fun _ vk _ => ps.length - (intOf vk).toNat)
          case atStart => exact ⟨0, by omega, rfl, rfl, HS.out⟩
          case round =>
            clear HS
            obtain ⟨k, hk, rfl, rfl, hS⟩ := hrel
            obtain ⟨k1, k2⟩ := capK_rooms (S := bitsS i) HIN.out k hk
            have k3 := (innK_le HIN.out (feas_zero HIN.out) 0 k hk).2.1
            by_cases hkl : k < ps.length
            · obtain ⟨b', o, rfl, hb', d0, d1, d2, d3⟩ := pipes_at (Reads.below HR.out hS.below) hkl
              obtain ⟨⟨f0, f1⟩, ⟨t0, t1⟩, r0, r1⟩ := HIN.out _ (List.getElem_mem hkl)
              have HQ := Lib.hid (capK_succ (S := bitsS i) hkl)
              obtain ⟨p, hp⟩ : ∃ p, ps[k] = p := ⟨_, rfl⟩
              rw [hp] at d0 d1 d2 d3 f0 f1 t0 t1 r0 r1 HQ
              have HS := Lib.hid (hS.alloc #[.int .i64 p.fr, .int .i64 p.to, .int .i64 p.room, .int .i64 p.cost] 40).tail
              have hz := (hS.lt 0 rfl).2
              clear hp hS
              unfold capOne bitsS at HQ
              have hkk : (k : Int) ≤ 14 := by omega
              generalize hc : capK (bitsS i) ps k = c at *
              have hc' : capK (fun v => i.testBit v) ps k = c := hc
              rw [hc'] at HQ
              clear hc hc'
              cases e1 : i.testBit p.fr.toNat
              · have hb1' := bit_no hi64 e1
                have HV : Hid (capK (bitsS i) ps (k + 1) = c) := Lib.hid (by have h := HQ.out; rw [e1] at h; simp at h; exact h)
                clear e1 HQ
                go_wp2
                go_roundw
                case rel => exact ⟨k + 1, by omega, by go_num, by rw [HV.out], HS.out⟩
                case measure => simp [intOf]; omega
              · have hb1' := bit_yes hi64 e1
                cases e2 : i.testBit p.to.toNat
                · have hb2' := bit_no hi64 e2
                  have HV : Hid (capK (bitsS i) ps (k + 1) = c + p.room) := Lib.hid (by have h := HQ.out; rw [e1, e2] at h; simp at h; exact h)
                  clear e1 e2 HQ
                  go_wp2
                  go_roundw
                  case rel => exact ⟨k + 1, by omega, by go_num, by rw [HV.out], HS.out⟩
                  case measure => simp [intOf]; omega
                · have hb2' := bit_yes hi64 e2
                  have HV : Hid (capK (bitsS i) ps (k + 1) = c) := Lib.hid (by have h := HQ.out; rw [e1, e2] at h; simp at h; exact h)
                  clear e1 e2 HQ
                  go_wp2
                  go_roundw
                  case rel => exact ⟨k + 1, by omega, by go_num, by rw [HV.out], HS.out⟩
                  case measure => simp [intOf]; omega
            · obtain rfl : k = ps.length := by omega
              obtain ⟨c, hc⟩ : ∃ c, c = capK (bitsS i) ps ps.length := ⟨_, rfl⟩
              have HT : Hid (LeastK ps s t (i + 1) (if c < b then c else b)) := Lib.hid (by rw [hc]; exact least_take HK.out HSEP.out)
              rw [← hc] at k1 k2 ⊢
              have HS := Lib.hid hS
              clear hc hS hkl hk
              go_wp2
              go_roundw
              case rel => exact ⟨i + 1, if c < b then c else b, by omega, by go_num, by first | rfl | (congr 1), HT.out, by split <;> omega, by split <;> omega, HS.out⟩
              case measure => simp [intOf]; omega
        · have hbt := bit_yes hi64 et
          have HP := Lib.hid (least_pass HK.out (fun h => by rw [h.2] at et; cases et))
          have HS := Lib.hid hS
          clear hS es et y1
          go_wp2_with fail
          go_roundw
          case rel => exact ⟨i + 1, b, by omega, by go_num, rfl, HP.out, hb1, hb0, HS.out⟩
          case measure => simp [intOf]; omega
    · obtain rfl : i = E := by omega
      have HS := Lib.hid hS
      clear hS
      go_wp2_with fail
      go_ret
      exact ⟨⟨b, rfl, by rw [← HE.out.1]; exact HK.out⟩, HS.out.below⟩
end Go.Proofs.Ytgnmbmlpfjlbiaa
