/- The plain law of least costs: how high the nodes lie proves that nothing is cheaper. No program in sight. -/
import Derived.Test.YtgnmbmlpfjlbiaaOptM
namespace Go.Proofs.Ytgnmbmlpfjlbiaa
set_option linter.unusedVariables false
/-- By all pipes: what flows, times what one falls. -/
def potK (ps : List PipeV) (h y : Nat → Int) : Nat → Int
  | 0 => 0
  | k + 1 => potK ps h y k + (match ps[k]? with | some p => y k * (h p.to.toNat - h p.fr.toNat) | none => 0)
theorem potK_succ {ps : List PipeV} {h y : Nat → Int} {k : Nat} (hk : k < ps.length) : potK ps h y (k + 1) = potK ps h y k + y k * (h ps[k].to.toNat - h ps[k].fr.toNat) := by
  rw [potK, List.getElem?_eq_getElem hk]
theorem pick_one {N : Nat} {h : Nat → Int} {p y : Int} (h0 : 0 ≤ p) (h1 : p < N) : sumN (fun v => h v * (if p = (v : Int) then y else 0)) N = h p.toNat * y := by
  rw [sumN_one (a := p.toNat) N (fun v hv hne => by rw [if_neg (by omega), Int.mul_zero])]
  rw [if_pos (by omega), if_pos (by omega)]
theorem potK_sum {N : Nat} {ps : List PipeV} {h y : Nat → Int} (hP : InP N ps) : ∀ k, k ≤ ps.length → potK ps h y k = sumN (fun v => h v * innK ps y (v : Int) k) N
  | 0, _ => by
    rw [sumN_congr (g := fun _ => 0) N (fun v _ => by simp [innK]), sumN_zero]
    rfl
  | k + 1, hk => by
    have hkl : k < ps.length := by omega
    have hp := hP ps[k] (List.getElem_mem hkl)
    rw [potK_succ hkl, potK_sum hP k (by omega)]
    have e : sumN (fun v => h v * innK ps y (v : Int) (k + 1)) N = sumN (fun v => h v * innK ps y (v : Int) k + (h v * (if ps[k].to = (v : Int) then y k else 0) - h v * (if ps[k].fr = (v : Int) then y k else 0))) N := sumN_congr N fun v _ => by
      show h v * (innK ps y v k + cont ps y v k) = _
      rw [cont_at hkl, Int.mul_add, Int.mul_sub]
    rw [e, sumN_add, sumN_sub, pick_one hp.2.1.1 hp.2.1.2, pick_one hp.1.1 hp.1.2, Int.mul_sub, Int.mul_comm (y k), Int.mul_comm (y k)]
theorem pot_flow {N : Nat} {ps : List PipeV} {h y : Nat → Int} {s t : Nat} {sum : Int} (hP : InP N ps) (hs : h s = 0) (ht : t < N) (hF : FlowOf ps (s : Int) (t : Int) y sum) : potK ps h y ps.length = h t * sum := by
  rw [potK_sum hP _ (Nat.le_refl _)]
  rw [sumN_one (a := t) N (fun v hv hne => by
    by_cases e : v = s
    · subst e; rw [hs, Int.zero_mul]
    · have := hF.kept (v : Int) (by omega) (by omega)
      unfold inn at this
      rw [this, Int.mul_zero])]
  rw [if_pos ht]
  have := hF.amount
  unfold inn at this
  rw [this]
/-- Pipe by pipe: no other flow is cheaper, but for what it falls. -/
theorem dual_le {ps : List PipeV} {h y z : Nat → Int} (hT : Tight ps y h) (hy : Feas ps y) (hz : Feas ps z) : ∀ k, k ≤ ps.length → costK ps y k - potK ps h y k ≤ costK ps z k - potK ps h z k
  | 0, _ => by simp [costK, potK]
  | k + 1, hk => by
    have hkl : k < ps.length := by omega
    have ih := dual_le hT hy hz k (by omega)
    rw [costK_succ hkl, costK_succ hkl, potK_succ hkl, potK_succ hkl]
    obtain ⟨t1, t2⟩ := hT k hkl
    have y1 := hy k hkl
    have z1 := hz k hkl
    generalize ps[k].cost = c at *
    generalize h ps[k].fr.toNat = a at *
    generalize h ps[k].to.toNat = b at *
    generalize ps[k].room = r at *
    generalize y k = u at *
    generalize z k = v at *
    have e1 : u * c - u * (b - a) = u * (c + a - b) := by rw [← Int.mul_sub]; congr 1; omega
    have e2 : v * c - v * (b - a) = v * (c + a - b) := by rw [← Int.mul_sub]; congr 1; omega
    have key : u * (c + a - b) ≤ v * (c + a - b) := by
      generalize c + a - b = d at *
      rcases Int.lt_trichotomy d 0 with h0 | h0 | h0
      · have e : u = r := by
          rcases Int.lt_or_le u r with h3 | h3
          · have := t1 h3; omega
          · omega
        have := Int.mul_le_mul_of_nonpos_right (show v ≤ u by omega) (show d ≤ 0 by omega)
        omega
      · subst h0; simp
      · have e : u = 0 := by
          rcases Int.lt_or_le 0 u with h3 | h3
          · have := t2 h3; omega
          · omega
        subst e
        have := Int.mul_nonneg z1.1 (show 0 ≤ d by omega)
        omega
    omega
theorem opt_dual {N : Nat} {ps : List PipeV} {h y z : Nat → Int} {s t : Nat} {sum sum' : Int} (hP : InP N ps) (ht : t < N) (hO : Opt N ps s t y h sum) (hz : FlowOf ps (s : Int) (t : Int) z sum') : costF ps y + h t * (sum' - sum) ≤ costF ps z := by
  have h1 := dual_le hO.tight hO.flow.feas hz.feas ps.length (Nat.le_refl _)
  rw [pot_flow hP hO.hs ht hO.flow, pot_flow hP hO.hs ht hz] at h1
  rw [Int.mul_sub]
  unfold costF
  omega
/-- Where no more can flow, so much is the most. -/
theorem most_is {N : Nat} {ps : List PipeV} {y z : Nat → Int} {s t : Nat} {m k : Int} (hP : InP N ps) (hs1 : s < N) (ht1 : t < N) (h1 : MostOf N ps s t y m) (h2 : FlowOf ps (s : Int) (t : Int) z k) : k ≤ m := by
  obtain ⟨hf, seen, by_, hW, hT⟩ := h1
  rw [most_cap hP hf (by omega) (by omega) (by omega) hW hT]
  exact flow_le_cap hP h2 (by omega) (by omega) (by omega) hW.start hT
/-- Each unit more costs no less than the one ahead. -/
theorem opt_convex {N : Nat} {ps : List PipeV} {s t : Nat} {h0 h1 h2 y0 y1 y2 : Nat → Int} {m : Int} (hP : InP N ps) (ht : t < N) (o0 : Opt N ps s t y0 h0 (m - 1)) (o1 : Opt N ps s t y1 h1 m) (o2 : Opt N ps s t y2 h2 (m + 1)) : costF ps y1 - costF ps y0 ≤ costF ps y2 - costF ps y1 := by
  have a := opt_dual hP ht o1 o2.flow
  have b := opt_dual hP ht o1 o0.flow
  rw [show m + 1 - m = 1 by omega] at a
  rw [show m - 1 - m = -1 by omega] at b
  omega
end Go.Proofs.Ytgnmbmlpfjlbiaa
