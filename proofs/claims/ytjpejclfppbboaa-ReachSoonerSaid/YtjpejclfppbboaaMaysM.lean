/- Who may be served from where: what reach.Mays and wharfagelaw14.Mays tell, as a plain function. No program in sight. -/
import Derived.Test.YtjpejclfppbboaaReachF
namespace Go.Proofs.Ytjpejclfppbboaa
set_option linter.unusedVariables false
def atM (x : InstV) (s c : Nat) : Int := max ((readyM x).getD s 0 + (outM x s).getD c 0) (x.custs.getD c noCust).opn
def mayM (x : InstV) (s c : Nat) : Bool := decide ((x.custs.getD c noCust).load ≤ (x.sats.getD s noSat).room) && (decide ((x.custs.getD c noCust).load ≤ x.br) && (decide (atM x s c ≤ (x.custs.getD c noCust).cls) && decide (atM x s c + (backM x s).getD c 0 ≤ x.fin)))
theorem out_get {x : InstV} (h : x.Fit) {s c : Nat} (hs : s < x.sats.length) (hc : c < x.custs.length) : 0 ≤ (outM x s).getD c 0 ∧ (outM x s).getD c 0 ≤ 10000 := by
 have h1 := out_at h hs hc
 rw [List.getD_eq_getElem?_getD, h1.2]
 exact h1.1
theorem ready_get {x : InstV} (h : x.Fit) {s : Nat} (hs : s < x.sats.length) : 0 ≤ (readyM x).getD s 0 ∧ (readyM x).getD s 0 ≤ 20000 := by
 have h1 := readies_at h hs
 have h2 := (h.satsIn _ (List.getElem_mem hs)).2
 rw [List.getD_eq_getElem?_getD, h1.2, Option.getD_some]
 omega
theorem back_get {x : InstV} (h : x.Fit) {s c : Nat} (hs : s < x.sats.length) (hc : c < x.custs.length) : 0 ≤ (backM x s).getD c 0 ∧ (backM x s).getD c 0 ≤ 20000 := by
 have h1 := back_at h hs hc
 have h2 := (h.custsIn _ (List.getElem_mem hc)).2.2.2
 rw [List.getD_eq_getElem?_getD, h1.2, Option.getD_some]
 omega
theorem at_get {x : InstV} (h : x.Fit) {s c : Nat} (hs : s < x.sats.length) (hc : c < x.custs.length) : 0 ≤ atM x s c ∧ atM x s c ≤ 30000 := by
 have h1 := out_get h hs hc
 have h2 := ready_get h hs
 have h3 := (h.custsIn _ (List.getElem_mem hc)).2.1
 unfold atM
 rw [show x.custs.getD c noCust = x.custs[c] by simp [hc]]
 omega
end Go.Proofs.Ytjpejclfppbboaa
