/- reach.stay, reach.ways, reach.there, of an instance that may be; what reach tells, by apart. (printed by gen/reacha.py) -/
import Derived.Test.YtjpejclfppbboaaApartM
import Derived.Test.YtjpejclfppbboaaNear
import Derived.Test.YtjpejclfppbboaaWay17
import Derived.Test.YtjpejclfppbboaaInstK
import Derived.Test.YtjpejclfppbboaaMakeM
import Derived.Test.YtjpejclfppbboaaPhase
import Derived.Deep.CutBlock
import Derived.Deep.CutRange
import Derived.Deep.DeepCutAuto
namespace Go.Proofs.Ytjpejclfppbboaa
open Go.ChangeShapes Go.WideShapes Go.ChangeAt Go.RowKit
set_option linter.unusedVariables false
set_option linter.unusedSimpArgs false
def noSat : SatV := ⟨0, 0⟩
/-- What reach needs of an instance: few nodes, numbers that are not too great, no error. -/
structure InstV.Fit (x : InstV) : Prop where
 code : x.code = 0
 lens : InstL x
 sats : 1 ≤ x.sats.length ∧ x.sats.length ≤ 3
 custs : 1 ≤ x.custs.length ∧ x.custs.length ≤ 6
 fin : 0 ≤ x.fin ∧ x.fin ≤ 10000
 br : 0 ≤ x.br ∧ x.br ≤ 10000
 satsIn : ∀ s ∈ x.sats, (0 ≤ s.room ∧ s.room ≤ 10000) ∧ 0 ≤ s.hold ∧ s.hold ≤ 10000
 custsIn : ∀ c ∈ x.custs, (0 ≤ c.load ∧ c.load ≤ 10000) ∧ (0 ≤ c.opn ∧ c.opn ≤ 10000) ∧ (0 ≤ c.cls ∧ c.cls ≤ 10000) ∧ 0 ≤ c.stay ∧ c.stay ≤ 10000
 timeLen : x.time.length = x.n ∧ ∀ r ∈ x.time, r.length = x.n
 timeIn : ∀ i (hi : i < x.time.length) j (hj : j < x.time[i].length), 0 ≤ x.time[i][j] ∧ x.time[i][j] ≤ 10000
def timeF (x : InstV) (i k : Nat) : Int := (x.time.getD i []).getD k 0
def stayF (x : InstV) (i : Nat) : Int := if i < 1 + x.sats.length then 0 else (x.custs.getD (i - 1 - x.sats.length) noCust).stay
def inSat (x : InstV) (i : Nat) : Bool := decide (i < 1 + x.sats.length)
def inWays (x : InstV) (s i : Nat) : Bool := decide (i = 1 + s) || decide (1 + x.sats.length ≤ i ∧ i < x.n)
def readyM (x : InstV) : List Int := (List.range x.sats.length).map fun i => apartM x.n (timeF x) (fun _ => 0) (inSat x) 0 (1 + i) + (x.sats.getD i noSat).hold
def outM (x : InstV) (s : Nat) : List Int := (List.range x.custs.length).map fun c => apartM x.n (timeF x) (stayF x) (inWays x s) (1 + s) (1 + x.sats.length + c)
def backM (x : InstV) (s : Nat) : List Int := (List.range x.custs.length).map fun c => (x.custs.getD c noCust).stay + apartM x.n (timeF x) (stayF x) (inWays x s) (1 + x.sats.length + c) (1 + s)
theorem InstV.Fit.n9 {x : InstV} (h : x.Fit) : x.n ≤ 10 := by have := h.sats; have := h.custs; unfold InstV.n; omega
theorem time_in {x : InstV} (h : x.Fit) (i k : Nat) : 0 ≤ timeF x i k ∧ timeF x i k ≤ 10000 := by
 unfold timeF
 by_cases hi : i < x.time.length
 · have e : x.time.getD i [] = x.time[i] := by simp [hi]
   rw [e]
   by_cases hk : k < x.time[i].length
   · have e2 : x.time[i].getD k 0 = x.time[i][k] := by simp [hk]
     rw [e2]
     exact h.timeIn i hi k hk
   · have e2 : x.time[i].getD k 0 = 0 := by simp [List.getElem?_eq_none (show x.time[i].length ≤ k by omega)]
     rw [e2]; decide
 · have e : x.time.getD i [] = [] := by simp [List.getElem?_eq_none (show x.time.length ≤ i by omega)]
   rw [e]; simp
theorem stay_in {x : InstV} (h : x.Fit) (i : Nat) : 0 ≤ stayF x i ∧ stayF x i ≤ 10000 := by
 unfold stayF
 split
 · decide
 · by_cases hi : i - 1 - x.sats.length < x.custs.length
   · rw [List.getD_eq_getElem?_getD, List.getElem?_eq_getElem hi, Option.getD_some]
     exact (h.custsIn _ (List.getElem_mem hi)).2.2.2
   · rw [List.getD_eq_getElem?_getD, List.getElem?_eq_none (by omega)]
     decide
/-- The time from node i to node k, in memory. -/
theorem time_at {w : World} {B : Nat} {p : IAt} {x : InstV} (hI : InstIn w B p x) (h : x.Fit) {i k : Nat} (hi : i < x.n) (hk : k < x.n) :
 ∃ b o c b2 o2, p.TA = some ⟨b, o, none⟩ ∧ b < B ∧ w.cell? ⟨b, o + i, none⟩ = some (.slice (some ⟨b2, o2, none⟩) x.n c) ∧ b2 < B ∧ w.cell? ⟨b2, o2 + k, none⟩ = some (.int .i64 (timeF x i k)) := by
 have hi' : i < x.time.length := by rw [h.timeLen.1]; exact hi
 obtain ⟨b, o, a, c, hA, hb, hc, hr⟩ := mat_at hI.time hi'
 have hl := h.timeLen.2 _ (List.getElem_mem hi')
 obtain ⟨b2, o2, rfl, hb2, hc2⟩ := ints_at hr (k := k) (by rw [hl]; exact hk)
 rw [hl] at hc
 refine ⟨b, o, c, b2, o2, hA, hb, hc, hb2, ?_⟩
 rw [hc2]
 unfold timeF
 have hk' : k < x.time[i].length := by rw [hl]; exact hk
 have e : x.time.getD i [] = x.time[i] := by simp [hi']
 have e2 : x.time[i].getD k 0 = x.time[i][k] := by simp [hk']
 rw [e, e2]
set_option maxRecDepth 100000 in
theorem stay_any (x : InstV) (p : IAt) (i : Nat) (w : World) (hI : InstIn w w.heap.size p x) (hF : x.Fit) (hi : i < x.n) :
 Calls Try.prog 89 #[.agg (x.cells p), .int .i64 (i : Int)] w fun e w' => e = .returned (.int .i64 (stayF x i)) ∧ Below w.heap.size w w' := by
 have h1 := hF.sats
 have hn : x.n = 1 + x.sats.length + x.custs.length := rfl
 have HB := Lib.hid (((SL.start (Nat.le_refl w.heap.size)).alloc (x.cells p) 39).below)
 unfold InstV.cells at HB ⊢
 have h2 := hF.custs
 have hF' := Lib.hid hF
 clear hF
 by_cases c1 : i < 1 + x.sats.length
 · have HV : Hid (stayF x i = 0) := Lib.hid (by unfold stayF; rw [if_pos c1])
   rw [HV.out]
   have t0 : decide (0 ≤ (i : Int) - 1 - (x.sats.length : Int)) = false := decide_eq_false (by omega)
   clear hI hn
   go_enter Try.func89, Try.ntmps89
   go_wp2
   go_ret
   exact ⟨rfl, HB.out⟩
 · have hk : i - 1 - x.sats.length < x.custs.length := by omega
   obtain ⟨b, o, hA, hb, _, _, _, d⟩ := custs_at hI.custs hk
   have HV : Hid (stayF x i = (x.custs[i - 1 - x.sats.length]'hk).stay) := Lib.hid (by unfold stayF; rw [if_neg c1, List.getD_eq_getElem?_getD, List.getElem?_eq_getElem hk, Option.getD_some])
   rw [HV.out]
   obtain ⟨v, hv⟩ : ∃ v, (x.custs[i - 1 - x.sats.length]'hk).stay = v := ⟨_, rfl⟩
   obtain ⟨j, hj⟩ : ∃ j, i - 1 - x.sats.length = j := ⟨_, rfl⟩
   rw [hv] at d ⊢
   rw [hj] at d hk
   have e : (i : Int) - 1 - (x.sats.length : Int) = (j : Int) := by omega
   rw [hA] at HB ⊢
   clear hv HV hj hI hn
   go_enter Try.func89, Try.ntmps89
   go_wp2
   go_ret
   exact ⟨rfl, HB.out⟩
theorem satF_any (x : InstV) (p : IAt) (s : Nat) (w : World) (hs : s ≤ 1000) : Calls Try.prog 51 #[.agg (x.cells p), .int .i64 (s : Int)] w fun e w' => e = .returned (.int .i64 ((1 + s : Nat) : Int)) ∧ Below w.heap.size w w' := by
 have h := sat_any x p (s : Int) w
 have e : wrap64 (1 + (s : Int)) = ((1 + s : Nat) : Int) := by unfold wrap64; omega
 rw [e] at h
 exact h
theorem custF_any (x : InstV) (p : IAt) (w : World) (h1 : x.sats.length ≤ 3) : Calls Try.prog 52 #[.agg (x.cells p), .int .i64 0] w fun e w' => e = .returned (.int .i64 ((1 + x.sats.length : Nat) : Int)) ∧ Below w.heap.size w w' := by
 have h := customer_any x p 0 w (by omega)
 have e : wrap64 (1 + (x.sats.length : Int) + 0) = ((1 + x.sats.length : Nat) : Int) := by unfold wrap64; omega
 rw [e] at h
 exact h
set_option maxRecDepth 100000 in
theorem inn_any (x : InstV) (p : IAt) (xb sb s i : Nat) (w : World) (h1 : w.heap[xb]? = some (.cells (x.cells p) 39 (0, 0))) (h2 : w.cell? ⟨sb, 0, none⟩ = some (.int .i64 (s : Int))) (hs : x.sats.length ≤ 3) (hs2 : s ≤ 1000) (hi : i < x.n) :
 Calls Try.prog 88 #[.int .i64 (i : Int), .pointer (some ⟨xb, 0, none⟩), .pointer (some ⟨sb, 0, none⟩)] w fun e w' => e = .returned (.bool (inWays x s i)) ∧ Below w.heap.size w w' := by
 have HX : Hid (∀ wx, Below w.heap.size w wx → wx.cell? ⟨xb, 0, none⟩ = some (.int .i64 x.fin) ∧ wx.cell? ⟨xb, 1, none⟩ = some (.int .i64 x.tm) ∧ wx.cell? ⟨xb, 2, none⟩ = some (.int .i64 x.tr) ∧ wx.cell? ⟨xb, 3, none⟩ = some (.int .i64 x.bm) ∧ wx.cell? ⟨xb, 4, none⟩ = some (.int .i64 x.br) ∧ wx.cell? ⟨xb, 5, none⟩ = some (.slice p.SA x.sats.length p.sc) ∧ wx.cell? ⟨xb, 6, none⟩ = some (.slice p.CA x.custs.length p.cc) ∧ wx.cell? ⟨xb, 7, none⟩ = some (.slice p.KA x.cost.length p.kc) ∧ wx.cell? ⟨xb, 8, none⟩ = some (.slice p.TA x.time.length p.tc)) := Lib.hid (fun wx hb => by
  have hx := (hb.block xb (Array.getElem?_eq_some_iff.1 h1).1).trans h1
  have hc : ∀ j v, (x.cells p)[j]? = some v → wx.cell? ⟨xb, j, none⟩ = some v := fun j v hj => by rw [cell_of_row _ _ _ _ _ _ hx]; exact hj
  exact ⟨hc 0 _ rfl, hc 1 _ rfl, hc 2 _ rfl, hc 3 _ rfl, hc 4 _ rfl, hc 5 _ rfl, hc 6 _ rfl, hc 7 _ rfl, hc 8 _ rfl⟩)
 have HSA : Hid (∀ wx, Calls Try.prog 51 #[.agg #[.int .i64 x.fin, .int .i64 x.tm, .int .i64 x.tr, .int .i64 x.bm, .int .i64 x.br, .slice p.SA x.sats.length p.sc, .slice p.CA x.custs.length p.cc, .slice p.KA x.cost.length p.kc, .slice p.TA x.time.length p.tc], .int .i64 (s : Int)] wx fun e w' => e = .returned (.int .i64 ((1 + s : Nat) : Int)) ∧ Below wx.heap.size wx w') := Lib.hid (fun wx => satF_any x p s wx hs2)
 have HCU : Hid (∀ wx, Calls Try.prog 52 #[.agg #[.int .i64 x.fin, .int .i64 x.tm, .int .i64 x.tr, .int .i64 x.bm, .int .i64 x.br, .slice p.SA x.sats.length p.sc, .slice p.CA x.custs.length p.cc, .slice p.KA x.cost.length p.kc, .slice p.TA x.time.length p.tc], .int .i64 0] wx fun e w' => e = .returned (.int .i64 ((1 + x.sats.length : Nat) : Int)) ∧ Below wx.heap.size wx w') := Lib.hid (fun wx => custF_any x p wx hs)
 have HIX : Hid (inWays x s i = (decide (i = 1 + s) || decide (1 + x.sats.length ≤ i))) := Lib.hid (by unfold inWays; rw [show decide (1 + x.sats.length ≤ i ∧ i < x.n) = decide (1 + x.sats.length ≤ i) by simp [hi]])
 rw [HIX.out]
 obtain ⟨d0, d1, d2, d3, d4, d5, d6, d7, d8⟩ := HX.out w (Below.refl _ _)
 clear h1
 by_cases c1 : i = 1 + s
 · have HV : Hid ((decide (i = 1 + s) || decide (1 + x.sats.length ≤ i)) = true) := Lib.hid (by rw [decide_eq_true c1]; rfl)
   rw [HV.out]
   have t0 : ((i : Int) == 1 + (s : Int)) = true := by rw [beq_iff_eq]; omega
   clear c1 HV HIX hi
   go_enter Try.func88, Try.ntmps88
   go_wp2_with (go_at_call 51; (with_reducible refine (HSA.out _).mono ?_); rintro e w1 ⟨rfl, hb⟩; have HB := Lib.hid hb; clear hb)
   go_ret
   exact ⟨rfl, HB.out⟩
 · have HV : Hid ((decide (i = 1 + s) || decide (1 + x.sats.length ≤ i)) = decide (1 + x.sats.length ≤ i)) := Lib.hid (by rw [decide_eq_false c1]; rfl)
   rw [HV.out]
   have t0 : ((i : Int) == 1 + (s : Int)) = false := by rw [beq_eq_false_iff_ne]; omega
   obtain ⟨tb, ht⟩ : ∃ t, decide (1 + x.sats.length ≤ i) = t := ⟨_, rfl⟩
   have t1 : decide (1 + (x.sats.length : Int) ≤ (i : Int)) = tb := by rw [← ht]; rw [Bool.eq_iff_iff]; simp; omega
   rw [ht]
   clear c1 HV HIX hi ht
   go_enter Try.func88, Try.ntmps88
   go_wp2_with first
    | (go_at_call 51; (with_reducible refine (HSA.out _).mono ?_); rintro e w1 ⟨rfl, hb⟩; have HB := Lib.hid hb; obtain ⟨e0, e1, e2, e3, e4, e5, e6, e7, e8⟩ := HX.out w1 hb; clear hb)
    | (go_at_call 52; (with_reducible refine (HCU.out _).mono ?_); rintro e w2 ⟨rfl, hb⟩; have HB2 := Lib.hid (HB.out.trans (hb.mono HB.out.size)); clear hb)
   go_ret
   exact ⟨rfl, HB2.out⟩
set_option maxRecDepth 100000 in
theorem there_any (x : InstV) (p : IAt) (s : Int) (w : World) (hI : InstIn w w.heap.size p x) (hL : InstL x) :
 Calls Try.prog 60 #[.agg (x.cells p), .int .i64 s] w fun e w' => e = .returned (.bool (decide (x.code = 0 ∧ 0 ≤ s ∧ s < x.sats.length))) ∧ Below w.heap.size w w' := by
 have hS := (SL.start (Nat.le_refl w.heap.size)).alloc (x.cells p) 39
 have HS := Lib.hid hS
 have HCK : Hid (∀ wx, Below w.heap.size w wx → Calls Try.prog 24 #[.agg #[.int .i64 x.fin, .int .i64 x.tm, .int .i64 x.tr, .int .i64 x.bm, .int .i64 x.br, .slice p.SA x.sats.length p.sc, .slice p.CA x.custs.length p.cc, .slice p.KA x.cost.length p.kc, .slice p.TA x.time.length p.tc]] wx fun e w' => e = .returned (.int .i64 x.code) ∧ Below wx.heap.size wx w') := Lib.hid (fun wx hb => check_any x p wx (hI.at_ hb) hL)
 obtain ⟨cd, hcd⟩ : ∃ c, x.code = c := ⟨_, rfl⟩
 rw [hcd] at HCK ⊢
 have hm := hL.sats
 unfold maxLen at hm
 unfold InstV.cells at HS ⊢
 obtain ⟨xb, hxb⟩ : ∃ b, w.heap.size = b := ⟨_, rfl⟩
 obtain ⟨w0, hw0⟩ : ∃ y, w.alloc (.cells #[.int .i64 x.fin, .int .i64 x.tm, .int .i64 x.tr, .int .i64 x.bm, .int .i64 x.br, .slice p.SA x.sats.length p.sc, .slice p.CA x.custs.length p.cc, .slice p.KA x.cost.length p.kc, .slice p.TA x.time.length p.tc] 39) = y := ⟨_, rfl⟩
 rw [hw0] at HS
 have HS0 : Hid (SL w w.heap.size [.blk xb #[.int .i64 x.fin, .int .i64 x.tm, .int .i64 x.tr, .int .i64 x.bm, .int .i64 x.br, .slice p.SA x.sats.length p.sc, .slice p.CA x.custs.length p.cc, .slice p.KA x.cost.length p.kc, .slice p.TA x.time.length p.tc] 39] w0) := Lib.hid (by rw [← hxb]; exact HS.out)
 have HW := Lib.hid (And.intro hxb hw0)
 clear hS HS hI hL hcd hxb hw0
 have t2 : ∀ (P : Prop) [Decidable P], True := fun _ _ => trivial
 by_cases c1 : cd = 0
 case neg =>
  have HV : Hid (decide (cd = 0 ∧ 0 ≤ s ∧ s < (x.sats.length : Int)) = false) := Lib.hid (decide_eq_false (fun h => c1 h.1))
  rw [HV.out]
  have t0 : (cd == 0) = false := by simpa using c1
  clear HV c1 t2
  go_enter Try.func60, Try.ntmps60
  go_upto_region 1 with fail
  rw [HW.out.2, HW.out.1]
  have d0 : w0.cell? ⟨xb, 0, none⟩ = some (.int .i64 x.fin) := HS0.out.cell 0 rfl 0 rfl
  have d1 : w0.cell? ⟨xb, 1, none⟩ = some (.int .i64 x.tm) := HS0.out.cell 0 rfl 1 rfl
  have d2 : w0.cell? ⟨xb, 2, none⟩ = some (.int .i64 x.tr) := HS0.out.cell 0 rfl 2 rfl
  have d3 : w0.cell? ⟨xb, 3, none⟩ = some (.int .i64 x.bm) := HS0.out.cell 0 rfl 3 rfl
  have d4 : w0.cell? ⟨xb, 4, none⟩ = some (.int .i64 x.br) := HS0.out.cell 0 rfl 4 rfl
  have d5 : w0.cell? ⟨xb, 5, none⟩ = some (.slice p.SA x.sats.length p.sc) := HS0.out.cell 0 rfl 5 rfl
  have d6 : w0.cell? ⟨xb, 6, none⟩ = some (.slice p.CA x.custs.length p.cc) := HS0.out.cell 0 rfl 6 rfl
  have d7 : w0.cell? ⟨xb, 7, none⟩ = some (.slice p.KA x.cost.length p.kc) := HS0.out.cell 0 rfl 7 rfl
  have d8 : w0.cell? ⟨xb, 8, none⟩ = some (.slice p.TA x.time.length p.tc) := HS0.out.cell 0 rfl 8 rfl
  go_wp2_with (go_at_call 24; (with_reducible refine (HCK.out _ HS0.out.below).mono ?_); rintro e w1 ⟨rfl, hb⟩; have HS1 := Lib.hid (HS0.out.call hb); clear hb)
  go_ret
  exact ⟨rfl, HS1.out.below⟩
 case pos =>
 subst c1
 by_cases c2 : 0 ≤ s
 case neg =>
  have HV : Hid (decide ((0 : Int) = 0 ∧ 0 ≤ s ∧ s < (x.sats.length : Int)) = false) := Lib.hid (decide_eq_false (fun h => c2 h.2.1))
  rw [HV.out]
  have t0 : decide (0 ≤ s) = false := decide_eq_false c2
  clear HV c2 t2
  go_enter Try.func60, Try.ntmps60
  go_upto_region 1 with fail
  rw [HW.out.2, HW.out.1]
  have d0 : w0.cell? ⟨xb, 0, none⟩ = some (.int .i64 x.fin) := HS0.out.cell 0 rfl 0 rfl
  have d1 : w0.cell? ⟨xb, 1, none⟩ = some (.int .i64 x.tm) := HS0.out.cell 0 rfl 1 rfl
  have d2 : w0.cell? ⟨xb, 2, none⟩ = some (.int .i64 x.tr) := HS0.out.cell 0 rfl 2 rfl
  have d3 : w0.cell? ⟨xb, 3, none⟩ = some (.int .i64 x.bm) := HS0.out.cell 0 rfl 3 rfl
  have d4 : w0.cell? ⟨xb, 4, none⟩ = some (.int .i64 x.br) := HS0.out.cell 0 rfl 4 rfl
  have d5 : w0.cell? ⟨xb, 5, none⟩ = some (.slice p.SA x.sats.length p.sc) := HS0.out.cell 0 rfl 5 rfl
  have d6 : w0.cell? ⟨xb, 6, none⟩ = some (.slice p.CA x.custs.length p.cc) := HS0.out.cell 0 rfl 6 rfl
  have d7 : w0.cell? ⟨xb, 7, none⟩ = some (.slice p.KA x.cost.length p.kc) := HS0.out.cell 0 rfl 7 rfl
  have d8 : w0.cell? ⟨xb, 8, none⟩ = some (.slice p.TA x.time.length p.tc) := HS0.out.cell 0 rfl 8 rfl
  go_wp2_with (go_at_call 24; (with_reducible refine (HCK.out _ HS0.out.below).mono ?_); rintro e w1 ⟨rfl, hb⟩; have HS1 := Lib.hid (HS0.out.call hb); clear hb)
  go_ret
  exact ⟨rfl, HS1.out.below⟩
 case pos =>
 have HV : Hid (decide ((0 : Int) = 0 ∧ 0 ≤ s ∧ s < (x.sats.length : Int)) = decide (s < (x.sats.length : Int))) := Lib.hid (by simp [c2])
 rw [HV.out]
 have t0 : decide (0 ≤ s) = true := decide_eq_true c2
 obtain ⟨tb, ht⟩ : ∃ t, decide (s < (x.sats.length : Int)) = t := ⟨_, rfl⟩
 rw [ht]
 clear HV t2 c2
 go_enter Try.func60, Try.ntmps60
 go_upto_region 1 with fail
 rw [HW.out.2, HW.out.1]
 have d0 : w0.cell? ⟨xb, 0, none⟩ = some (.int .i64 x.fin) := HS0.out.cell 0 rfl 0 rfl
 have d1 : w0.cell? ⟨xb, 1, none⟩ = some (.int .i64 x.tm) := HS0.out.cell 0 rfl 1 rfl
 have d2 : w0.cell? ⟨xb, 2, none⟩ = some (.int .i64 x.tr) := HS0.out.cell 0 rfl 2 rfl
 have d3 : w0.cell? ⟨xb, 3, none⟩ = some (.int .i64 x.bm) := HS0.out.cell 0 rfl 3 rfl
 have d4 : w0.cell? ⟨xb, 4, none⟩ = some (.int .i64 x.br) := HS0.out.cell 0 rfl 4 rfl
 have d5 : w0.cell? ⟨xb, 5, none⟩ = some (.slice p.SA x.sats.length p.sc) := HS0.out.cell 0 rfl 5 rfl
 have d6 : w0.cell? ⟨xb, 6, none⟩ = some (.slice p.CA x.custs.length p.cc) := HS0.out.cell 0 rfl 6 rfl
 have d7 : w0.cell? ⟨xb, 7, none⟩ = some (.slice p.KA x.cost.length p.kc) := HS0.out.cell 0 rfl 7 rfl
 have d8 : w0.cell? ⟨xb, 8, none⟩ = some (.slice p.TA x.time.length p.tc) := HS0.out.cell 0 rfl 8 rfl
 go_wp2_with (go_at_call 24; (with_reducible refine (HCK.out _ HS0.out.below).mono ?_); rintro e w1 ⟨rfl, hb⟩
              have HS1 : Hid (SL w w.heap.size [.blk xb #[.int .i64 x.fin, .int .i64 x.tm, .int .i64 x.tr, .int .i64 x.bm, .int .i64 x.br, .slice p.SA x.sats.length p.sc, .slice p.CA x.custs.length p.cc, .slice p.KA x.cost.length p.kc, .slice p.TA x.time.length p.tc] 39] w1) := Lib.hid (HS0.out.call hb)
              have d5' : w1.cell? ⟨xb, 5, none⟩ = some (.slice p.SA x.sats.length p.sc) := HS1.out.cell 0 rfl 5 rfl
              clear hb)
 go_ret
 exact ⟨rfl, HS1.out.below⟩
end Go.Proofs.Ytjpejclfppbboaa
