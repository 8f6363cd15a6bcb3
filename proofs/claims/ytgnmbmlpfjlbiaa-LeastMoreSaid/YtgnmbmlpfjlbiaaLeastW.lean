/- slices.ContainsFunc with least.Least's closure: does a pipe cost less than nothing, or too much? The walk of least.Least. -/
import Derived.Test.YtgnmbmlpfjlbiaaOptM
import Derived.Test.YtgnmbmlpfjlbiaaRows
import Derived.Outline
import Derived.Test.YtgnmbmlpfjlbiaaPush
namespace Go.Proofs.Ytgnmbmlpfjlbiaa
open Go.ChangeShapes Go.WideShapes Go.ChangeAt Go.RowKit
set_option linter.unusedVariables false
def badC (c : Int) : Bool := decide (c < 0 ∨ 4294967296 < c)
theorem dear_call (fr tt room cost : Int) (w : World) : Calls Try.prog 35 #[.agg #[.int .i64 fr, .int .i64 tt, .int .i64 room, .int .i64 cost]] w fun e w' => e = .returned (.bool (badC cost)) ∧ Below w.heap.size w w' := by
  have HB := Lib.hid ((SL.start (Nat.le_refl w.heap.size)).alloc #[.int .i64 fr, .int .i64 tt, .int .i64 room, .int .i64 cost] 40).below
  by_cases h1 : cost < 0
  · have e : badC cost = true := decide_eq_true (.inl h1)
    have d1 : decide (cost < 0) = true := decide_eq_true h1
    rw [e]
    clear e
    go_enter Try.func35, Try.ntmps35
    go_wp2_with fail
    go_ret
    exact ⟨rfl, HB.out⟩
  · have d1 : decide (cost < 0) = false := decide_eq_false h1
    by_cases h2 : 4294967296 < cost
    · have e : badC cost = true := decide_eq_true (.inr h2)
      have d2 : decide (4294967296 < cost) = true := decide_eq_true h2
      rw [e]
      clear e
      go_enter Try.func35, Try.ntmps35
      go_wp2_with fail
      go_ret
      exact ⟨rfl, HB.out⟩
    · have e : badC cost = false := decide_eq_false (by omega)
      have d2 : decide (4294967296 < cost) = false := decide_eq_false h2
      rw [e]
      clear e
      go_enter Try.func35, Try.ntmps35
      go_wp2_with fail
      go_ret
      exact ⟨rfl, HB.out⟩
set_option maxHeartbeats 2000000 in
theorem index_dear (A : Option Addr) (c : Nat) (l : List PipeV) (w : World) (hr : Pipes w w.heap.size A l) (hl : l.length ≤ 20000) :
    Calls Try.prog 40 #[.slice A l.length c, .func (.func 35) #[] #[]] w fun e w' => (∃ i : Int, e = .returned (.int .i64 i) ∧ (0 ≤ i ↔ ∃ p ∈ l, badC p.cost = true)) ∧ Below w.heap.size w w' := by
  have HR := Lib.hid hr
  clear hr
  have hcf : ∀ args w', (callFunc 35 args).run Try.prog w' = .ok (.enter 35 args) w' := fun _ _ => by simp [go_sem]
  go_enter Try.func40, Try.ntmps40
  go_wp2
  go_loopw [8] (fun i wr => ∃ k : Nat, k ≤ l.length ∧ i = .int .i64 k ∧ Hid (∀ j, ∀ h : j < l.length, j < k → badC l[j].cost = false) ∧ Below w.heap.size w wr) (fun i _ => l.length - (intOf i).toNat)
  case atStart => exact ⟨0, by omega, rfl, Lib.hid fun j h hj => absurd hj (by omega), Below.refl _ _⟩
  case round =>
    obtain ⟨k, hk, rfl, HZ, hB⟩ := hrel
    by_cases hlt : k < l.length
    · obtain ⟨b, o, rfl, hb, d0, d1, d2, d3⟩ := pipes_at HR.out hlt
      have e0 := (hB.cell hb).trans d0
      have e1 := (hB.cell hb).trans d1
      have e2 := (hB.cell hb).trans d2
      have e3 := (hB.cell hb).trans d3
      clear d0 d1 d2 d3
      obtain ⟨fr, hfr⟩ : ∃ x, l[k].fr = x := ⟨_, rfl⟩
      obtain ⟨tt, htt⟩ : ∃ x, l[k].to = x := ⟨_, rfl⟩
      obtain ⟨rm, hrm⟩ : ∃ x, l[k].room = x := ⟨_, rfl⟩
      obtain ⟨ct, hct⟩ : ∃ x, l[k].cost = x := ⟨_, rfl⟩
      have HX : Hid (l[k].cost = ct) := Lib.hid hct
      rw [hfr] at e0
      rw [htt] at e1
      rw [hrm] at e2
      rw [hct] at e3
      clear hfr htt hrm hct
      have HBw := Lib.hid hB
      cases hn : badC ct
      · have HC := Lib.hid (dear_call fr tt rm ct)
        rw [hn] at HC
        have HN := Lib.hid hn
        clear hB hn
        go_wp2_with (go_at_call 35; (with_reducible refine (HC.out _).mono ?_); rintro e w5 ⟨rfl, hb5⟩; have HB5 := Lib.hid (HBw.out.trans (hb5.mono HBw.out.size)); clear hb5)
        go_roundw
        case rel => exact ⟨k + 1, by omega, by go_num, Lib.hid fun j h hj => by
          by_cases e : j = k
          · subst e; rw [HX.out]; exact HN.out
          · exact HZ.out j h (by omega), HB5.out⟩
        case measure => simp [intOf]; omega
      · have HC := Lib.hid (dear_call fr tt rm ct)
        rw [hn] at HC
        have HN := Lib.hid hn
        clear hB hn
        go_wp2_with (go_at_call 35; (with_reducible refine (HC.out _).mono ?_); rintro e w5 ⟨rfl, hb5⟩; have HB5 := Lib.hid (HBw.out.trans (hb5.mono HBw.out.size)); clear hb5)
        go_ret
        exact ⟨⟨k, rfl, ⟨fun _ => ⟨l[k], List.getElem_mem hlt, by rw [HX.out]; exact HN.out⟩, fun _ => by omega⟩⟩, HB5.out⟩
    · obtain rfl : k = l.length := by omega
      have HBw := Lib.hid hB
      clear hB
      go_wp2
      go_ret
      refine ⟨⟨-1, rfl, ⟨fun h => by omega, fun ⟨x, hx, hne⟩ => ?_⟩⟩, HBw.out⟩
      obtain ⟨j, hj, rfl⟩ := List.getElem_of_mem hx
      rw [HZ.out j hj hj] at hne
      cases hne
theorem contains_dear (A : Option Addr) (c : Nat) (l : List PipeV) (w : World) (hr : Pipes w w.heap.size A l) (hl : l.length ≤ 20000) :
    Calls Try.prog 34 #[.slice A l.length c, .func (.func 35) #[] #[]] w fun e w' => (∃ b : Bool, e = .returned (.bool b) ∧ (b = true ↔ ∃ p ∈ l, badC p.cost = true)) ∧ Below w.heap.size w w' := by
  have HR := Lib.hid (index_dear A c l w hr hl)
  clear hr
  go_enter Try.func34, Try.ntmps34
  go_wp2_with (go_at_call 40; (with_reducible refine HR.out.mono ?_); rintro e w5 ⟨⟨i, rfl, hi⟩, hb⟩; have HI := Lib.hid (And.intro hi hb); clear hi hb)
  go_ret
  exact ⟨⟨_, rfl, by rw [← HI.out.1]; simp⟩, HI.out.2⟩
end Go.Proofs.Ytgnmbmlpfjlbiaa
namespace Go.Proofs.Ytgnmbmlpfjlbiaa
open Go.ChangeShapes Go.WideShapes Go.ChangeAt Go.RowKit
set_option linter.unusedVariables false
def NoRes : Value := .agg #[.slice none 0 0, .int .i64 0, .slice none 0 0]
/-- Which error comes first, but for ErrNone. -/
def leastE (N : Int) (ps : List PipeV) (s t want : Int) : Int := if endsP N ps s t ≠ 0 then endsP N ps s t else if want < 0 ∨ 10000 < want ∨ ∃ p ∈ ps, badC p.cost = true then 2 else 0
set_option maxHeartbeats 4000000 in
theorem least_bad (N : Int) (A : Option Addr) (cap : Nat) (ps : List PipeV) (s t want : Int) (w : World) (hr : Pipes w w.heap.size A ps) (hl : ps.length ≤ maxLen) (he : leastE N ps s t want ≠ 0) :
    Calls Try.prog 25 #[.agg #[.int .i64 N, .slice A ps.length cap], .int .i64 s, .int .i64 t, .int .i64 want] w fun e w' => e = .returned (.tuple #[NoRes, .int .i64 (leastE N ps s t want)]) ∧ Below w.heap.size w w' := by
  have hS0 := ((SL.start (Nat.le_refl w.heap.size)).alloc #[.int .i64 N, .slice A ps.length cap] 26).alloc #[.slice none 0 0, .int .i64 0, .slice none 0 0] 49
  have e1 : (w.alloc (.cells #[.int .i64 N, .slice A ps.length cap] 26)).heap.size = w.heap.size + 1 := Array.size_push _
  rw [e1] at hS0
  have HR : Hid (∀ (rs : List Rs) w', SL w w.heap.size rs w' → Pipes w' w'.heap.size A ps) := Lib.hid (fun rs w' h => reads_more (Reads.below hr h.below) h.below.size)
  have HL := Lib.hid hl
  clear hr hl e1
  by_cases h1 : endsP N ps s t ≠ 0
  · have hle : leastE N ps s t want = endsP N ps s t := if_pos h1
    rw [hle] at he ⊢
    obtain ⟨C, hC⟩ : ∃ C, C = endsP N ps s t := ⟨_, rfl⟩
    rw [← hC] at he ⊢
    have HC := Lib.hid hC
    have hz : (C != 0) = true := by simpa using he
    clear hC he h1 hle
    go_enter Try.func25, Try.ntmps25
    go_upto_region 1 with fail
    generalize ((w.alloc (.cells #[.int .i64 N, .slice A ps.length cap] 26)).alloc (.cells #[.slice none 0 0, .int .i64 0, .slice none 0 0] 49)) = w0 at *
    obtain ⟨zb, hzb⟩ : ∃ zb, zb = w.heap.size + 1 := ⟨_, rfl⟩
    rw [← hzb] at hS0 ⊢
    clear hzb
    have c0 : w0.cell? ⟨w.heap.size, 0, none⟩ = some (.int .i64 N) := hS0.cell 1 rfl 0 rfl
    have c1 : w0.cell? ⟨w.heap.size, 1, none⟩ = some (.slice A ps.length cap) := hS0.cell 1 rfl 1 rfl
    have HS0 := Lib.hid hS0
    clear hS0
    go_upto_region 3 with (go_at_call 23; (with_reducible refine (endsP_any _ _ _ _ _ _ _ (HR.out _ _ HS0.out) HL.out).mono ?_); rintro e w2 ⟨rfl, hB⟩; rw [← HC.out]
                           have HS1 := Lib.hid (HS0.out.call hB)
                           clear hB c0 c1)
    go_wp2_with (refine wpList_store_abs rfl 49 (.tmp 8) (.tmp 19) rfl rfl zb #[.slice none 0 0, .int .i64 0, .slice none 0 0] rfl rfl _ _ (HS1.out.blk 0 rfl) (by kernel_rfl) rfl (by simp [Value.oneCell']) ?_; intro w5 ho5 hh5; have HU := Lib.hid (HS1.out.only 0 rfl ho5 hh5); clear ho5 hh5)
    exact retArr2 rfl _ _ zb 49 _ _ _ rfl rfl (HU.out.blk 0 rfl) Try.underlying49 rfl (by kernel_rfl) ⟨rfl, HU.out.below⟩
  · have h1' : endsP N ps s t = 0 := by omega
    have h2 : want < 0 ∨ 10000 < want ∨ ∃ p ∈ ps, badC p.cost = true := by
      unfold leastE at he
      rw [if_neg h1] at he
      by_cases h : want < 0 ∨ 10000 < want ∨ ∃ p ∈ ps, badC p.cost = true
      · exact h
      · rw [if_neg h] at he; exact absurd rfl he
    have hle : leastE N ps s t want = 2 := by unfold leastE; rw [if_neg h1, if_pos h2]
    rw [hle]
    have hlen : ps.length ≤ 20000 := by
      have hck : checkP N ps = 0 := by
        unfold endsP at h1'
        split at h1'
        · omega
        · omega
      exact (checkP_ok hck).2.2.1
    have HE := Lib.hid (And.intro h1' (And.intro h2 hlen))
    clear he hle h1 h1' h2 hlen
    have hz : ((0 : Int) != 0) = false := rfl
    go_enter Try.func25, Try.ntmps25
    go_upto_region 1 with fail
    generalize ((w.alloc (.cells #[.int .i64 N, .slice A ps.length cap] 26)).alloc (.cells #[.slice none 0 0, .int .i64 0, .slice none 0 0] 49)) = w0 at *
    obtain ⟨zb, hzb⟩ : ∃ zb, zb = w.heap.size + 1 := ⟨_, rfl⟩
    rw [← hzb] at hS0 ⊢
    clear hzb
    have c0 : w0.cell? ⟨w.heap.size, 0, none⟩ = some (.int .i64 N) := hS0.cell 1 rfl 0 rfl
    have c1 : w0.cell? ⟨w.heap.size, 1, none⟩ = some (.slice A ps.length cap) := hS0.cell 1 rfl 1 rfl
    have HS0 := Lib.hid hS0
    clear hS0
    go_upto_region 4 with (go_at_call 23; (with_reducible refine (endsP_any _ _ _ _ _ _ _ (HR.out _ _ HS0.out) HL.out).mono ?_); rintro e w2 ⟨rfl, hB⟩; rw [HE.out.1]
                           have HS1 := Lib.hid (HS0.out.call hB)
                           have c2 : w2.cell? ⟨w.heap.size, 1, none⟩ = some (.slice A ps.length cap) := HS1.out.cell 1 rfl 1 rfl
                           clear hB c0 c1)
    by_cases g1 : want < 0
    · have g1d : decide (want < 0) = true := decide_eq_true g1
      go_wp2_with (refine wpList_store_abs rfl 49 (.tmp 8) (.tmp 32) rfl rfl zb #[.slice none 0 0, .int .i64 0, .slice none 0 0] rfl rfl _ _ (HS1.out.blk 0 rfl) (by kernel_rfl) rfl (by simp [Value.oneCell']) ?_; intro w5 ho5 hh5; have HU := Lib.hid (HS1.out.only 0 rfl ho5 hh5); clear ho5 hh5)
      exact retArr2 rfl _ _ zb 49 _ _ _ rfl rfl (HU.out.blk 0 rfl) Try.underlying49 rfl (by kernel_rfl) ⟨rfl, HU.out.below⟩
    · have g1d : decide (want < 0) = false := decide_eq_false g1
      by_cases g2 : 10000 < want
      · have g2d : decide (10000 < want) = true := decide_eq_true g2
        go_wp2_with (refine wpList_store_abs rfl 49 (.tmp 8) (.tmp 32) rfl rfl zb #[.slice none 0 0, .int .i64 0, .slice none 0 0] rfl rfl _ _ (HS1.out.blk 0 rfl) (by kernel_rfl) rfl (by simp [Value.oneCell']) ?_; intro w5 ho5 hh5; have HU := Lib.hid (HS1.out.only 0 rfl ho5 hh5); clear ho5 hh5)
        exact retArr2 rfl _ _ zb 49 _ _ _ rfl rfl (HU.out.blk 0 rfl) Try.underlying49 rfl (by kernel_rfl) ⟨rfl, HU.out.below⟩
      · have g2d : decide (10000 < want) = false := decide_eq_false g2
        have HX : Hid (∃ p ∈ ps, badC p.cost = true) := Lib.hid (by rcases HE.out.2.1 with h | h | h; · exact absurd h g1
                                                                    · exact absurd h g2
                                                                    · exact h)
        have HCD := Lib.hid (contains_dear A cap ps w2 (HR.out _ _ HS1.out) HE.out.2.2)
        go_wp2_with (first
          | (go_at_call 34; (with_reducible refine HCD.out.mono ?_); rintro e w3 ⟨⟨b, rfl, hb⟩, hB⟩
             obtain rfl : b = true := hb.2 HX.out
             have HS2 := Lib.hid (HS1.out.call hB)
             clear hB hb c2)
          | (refine wpList_store_abs rfl 49 (.tmp 8) (.tmp 32) rfl rfl zb #[.slice none 0 0, .int .i64 0, .slice none 0 0] rfl rfl _ _ (HS2.out.blk 0 rfl) (by kernel_rfl) rfl (by simp [Value.oneCell']) ?_; intro w5 ho5 hh5; have HU := Lib.hid (HS2.out.only 0 rfl ho5 hh5); clear ho5 hh5))
        exact retArr2 rfl _ _ zb 49 _ _ _ rfl rfl (HU.out.blk 0 rfl) Try.underlying49 rfl (by kernel_rfl) ⟨rfl, HU.out.below⟩
end Go.Proofs.Ytgnmbmlpfjlbiaa
