/- law17.at: one of some numbers, round and round. What law17.Draft drafts, as plain functions. No program in sight. -/
import Derived.Test.YtpbhbmdghafkmaaIarr
import Derived.Test.YtpbhbmdghafkmaaNest
import Derived.Test.YtpbhbmdghafkmaaRows
import Derived.Test.YtpbhbmdghafkmaaPlanPJ
import Derived.Test.YtpbhbmdghafkmaaMakeM
namespace Go.Proofs.Ytpbhbmdghafkmaa
open Go.ChangeShapes Go.WideShapes Go.ChangeAt Go.RowKit
set_option linter.unusedVariables false
def atM (l : List Int) (i : Nat) : Int := if l.length = 0 then 0 else l.getD (i % l.length) 0
theorem atM_in {l : List Int} (h : ∀ n ∈ l, 0 ≤ n ∧ n ≤ 255) (i : Nat) : 0 ≤ atM l i ∧ atM l i ≤ 255 := by
 unfold atM
 split
 · omega
 · rename_i h0
   have hlt : i % l.length < l.length := Nat.mod_lt _ (by omega)
   rw [List.getD_eq_getElem?_getD, List.getElem?_eq_getElem hlt]
   exact h _ (List.getElem_mem hlt)
theorem u8s_at {w : World} {B : Nat} {A : Option Addr} {l : List Int} (h : Reads w B 1 A l.length (l.map (.int .u8))) {k : Nat} (hk : k < l.length) : ∃ b o, A = some ⟨b, o, none⟩ ∧ b < B ∧ w.cell? ⟨b, o + k, none⟩ = some (.int .u8 l[k]) := by
 obtain ⟨b, o, e, hb, hc⟩ := reads_plain h (by omega) (by decide)
 exact ⟨b, o, e, hb, hc k _ (by simp [hk])⟩
set_option maxRecDepth 100000 in
set_option maxHeartbeats 2000000 in
theorem at17_any (A : Option Addr) (c i : Nat) (l : List Int) (w : World) (h : Reads w w.heap.size 1 A l.length (l.map (.int .u8))) (hu : ∀ n ∈ l, 0 ≤ n ∧ n ≤ 255) (hl : l.length ≤ maxLen) (hi : i ≤ 1000000) :
 Calls Try.prog 47 #[.slice A l.length c, .int .i64 i] w fun e w' => e = .returned (.int .i64 (atM l i)) ∧ w = w' := by
 unfold maxLen at hl
 obtain ⟨N, hN⟩ : ∃ N, l.length = N := ⟨_, rfl⟩
 have HN := Lib.hid hN
 have HA : Hid (atM l i = if N = 0 then 0 else l.getD (i % N) 0) := Lib.hid (by unfold atM; rw [hN])
 obtain ⟨r, hr⟩ : ∃ r, atM l i = r := ⟨_, rfl⟩
 rw [hr] at HA ⊢
 rw [hN] at hl ⊢
 by_cases h0 : N = 0
 · have HR : Hid (r = 0) := Lib.hid (by rw [HA.out, if_pos h0])
   clear h hu hN hr
   subst h0
   go_enter Try.func47, Try.ntmps47
   go_wp2_with fail
   go_ret
   exact ⟨by rw [HR.out]; rfl, rfl⟩
 · obtain ⟨j, hj⟩ : ∃ j, i % N = j := ⟨_, rfl⟩
   have hjN : j < N := by rw [← hj]; exact Nat.mod_lt _ (by omega)
   have hjl : j < l.length := by omega
   obtain ⟨b, o, hA, hb, hc⟩ := u8s_at h hjl
   have HR : Hid (r = l[j]) := Lib.hid (by rw [HA.out, if_neg h0, hj]; simp [hjl])
   have hin := hu _ (List.getElem_mem hjl)
   obtain ⟨u, hue⟩ : ∃ u, l[j] = u := ⟨_, rfl⟩
   rw [hue] at hc HR hin
   subst hA
   have hmod : (i : Int) % (N : Int) = (j : Int) := by rw [← hj]; exact (Int.natCast_emod i N).symm
   have hmt : (i : Int).tmod (N : Int) = (j : Int) := by rw [Int.tmod_eq_emod_of_nonneg (by omega)]; exact hmod
   have hN0 : ((N : Int) == 0) = false := by rw [beq_eq_false_iff_ne]; omega
   have hN1 : (1 : Int) ≤ (N : Int) := by omega
   clear h hu hN hr hj hue h0 HA
   go_enter Try.func47, Try.ntmps47
   go_wp2_with fail
   go_ret
   exact ⟨by rw [HR.out]; rfl, rfl⟩
end Go.Proofs.Ytpbhbmdghafkmaa
namespace Go.Proofs.Ytpbhbmdghafkmaa
open Go.ChangeShapes Go.WideShapes Go.ChangeAt Go.RowKit
set_option linter.unusedVariables false
theorem all_mem_le {b : BikeV} : ∀ {bs : List BikeV}, b ∈ bs → b.stops.length ≤ (allStops bs).length
 | x :: bs, h => by
   have e : allStops (x :: bs) = x.stops ++ allStops bs := rfl
   rw [e, List.length_append]
   rcases List.mem_cons.1 h with rfl | h
   · omega
   · have := all_mem_le h; omega
structure WishV where
 sats : List Int
 order : List Int
 cuts : List Int
structure WishV.ok (w : WishV) : Prop where
 sats : ∀ n ∈ w.sats, 0 ≤ n ∧ n ≤ 255
 order : ∀ n ∈ w.order, 0 ≤ n ∧ n ≤ 255
 cuts : ∀ n ∈ w.cuts, 0 ≤ n ∧ n ≤ 255
structure WishV.L (w : WishV) : Prop where
 sats : w.sats.length ≤ maxLen
 order : w.order.length ≤ maxLen
 cuts : w.cuts.length ≤ maxLen
def ordP (o : List Int) (k : Nat) : Nat := (atM o k % ((k : Int) + 1)).toNat
def orderM (o : List Int) : Nat → List Int
 | 0 => []
 | k + 1 => (orderM o k).take (ordP o k) ++ [(k : Int)] ++ (orderM o k).drop (ordP o k)
theorem ordP_le (o : List Int) (k : Nat) : ordP o k ≤ k := by
 unfold ordP
 have := Int.emod_lt_of_pos (atM o k) (show (0 : Int) < (k : Int) + 1 by omega)
 omega
theorem orderM_len (o : List Int) : ∀ k, (orderM o k).length = k
 | 0 => rfl
 | k + 1 => by
   have ih := orderM_len o k
   have h := ordP_le o k
   unfold orderM
   simp only [List.length_append, List.length_take, List.length_drop, List.length_cons, List.length_nil, ih]
   omega
theorem orderM_in (o : List Int) : ∀ k, ∀ c ∈ orderM o k, 0 ≤ c ∧ c < k
 | 0, c, h => by simp [orderM] at h
 | k + 1, c, h => by
   unfold orderM at h
   simp only [List.mem_append, List.mem_singleton] at h
   have key : c ∈ orderM o k ∨ c = k := by
    rcases h with (h | h) | h
    · exact .inl (List.mem_of_mem_take h)
    · exact .inr h
    · exact .inl (List.mem_of_mem_drop h)
   rcases key with h | rfl
   · have := orderM_in o k c h; omega
   · omega
def lastK (bs : List BikeV) (s : Int) : Nat → Int
 | 0 => -1
 | k + 1 => if (bs.getD k noBike).sat = s then (k : Int) else lastK bs s k
theorem lastK_in (bs : List BikeV) (s : Int) : ∀ k, -1 ≤ lastK bs s k ∧ lastK bs s k < k
 | 0 => by simp [lastK]
 | k + 1 => by
   have ih := lastK_in bs s k
   unfold lastK
   split <;> omega
def satM (x : InstV) (w : WishV) (c : Nat) : Nat := (atM w.sats c % (x.sats.length : Int)).toNat
def sumK (x : InstV) (l : List Int) : Nat → Int
 | 0 => 0
 | k + 1 => sumK x l k + custLoad x.custs (l.getD k 0)
def joinB (x : InstV) (w : WishV) (bs : List BikeV) (i : Nat) (c : Nat) (k : Int) : Bool :=
 decide (0 ≤ k) && (decide (0 < atM w.cuts i % 4) && decide (custLoad x.custs c + sumK x (bs.getD k.toNat noBike).stops (bs.getD k.toNat noBike).stops.length ≤ x.br))
def bikeStep (x : InstV) (w : WishV) (i : Nat) (c : Nat) (bs : List BikeV) : List BikeV :=
 if joinB x w bs i c (lastK bs (satM x w c) bs.length) = true then
  bs.set (lastK bs (satM x w c) bs.length).toNat ⟨(bs.getD (lastK bs (satM x w c) bs.length).toNat noBike).sat, (bs.getD (lastK bs (satM x w c) bs.length).toNat noBike).stops ++ [(c : Int)]⟩
 else bs ++ [⟨(satM x w c : Nat), [(c : Int)]⟩]
def bikesM (x : InstV) (w : WishV) (ord : List Int) : Nat → List BikeV
 | 0 => []
 | i + 1 => bikeStep x w i (ord.getD i 0).toNat (bikesM x w ord i)
def loadsM (x : InstV) (w : WishV) (ord : List Int) : Nat → Nat → Int
 | 0 => fun _ => 0
 | i + 1 => addAt (loadsM x w ord i) (satM x w (ord.getD i 0).toNat) (custLoad x.custs (ord.getD i 0))
theorem satM_lt {x : InstV} (w : WishV) (c : Nat) (h : 0 < x.sats.length) : satM x w c < x.sats.length := by
 unfold satM
 have h1 := Int.emod_lt_of_pos (atM w.sats c) (show (0 : Int) < (x.sats.length : Int) by omega)
 have h2 := Int.emod_nonneg (atM w.sats c) (show (x.sats.length : Int) ≠ 0 by omega)
 omega
theorem custLoad_in {x : InstV} (hx : ∀ c ∈ x.custs, 1 ≤ c.load ∧ c.load ≤ 20) (c : Int) : 0 ≤ custLoad x.custs c ∧ custLoad x.custs c ≤ 20 := by
 unfold custLoad
 by_cases h : c.toNat < x.custs.length
 · rw [List.getD_eq_getElem?_getD, List.getElem?_eq_getElem h]
   have := hx _ (List.getElem_mem h)
   simp only [Option.getD_some]
   omega
 · rw [List.getD_eq_getElem?_getD, List.getElem?_eq_none (by omega)]
   simp [noCust]
theorem sumK_in {x : InstV} (hx : ∀ c ∈ x.custs, 1 ≤ c.load ∧ c.load ≤ 20) (l : List Int) : ∀ k, 0 ≤ sumK x l k ∧ sumK x l k ≤ 20 * k
 | 0 => by simp [sumK]
 | k + 1 => by
   have ih := sumK_in hx l k
   have := custLoad_in hx (l.getD k 0)
   unfold sumK
   omega
theorem loadsM_in {x : InstV} (hx : ∀ c ∈ x.custs, 1 ≤ c.load ∧ c.load ≤ 20) (w : WishV) (ord : List Int) : ∀ i s, 0 ≤ loadsM x w ord i s ∧ loadsM x w ord i s ≤ 20 * i
 | 0, s => by simp [loadsM]
 | i + 1, s => by
   have ih := loadsM_in hx w ord i s
   have := custLoad_in hx (ord.getD i 0)
   unfold loadsM addAt
   split
   · rename_i h; subst h; omega
   · omega
/-- What all bikes of a draft keep. -/
structure BikesI (x : InstV) (bs : List BikeV) (i : Nat) : Prop where
 len : bs.length ≤ i
 stops : (allStops bs).length ≤ i
 sat : ∀ b ∈ bs, 0 ≤ b.sat ∧ b.sat < x.sats.length
 cust : ∀ b ∈ bs, ∀ c ∈ b.stops, 0 ≤ c ∧ c < x.custs.length
theorem allSet : ∀ (bs : List BikeV) (k : Nat) (h : k < bs.length) (s : Int) (l : List Int), (allStops (bs.set k ⟨s, bs[k].stops ++ l⟩)).length = (allStops bs).length + l.length
 | b :: bs, 0, h, s, l => by
   have e : ∀ (b : BikeV) (bs : List BikeV), allStops (b :: bs) = b.stops ++ allStops bs := fun _ _ => rfl
   show (allStops (_ :: bs)).length = _
   simp only [e, List.length_append, List.getElem_cons_zero]
   omega
 | b :: bs, k + 1, h, s, l => by
   have e : ∀ (b : BikeV) (bs : List BikeV), allStops (b :: bs) = b.stops ++ allStops bs := fun _ _ => rfl
   have ih := allSet bs k (by simpa using h) s l
   simp only [List.set_cons_succ, e, List.length_append, List.getElem_cons_succ] at ih ⊢
   rw [ih]
   omega
theorem BikesI.step {x : InstV} {w : WishV} {bs : List BikeV} {i c : Nat} (h : BikesI x bs i) (hs : 0 < x.sats.length) (hc : c < x.custs.length) : BikesI x (bikeStep x w i c bs) (i + 1) := by
 have hl := lastK_in bs (satM x w c) bs.length
 have hsl := satM_lt w c hs
 unfold bikeStep
 split
 · rename_i hj
   unfold joinB at hj
   simp only [Bool.and_eq_true, decide_eq_true_eq] at hj
   have hk : (lastK bs (satM x w c) bs.length).toNat < bs.length := by omega
   rw [List.getD_eq_getElem?_getD, List.getElem?_eq_getElem hk, Option.getD_some]
   refine ⟨by rw [List.length_set]; have := h.len; omega, by rw [allSet bs _ hk]; have := h.stops; simp; omega, fun b hb => ?_, fun b hb d hd => ?_⟩
   · rcases List.mem_or_eq_of_mem_set hb with hb | rfl
     · exact h.sat b hb
     · have := h.sat _ (List.getElem_mem hk)
       simpa using this
   · rcases List.mem_or_eq_of_mem_set hb with hb | rfl
     · exact h.cust b hb d hd
     · simp only [List.mem_append, List.mem_singleton] at hd
       rcases hd with hd | rfl
       · exact h.cust _ (List.getElem_mem hk) d hd
       · omega
 · refine ⟨by rw [List.length_append]; have := h.len; simp; omega, by unfold allStops; rw [List.flatMap_append]; have := h.stops; unfold allStops at this; simp only [List.length_append, List.flatMap_cons, List.flatMap_nil, List.append_nil, List.length_cons, List.length_nil]; omega, fun b hb => ?_, fun b hb d hd => ?_⟩
   · rcases List.mem_append.1 hb with hb | hb
     · exact h.sat b hb
     · simp only [List.mem_singleton] at hb; subst hb; simp only; omega
   · rcases List.mem_append.1 hb with hb | hb
     · exact h.cust b hb d hd
     · simp only [List.mem_singleton] at hb; subst hb
       simp only [List.mem_singleton] at hd; omega
theorem bikesM_in {x : InstV} (w : WishV) {ord : List Int} (hs : 0 < x.sats.length) (ho : ∀ c ∈ ord, 0 ≤ c ∧ c < x.custs.length) : ∀ i, i ≤ ord.length → BikesI x (bikesM x w ord i) i
 | 0, _ => ⟨by simp [bikesM], by simp [bikesM, allStops], by simp [bikesM], by simp [bikesM]⟩
 | i + 1, h => by
   have ih := bikesM_in w hs ho i (by omega)
   have hi : i < ord.length := by omega
   have := ho _ (List.getElem_mem hi)
   refine ih.step hs ?_
   rw [List.getD_eq_getElem?_getD, List.getElem?_eq_getElem hi, Option.getD_some]
   omega
/-! trucks -/
def newB (x : InstV) (cut left : Int) (n : Nat) : Bool := decide (left = 0) || (decide (cut % 7 = 6) && decide ((n : Int) < x.tm))
def fillB (s : Nat) (much : Int) (ts : List (List StopV)) : List (List StopV) := ts.set (ts.length - 1) (ts.getD (ts.length - 1) [] ++ [⟨(s : Int), much⟩])
def leftA (x : InstV) (cut left : Int) (n : Nat) : Int := if newB x cut left n = true then x.tr else left
def tsA (x : InstV) (cut left : Int) (ts : List (List StopV)) : List (List StopV) := if newB x cut left ts.length = true then ts ++ [[]] else ts
def fillR (x : InstV) (cut : Int) (s : Nat) : Nat → Int → Int → List (List StopV) → Int × List (List StopV)
 | 0, _, left, ts => (left, ts)
 | f + 1, n, left, ts => if 0 < n then fillR x cut s f (n - min n (leftA x cut left ts.length)) (leftA x cut left ts.length - min n (leftA x cut left ts.length)) (fillB s (min n (leftA x cut left ts.length)) (tsA x cut left ts)) else (left, ts)
def trucksM (x : InstV) (w : WishV) (L : Nat → Int) : Nat → Int × List (List StopV)
 | 0 => (0, [])
 | k + 1 => fillR x (atM w.cuts k) k (L k).toNat (L k) (trucksM x w L k).1 (trucksM x w L k).2
structure TrucksI (x : InstV) (v : Int) (ts : List (List StopV)) (m : Nat) : Prop where
 lft : 0 ≤ v ∧ v ≤ x.tr
 has : v ≠ 0 → 0 < ts.length
 len : ts.length ≤ ts.flatten.length
 stops : ts.flatten.length ≤ m
theorem flatten_set : ∀ (ts : List (List StopV)) (k : Nat) (h : k < ts.length) (l : List StopV), (ts.set k (ts[k] ++ l)).flatten.length = ts.flatten.length + l.length
 | t :: ts, 0, h, l => by simp; omega
 | t :: ts, k + 1, h, l => by
   have ih := flatten_set ts k (by simpa using h) l
   simp only [List.set_cons_succ, List.flatten_cons, List.length_append, List.getElem_cons_succ] at ih ⊢
   omega
theorem fillB_len (s : Nat) (much : Int) (ts : List (List StopV)) (h : 0 < ts.length) : (fillB s much ts).length = ts.length ∧ (fillB s much ts).flatten.length = ts.flatten.length + 1 := by
 unfold fillB
 rw [List.getD_eq_getElem?_getD, List.getElem?_eq_getElem (show ts.length - 1 < ts.length by omega), Option.getD_some]
 exact ⟨List.length_set .., by rw [flatten_set]; rfl⟩
theorem TrucksI.step {x : InstV} {cut left n : Int} {s m : Nat} {ts : List (List StopV)} (h : TrucksI x left ts m) (htr : 5 ≤ x.tr) (hn : 0 < n) :
 0 < (tsA x cut left ts).length ∧ (tsA x cut left ts).length ≤ ts.length + 1 ∧ 0 < leftA x cut left ts.length ∧ leftA x cut left ts.length ≤ x.tr ∧ 0 < min n (leftA x cut left ts.length) ∧
 TrucksI x (leftA x cut left ts.length - min n (leftA x cut left ts.length)) (fillB s (min n (leftA x cut left ts.length)) (tsA x cut left ts)) (m + 1) := by
 have h1 := h.lft
 have h2 := h.has
 have h3 := h.len
 have h4 := h.stops
 have hA : 0 < (tsA x cut left ts).length ∧ (tsA x cut left ts).length ≤ ts.length + 1 ∧ (tsA x cut left ts).flatten.length = ts.flatten.length := by
  unfold tsA newB
  split
  · simp
  · rename_i hb
    simp only [Bool.or_eq_true, Bool.and_eq_true, decide_eq_true_eq, not_or] at hb
    exact ⟨h2 hb.1, by omega, rfl⟩
 have hL : 0 < leftA x cut left ts.length ∧ leftA x cut left ts.length ≤ x.tr := by
  unfold leftA newB
  split
  · omega
  · rename_i hb
    simp only [Bool.or_eq_true, Bool.and_eq_true, decide_eq_true_eq, not_or] at hb
    omega
 have hF := fillB_len s (min n (leftA x cut left ts.length)) _ hA.1
 refine ⟨hA.1, hA.2.1, hL.1, hL.2, by omega, ⟨by omega, fun _ => by rw [hF.1]; exact hA.1, by rw [hF.1, hF.2]; omega, by rw [hF.2]; omega⟩⟩
theorem fillR_in {x : InstV} {cut : Int} {s : Nat} (htr : 5 ≤ x.tr) : ∀ (f : Nat) (n left : Int) (ts : List (List StopV)) (m : Nat), TrucksI x left ts m → TrucksI x (fillR x cut s f n left ts).1 (fillR x cut s f n left ts).2 (m + f)
 | 0, n, left, ts, m, h => h
 | f + 1, n, left, ts, m, h => by
   unfold fillR
   split
   · rename_i hn
     have := fillR_in (cut := cut) (s := s) htr f (n - min n (leftA x cut left ts.length)) _ _ _ (h.step (n := n) (cut := cut) (s := s) htr hn).2.2.2.2.2
     rw [show m + (f + 1) = m + 1 + f by omega]
     exact this
   · exact ⟨h.lft, h.has, h.len, Nat.le_trans h.stops (by omega)⟩
theorem trucksM_in {x : InstV} {w : WishV} {L : Nat → Int} (htr : 5 ≤ x.tr) (hL : ∀ s, L s ≤ 120) : ∀ k, TrucksI x (trucksM x w L k).1 (trucksM x w L k).2 (120 * k)
 | 0 => ⟨by simp [trucksM]; omega, by simp [trucksM], by simp [trucksM], by simp [trucksM]⟩
 | k + 1 => by
   have := fillR_in (cut := atM w.cuts k) (s := k) htr (L k).toNat (L k) _ _ _ (trucksM_in (w := w) htr hL k)
   unfold trucksM
   have h2 := hL k
   exact ⟨this.lft, this.has, this.len, by have := this.stops; omega⟩
/-- At the end of a satellite's loads nothing changes. -/
theorem fillR_end {x : InstV} {cut : Int} {s f : Nat} {n left : Int} {ts : List (List StopV)} (h : ¬ 0 < n) : fillR x cut s f n left ts = (left, ts) := by
 cases f with
 | zero => rfl
 | succ f => unfold fillR; rw [if_neg h]
theorem fillR_step {x : InstV} {cut : Int} {s f : Nat} {n left : Int} {ts : List (List StopV)} (h : 0 < n) (hf : n ≤ f) : ∃ g, f = g + 1 ∧ fillR x cut s f n left ts = fillR x cut s g (n - min n (leftA x cut left ts.length)) (leftA x cut left ts.length - min n (leftA x cut left ts.length)) (fillB s (min n (leftA x cut left ts.length)) (tsA x cut left ts)) := by
 cases f with
 | zero => omega
 | succ g => exact ⟨g, rfl, by rw [fillR, if_pos h]⟩
theorem tsA_flat (x : InstV) (cut left : Int) (ts : List (List StopV)) : (tsA x cut left ts).flatten = ts.flatten := by
 unfold tsA; split <;> simp
theorem mem_le_sum : ∀ {l : List Nat} {n : Nat}, n ∈ l → n ≤ l.sum
 | a :: l, n, h => by
   rw [List.sum_cons]
   rcases List.mem_cons.1 h with rfl | h
   · omega
   · have := mem_le_sum h; omega
theorem fillB_map {β : Type} {q : List (List StopV × β)} {z : Nat} (h : q.length = z + 1) (hz : z < q.length) (s : Nat) (mu : Int) (v : β) : fillB s mu (q.map (·.1)) = (q.set z (q[z].1 ++ [⟨(s : Int), mu⟩], v)).map (·.1) := by
 unfold fillB
 rw [List.map_set, List.length_map, h, Nat.add_sub_cancel]
 congr 1
 simp [hz]
def draftM (x : InstV) (w : WishV) : PlanV := ⟨(trucksM x w (loadsM x w (orderM w.order x.custs.length) x.custs.length) x.sats.length).2, bikesM x w (orderM w.order x.custs.length) x.custs.length⟩
end Go.Proofs.Ytpbhbmdghafkmaa
