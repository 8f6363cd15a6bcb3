/- move.tails. (printed by gen/tails.py) -/
import Derived.Test.YtpbhbmdghafkmaaElsewhere
import Derived.Test.YtpbhbmdghafkmaaConcat
namespace Go.Proofs.Ytpbhbmdghafkmaa
open Go.ChangeShapes Go.WideShapes Go.ChangeAt Go.RowKit
set_option linter.unusedVariables false
theorem slice_low (A : Option Addr) (n c i : Nat) (hi : i ≤ n) (hnc : n ≤ c) : ∃ A', (∀ w' : World, (Instr.slice 42 (.slice A n c) (some (.int .i64 (i : Int))) none none).run Try.prog w' = .ok (.slice A' (n - i) (c - i)) w') ∧ ∀ (w : World) (B : Nat) (xs : List Value), Reads w B 1 A n xs → Reads w B 1 A' (n - i) (xs.drop i) := by
 refine ⟨if c = i then A else A.map (·.add (i * 1)), fun w' => ?_, fun w B xs h => ⟨by have := h.1; rw [List.length_drop]; omega, fun hm => ?_⟩⟩
 · rw [run_slice_l (P := Try.prog) w' 42 _ _ _ intsT_elem _ _ (by omega) (by omega), intsT_size]
   simp only [Result.andThen_ok, sliced, Int.toNat_natCast]
 · obtain ⟨ad, e, hb, hc⟩ := h.2 (by omega)
   rw [if_neg (by omega), e]
   refine ⟨ad.add i, by simp, by rw [block_of_add]; exact hb, fun j u hu => ?_⟩
   rw [add_of_add]
   rw [List.getElem?_drop] at hu
   exact hc (i + j) u hu
theorem slice_high (A : Option Addr) (n c i : Nat) (hi : i ≤ n) (hnc : n ≤ c) : (∀ w' : World, (Instr.slice 42 (.slice A n c) none (some (.int .i64 (i : Int))) none).run Try.prog w' = .ok (.slice A i c) w') ∧ ∀ (w : World) (B : Nat) (xs : List Value), Reads w B 1 A n xs → Reads w B 1 A i (xs.take i) := by
 refine ⟨fun w' => ?_, fun w B xs h => ⟨by have := h.1; rw [List.length_take]; omega, fun hm => ?_⟩⟩
 · rw [run_slice_h (P := Try.prog) w' 42 _ _ _ intsT_elem _ _ (by omega) (by omega), intsT_size]
   simp only [Result.andThen_ok, sliced, Int.toNat_natCast]
   cases A <;> simp [Addr.add]
 · obtain ⟨ad, e, hb, hc⟩ := h.2 (by omega)
   refine ⟨ad, e, hb, fun j u hu => hc j u ?_⟩
   rw [List.getElem?_take] at hu
   split at hu
   · exact hu
   · cases hu
/-- A new thing takes the place of one, which stays behind. -/
theorem SL.swap {W w : World} {B : Nat} {l : List Rs} {r o : Rs} (h : SL W B (r :: l) w) (it : Nat) (hi : l[it]? = some o) : SL W B (o :: l.set it r) w := by
 obtain ⟨hit, e⟩ := List.getElem?_eq_some_iff.1 hi
 have p1 : (l.set it r).Perm (r :: l.eraseIdx it) := set_perm l it hit r
 have p2 : l.Perm (o :: l.eraseIdx it) := by
  have := set_perm l it hit o
  rwa [set_self' hi] at this
 exact h.perm ((List.Perm.cons r p2).trans ((List.Perm.swap o r _).trans (List.Perm.cons o p1.symm)))
theorem own_turn' {T t : TypeId} {W w : World} {B : Nat} {P R : List Rs} {o : Rs} {ps : List (BikeV × Value)} {c g off n : Nat} (hn : ps.length = n) {k : Nat} (hk : k < ps.length) (l : List Int) (v' : Value) (hS : SL W B (o :: (P ++ ((bikeN T t).own (.slice (some ⟨g, off, none⟩) n c) ps ++ R)).set (P.length + (k + 1)) (.row t 1 v' l.length (l.map (.int .i64)))) w) :
 SL W B ((o :: P) ++ ((bikeN T t).own (.slice (some ⟨g, off, none⟩) n c) (ps.set k (⟨ps[k].1.sat, l⟩, v')) ++ R)) (w.setCell ⟨g, off + k * 2 + 1, none⟩ v') := by
 refine own_turn (P := o :: P) hn hk l v' ?_
 rw [show (o :: P).length + (k + 1) = (P.length + (k + 1)) + 1 by rw [List.length_cons]; omega, List.cons_append, List.set_cons_succ]
 exact hS
set_option maxRecDepth 100000 in
set_option maxHeartbeats 4000000 in
theorem tails_any (W : World) (B : Nat) (R : List Rs) (w : World) (A : Option Addr) (c n : Nat) (ps : List (BikeV × Value)) (kd a i b j : Int) (hS : SL W B ((bikeN 44 3).own (.slice A n c) ps ++ R) w) (hn : ps.length = n) (hl : n ≤ 100000) (hs : ∀ q ∈ ps, q.1.stops.length ≤ 100000) :
 Calls Try.prog 34 #[.slice A n c, .agg #[.int .i64 kd, .int .i64 a, .int .i64 i, .int .i64 b, .int .i64 j]] w (ElsePost W B R (tailsM (ps.map (·.1)) ⟨kd, a, i, b, j⟩)) := by
 have hlB : (ps.map (·.1)).length = n := by simpa using hn
 have hsB : ∀ b ∈ ps.map (·.1), b.stops.length ≤ 1000000 := fun b hb => by
  obtain ⟨q, hq, rfl⟩ := List.mem_map.1 hb
  have := hs q hq
  omega
 have HB1 : Hid (∀ wx a i, SL W B ([] ++ ((bikeN 44 3).own (.slice A n c) ps ++ R)) wx → Calls Try.prog 35 #[.slice A n c, .int .i64 a, .int .i64 i] wx fun e w' => e = .returned (.bool (behindB (ps.map (·.1)) a i)) ∧ wx = w') := Lib.hid (fun wx a i h => by
  have := behind_any A c (ps.map (·.1)) a i wx (own_bikes hn h) (by omega) hsB
  rw [hlB] at this; exact this)
 have hS1 := hS.alloc #[.int .i64 kd, .int .i64 a, .int .i64 i, .int .i64 b, .int .i64 j] 33
 have HS1 : Hid (SL W B ([.blk w.heap.size #[.int .i64 kd, .int .i64 a, .int .i64 i, .int .i64 b, .int .i64 j] 33] ++ ((bikeN 44 3).own (.slice A n c) ps ++ R)) (w.alloc (.cells #[.int .i64 kd, .int .i64 a, .int .i64 i, .int .i64 b, .int .i64 j] 33))) := Lib.hid hS1
 have HL := Lib.hid hs
 clear hS hS1 hs hsB hlB
 obtain ⟨bs, hbs⟩ : ∃ bs, ps.map (·.1) = bs := ⟨_, rfl⟩
 rw [hbs] at HB1 ⊢
 have hbl : bs.length = n := by rw [← hbs, List.length_map]; exact hn
 go_enter Try.func34, Try.ntmps34
 go_upto_region 1 with fail
 obtain ⟨nb, hnb⟩ : ∃ nb, nb = w.heap.size := ⟨_, rfl⟩
 rw [← hnb] at HS1 ⊢
 generalize (w.alloc (.cells #[.int .i64 kd, .int .i64 a, .int .i64 i, .int .i64 b, .int .i64 j] 33)) = w1 at *
 clear hnb w
 have y1 : w1.cell? ⟨nb, 1, none⟩ = some (.int .i64 a) := HS1.out.cell 0 rfl 1 rfl
 have y2 : w1.cell? ⟨nb, 2, none⟩ = some (.int .i64 i) := HS1.out.cell 0 rfl 2 rfl
 have y3 : w1.cell? ⟨nb, 3, none⟩ = some (.int .i64 b) := HS1.out.cell 0 rfl 3 rfl
 have y4 : w1.cell? ⟨nb, 4, none⟩ = some (.int .i64 j) := HS1.out.cell 0 rfl 4 rfl
 have HA1 := Lib.hid (HB1.out w1 a i HS1.out.tail)
 have HA2 := Lib.hid (HB1.out w1 b j HS1.out.tail)
 clear HB1
 cases hg : (!decide (a = b) && behindB bs a i && behindB bs b j) with
 | false =>
   have HV : Hid (tailsM bs ⟨kd, a, i, b, j⟩ = none) := Lib.hid (by unfold tailsM; rw [if_pos hg])
   by_cases hab : a = b
   · have hab' : (a == b) = true := by simpa using hab
     clear hg
     go_wp2_with fail
     go_ret2
     exact else_none HV.out (HS1.out.tail.sub (List.sublist_append_right _ _))
   · have hab' : (a == b) = false := by rw [beq_eq_false_iff_ne]; exact hab
     cases h1 : behindB bs a i with
     | false =>
       rw [h1] at HA1
       clear hg h1 HA2
       go_wp2_with (go_at_call 35; (with_reducible refine HA1.out.mono ?_); rintro e wn ⟨rfl, rfl⟩)
       go_ret2
       exact else_none HV.out (HS1.out.tail.sub (List.sublist_append_right _ _))
     | true =>
       have h2 : behindB bs b j = false := by rw [h1, decide_eq_false hab] at hg; simpa using hg
       rw [h1] at HA1
       rw [h2] at HA2
       clear hg h1 h2
       go_wp2_with first
        | (go_at_call 35; (with_reducible refine HA1.out.mono ?_); rintro e wn ⟨rfl, rfl⟩)
        | (go_at_call 35; (with_reducible refine HA2.out.mono ?_); rintro e wn ⟨rfl, rfl⟩)
       go_ret2
       exact else_none HV.out (HS1.out.tail.sub (List.sublist_append_right _ _))
 | true =>
   have hg' := hg
   simp only [Bool.and_eq_true, Bool.not_eq_true', decide_eq_false_iff_not] at hg'
   obtain ⟨⟨hab, h1⟩, h2⟩ := hg'
   rw [h1] at HA1
   rw [h2] at HA2
   have HE : Hid (tailsM bs ⟨kd, a, i, b, j⟩ = some (putStops (putStops bs a ((stopsAt bs a).take i.toNat ++ (stopsAt bs b).drop j.toNat)) b ((stopsAt bs b).take j.toNat ++ (stopsAt bs a).drop i.toNat))) := Lib.hid (by unfold tailsM; rw [if_neg (by rw [hg]; simp)])
   have hab' : (a == b) = false := by rw [beq_eq_false_iff_ne]; exact hab
   unfold behindB at h1 h2
   simp only [Bool.and_eq_true, decide_eq_true_eq] at h1 h2
   obtain ⟨⟨g1, g2⟩, g3, g4⟩ := h1
   obtain ⟨⟨f1, f2⟩, f3, f4⟩ := h2
   rw [hbl] at g2 f2
   clear hg
   go_upto_region 3 with first
    | (go_at_call 35; (with_reducible refine HA1.out.mono ?_); rintro e wn ⟨rfl, rfl⟩)
    | (go_at_call 35; (with_reducible refine HA2.out.mono ?_); rintro e wn ⟨rfl, rfl⟩)
   clear HA1 HA2 hab'
   obtain ⟨k, rfl⟩ : ∃ k : Nat, a = k := ⟨a.toNat, by omega⟩
   obtain ⟨i0, rfl⟩ : ∃ i0 : Nat, i = i0 := ⟨i.toNat, by omega⟩
   obtain ⟨b0, rfl⟩ : ∃ b0 : Nat, b = b0 := ⟨b.toNat, by omega⟩
   obtain ⟨j0, rfl⟩ : ∃ j0 : Nat, j = j0 := ⟨j.toNat, by omega⟩
   have hkn : k < ps.length := by omega
   have hbn : b0 < ps.length := by omega
   have hne : k ≠ b0 := by omega
   have hsa : stopsAt bs (k : Int) = ps[k].1.stops := by rw [stopsAt_lt (by omega)]; subst hbs; simp
   have hsb : stopsAt bs (b0 : Int) = ps[b0].1.stops := by rw [stopsAt_lt (by omega)]; subst hbs; simp
   rw [hsa] at g4 HE
   rw [hsb] at f4 HE
   simp only [Int.toNat_natCast] at HE
   have hLa := HL.out _ (List.getElem_mem hkn)
   have hLb := HL.out _ (List.getElem_mem hbn)
   obtain ⟨g, off, rfl⟩ := own_addr HS1.out hn (by omega)
   obtain ⟨Aa, ca, hva, hca⟩ := own_val hkn HS1.out
   obtain ⟨Ab, cb, hvb, hcb⟩ := own_val hbn HS1.out
   have HBS := Lib.hid hbs
   obtain ⟨sa, hsae⟩ : ∃ sa, ps[k].1.stops = sa := ⟨_, rfl⟩
   obtain ⟨sb, hsbe⟩ : ∃ sb, ps[b0].1.stops = sb := ⟨_, rfl⟩
   rw [hsae] at g4 HE hLa hva hca
   rw [hsbe] at f4 HE hLb hvb hcb
   obtain ⟨la, hla⟩ : ∃ la, sa.length = la := ⟨_, rfl⟩
   obtain ⟨lb, hlb⟩ : ∃ lb, sb.length = lb := ⟨_, rfl⟩
   rw [hla] at g4 hLa hva hca
   rw [hlb] at f4 hLb hvb hcb
   have hi0 : i0 ≤ la := by omega
   have hj0 : j0 ≤ lb := by omega
   obtain ⟨xs1, hxs1⟩ : ∃ xs, sa.take i0 = xs := ⟨_, rfl⟩
   obtain ⟨ys1, hys1⟩ : ∃ ys, sb.drop j0 = ys := ⟨_, rfl⟩
   obtain ⟨xs2, hxs2⟩ : ∃ xs, sb.take j0 = xs := ⟨_, rfl⟩
   obtain ⟨ys2, hys2⟩ : ∃ ys, sa.drop i0 = ys := ⟨_, rfl⟩
   have lx1 : xs1.length = i0 := by rw [← hxs1, List.length_take]; omega
   have ly1 : ys1.length = lb - j0 := by rw [← hys1, List.length_drop]; omega
   have lx2 : xs2.length = j0 := by rw [← hxs2, List.length_take]; omega
   have ly2 : ys2.length = la - i0 := by rw [← hys2, List.length_drop]; omega
   obtain ⟨s1, r1⟩ := slice_high Aa la ca i0 hi0 hca
   obtain ⟨Ab2, s2, r2⟩ := slice_low Ab lb cb j0 hj0 hcb
   obtain ⟨s3, r3⟩ := slice_high Ab lb cb j0 hj0 hcb
   obtain ⟨Aa2, s4, r4⟩ := slice_low Aa la ca i0 hi0 hca
   rw [hxs1, hys1, hxs2, hys2] at HE
   have HRA : Hid (∀ w B, Reads w B 1 Aa la (sa.map (.int .i64)) → Reads w B 1 Aa i0 (xs1.map (.int .i64)) ∧ Reads w B 1 Aa2 (la - i0) (ys2.map (.int .i64))) := Lib.hid (fun w B h => ⟨by rw [← hxs1, List.map_take]; exact r1 w B _ h, by rw [← hys2, List.map_drop]; exact r4 w B _ h⟩)
   have HRB : Hid (∀ w B, Reads w B 1 Ab lb (sb.map (.int .i64)) → Reads w B 1 Ab j0 (xs2.map (.int .i64)) ∧ Reads w B 1 Ab2 (lb - j0) (ys1.map (.int .i64))) := Lib.hid (fun w B h => ⟨by rw [← hxs2, List.map_take]; exact r3 w B _ h, by rw [← hys1, List.map_drop]; exact r2 w B _ h⟩)
   have HSA := Lib.hid (And.intro hsae hla)
   have HSB := Lib.hid (And.intro hsbe hlb)
   have HLX := Lib.hid (And.intro (And.intro lx1 ly1) (And.intro lx2 ly2))
   clear y1 y2 y3 y4 g1 g2 g3 g4 f1 f2 f3 f4 hsa hsb hbs hsae hsbe hla hlb hxs1 hxs2 hys1 hys2 r1 r2 r3 r4 lx1 lx2 ly1 ly2 hab
   refine wp_region_sq _ HS1.out (by kernel_rfl) (by kernel_rfl) fun C cw _ hC hin => ?_
   have q1 : ∀ d, (cw d).cell? ⟨nb, 1, none⟩ = some (.int .i64 (k : Int)) := fun d => (hC d).cell 0 rfl 1 rfl
   have q3 : ∀ d, (cw d).cell? ⟨nb, 3, none⟩ = some (.int .i64 (b0 : Int)) := fun d => (hC d).cell 0 rfl 3 rfl
   have qa : ∀ d, (cw d).cell? ⟨g, off + k * 2 + 1, none⟩ = some (.slice Aa la ca) := fun d => by rw [own_sl hn hkn (hC d), hva]
   have qb : ∀ d, (cw d).cell? ⟨g, off + b0 * 2 + 1, none⟩ = some (.slice Ab lb cb) := fun d => by rw [own_sl hn hbn (hC d), hvb]
   clear hin HS1
   repeat (go_big_quiet_step (fail))
   refine wpQuiet_nil ?_
   intro w2 hS2
   have HS2 := Lib.hid hS2
   clear hS2 q1 q3 qa qb hC
   go_upto_region 4 with fail
   have hrs : [.blk nb #[.int .i64 kd, .int .i64 (k : Int), .int .i64 (i0 : Int), .int .i64 (b0 : Int), .int .i64 (j0 : Int)] 33, .row 44 2 (.slice (some ⟨g, off, none⟩) n c) n ((bikeN 44 3).heads ps)].Sublist ([.blk nb #[.int .i64 kd, .int .i64 (k : Int), .int .i64 (i0 : Int), .int .i64 (b0 : Int), .int .i64 (j0 : Int)] 33] ++ ((bikeN 44 3).own (.slice (some ⟨g, off, none⟩) n c) ps ++ R)) := by
    rw [own_cons hn]; exact .cons_cons _ (.cons_cons _ (List.nil_sublist _))
   refine wp_region_sl [0,1,2,3,4,5,6,7,8,9,10] [11,12] [13,14,15] _ HS2.out hrs (by kernel_rfl) (by kernel_rfl) (.cons rfl (.cons rfl (.cons rfl .nil))) (fun C cw _ hC => ?_)
   have q1 : ∀ d, (cw d).cell? ⟨nb, 1, none⟩ = some (.int .i64 (k : Int)) := fun d => (hC d).cell 0 rfl 1 rfl
   have q2 : ∀ d, (cw d).cell? ⟨nb, 2, none⟩ = some (.int .i64 (i0 : Int)) := fun d => (hC d).cell 0 rfl 2 rfl
   have q4 : ∀ d, (cw d).cell? ⟨nb, 4, none⟩ = some (.int .i64 (j0 : Int)) := fun d => (hC d).cell 0 rfl 4 rfl
   repeat (refine pl_look rfl rfl rfl (fun Kv hK => ?_); go_big_quiet_op; refine hK _ ?_; clear hK Kv)
   clear q1 q2 q4 hC HS2 hrs
   refine pl_end ?_
   intro w3 hS3
   refine pm_eff rfl rfl fun Kv hK => ?_
   go_simp
   have hS4 := hS3.alloc #[.slice Aa i0 ca, .slice Ab2 (lb - j0) (cb - j0)] 42
   have h4 := hS4.tail.sub (l' := [.blk nb #[.int .i64 kd, .int .i64 (k : Int), .int .i64 (i0 : Int), .int .i64 (b0 : Int), .int .i64 (j0 : Int)] 33, .row 44 2 (.slice (some ⟨g, off, none⟩) n c) n ((bikeN 44 3).heads ps)]) (by rw [own_cons hn]; exact .cons_cons _ (.cons_cons _ (List.nil_sublist _)))
   refine ⟨h4, hK _ _ ?_⟩
   clear hK Kv h4
   have HS4 := Lib.hid hS4
   clear hS3 hS4
   obtain ⟨gb, hgb⟩ : ∃ gb, gb = w3.heap.size := ⟨_, rfl⟩
   rw [← hgb] at HS4 ⊢
   generalize (w3.alloc (.cells #[.slice Aa i0 ca, .slice Ab2 (lb - j0) (cb - j0)] 42)) = w4 at *
   clear hgb w3
   have rowA := own_row hkn [.blk gb #[.slice Aa i0 ca, .slice Ab2 (lb - j0) (cb - j0)] 42, .blk nb #[.int .i64 kd, .int .i64 (k : Int), .int .i64 (i0 : Int), .int .i64 (b0 : Int), .int .i64 (j0 : Int)] 33] R (T := 44) (t := 3) (v := .slice (some ⟨g, off, none⟩) n c) hva
   have rowB := own_row hbn [.blk gb #[.slice Aa i0 ca, .slice Ab2 (lb - j0) (cb - j0)] 42, .blk nb #[.int .i64 kd, .int .i64 (k : Int), .int .i64 (i0 : Int), .int .i64 (b0 : Int), .int .i64 (j0 : Int)] 33] R (T := 44) (t := 3) (v := .slice (some ⟨g, off, none⟩) n c) hvb
   rw [HSA.out.1, HSA.out.2] at rowA
   rw [HSB.out.1, HSB.out.2] at rowB
   have HCC : Hid (Calls Try.prog 59 #[.slice (some ⟨gb, 0, none⟩) 2 2] w4 fun e w' => ∃ v, e = .returned v ∧ SL w4 w4.heap.size [.row 3 1 v (i0 + (lb - j0)) ((xs1 ++ ys1).map (.int .i64))] w') := Lib.hid (by
    have h := concat_two gb Aa Ab2 ca (cb - j0) xs1 ys1 w4 (by rw [HLX.out.1.1, HLX.out.1.2]; exact HS4.out.blk 0 rfl) (by rw [HLX.out.1.1]; exact (HRA.out _ _ (HS4.out.reads _ rowA)).1) (by rw [HLX.out.1.2]; exact (HRB.out _ _ (HS4.out.reads _ rowB)).2) (by rw [HLX.out.1.1, HLX.out.1.2]; omega)
    rw [HLX.out.1.1, HLX.out.1.2] at h
    exact h)
   refine pm_eff rfl rfl fun Kv hK => ?_
   go_simp
   refine eff_call HCC.out (fun e w5 h => ?_)
   obtain ⟨v5, rfl, hq⟩ := h
   obtain ⟨A5, c5, rfl, _, _⟩ := (hq.row 0 rfl).slice_
   have hS5 := HS4.out.join hq
   clear hq
   left
   have h5 := hS5.sub (l' := [.blk nb #[.int .i64 kd, .int .i64 (k : Int), .int .i64 (i0 : Int), .int .i64 (b0 : Int), .int .i64 (j0 : Int)] 33, .row 44 2 (.slice (some ⟨g, off, none⟩) n c) n ((bikeN 44 3).heads ps)]) (by rw [own_cons hn]; exact .cons _ (.cons _ (.cons_cons _ (.cons_cons _ (List.nil_sublist _)))))
   refine ⟨_, rfl, h5, hK _ _ ?_⟩
   clear hK Kv HCC HS4
   refine pm_end ?_
   obtain ⟨t1, ht1⟩ : ∃ t1, xs1 ++ ys1 = t1 := ⟨_, rfl⟩
   have ht1l : t1.length = i0 + (lb - j0) := by rw [← ht1, List.length_append, HLX.out.1.1, HLX.out.1.2]
   rw [ht1, ← ht1l] at hS5
   rw [← ht1l]
   rw [ht1] at HE
   have hS6 := own_turn' (T := 44) (t := 3) (P := [.blk gb #[.slice Aa i0 ca, .slice Ab2 (lb - j0) (cb - j0)] 42, .blk nb #[.int .i64 kd, .int .i64 (k : Int), .int .i64 (i0 : Int), .int .i64 (b0 : Int), .int .i64 (j0 : Int)] 33]) (R := R) (o := .row 3 1 (.slice Aa la ca) la (sa.map (.int .i64))) hn hkn t1 (.slice A5 t1.length c5) (SL.swap hS5 _ rowA)
   have z1 : w5.cell? ⟨g, off + k * 2 + 1, none⟩ = some (.slice Aa la ca) := by rw [heads_sl h5 1 rfl hkn, hva]
   have z2 := h5.rowFree 1 rfl (off + k * 2 + 1) (by omega)
   have HTL := Lib.hid ht1l
   have HP1 := Lib.hid (put_map ps hkn t1 (.slice A5 t1.length c5))
   obtain ⟨p6, hp6⟩ : ∃ p6, ps.set k ((⟨ps[k].1.sat, t1⟩ : BikeV), .slice A5 t1.length c5) = p6 := ⟨_, rfl⟩
   have hn6 : p6.length = n := by rw [← hp6, List.length_set]; exact hn
   have hb6 : b0 < p6.length := by omega
   have hpb : p6[b0] = ps[b0] := by simp only [← hp6]; rw [List.getElem_set_ne hne]
   rw [hp6] at hS6 HP1
   have HS6 : Hid (SL W B ([.row 3 1 (.slice Aa la ca) la (sa.map (.int .i64)), .blk nb #[.int .i64 kd, .int .i64 (k : Int), .int .i64 (i0 : Int), .int .i64 (b0 : Int), .int .i64 (j0 : Int)] 33] ++ ((bikeN 44 3).own (.slice (some ⟨g, off, none⟩) n c) p6 ++ R)) (w5.setCell ⟨g, off + k * 2 + 1, none⟩ (.slice A5 t1.length c5))) := Lib.hid (hS6.sub (.cons_cons _ (.cons _ (List.Sublist.refl _))))
   clear hS5 hS6 h5 hp6 ht1l rowA rowB ht1
   go_upto_region 5 with fail
   clear z1 z2
   generalize (w5.setCell ⟨g, off + k * 2 + 1, none⟩ (.slice A5 t1.length c5)) = w6 at *
   have hvb6 : p6[b0].2 = .slice Ab lb cb := by rw [hpb]; exact hvb
   have hrs : [.blk nb #[.int .i64 kd, .int .i64 (k : Int), .int .i64 (i0 : Int), .int .i64 (b0 : Int), .int .i64 (j0 : Int)] 33, .row 44 2 (.slice (some ⟨g, off, none⟩) n c) n ((bikeN 44 3).heads p6)].Sublist ([.row 3 1 (.slice Aa la ca) la (sa.map (.int .i64)), .blk nb #[.int .i64 kd, .int .i64 (k : Int), .int .i64 (i0 : Int), .int .i64 (b0 : Int), .int .i64 (j0 : Int)] 33] ++ ((bikeN 44 3).own (.slice (some ⟨g, off, none⟩) n c) p6 ++ R)) := by
    rw [own_cons hn6]; exact .cons _ (.cons_cons _ (.cons_cons _ (List.nil_sublist _)))
   refine wp_region_sl [0,1,2,3,4,5,6,7,8,9,10] [11,12] [13,14,15] _ HS6.out hrs (by kernel_rfl) (by kernel_rfl) (.cons rfl (.cons rfl (.cons rfl .nil))) (fun C cw _ hC => ?_)
   have q1 : ∀ d, (cw d).cell? ⟨nb, 3, none⟩ = some (.int .i64 (b0 : Int)) := fun d => (hC d).cell 0 rfl 3 rfl
   have q2 : ∀ d, (cw d).cell? ⟨nb, 2, none⟩ = some (.int .i64 (i0 : Int)) := fun d => (hC d).cell 0 rfl 2 rfl
   have q4 : ∀ d, (cw d).cell? ⟨nb, 4, none⟩ = some (.int .i64 (j0 : Int)) := fun d => (hC d).cell 0 rfl 4 rfl
   repeat (refine pl_look rfl rfl rfl (fun Kv hK => ?_); go_big_quiet_op; refine hK _ ?_; clear hK Kv)
   clear q1 q2 q4 hC HS6 hrs
   refine pl_end ?_
   intro w7 hS7
   refine pm_eff rfl rfl fun Kv hK => ?_
   go_simp
   have hS8 := hS7.alloc #[.slice Ab j0 cb, .slice Aa2 (la - i0) (ca - i0)] 42
   have h8 := hS8.tail.sub (l' := [.blk nb #[.int .i64 kd, .int .i64 (k : Int), .int .i64 (i0 : Int), .int .i64 (b0 : Int), .int .i64 (j0 : Int)] 33, .row 44 2 (.slice (some ⟨g, off, none⟩) n c) n ((bikeN 44 3).heads p6)]) (by rw [own_cons hn6]; exact .cons _ (.cons_cons _ (.cons_cons _ (List.nil_sublist _))))
   refine ⟨h8, hK _ _ ?_⟩
   clear hK Kv h8
   have HS8 := Lib.hid hS8
   clear hS7 hS8
   obtain ⟨gc, hgc⟩ : ∃ gc, gc = w7.heap.size := ⟨_, rfl⟩
   rw [← hgc] at HS8 ⊢
   generalize (w7.alloc (.cells #[.slice Ab j0 cb, .slice Aa2 (la - i0) (ca - i0)] 42)) = w8 at *
   clear hgc w7
   have rowB := own_row hb6 [.blk gc #[.slice Ab j0 cb, .slice Aa2 (la - i0) (ca - i0)] 42, .row 3 1 (.slice Aa la ca) la (sa.map (.int .i64)), .blk nb #[.int .i64 kd, .int .i64 (k : Int), .int .i64 (i0 : Int), .int .i64 (b0 : Int), .int .i64 (j0 : Int)] 33] R (T := 44) (t := 3) (v := .slice (some ⟨g, off, none⟩) n c) hvb6
   rw [hpb, HSB.out.1, HSB.out.2] at rowB
   have HCC : Hid (Calls Try.prog 59 #[.slice (some ⟨gc, 0, none⟩) 2 2] w8 fun e w' => ∃ v, e = .returned v ∧ SL w8 w8.heap.size [.row 3 1 v (j0 + (la - i0)) ((xs2 ++ ys2).map (.int .i64))] w') := Lib.hid (by
    have h := concat_two gc Ab Aa2 cb (ca - i0) xs2 ys2 w8 (by rw [HLX.out.2.1, HLX.out.2.2]; exact HS8.out.blk 0 rfl) (by rw [HLX.out.2.1]; exact (HRB.out _ _ (HS8.out.reads _ rowB)).1) (by rw [HLX.out.2.2]; exact (HRA.out _ _ (HS8.out.reads 1 rfl)).2) (by rw [HLX.out.2.1, HLX.out.2.2]; omega)
    rw [HLX.out.2.1, HLX.out.2.2] at h
    exact h)
   refine pm_eff rfl rfl fun Kv hK => ?_
   go_simp
   refine eff_call HCC.out (fun e w9 h => ?_)
   obtain ⟨v9, rfl, hq⟩ := h
   obtain ⟨A9, c9, rfl, _, _⟩ := (hq.row 0 rfl).slice_
   have hS9 := HS8.out.join hq
   clear hq
   left
   have h9 := hS9.sub (l' := [.blk nb #[.int .i64 kd, .int .i64 (k : Int), .int .i64 (i0 : Int), .int .i64 (b0 : Int), .int .i64 (j0 : Int)] 33, .row 44 2 (.slice (some ⟨g, off, none⟩) n c) n ((bikeN 44 3).heads p6)]) (by rw [own_cons hn6]; exact .cons _ (.cons _ (.cons _ (.cons_cons _ (.cons_cons _ (List.nil_sublist _))))))
   refine ⟨_, rfl, h9, hK _ _ ?_⟩
   clear hK Kv HCC HS8
   refine pm_end ?_
   obtain ⟨t2, ht2⟩ : ∃ t2, xs2 ++ ys2 = t2 := ⟨_, rfl⟩
   have ht2l : t2.length = j0 + (la - i0) := by rw [← ht2, List.length_append, HLX.out.2.1, HLX.out.2.2]
   rw [ht2, ← ht2l] at hS9
   rw [← ht2l]
   rw [ht2] at HE
   have hS10 := own_turn' (T := 44) (t := 3) (P := [.blk gc #[.slice Ab j0 cb, .slice Aa2 (la - i0) (ca - i0)] 42, .row 3 1 (.slice Aa la ca) la (sa.map (.int .i64)), .blk nb #[.int .i64 kd, .int .i64 (k : Int), .int .i64 (i0 : Int), .int .i64 (b0 : Int), .int .i64 (j0 : Int)] 33]) (R := R) (o := .row 3 1 (.slice Ab lb cb) lb (sb.map (.int .i64))) hn6 hb6 t2 (.slice A9 t2.length c9) (SL.swap hS9 _ rowB)
   have z1 : w9.cell? ⟨g, off + b0 * 2 + 1, none⟩ = some (.slice Ab lb cb) := by rw [heads_sl h9 1 rfl hb6, hvb6]
   have z2 := h9.rowFree 1 rfl (off + b0 * 2 + 1) (by omega)
   have HEE : Hid (tailsM bs ⟨kd, (k : Int), (i0 : Int), (b0 : Int), (j0 : Int)⟩ = some ((p6.set b0 (⟨p6[b0].1.sat, t2⟩, .slice A9 t2.length c9)).map (·.1))) := Lib.hid (by
    rw [HE.out, put_map p6 hb6, HP1.out, HBS.out])
   obtain ⟨pe, hpe⟩ : ∃ pe, p6.set b0 ((⟨p6[b0].1.sat, t2⟩ : BikeV), .slice A9 t2.length c9) = pe := ⟨_, rfl⟩
   rw [hpe] at hS10 HEE
   have HS10 : Hid (SL W B ((bikeN 44 3).own (.slice (some ⟨g, off, none⟩) n c) pe ++ R) (w9.setCell ⟨g, off + b0 * 2 + 1, none⟩ (.slice A9 t2.length c9))) := Lib.hid (hS10.sub (.cons _ (.cons _ (.cons _ (.cons _ (List.Sublist.refl _))))))
   clear hS9 hS10 h9 hpe ht2l rowB ht2
   go_wp2_with fail
   go_ret2
   exact else_some HEE.out HS10.out
end Go.Proofs.Ytpbhbmdghafkmaa
