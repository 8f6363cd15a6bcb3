/- The walk of law11.Make. (printed by gen/make.py) -/
import Derived.Test.YtpbhbmdghafkmaaMake
import Derived.Test.YtpbhbmdghafkmaaRowRun
import Derived.Deep.CutBlock
import Derived.Deep.CutRange
import Derived.Deep.DeepCutAuto
namespace Go.Proofs.Ytpbhbmdghafkmaa
open Go.ChangeShapes Go.WideShapes Go.ChangeAt Go.RowKit
set_option linter.unusedVariables false
theorem info_sat : (Try.prog.info? 94).map (fun i => (i.zero, i.size, i.bytes)) = some (some (.agg #[.int .i64 0, .int .i64 0]), 2, 16) := by kernel_rfl
theorem info_cust : (Try.prog.info? 98).map (fun i => (i.zero, i.size, i.bytes)) = some (some (.agg #[.int .i64 0, .int .i64 0, .int .i64 0, .int .i64 0]), 4, 32) := by kernel_rfl
/-- A block as a row of structs. -/
theorem SL.blkRow {W w : World} {B : Nat} {l : List Rs} (h : SL W B l w) (i : Nat) {g : Nat} {cs : Array Value} {t : TypeId} (hi : l[i]? = some (.blk g cs t)) (n size : Nat) (hn : n ≤ maxLen) (hc : cs.size = n * size) : SL W B (l.set i (.row t size (.slice (some ⟨g, 0, none⟩) n n) n cs.toList)) w := by
 have hg := h.blk i hi
 have hl := h.lt i hi
 refine h.turn i hi rfl rfl rfl (Nat.le_refl _) (fun _ _ _ => rfl) ?_ (fun g' hg' => ?_)
 · refine ⟨by simpa using hc, .inr ⟨g, 0, n, cs, rfl, Nat.zero_le _, hg, Nat.le_refl _, hn, by omega, ?_⟩⟩
   rw [List.drop_zero, List.take_of_length_le (by simp; omega)]
 · simp only [Rs.block, Value.ownBlock, Option.some.injEq] at hg'
   subst hg'
   exact ⟨.inl rfl, hl.2⟩
def SmallV.vals (s : SmallV) (p : IAt) : Array Value := #[.int .u8 s.fin, .int .u8 s.trucks, .int .u8 s.troom, .int .u8 s.bikes, .int .u8 s.broom, .slice p.SA s.sats.length p.sc, .slice p.CA s.custs.length p.cc, .slice p.KA s.cost.length p.kc, .slice p.TA s.time.length p.tc, .bool s.tight, .bool s.loose]
def SmallV.valsB (s : SmallV) (p : IAt) (ti lo : Bool) : Array Value := #[.int .u8 s.fin, .int .u8 s.trucks, .int .u8 s.troom, .int .u8 s.bikes, .int .u8 s.broom, .slice p.SA s.sats.length p.sc, .slice p.CA s.custs.length p.cc, .slice p.KA s.cost.length p.kc, .slice p.TA s.time.length p.tc, .bool ti, .bool lo]
structure SmallIn (w : World) (B : Nat) (p : IAt) (s : SmallV) : Prop where
 sats : Reads w B 2 p.SA s.sats.length (s.sats.flatMap SatV.cells8)
 custs : Reads w B 4 p.CA s.custs.length (s.custs.flatMap CustV.cells8)
 cost : Reads w B 1 p.KA s.cost.length (s.cost.map (.int .u8))
 time : Reads w B 1 p.TA s.time.length (s.time.map (.int .u8))
theorem SmallIn.below {w w' : World} {B : Nat} {p : IAt} {s : SmallV} (h : SmallIn w B p s) (hb : Below B w w') : SmallIn w' B p s :=
 ⟨h.sats.below hb, h.custs.below hb, h.cost.below hb, h.time.below hb⟩
theorem SmallIn.more {w : World} {B B' : Nat} {p : IAt} {s : SmallV} (h : SmallIn w B p s) (hB : B ≤ B') : SmallIn w B' p s :=
 ⟨reads_more h.sats hB, reads_more h.custs hB, reads_more h.cost hB, reads_more h.time hB⟩
structure SmallL (s : SmallV) : Prop where
 sats : s.sats.length ≤ maxLen
 custs : s.custs.length ≤ maxLen
 cost : s.cost.length ≤ maxLen
 time : s.time.length ≤ maxLen
/-- An instance that the call owns. -/
def instRs (p : IAt) (x : InstV) (hk ht : List Value) : List Rs :=
 .row 94 2 (.slice p.SA x.sats.length p.sc) x.sats.length (x.sats.flatMap SatV.cells) :: .row 98 4 (.slice p.CA x.custs.length p.cc) x.custs.length (x.custs.flatMap CustV.cells) ::
 .row 90 1 (.slice p.KA x.cost.length p.kc) x.cost.length hk :: .row 90 1 (.slice p.TA x.time.length p.tc) x.time.length ht :: (rowRs 2 hk x.cost ++ rowRs 2 ht x.time)
theorem instIn_own {W w : World} {B : Nat} {p : IAt} {x : InstV} {hk ht : List Value} {l : List Rs} (h : SL W B l w) (hs : ∀ r ∈ instRs p x hk ht, r ∈ l) (h1 : hk.length = x.cost.length) (h2 : ht.length = x.time.length) : InstIn w w.heap.size p x := by
 refine ⟨?_, ?_, mat_own (t := 2) (T := 90) (c := p.kc) h h1 (hs _ (by simp [instRs])) (fun r hr => hs r (by simp [instRs, hr])), mat_own (t := 2) (T := 90) (c := p.tc) h h2 (hs _ (by simp [instRs])) (fun r hr => hs r (by simp [instRs, hr]))⟩
 · have := h.holds _ (hs (.row 94 2 (.slice p.SA x.sats.length p.sc) x.sats.length (x.sats.flatMap SatV.cells)) (by simp [instRs]))
   exact OwnsQ.reads this
 · have := h.holds _ (hs (.row 98 4 (.slice p.CA x.custs.length p.cc) x.custs.length (x.custs.flatMap CustV.cells)) (by simp [instRs]))
   exact OwnsQ.reads this
def MakePost (w : World) (x : InstV) (e : Ending) (w' : World) : Prop :=
 ∃ p hk ht, e = .returned (.agg (x.cells p)) ∧ hk.length = x.cost.length ∧ ht.length = x.time.length ∧ SL w w.heap.size (instRs p x hk ht) w'
theorem nodes11_any (x : InstV) (p : IAt) (w : World) (h1 : x.sats.length ≤ 1000) (h2 : x.custs.length ≤ 1000) : Calls Try.prog 43 #[.agg (x.cells p)] w fun e w' => e = .returned (.int .i64 (x.n : Nat)) ∧ Below w.heap.size w w' := by
 have HN : Hid ((1 : Int) + x.sats.length + x.custs.length = (x.n : Nat)) := Lib.hid (by unfold InstV.n; omega)
 unfold InstV.cells
 go_enter Try.func43, Try.ntmps43
 go_wp2
 go_ret
 exact ⟨retInt HN.out, (Below.refl _ _).alloc (Nat.le_refl _) _⟩
theorem perm_two (F : List Rs) (T K : Rs) (tr kr : List Rs) : ((T :: tr) ++ ((K :: kr) ++ F)).Perm (F ++ (K :: T :: (kr ++ tr))) := by
 refine List.perm_append_comm.trans ((List.perm_append_comm.append_right _).trans ?_)
 rw [show (F ++ (K :: kr)) ++ (T :: tr) = F ++ (K :: (kr ++ T :: tr)) by simp]
 exact (List.perm_middle.cons K).append_left F
/-- y's cells, under way. -/
def yCells (s : SmallV) (a b c d : Value) : Array Value := #[.int .i64 (40 + s.fin * s.wide), .int .i64 (1 + s.trucks % 4), .int .i64 (5 + s.wide * (s.troom % 40)), .int .i64 (1 + s.bikes % 6), .int .i64 (3 + s.wide * (s.broom % 20)), a, b, c, d]
theorem sats8_at {w : World} {B : Nat} {A : Option Addr} {l : List SatV} (h : Reads w B 2 A l.length (l.flatMap SatV.cells8)) {k : Nat} (hk : k < l.length) :
 ∃ b o, A = some ⟨b, o, none⟩ ∧ b < B ∧ w.cell? ⟨b, o + k * 2, none⟩ = some (.int .u8 l[k].room) ∧ w.cell? ⟨b, o + k * 2 + 1, none⟩ = some (.int .u8 l[k].hold) := by
 obtain ⟨b, o, e, hb, hc⟩ := flat_at SatV.cells8 2 SatV.cells8_len (by decide) h hk
 exact ⟨b, o, e, hb, hc 0 _ rfl, hc 1 _ rfl⟩
theorem custs8_at {w : World} {B : Nat} {A : Option Addr} {l : List CustV} (h : Reads w B 4 A l.length (l.flatMap CustV.cells8)) {k : Nat} (hk : k < l.length) :
 ∃ b o, A = some ⟨b, o, none⟩ ∧ b < B ∧ w.cell? ⟨b, o + k * 4, none⟩ = some (.int .u8 l[k].load) ∧ w.cell? ⟨b, o + k * 4 + 1, none⟩ = some (.int .u8 l[k].opn) ∧ w.cell? ⟨b, o + k * 4 + 2, none⟩ = some (.int .u8 l[k].cls) ∧ w.cell? ⟨b, o + k * 4 + 3, none⟩ = some (.int .u8 l[k].stay) := by
 obtain ⟨b, o, e, hb, hc⟩ := flat_at CustV.cells8 4 CustV.cells8_len (by decide) h hk
 exact ⟨b, o, e, hb, hc 0 _ rfl, hc 1 _ rfl, hc 2 _ rfl, hc 3 _ rfl⟩
set_option maxRecDepth 100000 in
set_option maxHeartbeats 8000000 in
theorem make_false (s : SmallV) (p : IAt) (w : World) (hI : SmallIn w w.heap.size p s) (hL : SmallL s) (hok : s.ok) (hlo : s.loose = false) :
 Calls Try.prog 20 #[.agg (s.vals p)] w (MakePost w s.mk_) := by
 have HL := Lib.hid hL
 have HOK := Lib.hid hok
 obtain ⟨i0, hi0, hz0, hz1, hz2⟩ := info_parts info_sat
 obtain ⟨j0, hj0, hy0, hy1, hy2⟩ := info_parts info_cust
 have HSI := Lib.hid (And.intro hi0 (And.intro hz0 (And.intro hz1 hz2)))
 have HCI := Lib.hid (And.intro hj0 (And.intro hy0 (And.intro hy1 hy2)))
 have hl1 := hL.sats
 have hl2 := hL.custs
 unfold maxLen at hl1 hl2
 obtain ⟨⟨f0, f1⟩, ⟨t0, t1⟩, ⟨tr0, tr1⟩, ⟨b0, b1⟩, br0, br1⟩ := (show isU8 s.fin ∧ isU8 s.trucks ∧ isU8 s.troom ∧ isU8 s.bikes ∧ isU8 s.broom from ⟨hok.fin, hok.trucks, hok.troom, hok.bikes, hok.broom⟩)
 obtain ⟨ti, hti⟩ : ∃ ti, s.tight = ti := ⟨_, rfl⟩
 have HTI := Lib.hid hti
 obtain ⟨wide, hwd⟩ : ∃ wide, s.wide = wide := ⟨_, rfl⟩
 have hw1 : wide = 1 := by rw [← hwd]; unfold SmallV.wide; rw [hlo]; rfl
 have HW1 := Lib.hid hw1
 have hP : (0 ≤ s.fin * wide ∧ s.fin * wide ≤ 2295) ∧ (0 ≤ wide * (s.troom % 40) ∧ wide * (s.troom % 40) ≤ 351) ∧ (0 ≤ wide * (s.broom % 20) ∧ wide * (s.broom % 20) ≤ 171) := by
  rw [hw1]; omega
 obtain ⟨⟨P0, P1⟩, ⟨P2, P3⟩, P4, P5⟩ := hP
 have HY : Hid (∀ a b c d, yCells s a b c d = #[.int .i64 (40 + s.fin * wide), .int .i64 (1 + s.trucks % 4), .int .i64 (5 + wide * (s.troom % 40)), .int .i64 (1 + s.bikes % 6), .int .i64 (3 + wide * (s.broom % 20)), a, b, c, d]) := Lib.hid (fun _ _ _ _ => by unfold yCells; rw [hwd])
 have HWW := Lib.hid hwd
 have hv : s.vals p = #[.int .u8 s.fin, .int .u8 s.trucks, .int .u8 s.troom, .int .u8 s.bikes, .int .u8 s.broom, .slice p.SA s.sats.length p.sc, .slice p.CA s.custs.length p.cc, .slice p.KA s.cost.length p.kc, .slice p.TA s.time.length p.tc, .bool ti, .bool false] := by unfold SmallV.vals; rw [hlo, hti]
 have hS0 := ((SL.start (Nat.le_refl w.heap.size)).alloc (s.vals p) 49).alloc #[.int .i64 0, .int .i64 0, .int .i64 0, .int .i64 0, .int .i64 0, .slice none 0 0, .slice none 0 0, .slice none 0 0, .slice none 0 0] 58
 obtain ⟨sb, hsb⟩ : ∃ sb, sb = w.heap.size := ⟨_, rfl⟩
 have HS0 := Lib.hid hS0
 have HI : Hid (SmallIn w sb p s) := Lib.hid (by rw [hsb]; exact hI)
 have HSB := Lib.hid hsb
 rw [hv] at HS0 ⊢
 clear hI hL hok hi0 hz0 hz1 hz2 hj0 hy0 hy1 hy2 hwd hS0 hw1 hlo hv hti
 go_enter Try.func20, Try.ntmps20
 go_upto_if 12 with fail
 go_cut [3] (fun v wx => v = .int .i64 wide ∧ SL w w.heap.size [.blk (w.heap.size + 1) #[.int .i64 0, .int .i64 0, .int .i64 0, .int .i64 0, .int .i64 0, .slice none 0 0, .slice none 0 0, .slice none 0 0, .slice none 0 0] 58, .blk w.heap.size (s.valsB p ti false) 49] wx)
 case first =>
  go_wp2_with fail
  go_meet
  exact ⟨by rw [HW1.out], by unfold SmallV.valsB; simpa using HS0.out⟩
 clear HS0
 obtain ⟨rfl, hS⟩ := hcut
 obtain ⟨w1, rfl⟩ : ∃ w1 : World, w1 = wc := ⟨_, rfl⟩
 obtain ⟨rb, hrb⟩ : ∃ rb, rb = w.heap.size + 1 := ⟨_, rfl⟩
 rw [← hrb] at hS ⊢
 rw [← hsb] at hS ⊢
 clear hrb hsb
 have c0 : w1.cell? ⟨sb, 0, none⟩ = some (.int .u8 s.fin) := hS.cell 1 rfl 0 rfl
 have c1 : w1.cell? ⟨sb, 1, none⟩ = some (.int .u8 s.trucks) := hS.cell 1 rfl 1 rfl
 have c2 : w1.cell? ⟨sb, 2, none⟩ = some (.int .u8 s.troom) := hS.cell 1 rfl 2 rfl
 have c3 : w1.cell? ⟨sb, 3, none⟩ = some (.int .u8 s.bikes) := hS.cell 1 rfl 3 rfl
 have c4 : w1.cell? ⟨sb, 4, none⟩ = some (.int .u8 s.broom) := hS.cell 1 rfl 4 rfl
 have c5 : w1.cell? ⟨sb, 5, none⟩ = some (.slice p.SA s.sats.length p.sc) := hS.cell 1 rfl 5 rfl
 have hz := (hS.lt 1 rfl).2
 have hS2 := (hS.alloc #[.int .i64 (40 + s.fin * wide), .int .i64 (1 + s.trucks % 4), .int .i64 (5 + wide * (s.troom % 40)), .int .i64 (1 + s.bikes % 6), .int .i64 (3 + wide * (s.broom % 20)), .slice none 0 0, .slice none 0 0, .slice none 0 0, .slice none 0 0] 58)
 have HS2 := Lib.hid hS2
 clear hS hS2
 go_upto_region 6 with fail
 obtain ⟨yb, hyb⟩ : ∃ yb, yb = w1.heap.size := ⟨_, rfl⟩
 obtain ⟨w2, hw2⟩ : ∃ w2, w2 = w1.alloc (.cells #[.int .i64 (40 + s.fin * wide), .int .i64 (1 + s.trucks % 4), .int .i64 (5 + wide * (s.troom % 40)), .int .i64 (1 + s.bikes % 6), .int .i64 (3 + wide * (s.broom % 20)), .slice none 0 0, .slice none 0 0, .slice none 0 0, .slice none 0 0] 58) := ⟨_, rfl⟩
 rw [← hyb, ← hw2] at HS2 ⊢
 clear hyb hw2 c0 c1 c2 c3 c4 c5 hz
 go_loopw [49] (fun i wr => ∃ (k m : Nat) (v : Value), k ≤ s.sats.length ∧ i = .int .i64 k ∧ m = min k 3 ∧ SL w sb [.row 94 2 v m ((satsK wide s.sats k).flatMap SatV.cells), .blk yb #[.int .i64 (40 + s.fin * wide), .int .i64 (1 + s.trucks % 4), .int .i64 (5 + wide * (s.troom % 40)), .int .i64 (1 + s.bikes % 6), .int .i64 (3 + wide * (s.broom % 20)), v, .slice none 0 0, .slice none 0 0, .slice none 0 0] 58, .blk rb #[.int .i64 0, .int .i64 0, .int .i64 0, .int .i64 0, .int .i64 0, .slice none 0 0, .slice none 0 0, .slice none 0 0, .slice none 0 0] 58, .blk sb (s.valsB p ti false) 49] wr) (fun i _ => s.sats.length - (intOf i).toNat)
 case atStart => exact ⟨0, 0, _, by omega, rfl, rfl, by simpa [satsK] using HS2.out.nil 94 2⟩
 case round =>
  clear HS2
  obtain ⟨k, m, v, hk, rfl, hm, hS⟩ := hrel
  by_cases hlt : k < s.sats.length
  · obtain ⟨g, o, hSA, hg, d0, d1⟩ := sats8_at (HI.out.sats.below hS.below) hlt
    obtain ⟨⟨x0, x1⟩, x2, x3⟩ := HOK.out.sats _ (List.getElem_mem hlt)
    obtain ⟨q, hq⟩ : ∃ q, s.sats[k] = q := ⟨_, rfl⟩
    rw [hq] at d0 d1 x0 x1 x2 x3
    have hzy := (hS.lt 1 rfl).2
    have c3 : wr.cell? ⟨yb, 5, none⟩ = some v := hS.cell 1 rfl 5 rfl
    have hS2 := hS.alloc #[.int .u8 q.room, .int .u8 q.hold] 92
    have HS2 := Lib.hid hS2
    obtain ⟨A, c, rfl, _, _⟩ := (hS.row 0 rfl).slice_
    rw [hSA]
    by_cases h3 : k < 3
    · obtain rfl : m = k := by omega
      have HQ : Hid (satsK wide s.sats (m + 1) = satsK wide s.sats m ++ [mkSat wide q]) := Lib.hid (by rw [← hq]; exact take_yes _ hlt h3)
      have hP : 0 ≤ wide * (q.room % 40) ∧ wide * (q.room % 40) ≤ 351 := by rw [HW1.out]; omega
      obtain ⟨Q0, Q1⟩ := hP
      clear hS hS2 hSA hq hm
      go_upto_region 8 with fail
      obtain ⟨qb, hqb⟩ : ∃ qb, qb = wr.heap.size := ⟨_, rfl⟩
      generalize (wr.alloc (.cells #[.int .u8 q.room, .int .u8 q.hold] 92)) = w9 at *
      rw [← hqb] at HS2 ⊢
      clear hqb d0 d1 c3 hzy
      have c3 : w9.cell? ⟨yb, 5, none⟩ = some (.slice A m c) := HS2.out.cell 2 rfl 5 rfl
      have e0 : w9.cell? ⟨qb, 0, none⟩ = some (.int .u8 q.room) := HS2.out.cell 0 rfl 0 rfl
      have e1 : w9.cell? ⟨qb, 1, none⟩ = some (.int .u8 q.hold) := HS2.out.cell 0 rfl 1 rfl
      go_wp2_with (at_builtin; refine stopHere ?_)
      show wpList _ _ _ _ _ _
      refine wpList_append_sl rfl _ _ 54 rfl HS2.out 1 i0 (.agg #[.int .i64 0, .int .i64 0]) 2 16 Try.underlying54 HSI.out.1 HSI.out.2.1 HSI.out.2.2.1 HSI.out.2.2.2 rfl (by decide) _ _ 1 _ rfl rfl _ rfl rfl (by decide) rfl (by simp [Value.oneCell']) (by omega) (by decide) ?_
      intro v' w10 hS5 hz5
      obtain ⟨A', c', rfl, _, _⟩ := (hS5.row 1 rfl).slice_
      have y0 : w10.cell? ⟨yb, 5, none⟩ = some (.slice A m c) := hS5.cell 2 rfl 5 rfl
      have y1 := hS5.free 2 rfl 5
      have HS6 := Lib.hid (hS5.setCell 2 rfl 5 (.slice A' (m + 1) c'))
      clear hS5 HS2 c3 e0 e1 hz5
      go_wp2_with fail
      go_roundw
      case rel =>
       refine ⟨m + 1, m + 1, .slice A' (m + 1) c', by omega, by go_num, by omega, ?_⟩
       rw [HQ.out, flat_snoc]
       exact HS6.out.tail
      case measure => simp [intOf]; omega
    · obtain rfl : m = 3 := by omega
      have HQ : Hid (satsK wide s.sats (k + 1) = satsK wide s.sats k) := Lib.hid (take_no _ h3)
      clear hS hS2 hSA hq hm
      go_wp2_with fail
      go_roundw
      case rel => exact ⟨k + 1, 3, .slice A 3 c, by omega, by go_num, by omega, by rw [HQ.out]; exact HS2.out.tail⟩
      case measure => simp [intOf]; omega
  · obtain rfl : k = s.sats.length := by omega
    have HSL := Lib.hid (satsK_len wide s.sats s.sats.length (Nat.le_refl _))
    have c3 : wr.cell? ⟨yb, 5, none⟩ = some v := hS.cell 1 rfl 5 rfl
    have c3f := hS.free 1 rfl 5
    have hzy := (hS.lt 1 rfl).2
    obtain ⟨A, c, rfl, _, _⟩ := (hS.row 0 rfl).slice_
    obtain ⟨wo, rfl⟩ : ∃ wo : World, wo = wr := ⟨_, rfl⟩
    have HM0 := Lib.hid hm
    clear hm
    go_upto_if 78 with fail
    go_cut [] (fun wx => ∃ v, SL w sb [.row 94 2 v s.mkSats.length (s.mkSats.flatMap SatV.cells), .blk yb #[.int .i64 (40 + s.fin * wide), .int .i64 (1 + s.trucks % 4), .int .i64 (5 + wide * (s.troom % 40)), .int .i64 (1 + s.bikes % 6), .int .i64 (3 + wide * (s.broom % 20)), v, .slice none 0 0, .slice none 0 0, .slice none 0 0] 58, .blk rb #[.int .i64 0, .int .i64 0, .int .i64 0, .int .i64 0, .int .i64 0, .slice none 0 0, .slice none 0 0, .slice none 0 0, .slice none 0 0] 58, .blk sb (s.valsB p ti false) 49] wx)
    case first =>
     by_cases h0 : m = 0
     · have HM : Hid (s.mkSats = [⟨60, 2⟩]) := Lib.hid (by unfold SmallV.mkSats; rw [HWW.out, HSL.out, ← HM0.out, if_pos h0])
       have z1 : ((m : Int) == 0) = true := by simp [h0]
       have z2 : (m == 0) = true := by simp [h0]
       have z3 : decide (m = 0) = true := by simp [h0]
       have hS3 := (hS.setCell 1 rfl 5 (.slice (some ⟨wo.heap.size, 0, none⟩) 1 1)).alloc #[.int .i64 60, .int .i64 2] 94
       rw [show (wo.setCell ⟨yb, 5, none⟩ (.slice (some ⟨wo.heap.size, 0, none⟩) 1 1)).heap.size = wo.heap.size by simp [World.setCell]] at hS3
       have HS3 := Lib.hid ((hS3.blkRow 0 rfl 1 2 (by unfold maxLen; omega) rfl).sub (.cons_cons _ (.cons _ (List.Sublist.refl _))))
       clear hS hS3 h0
       go_wp2_with fail
       go_meet
       exact ⟨.slice (some ⟨wo.heap.size, 0, none⟩) 1 1, by rw [HM.out]; exact HS3.out⟩
     · have HM : Hid (s.mkSats = satsK wide s.sats s.sats.length ∧ s.mkSats.length = m) := Lib.hid (by
        unfold SmallV.mkSats
        rw [HWW.out, HSL.out, ← HM0.out, if_neg h0]
        exact ⟨rfl, by rw [HSL.out, ← HM0.out]⟩)
       have z1 : ((m : Int) == 0) = false := by simp; omega
       have z2 : (m == 0) = false := by simp [h0]
       have z3 : decide (m = 0) = false := by simp [h0]
       have HS := Lib.hid hS
       clear hS h0
       go_wp2_with fail
       go_meet
       exact ⟨.slice A m c, by rw [HM.out.2, HM.out.1]; exact HS.out⟩
    clear hS c3 c3f hzy HM0 HSL
    obtain ⟨w3, rfl⟩ : ∃ w3 : World, w3 = wc := ⟨_, rfl⟩
    obtain ⟨vs, hS⟩ := hcut
    have c6 : w3.cell? ⟨sb, 6, none⟩ = some (.slice p.CA s.custs.length p.cc) := hS.cell 3 rfl 6 rfl
    have HS3 := Lib.hid hS
    clear hS
    go_wp2_with fail
    go_loopw [85] (fun i wr => ∃ (k m : Nat) (v : Value), k ≤ s.custs.length ∧ i = .int .i64 k ∧ m = min k 6 ∧ SL w sb [.row 98 4 v m ((custsK wide ti s.custs k).flatMap CustV.cells), .row 94 2 vs s.mkSats.length (s.mkSats.flatMap SatV.cells), .blk yb #[.int .i64 (40 + s.fin * wide), .int .i64 (1 + s.trucks % 4), .int .i64 (5 + wide * (s.troom % 40)), .int .i64 (1 + s.bikes % 6), .int .i64 (3 + wide * (s.broom % 20)), vs, v, .slice none 0 0, .slice none 0 0] 58, .blk rb #[.int .i64 0, .int .i64 0, .int .i64 0, .int .i64 0, .int .i64 0, .slice none 0 0, .slice none 0 0, .slice none 0 0, .slice none 0 0] 58, .blk sb (s.valsB p ti false) 49] wr) (fun i _ => s.custs.length - (intOf i).toNat)
    case atStart => exact ⟨0, 0, _, by omega, rfl, rfl, by simpa [custsK] using HS3.out.nil 98 4⟩
    case round =>
     clear HS3
     obtain ⟨k, m, v, hk, rfl, hm, hS⟩ := hrel
     by_cases hlt : k < s.custs.length
     · obtain ⟨g, o, hSA, hg, d0, d1, d2, d3⟩ := custs8_at (HI.out.custs.below hS.below) hlt
       obtain ⟨⟨x0, x1⟩, ⟨x2, x3⟩, ⟨x4, x5⟩, x6, x7⟩ := HOK.out.custs _ (List.getElem_mem hlt)
       obtain ⟨q, hq⟩ : ∃ q, s.custs[k] = q := ⟨_, rfl⟩
       rw [hq] at d0 d1 d2 d3 x0 x1 x2 x3 x4 x5 x6 x7
       have hzy := (hS.lt 2 rfl).2
       have c3 : wr.cell? ⟨yb, 6, none⟩ = some v := hS.cell 2 rfl 6 rfl
       have hS2 := hS.alloc #[.int .u8 q.load, .int .u8 q.opn, .int .u8 q.cls, .int .u8 q.stay] 96
       have HS2 := Lib.hid hS2
       obtain ⟨A, c, rfl, _, _⟩ := (hS.row 0 rfl).slice_
       rw [hSA]
       by_cases h3 : k < 6
       · obtain rfl : m = k := by omega
         have hP : 0 ≤ wide * q.cls ∧ wide * q.cls ≤ 2295 := by rw [HW1.out]; omega
         obtain ⟨Q0, Q1⟩ := hP
         have HQ1 := Lib.hid (take_yes (mkCust wide ti) hlt h3)
         have HQ2 := Lib.hid hq
         clear hS hS2 hSA hm hq
         go_upto_region 16 with fail
         obtain ⟨qb, hqb⟩ : ∃ qb, qb = wr.heap.size := ⟨_, rfl⟩
         generalize (wr.alloc (.cells #[.int .u8 q.load, .int .u8 q.opn, .int .u8 q.cls, .int .u8 q.stay] 96)) = w9 at *
         rw [← hqb] at HS2 ⊢
         clear hqb d0 d1 d2 d3 c3 hzy
         have c3 : w9.cell? ⟨yb, 6, none⟩ = some (.slice A m c) := HS2.out.cell 3 rfl 6 rfl
         have c9 : w9.cell? ⟨sb, 9, none⟩ = some (.bool ti) := HS2.out.cell 5 rfl 9 rfl
         have e0 : w9.cell? ⟨qb, 0, none⟩ = some (.int .u8 q.load) := HS2.out.cell 0 rfl 0 rfl
         have e1 : w9.cell? ⟨qb, 1, none⟩ = some (.int .u8 q.opn) := HS2.out.cell 0 rfl 1 rfl
         have e2 : w9.cell? ⟨qb, 2, none⟩ = some (.int .u8 q.cls) := HS2.out.cell 0 rfl 2 rfl
         have e3 : w9.cell? ⟨qb, 3, none⟩ = some (.int .u8 q.stay) := HS2.out.cell 0 rfl 3 rfl
         go_upto_if 99 with fail
         go_cut [9] (fun v wx => v = .int .i64 (1 + q.load % 6 + (if ti then q.load / 32 else 0)) ∧ wx = w9)
         case first =>
          cases ti
          case false =>
           go_wp2_with fail
           go_meet
           exact ⟨by simp, rfl⟩
          case true =>
           go_wp2_with fail
           go_meet
           exact ⟨by simp, rfl⟩
         obtain ⟨rfl, hwc⟩ := hcut
         rw [hwc]
         clear hwc
         obtain ⟨ld, hld⟩ : ∃ ld, (1 + q.load % 6 + (if ti then q.load / 32 else 0)) = ld := ⟨_, rfl⟩
         have HQ : Hid (custsK wide ti s.custs (m + 1) = custsK wide ti s.custs m ++ [⟨ld, q.opn % 50, q.opn % 50 + wide * q.cls, q.stay % 8⟩]) := Lib.hid (by
          have := HQ1.out
          rw [HQ2.out] at this
          rw [← hld]
          exact this)
         rw [hld]
         clear hld c9 HQ1 HQ2
         go_wp2_with (at_builtin; refine stopHere ?_)
         show wpList _ _ _ _ _ _
         refine wpList_append_sl rfl _ _ 55 rfl HS2.out 1 j0 (.agg #[.int .i64 0, .int .i64 0, .int .i64 0, .int .i64 0]) 4 32 Try.underlying55 HCI.out.1 HCI.out.2.1 HCI.out.2.2.1 HCI.out.2.2.2 rfl (by decide) _ _ 1 _ rfl rfl _ rfl rfl (by decide) rfl (by simp [Value.oneCell']) (by omega) (by decide) ?_
         intro v' w10 hS5 hz5
         obtain ⟨A', c', rfl, _, _⟩ := (hS5.row 1 rfl).slice_
         have y0 : w10.cell? ⟨yb, 6, none⟩ = some (.slice A m c) := hS5.cell 3 rfl 6 rfl
         have y1 := hS5.free 3 rfl 6
         have HS6 := Lib.hid (hS5.setCell 3 rfl 6 (.slice A' (m + 1) c'))
         clear hS5 HS2 c3 e0 e1 e2 e3 hz5
         go_wp2_with fail
         go_roundw
         case rel =>
          refine ⟨m + 1, m + 1, .slice A' (m + 1) c', by omega, by go_num, by omega, ?_⟩
          rw [HQ.out, flat_snoc]
          exact HS6.out.tail
         case measure => simp [intOf]; omega
       · obtain rfl : m = 6 := by omega
         have HQ : Hid (custsK wide ti s.custs (k + 1) = custsK wide ti s.custs k) := Lib.hid (take_no _ h3)
         clear hS hS2 hSA hq hm
         go_wp2_with fail
         go_roundw
         case rel => exact ⟨k + 1, 6, .slice A 6 c, by omega, by go_num, by omega, by rw [HQ.out]; exact HS2.out.tail⟩
         case measure => simp [intOf]; omega
     · obtain rfl : k = s.custs.length := by omega
       have HSL := Lib.hid (custsK_len wide ti s.custs s.custs.length (Nat.le_refl _))
       have c3 : wr.cell? ⟨yb, 6, none⟩ = some v := hS.cell 2 rfl 6 rfl
       have c3f := hS.free 2 rfl 6
       have hzy := (hS.lt 2 rfl).2
       obtain ⟨A, c, rfl, _, _⟩ := (hS.row 0 rfl).slice_
       obtain ⟨wo, rfl⟩ : ∃ wo : World, wo = wr := ⟨_, rfl⟩
       have HM0 := Lib.hid hm
       clear hm
       go_upto_if 133 with fail
       go_cut [] (fun wx => ∃ v, SL w sb [.row 98 4 v s.mkCusts.length (s.mkCusts.flatMap CustV.cells), .row 94 2 vs s.mkSats.length (s.mkSats.flatMap SatV.cells), .blk yb #[.int .i64 (40 + s.fin * wide), .int .i64 (1 + s.trucks % 4), .int .i64 (5 + wide * (s.troom % 40)), .int .i64 (1 + s.bikes % 6), .int .i64 (3 + wide * (s.broom % 20)), vs, v, .slice none 0 0, .slice none 0 0] 58, .blk rb #[.int .i64 0, .int .i64 0, .int .i64 0, .int .i64 0, .int .i64 0, .slice none 0 0, .slice none 0 0, .slice none 0 0, .slice none 0 0] 58, .blk sb (s.valsB p ti false) 49] wx)
       case first =>
        by_cases h0 : m = 0
        · have HM : Hid (s.mkCusts = [⟨2, 5, 90, 1⟩]) := Lib.hid (by unfold SmallV.mkCusts; rw [HWW.out, HTI.out, HSL.out, ← HM0.out, if_pos h0])
          have z1 : ((m : Int) == 0) = true := by simp [h0]
          have hS3 := (hS.setCell 2 rfl 6 (.slice (some ⟨wo.heap.size, 0, none⟩) 1 1)).alloc #[.int .i64 2, .int .i64 5, .int .i64 90, .int .i64 1] 98
          rw [show (wo.setCell ⟨yb, 6, none⟩ (.slice (some ⟨wo.heap.size, 0, none⟩) 1 1)).heap.size = wo.heap.size by simp [World.setCell]] at hS3
          have HS3 := Lib.hid ((hS3.blkRow 0 rfl 1 4 (by unfold maxLen; omega) rfl).sub (.cons_cons _ (.cons _ (List.Sublist.refl _))))
          clear hS hS3 h0
          go_wp2_with fail
          go_meet
          exact ⟨.slice (some ⟨wo.heap.size, 0, none⟩) 1 1, by rw [HM.out]; exact HS3.out⟩
        · have HM : Hid (s.mkCusts = custsK wide ti s.custs s.custs.length ∧ s.mkCusts.length = m) := Lib.hid (by
           unfold SmallV.mkCusts
           rw [HWW.out, HTI.out, HSL.out, ← HM0.out, if_neg h0]
           exact ⟨rfl, by rw [HSL.out, ← HM0.out]⟩)
          have z1 : ((m : Int) == 0) = false := by simp; omega
          have HS := Lib.hid hS
          clear hS h0
          go_wp2_with fail
          go_meet
          exact ⟨.slice A m c, by rw [HM.out.2, HM.out.1]; exact HS.out⟩
       clear hS c3 c3f hzy HM0 HSL
       obtain ⟨w4, rfl⟩ : ∃ w4 : World, w4 = wc := ⟨_, rfl⟩
       obtain ⟨vc, hS⟩ := hcut
       have HCL := Lib.hid s.custs_len
       have HSN := Lib.hid s.sats_len
       obtain ⟨As, cs, rfl, _, _⟩ := (hS.row 1 rfl).slice_
       obtain ⟨Ac, cc, rfl, _, _⟩ := (hS.row 0 rfl).slice_
       have HN : Hid (∀ wx, Calls Try.prog 43 #[.agg #[.int .i64 (40 + s.fin * wide), .int .i64 (1 + s.trucks % 4), .int .i64 (5 + wide * (s.troom % 40)), .int .i64 (1 + s.bikes % 6), .int .i64 (3 + wide * (s.broom % 20)), .slice As s.mkSats.length cs, .slice Ac s.mkCusts.length cc, .slice none 0 0, .slice none 0 0]] wx fun e w' => e = .returned (.int .i64 (s.n : Nat)) ∧ Below wx.heap.size wx w') := Lib.hid (fun wx => by
        have h := nodes11_any { s.mk_ with cost := [], time := [] } ⟨As, cs, Ac, cc, none, 0, none, 0⟩ wx (by have := HSN.out; show s.mkSats.length ≤ 1000; omega) (by have := HCL.out; show s.mkCusts.length ≤ 1000; omega)
        have e : ({ s.mk_ with cost := [], time := [] } : InstV).cells ⟨As, cs, Ac, cc, none, 0, none, 0⟩ = #[.int .i64 (40 + s.fin * wide), .int .i64 (1 + s.trucks % 4), .int .i64 (5 + wide * (s.troom % 40)), .int .i64 (1 + s.bikes % 6), .int .i64 (3 + wide * (s.broom % 20)), .slice As s.mkSats.length cs, .slice Ac s.mkCusts.length cc, .slice none 0 0, .slice none 0 0] := by
         unfold InstV.cells SmallV.mk_
         dsimp only
         rw [HWW.out]
         rfl
        rw [e] at h
        exact h)
       have hn10 : s.n ≤ 100 := by have := HCL.out; have := HSN.out; unfold SmallV.n; omega
       have HN10 := Lib.hid hn10
       have HS := Lib.hid hS
       clear hS hn10
       go_upto_region 25 with fail
       refine wp_region_slb [0,1,2,5,6,7] [3,4,8,9,10] [11,12,13] [.blk yb #[.int .i64 (40 + s.fin * wide), .int .i64 (1 + s.trucks % 4), .int .i64 (5 + wide * (s.troom % 40)), .int .i64 (1 + s.bikes % 6), .int .i64 (3 + wide * (s.broom % 20)), .slice As s.mkSats.length cs, .slice Ac s.mkCusts.length cc, .slice none 0 0, .slice none 0 0] 58, .blk sb (s.valsB p ti false) 49] HS.out (.cons _ (.cons _ (.cons_cons _ (.cons _ (.cons_cons _ .slnil))))) (by kernel_rfl) (by kernel_rfl) (.cons rfl (.cons rfl (.cons rfl .nil))) (fun C cw _ hC => ?_)
       have q0 : ∀ c, (cw c).cell? ⟨yb, 0, none⟩ = some (.int .i64 (40 + s.fin * wide)) := fun c => (hC c).cell 0 rfl 0 rfl
       have q1 : ∀ c, (cw c).cell? ⟨yb, 1, none⟩ = some (.int .i64 (1 + s.trucks % 4)) := fun c => (hC c).cell 0 rfl 1 rfl
       have q2 : ∀ c, (cw c).cell? ⟨yb, 2, none⟩ = some (.int .i64 (5 + wide * (s.troom % 40))) := fun c => (hC c).cell 0 rfl 2 rfl
       have q3 : ∀ c, (cw c).cell? ⟨yb, 3, none⟩ = some (.int .i64 (1 + s.bikes % 6)) := fun c => (hC c).cell 0 rfl 3 rfl
       have q4 : ∀ c, (cw c).cell? ⟨yb, 4, none⟩ = some (.int .i64 (3 + wide * (s.broom % 20))) := fun c => (hC c).cell 0 rfl 4 rfl
       have q5 : ∀ c, (cw c).cell? ⟨yb, 5, none⟩ = some (.slice As s.mkSats.length cs) := fun c => (hC c).cell 0 rfl 5 rfl
       have q6 : ∀ c, (cw c).cell? ⟨yb, 6, none⟩ = some (.slice Ac s.mkCusts.length cc) := fun c => (hC c).cell 0 rfl 6 rfl
       have q7 : ∀ c, (cw c).cell? ⟨yb, 7, none⟩ = some (.slice none 0 0) := fun c => (hC c).cell 0 rfl 7 rfl
       have q8 : ∀ c, (cw c).cell? ⟨yb, 8, none⟩ = some (.slice none 0 0) := fun c => (hC c).cell 0 rfl 8 rfl
       have r7 : ∀ c, (cw c).cell? ⟨sb, 7, none⟩ = some (.slice p.KA s.cost.length p.kc) := fun c => (hC c).cell 1 rfl 7 rfl
       have r8 : ∀ c, (cw c).cell? ⟨sb, 8, none⟩ = some (.slice p.TA s.time.length p.tc) := fun c => (hC c).cell 1 rfl 8 rfl
       repeat (refine pl_look rfl rfl rfl (fun Kv hK => ?_); go_big_quiet_op; refine hK _ ?_; clear hK Kv)
       clear q0 q1 q2 q3 q4 q5 q6 q7 q8 r7 r8 hC HS
       refine pl_end ?_
       intro w5 hS5
       refine pb_one 3 (by kernel_rfl) (by kernel_rfl) ?_
       refine kOp_eff rfl rfl fun Kv hK => ?_
       go_simp
       refine eff_call (HN.out w5) (fun e w6 h => ?_)
       obtain ⟨rfl, hb⟩ := h
       have hS6 := hS5.call hb
       clear hb hS5
       left
       refine ⟨_, rfl, hS6.sub (.cons _ (.cons _ (.cons_cons _ (.cons _ (.cons_cons _ .slnil))))), hK _ _ ?_⟩
       clear hK Kv
       refine pb_one 4 (by kernel_rfl) (by kernel_rfl) ?_
       refine kOp_eff rfl rfl fun Kv hK => ?_
       go_simp
       refine eff_call (square11_any p.KA p.kc s.cost s.n w6 (reads_more (HI.out.cost.below hS6.below) hS6.size) HL.out.cost HOK.out.cost HN10.out) (fun e w7 h => ?_)
       obtain ⟨v1, hk1, rfl, hh1, hq1⟩ := h
       obtain ⟨KA, kc, rfl, _, _⟩ := (hq1.row 0 rfl).slice_
       have hS7 := hS6.join hq1
       clear hq1 hS6
       left
       refine ⟨_, rfl, hS7.sub ((List.Sublist.cons _ (.cons _ (.cons_cons _ (.cons _ (.cons_cons _ .slnil))))).trans (List.sublist_append_right _ _)), hK _ _ ?_⟩
       clear hK Kv
       refine pb_told 10 (.pointer (some ⟨yb, 7, none⟩)) (by kernel_rfl) rfl (by kernel_rfl) (by kernel_rfl) (by kernel_rfl) (by kernel_rfl) (hS7.sub ((List.Sublist.cons _ (.cons _ (.cons_cons _ (.cons _ (.cons_cons _ .slnil))))).trans (List.sublist_append_right _ _))) rfl (fun _ _ => rfl) (fun Kv hK => ?_)
       go_simp
       refine hK _ ?_
       clear hK Kv
       refine pb_one 8 (by kernel_rfl) (by kernel_rfl) ?_
       refine kOp_eff rfl rfl fun Kv hK => ?_
       go_simp
       refine eff_call (HN.out w7) (fun e w8 h => ?_)
       obtain ⟨rfl, hb⟩ := h
       have hS8 := hS7.call hb
       clear hb hS7
       left
       refine ⟨_, rfl, hS8.sub ((List.Sublist.cons _ (.cons _ (.cons_cons _ (.cons _ (.cons_cons _ .slnil))))).trans (List.sublist_append_right _ _)), hK _ _ ?_⟩
       clear hK Kv
       refine pb_one 9 (by kernel_rfl) (by kernel_rfl) ?_
       refine kOp_eff rfl rfl fun Kv hK => ?_
       go_simp
       refine eff_call (square11_any p.TA p.tc s.time s.n w8 (reads_more (HI.out.time.below hS8.below) hS8.size) HL.out.time HOK.out.time HN10.out) (fun e w9 h => ?_)
       obtain ⟨v2, hk2, rfl, hh2, hq2⟩ := h
       obtain ⟨TA, tc, rfl, _, _⟩ := (hq2.row 0 rfl).slice_
       have hS9 := hS8.join hq2
       clear hq2 hS8
       left
       refine ⟨_, rfl, hS9.sub (((List.Sublist.cons _ (.cons _ (.cons_cons _ (.cons _ (.cons_cons _ .slnil))))).trans (List.sublist_append_right _ _)).trans (List.sublist_append_right _ _)), hK _ _ ?_⟩
       clear hK Kv
       refine pb_end (by kernel_rfl) ?_
       have hp := hS9.perm (perm_two _ _ _ _ _)
       have g7 : w9.cell? ⟨yb, 7, none⟩ = some (.slice none 0 0) := hp.cell 2 rfl 7 rfl
       have g7f := hp.free 2 rfl 7
       have hp7 := hp.setCell 2 rfl 7 (.slice KA s.n kc)
       have g8 : (w9.setCell ⟨yb, 7, none⟩ (.slice KA s.n kc)).cell? ⟨yb, 8, none⟩ = some (.slice none 0 0) := hp7.cell 2 rfl 8 rfl
       have g8f := hp7.free 2 rfl 8
       have hp8 := hp7.setCell 2 rfl 8 (.slice TA s.n tc)
       have n0 : ((w9.setCell ⟨yb, 7, none⟩ (.slice KA s.n kc)).setCell ⟨yb, 8, none⟩ (.slice TA s.n tc)).cell? ⟨yb, 0, none⟩ = some (.int .i64 (40 + s.fin * wide)) := hp8.cell 2 rfl 0 rfl
       have n1 : ((w9.setCell ⟨yb, 7, none⟩ (.slice KA s.n kc)).setCell ⟨yb, 8, none⟩ (.slice TA s.n tc)).cell? ⟨yb, 1, none⟩ = some (.int .i64 (1 + s.trucks % 4)) := hp8.cell 2 rfl 1 rfl
       have n2 : ((w9.setCell ⟨yb, 7, none⟩ (.slice KA s.n kc)).setCell ⟨yb, 8, none⟩ (.slice TA s.n tc)).cell? ⟨yb, 2, none⟩ = some (.int .i64 (5 + wide * (s.troom % 40))) := hp8.cell 2 rfl 2 rfl
       have n3 : ((w9.setCell ⟨yb, 7, none⟩ (.slice KA s.n kc)).setCell ⟨yb, 8, none⟩ (.slice TA s.n tc)).cell? ⟨yb, 3, none⟩ = some (.int .i64 (1 + s.bikes % 6)) := hp8.cell 2 rfl 3 rfl
       have n4 : ((w9.setCell ⟨yb, 7, none⟩ (.slice KA s.n kc)).setCell ⟨yb, 8, none⟩ (.slice TA s.n tc)).cell? ⟨yb, 4, none⟩ = some (.int .i64 (3 + wide * (s.broom % 20))) := hp8.cell 2 rfl 4 rfl
       have n5 : ((w9.setCell ⟨yb, 7, none⟩ (.slice KA s.n kc)).setCell ⟨yb, 8, none⟩ (.slice TA s.n tc)).cell? ⟨yb, 5, none⟩ = some (.slice As s.mkSats.length cs) := hp8.cell 2 rfl 5 rfl
       have n6 : ((w9.setCell ⟨yb, 7, none⟩ (.slice KA s.n kc)).setCell ⟨yb, 8, none⟩ (.slice TA s.n tc)).cell? ⟨yb, 6, none⟩ = some (.slice Ac s.mkCusts.length cc) := hp8.cell 2 rfl 6 rfl
       have n7 : ((w9.setCell ⟨yb, 7, none⟩ (.slice KA s.n kc)).setCell ⟨yb, 8, none⟩ (.slice TA s.n tc)).cell? ⟨yb, 7, none⟩ = some (.slice KA s.n kc) := hp8.cell 2 rfl 7 rfl
       have n8 : ((w9.setCell ⟨yb, 7, none⟩ (.slice KA s.n kc)).setCell ⟨yb, 8, none⟩ (.slice TA s.n tc)).cell? ⟨yb, 8, none⟩ = some (.slice TA s.n tc) := hp8.cell 2 rfl 8 rfl
       have HP8 := Lib.hid hp8
       have HHH := Lib.hid (And.intro hh1 hh2)
       have H1C : Hid ((#[.int .i64 (40 + s.fin * wide), .int .i64 (1 + s.trucks % 4), .int .i64 (5 + wide * (s.troom % 40)), .int .i64 (1 + s.bikes % 6), .int .i64 (3 + wide * (s.broom % 20)), .slice As s.mkSats.length cs, .slice Ac s.mkCusts.length cc, .slice KA s.n kc, .slice TA s.n tc] : Array Value).all (·.oneCell') = true) := Lib.hid (by simp [Value.oneCell'])
       clear hS9 hp hp7 hp8 hh1 hh2
       go_wp2_with (refine wpList_store_abs rfl 58 (.tmp 2) (.tmp 149) rfl rfl rb #[.int .i64 (40 + s.fin * wide), .int .i64 (1 + s.trucks % 4), .int .i64 (5 + wide * (s.troom % 40)), .int .i64 (1 + s.bikes % 6), .int .i64 (3 + wide * (s.broom % 20)), .slice As s.mkSats.length cs, .slice Ac s.mkCusts.length cc, .slice KA s.n kc, .slice TA s.n tc] rfl rfl 58 _ (HP8.out.blk 3 rfl) (by kernel_rfl) rfl H1C.out ?_; intro w10 ho10 hg10)
       refine retArr rfl _ _ rb 58 #[.int .i64 (40 + s.fin * wide), .int .i64 (1 + s.trucks % 4), .int .i64 (5 + wide * (s.troom % 40)), .int .i64 (1 + s.bikes % 6), .int .i64 (3 + wide * (s.broom % 20)), .slice As s.mkSats.length cs, .slice Ac s.mkCusts.length cc, .slice KA s.n kc, .slice TA s.n tc] _ rfl hg10 Try.underlying58 rfl (by kernel_rfl) ?_
       have hE := (HP8.out.only 3 rfl ho10 hg10).sub (.cons_cons _ (.cons_cons _ (.cons _ (.cons _ (.cons _ (List.Sublist.refl _))))))
       refine ⟨⟨As, cs, Ac, cc, KA, kc, TA, tc⟩, hk1, hk2, ?_, by rw [HHH.out.1]; exact (sqRows_len _ _ _).symm, by rw [HHH.out.2]; exact (sqRows_len _ _ _).symm, ?_⟩
       · unfold InstV.cells SmallV.mk_
         simp only [sqRows_len, HWW.out]
       · have h := hE.perm (List.Perm.swap _ _ _)
         rw [← HSB.out]
         unfold instRs SmallV.mk_
         simp only [sqRows_len]
         exact h
set_option maxRecDepth 100000 in
set_option maxHeartbeats 8000000 in
theorem make_true (s : SmallV) (p : IAt) (w : World) (hI : SmallIn w w.heap.size p s) (hL : SmallL s) (hok : s.ok) (hlo : s.loose = true) :
 Calls Try.prog 20 #[.agg (s.vals p)] w (MakePost w s.mk_) := by
 have HL := Lib.hid hL
 have HOK := Lib.hid hok
 obtain ⟨i0, hi0, hz0, hz1, hz2⟩ := info_parts info_sat
 obtain ⟨j0, hj0, hy0, hy1, hy2⟩ := info_parts info_cust
 have HSI := Lib.hid (And.intro hi0 (And.intro hz0 (And.intro hz1 hz2)))
 have HCI := Lib.hid (And.intro hj0 (And.intro hy0 (And.intro hy1 hy2)))
 have hl1 := hL.sats
 have hl2 := hL.custs
 unfold maxLen at hl1 hl2
 obtain ⟨⟨f0, f1⟩, ⟨t0, t1⟩, ⟨tr0, tr1⟩, ⟨b0, b1⟩, br0, br1⟩ := (show isU8 s.fin ∧ isU8 s.trucks ∧ isU8 s.troom ∧ isU8 s.bikes ∧ isU8 s.broom from ⟨hok.fin, hok.trucks, hok.troom, hok.bikes, hok.broom⟩)
 obtain ⟨ti, hti⟩ : ∃ ti, s.tight = ti := ⟨_, rfl⟩
 have HTI := Lib.hid hti
 obtain ⟨wide, hwd⟩ : ∃ wide, s.wide = wide := ⟨_, rfl⟩
 have hw1 : wide = 9 := by rw [← hwd]; unfold SmallV.wide; rw [hlo]; rfl
 have HW1 := Lib.hid hw1
 have hP : (0 ≤ s.fin * wide ∧ s.fin * wide ≤ 2295) ∧ (0 ≤ wide * (s.troom % 40) ∧ wide * (s.troom % 40) ≤ 351) ∧ (0 ≤ wide * (s.broom % 20) ∧ wide * (s.broom % 20) ≤ 171) := by
  rw [hw1]; omega
 obtain ⟨⟨P0, P1⟩, ⟨P2, P3⟩, P4, P5⟩ := hP
 have HY : Hid (∀ a b c d, yCells s a b c d = #[.int .i64 (40 + s.fin * wide), .int .i64 (1 + s.trucks % 4), .int .i64 (5 + wide * (s.troom % 40)), .int .i64 (1 + s.bikes % 6), .int .i64 (3 + wide * (s.broom % 20)), a, b, c, d]) := Lib.hid (fun _ _ _ _ => by unfold yCells; rw [hwd])
 have HWW := Lib.hid hwd
 have hv : s.vals p = #[.int .u8 s.fin, .int .u8 s.trucks, .int .u8 s.troom, .int .u8 s.bikes, .int .u8 s.broom, .slice p.SA s.sats.length p.sc, .slice p.CA s.custs.length p.cc, .slice p.KA s.cost.length p.kc, .slice p.TA s.time.length p.tc, .bool ti, .bool true] := by unfold SmallV.vals; rw [hlo, hti]
 have hS0 := ((SL.start (Nat.le_refl w.heap.size)).alloc (s.vals p) 49).alloc #[.int .i64 0, .int .i64 0, .int .i64 0, .int .i64 0, .int .i64 0, .slice none 0 0, .slice none 0 0, .slice none 0 0, .slice none 0 0] 58
 obtain ⟨sb, hsb⟩ : ∃ sb, sb = w.heap.size := ⟨_, rfl⟩
 have HS0 := Lib.hid hS0
 have HI : Hid (SmallIn w sb p s) := Lib.hid (by rw [hsb]; exact hI)
 have HSB := Lib.hid hsb
 rw [hv] at HS0 ⊢
 clear hI hL hok hi0 hz0 hz1 hz2 hj0 hy0 hy1 hy2 hwd hS0 hw1 hlo hv hti
 go_enter Try.func20, Try.ntmps20
 go_upto_if 12 with fail
 go_cut [3] (fun v wx => v = .int .i64 wide ∧ SL w w.heap.size [.blk (w.heap.size + 1) #[.int .i64 0, .int .i64 0, .int .i64 0, .int .i64 0, .int .i64 0, .slice none 0 0, .slice none 0 0, .slice none 0 0, .slice none 0 0] 58, .blk w.heap.size (s.valsB p ti true) 49] wx)
 case first =>
  go_wp2_with fail
  go_meet
  exact ⟨by rw [HW1.out], by unfold SmallV.valsB; simpa using HS0.out⟩
 clear HS0
 obtain ⟨rfl, hS⟩ := hcut
 obtain ⟨w1, rfl⟩ : ∃ w1 : World, w1 = wc := ⟨_, rfl⟩
 obtain ⟨rb, hrb⟩ : ∃ rb, rb = w.heap.size + 1 := ⟨_, rfl⟩
 rw [← hrb] at hS ⊢
 rw [← hsb] at hS ⊢
 clear hrb hsb
 have c0 : w1.cell? ⟨sb, 0, none⟩ = some (.int .u8 s.fin) := hS.cell 1 rfl 0 rfl
 have c1 : w1.cell? ⟨sb, 1, none⟩ = some (.int .u8 s.trucks) := hS.cell 1 rfl 1 rfl
 have c2 : w1.cell? ⟨sb, 2, none⟩ = some (.int .u8 s.troom) := hS.cell 1 rfl 2 rfl
 have c3 : w1.cell? ⟨sb, 3, none⟩ = some (.int .u8 s.bikes) := hS.cell 1 rfl 3 rfl
 have c4 : w1.cell? ⟨sb, 4, none⟩ = some (.int .u8 s.broom) := hS.cell 1 rfl 4 rfl
 have c5 : w1.cell? ⟨sb, 5, none⟩ = some (.slice p.SA s.sats.length p.sc) := hS.cell 1 rfl 5 rfl
 have hz := (hS.lt 1 rfl).2
 have hS2 := (hS.alloc #[.int .i64 (40 + s.fin * wide), .int .i64 (1 + s.trucks % 4), .int .i64 (5 + wide * (s.troom % 40)), .int .i64 (1 + s.bikes % 6), .int .i64 (3 + wide * (s.broom % 20)), .slice none 0 0, .slice none 0 0, .slice none 0 0, .slice none 0 0] 58)
 have HS2 := Lib.hid hS2
 clear hS hS2
 go_upto_region 6 with fail
 obtain ⟨yb, hyb⟩ : ∃ yb, yb = w1.heap.size := ⟨_, rfl⟩
 obtain ⟨w2, hw2⟩ : ∃ w2, w2 = w1.alloc (.cells #[.int .i64 (40 + s.fin * wide), .int .i64 (1 + s.trucks % 4), .int .i64 (5 + wide * (s.troom % 40)), .int .i64 (1 + s.bikes % 6), .int .i64 (3 + wide * (s.broom % 20)), .slice none 0 0, .slice none 0 0, .slice none 0 0, .slice none 0 0] 58) := ⟨_, rfl⟩
 rw [← hyb, ← hw2] at HS2 ⊢
 clear hyb hw2 c0 c1 c2 c3 c4 c5 hz
 go_loopw [49] (fun i wr => ∃ (k m : Nat) (v : Value), k ≤ s.sats.length ∧ i = .int .i64 k ∧ m = min k 3 ∧ SL w sb [.row 94 2 v m ((satsK wide s.sats k).flatMap SatV.cells), .blk yb #[.int .i64 (40 + s.fin * wide), .int .i64 (1 + s.trucks % 4), .int .i64 (5 + wide * (s.troom % 40)), .int .i64 (1 + s.bikes % 6), .int .i64 (3 + wide * (s.broom % 20)), v, .slice none 0 0, .slice none 0 0, .slice none 0 0] 58, .blk rb #[.int .i64 0, .int .i64 0, .int .i64 0, .int .i64 0, .int .i64 0, .slice none 0 0, .slice none 0 0, .slice none 0 0, .slice none 0 0] 58, .blk sb (s.valsB p ti true) 49] wr) (fun i _ => s.sats.length - (intOf i).toNat)
 case atStart => exact ⟨0, 0, _, by omega, rfl, rfl, by simpa [satsK] using HS2.out.nil 94 2⟩
 case round =>
  clear HS2
  obtain ⟨k, m, v, hk, rfl, hm, hS⟩ := hrel
  by_cases hlt : k < s.sats.length
  · obtain ⟨g, o, hSA, hg, d0, d1⟩ := sats8_at (HI.out.sats.below hS.below) hlt
    obtain ⟨⟨x0, x1⟩, x2, x3⟩ := HOK.out.sats _ (List.getElem_mem hlt)
    obtain ⟨q, hq⟩ : ∃ q, s.sats[k] = q := ⟨_, rfl⟩
    rw [hq] at d0 d1 x0 x1 x2 x3
    have hzy := (hS.lt 1 rfl).2
    have c3 : wr.cell? ⟨yb, 5, none⟩ = some v := hS.cell 1 rfl 5 rfl
    have hS2 := hS.alloc #[.int .u8 q.room, .int .u8 q.hold] 92
    have HS2 := Lib.hid hS2
    obtain ⟨A, c, rfl, _, _⟩ := (hS.row 0 rfl).slice_
    rw [hSA]
    by_cases h3 : k < 3
    · obtain rfl : m = k := by omega
      have HQ : Hid (satsK wide s.sats (m + 1) = satsK wide s.sats m ++ [mkSat wide q]) := Lib.hid (by rw [← hq]; exact take_yes _ hlt h3)
      have hP : 0 ≤ wide * (q.room % 40) ∧ wide * (q.room % 40) ≤ 351 := by rw [HW1.out]; omega
      obtain ⟨Q0, Q1⟩ := hP
      clear hS hS2 hSA hq hm
      go_upto_region 8 with fail
      obtain ⟨qb, hqb⟩ : ∃ qb, qb = wr.heap.size := ⟨_, rfl⟩
      generalize (wr.alloc (.cells #[.int .u8 q.room, .int .u8 q.hold] 92)) = w9 at *
      rw [← hqb] at HS2 ⊢
      clear hqb d0 d1 c3 hzy
      have c3 : w9.cell? ⟨yb, 5, none⟩ = some (.slice A m c) := HS2.out.cell 2 rfl 5 rfl
      have e0 : w9.cell? ⟨qb, 0, none⟩ = some (.int .u8 q.room) := HS2.out.cell 0 rfl 0 rfl
      have e1 : w9.cell? ⟨qb, 1, none⟩ = some (.int .u8 q.hold) := HS2.out.cell 0 rfl 1 rfl
      go_wp2_with (at_builtin; refine stopHere ?_)
      show wpList _ _ _ _ _ _
      refine wpList_append_sl rfl _ _ 54 rfl HS2.out 1 i0 (.agg #[.int .i64 0, .int .i64 0]) 2 16 Try.underlying54 HSI.out.1 HSI.out.2.1 HSI.out.2.2.1 HSI.out.2.2.2 rfl (by decide) _ _ 1 _ rfl rfl _ rfl rfl (by decide) rfl (by simp [Value.oneCell']) (by omega) (by decide) ?_
      intro v' w10 hS5 hz5
      obtain ⟨A', c', rfl, _, _⟩ := (hS5.row 1 rfl).slice_
      have y0 : w10.cell? ⟨yb, 5, none⟩ = some (.slice A m c) := hS5.cell 2 rfl 5 rfl
      have y1 := hS5.free 2 rfl 5
      have HS6 := Lib.hid (hS5.setCell 2 rfl 5 (.slice A' (m + 1) c'))
      clear hS5 HS2 c3 e0 e1 hz5
      go_wp2_with fail
      go_roundw
      case rel =>
       refine ⟨m + 1, m + 1, .slice A' (m + 1) c', by omega, by go_num, by omega, ?_⟩
       rw [HQ.out, flat_snoc]
       exact HS6.out.tail
      case measure => simp [intOf]; omega
    · obtain rfl : m = 3 := by omega
      have HQ : Hid (satsK wide s.sats (k + 1) = satsK wide s.sats k) := Lib.hid (take_no _ h3)
      clear hS hS2 hSA hq hm
      go_wp2_with fail
      go_roundw
      case rel => exact ⟨k + 1, 3, .slice A 3 c, by omega, by go_num, by omega, by rw [HQ.out]; exact HS2.out.tail⟩
      case measure => simp [intOf]; omega
  · obtain rfl : k = s.sats.length := by omega
    have HSL := Lib.hid (satsK_len wide s.sats s.sats.length (Nat.le_refl _))
    have c3 : wr.cell? ⟨yb, 5, none⟩ = some v := hS.cell 1 rfl 5 rfl
    have c3f := hS.free 1 rfl 5
    have hzy := (hS.lt 1 rfl).2
    obtain ⟨A, c, rfl, _, _⟩ := (hS.row 0 rfl).slice_
    obtain ⟨wo, rfl⟩ : ∃ wo : World, wo = wr := ⟨_, rfl⟩
    have HM0 := Lib.hid hm
    clear hm
    go_upto_if 78 with fail
    go_cut [] (fun wx => ∃ v, SL w sb [.row 94 2 v s.mkSats.length (s.mkSats.flatMap SatV.cells), .blk yb #[.int .i64 (40 + s.fin * wide), .int .i64 (1 + s.trucks % 4), .int .i64 (5 + wide * (s.troom % 40)), .int .i64 (1 + s.bikes % 6), .int .i64 (3 + wide * (s.broom % 20)), v, .slice none 0 0, .slice none 0 0, .slice none 0 0] 58, .blk rb #[.int .i64 0, .int .i64 0, .int .i64 0, .int .i64 0, .int .i64 0, .slice none 0 0, .slice none 0 0, .slice none 0 0, .slice none 0 0] 58, .blk sb (s.valsB p ti true) 49] wx)
    case first =>
     by_cases h0 : m = 0
     · have HM : Hid (s.mkSats = [⟨60, 2⟩]) := Lib.hid (by unfold SmallV.mkSats; rw [HWW.out, HSL.out, ← HM0.out, if_pos h0])
       have z1 : ((m : Int) == 0) = true := by simp [h0]
       have z2 : (m == 0) = true := by simp [h0]
       have z3 : decide (m = 0) = true := by simp [h0]
       have hS3 := (hS.setCell 1 rfl 5 (.slice (some ⟨wo.heap.size, 0, none⟩) 1 1)).alloc #[.int .i64 60, .int .i64 2] 94
       rw [show (wo.setCell ⟨yb, 5, none⟩ (.slice (some ⟨wo.heap.size, 0, none⟩) 1 1)).heap.size = wo.heap.size by simp [World.setCell]] at hS3
       have HS3 := Lib.hid ((hS3.blkRow 0 rfl 1 2 (by unfold maxLen; omega) rfl).sub (.cons_cons _ (.cons _ (List.Sublist.refl _))))
       clear hS hS3 h0
       go_wp2_with fail
       go_meet
       exact ⟨.slice (some ⟨wo.heap.size, 0, none⟩) 1 1, by rw [HM.out]; exact HS3.out⟩
     · have HM : Hid (s.mkSats = satsK wide s.sats s.sats.length ∧ s.mkSats.length = m) := Lib.hid (by
        unfold SmallV.mkSats
        rw [HWW.out, HSL.out, ← HM0.out, if_neg h0]
        exact ⟨rfl, by rw [HSL.out, ← HM0.out]⟩)
       have z1 : ((m : Int) == 0) = false := by simp; omega
       have z2 : (m == 0) = false := by simp [h0]
       have z3 : decide (m = 0) = false := by simp [h0]
       have HS := Lib.hid hS
       clear hS h0
       go_wp2_with fail
       go_meet
       exact ⟨.slice A m c, by rw [HM.out.2, HM.out.1]; exact HS.out⟩
    clear hS c3 c3f hzy HM0 HSL
    obtain ⟨w3, rfl⟩ : ∃ w3 : World, w3 = wc := ⟨_, rfl⟩
    obtain ⟨vs, hS⟩ := hcut
    have c6 : w3.cell? ⟨sb, 6, none⟩ = some (.slice p.CA s.custs.length p.cc) := hS.cell 3 rfl 6 rfl
    have HS3 := Lib.hid hS
    clear hS
    go_wp2_with fail
    go_loopw [85] (fun i wr => ∃ (k m : Nat) (v : Value), k ≤ s.custs.length ∧ i = .int .i64 k ∧ m = min k 6 ∧ SL w sb [.row 98 4 v m ((custsK wide ti s.custs k).flatMap CustV.cells), .row 94 2 vs s.mkSats.length (s.mkSats.flatMap SatV.cells), .blk yb #[.int .i64 (40 + s.fin * wide), .int .i64 (1 + s.trucks % 4), .int .i64 (5 + wide * (s.troom % 40)), .int .i64 (1 + s.bikes % 6), .int .i64 (3 + wide * (s.broom % 20)), vs, v, .slice none 0 0, .slice none 0 0] 58, .blk rb #[.int .i64 0, .int .i64 0, .int .i64 0, .int .i64 0, .int .i64 0, .slice none 0 0, .slice none 0 0, .slice none 0 0, .slice none 0 0] 58, .blk sb (s.valsB p ti true) 49] wr) (fun i _ => s.custs.length - (intOf i).toNat)
    case atStart => exact ⟨0, 0, _, by omega, rfl, rfl, by simpa [custsK] using HS3.out.nil 98 4⟩
    case round =>
     clear HS3
     obtain ⟨k, m, v, hk, rfl, hm, hS⟩ := hrel
     by_cases hlt : k < s.custs.length
     · obtain ⟨g, o, hSA, hg, d0, d1, d2, d3⟩ := custs8_at (HI.out.custs.below hS.below) hlt
       obtain ⟨⟨x0, x1⟩, ⟨x2, x3⟩, ⟨x4, x5⟩, x6, x7⟩ := HOK.out.custs _ (List.getElem_mem hlt)
       obtain ⟨q, hq⟩ : ∃ q, s.custs[k] = q := ⟨_, rfl⟩
       rw [hq] at d0 d1 d2 d3 x0 x1 x2 x3 x4 x5 x6 x7
       have hzy := (hS.lt 2 rfl).2
       have c3 : wr.cell? ⟨yb, 6, none⟩ = some v := hS.cell 2 rfl 6 rfl
       have hS2 := hS.alloc #[.int .u8 q.load, .int .u8 q.opn, .int .u8 q.cls, .int .u8 q.stay] 96
       have HS2 := Lib.hid hS2
       obtain ⟨A, c, rfl, _, _⟩ := (hS.row 0 rfl).slice_
       rw [hSA]
       by_cases h3 : k < 6
       · obtain rfl : m = k := by omega
         have hP : 0 ≤ wide * q.cls ∧ wide * q.cls ≤ 2295 := by rw [HW1.out]; omega
         obtain ⟨Q0, Q1⟩ := hP
         have HQ1 := Lib.hid (take_yes (mkCust wide ti) hlt h3)
         have HQ2 := Lib.hid hq
         clear hS hS2 hSA hm hq
         go_upto_region 16 with fail
         obtain ⟨qb, hqb⟩ : ∃ qb, qb = wr.heap.size := ⟨_, rfl⟩
         generalize (wr.alloc (.cells #[.int .u8 q.load, .int .u8 q.opn, .int .u8 q.cls, .int .u8 q.stay] 96)) = w9 at *
         rw [← hqb] at HS2 ⊢
         clear hqb d0 d1 d2 d3 c3 hzy
         have c3 : w9.cell? ⟨yb, 6, none⟩ = some (.slice A m c) := HS2.out.cell 3 rfl 6 rfl
         have c9 : w9.cell? ⟨sb, 9, none⟩ = some (.bool ti) := HS2.out.cell 5 rfl 9 rfl
         have e0 : w9.cell? ⟨qb, 0, none⟩ = some (.int .u8 q.load) := HS2.out.cell 0 rfl 0 rfl
         have e1 : w9.cell? ⟨qb, 1, none⟩ = some (.int .u8 q.opn) := HS2.out.cell 0 rfl 1 rfl
         have e2 : w9.cell? ⟨qb, 2, none⟩ = some (.int .u8 q.cls) := HS2.out.cell 0 rfl 2 rfl
         have e3 : w9.cell? ⟨qb, 3, none⟩ = some (.int .u8 q.stay) := HS2.out.cell 0 rfl 3 rfl
         go_upto_if 99 with fail
         go_cut [9] (fun v wx => v = .int .i64 (1 + q.load % 6 + (if ti then q.load / 32 else 0)) ∧ wx = w9)
         case first =>
          cases ti
          case false =>
           go_wp2_with fail
           go_meet
           exact ⟨by simp, rfl⟩
          case true =>
           go_wp2_with fail
           go_meet
           exact ⟨by simp, rfl⟩
         obtain ⟨rfl, hwc⟩ := hcut
         rw [hwc]
         clear hwc
         obtain ⟨ld, hld⟩ : ∃ ld, (1 + q.load % 6 + (if ti then q.load / 32 else 0)) = ld := ⟨_, rfl⟩
         have HQ : Hid (custsK wide ti s.custs (m + 1) = custsK wide ti s.custs m ++ [⟨ld, q.opn % 50, q.opn % 50 + wide * q.cls, q.stay % 8⟩]) := Lib.hid (by
          have := HQ1.out
          rw [HQ2.out] at this
          rw [← hld]
          exact this)
         rw [hld]
         clear hld c9 HQ1 HQ2
         go_wp2_with (at_builtin; refine stopHere ?_)
         show wpList _ _ _ _ _ _
         refine wpList_append_sl rfl _ _ 55 rfl HS2.out 1 j0 (.agg #[.int .i64 0, .int .i64 0, .int .i64 0, .int .i64 0]) 4 32 Try.underlying55 HCI.out.1 HCI.out.2.1 HCI.out.2.2.1 HCI.out.2.2.2 rfl (by decide) _ _ 1 _ rfl rfl _ rfl rfl (by decide) rfl (by simp [Value.oneCell']) (by omega) (by decide) ?_
         intro v' w10 hS5 hz5
         obtain ⟨A', c', rfl, _, _⟩ := (hS5.row 1 rfl).slice_
         have y0 : w10.cell? ⟨yb, 6, none⟩ = some (.slice A m c) := hS5.cell 3 rfl 6 rfl
         have y1 := hS5.free 3 rfl 6
         have HS6 := Lib.hid (hS5.setCell 3 rfl 6 (.slice A' (m + 1) c'))
         clear hS5 HS2 c3 e0 e1 e2 e3 hz5
         go_wp2_with fail
         go_roundw
         case rel =>
          refine ⟨m + 1, m + 1, .slice A' (m + 1) c', by omega, by go_num, by omega, ?_⟩
          rw [HQ.out, flat_snoc]
          exact HS6.out.tail
         case measure => simp [intOf]; omega
       · obtain rfl : m = 6 := by omega
         have HQ : Hid (custsK wide ti s.custs (k + 1) = custsK wide ti s.custs k) := Lib.hid (take_no _ h3)
         clear hS hS2 hSA hq hm
         go_wp2_with fail
         go_roundw
         case rel => exact ⟨k + 1, 6, .slice A 6 c, by omega, by go_num, by omega, by rw [HQ.out]; exact HS2.out.tail⟩
         case measure => simp [intOf]; omega
     · obtain rfl : k = s.custs.length := by omega
       have HSL := Lib.hid (custsK_len wide ti s.custs s.custs.length (Nat.le_refl _))
       have c3 : wr.cell? ⟨yb, 6, none⟩ = some v := hS.cell 2 rfl 6 rfl
       have c3f := hS.free 2 rfl 6
       have hzy := (hS.lt 2 rfl).2
       obtain ⟨A, c, rfl, _, _⟩ := (hS.row 0 rfl).slice_
       obtain ⟨wo, rfl⟩ : ∃ wo : World, wo = wr := ⟨_, rfl⟩
       have HM0 := Lib.hid hm
       clear hm
       go_upto_if 133 with fail
       go_cut [] (fun wx => ∃ v, SL w sb [.row 98 4 v s.mkCusts.length (s.mkCusts.flatMap CustV.cells), .row 94 2 vs s.mkSats.length (s.mkSats.flatMap SatV.cells), .blk yb #[.int .i64 (40 + s.fin * wide), .int .i64 (1 + s.trucks % 4), .int .i64 (5 + wide * (s.troom % 40)), .int .i64 (1 + s.bikes % 6), .int .i64 (3 + wide * (s.broom % 20)), vs, v, .slice none 0 0, .slice none 0 0] 58, .blk rb #[.int .i64 0, .int .i64 0, .int .i64 0, .int .i64 0, .int .i64 0, .slice none 0 0, .slice none 0 0, .slice none 0 0, .slice none 0 0] 58, .blk sb (s.valsB p ti true) 49] wx)
       case first =>
        by_cases h0 : m = 0
        · have HM : Hid (s.mkCusts = [⟨2, 5, 90, 1⟩]) := Lib.hid (by unfold SmallV.mkCusts; rw [HWW.out, HTI.out, HSL.out, ← HM0.out, if_pos h0])
          have z1 : ((m : Int) == 0) = true := by simp [h0]
          have hS3 := (hS.setCell 2 rfl 6 (.slice (some ⟨wo.heap.size, 0, none⟩) 1 1)).alloc #[.int .i64 2, .int .i64 5, .int .i64 90, .int .i64 1] 98
          rw [show (wo.setCell ⟨yb, 6, none⟩ (.slice (some ⟨wo.heap.size, 0, none⟩) 1 1)).heap.size = wo.heap.size by simp [World.setCell]] at hS3
          have HS3 := Lib.hid ((hS3.blkRow 0 rfl 1 4 (by unfold maxLen; omega) rfl).sub (.cons_cons _ (.cons _ (List.Sublist.refl _))))
          clear hS hS3 h0
          go_wp2_with fail
          go_meet
          exact ⟨.slice (some ⟨wo.heap.size, 0, none⟩) 1 1, by rw [HM.out]; exact HS3.out⟩
        · have HM : Hid (s.mkCusts = custsK wide ti s.custs s.custs.length ∧ s.mkCusts.length = m) := Lib.hid (by
           unfold SmallV.mkCusts
           rw [HWW.out, HTI.out, HSL.out, ← HM0.out, if_neg h0]
           exact ⟨rfl, by rw [HSL.out, ← HM0.out]⟩)
          have z1 : ((m : Int) == 0) = false := by simp; omega
          have HS := Lib.hid hS
          clear hS h0
          go_wp2_with fail
          go_meet
          exact ⟨.slice A m c, by rw [HM.out.2, HM.out.1]; exact HS.out⟩
       clear hS c3 c3f hzy HM0 HSL
       obtain ⟨w4, rfl⟩ : ∃ w4 : World, w4 = wc := ⟨_, rfl⟩
       obtain ⟨vc, hS⟩ := hcut
       have HCL := Lib.hid s.custs_len
       have HSN := Lib.hid s.sats_len
       obtain ⟨As, cs, rfl, _, _⟩ := (hS.row 1 rfl).slice_
       obtain ⟨Ac, cc, rfl, _, _⟩ := (hS.row 0 rfl).slice_
       have HN : Hid (∀ wx, Calls Try.prog 43 #[.agg #[.int .i64 (40 + s.fin * wide), .int .i64 (1 + s.trucks % 4), .int .i64 (5 + wide * (s.troom % 40)), .int .i64 (1 + s.bikes % 6), .int .i64 (3 + wide * (s.broom % 20)), .slice As s.mkSats.length cs, .slice Ac s.mkCusts.length cc, .slice none 0 0, .slice none 0 0]] wx fun e w' => e = .returned (.int .i64 (s.n : Nat)) ∧ Below wx.heap.size wx w') := Lib.hid (fun wx => by
        have h := nodes11_any { s.mk_ with cost := [], time := [] } ⟨As, cs, Ac, cc, none, 0, none, 0⟩ wx (by have := HSN.out; show s.mkSats.length ≤ 1000; omega) (by have := HCL.out; show s.mkCusts.length ≤ 1000; omega)
        have e : ({ s.mk_ with cost := [], time := [] } : InstV).cells ⟨As, cs, Ac, cc, none, 0, none, 0⟩ = #[.int .i64 (40 + s.fin * wide), .int .i64 (1 + s.trucks % 4), .int .i64 (5 + wide * (s.troom % 40)), .int .i64 (1 + s.bikes % 6), .int .i64 (3 + wide * (s.broom % 20)), .slice As s.mkSats.length cs, .slice Ac s.mkCusts.length cc, .slice none 0 0, .slice none 0 0] := by
         unfold InstV.cells SmallV.mk_
         dsimp only
         rw [HWW.out]
         rfl
        rw [e] at h
        exact h)
       have hn10 : s.n ≤ 100 := by have := HCL.out; have := HSN.out; unfold SmallV.n; omega
       have HN10 := Lib.hid hn10
       have HS := Lib.hid hS
       clear hS hn10
       go_upto_region 25 with fail
       refine wp_region_slb [0,1,2,5,6,7] [3,4,8,9,10] [11,12,13] [.blk yb #[.int .i64 (40 + s.fin * wide), .int .i64 (1 + s.trucks % 4), .int .i64 (5 + wide * (s.troom % 40)), .int .i64 (1 + s.bikes % 6), .int .i64 (3 + wide * (s.broom % 20)), .slice As s.mkSats.length cs, .slice Ac s.mkCusts.length cc, .slice none 0 0, .slice none 0 0] 58, .blk sb (s.valsB p ti true) 49] HS.out (.cons _ (.cons _ (.cons_cons _ (.cons _ (.cons_cons _ .slnil))))) (by kernel_rfl) (by kernel_rfl) (.cons rfl (.cons rfl (.cons rfl .nil))) (fun C cw _ hC => ?_)
       have q0 : ∀ c, (cw c).cell? ⟨yb, 0, none⟩ = some (.int .i64 (40 + s.fin * wide)) := fun c => (hC c).cell 0 rfl 0 rfl
       have q1 : ∀ c, (cw c).cell? ⟨yb, 1, none⟩ = some (.int .i64 (1 + s.trucks % 4)) := fun c => (hC c).cell 0 rfl 1 rfl
       have q2 : ∀ c, (cw c).cell? ⟨yb, 2, none⟩ = some (.int .i64 (5 + wide * (s.troom % 40))) := fun c => (hC c).cell 0 rfl 2 rfl
       have q3 : ∀ c, (cw c).cell? ⟨yb, 3, none⟩ = some (.int .i64 (1 + s.bikes % 6)) := fun c => (hC c).cell 0 rfl 3 rfl
       have q4 : ∀ c, (cw c).cell? ⟨yb, 4, none⟩ = some (.int .i64 (3 + wide * (s.broom % 20))) := fun c => (hC c).cell 0 rfl 4 rfl
       have q5 : ∀ c, (cw c).cell? ⟨yb, 5, none⟩ = some (.slice As s.mkSats.length cs) := fun c => (hC c).cell 0 rfl 5 rfl
       have q6 : ∀ c, (cw c).cell? ⟨yb, 6, none⟩ = some (.slice Ac s.mkCusts.length cc) := fun c => (hC c).cell 0 rfl 6 rfl
       have q7 : ∀ c, (cw c).cell? ⟨yb, 7, none⟩ = some (.slice none 0 0) := fun c => (hC c).cell 0 rfl 7 rfl
       have q8 : ∀ c, (cw c).cell? ⟨yb, 8, none⟩ = some (.slice none 0 0) := fun c => (hC c).cell 0 rfl 8 rfl
       have r7 : ∀ c, (cw c).cell? ⟨sb, 7, none⟩ = some (.slice p.KA s.cost.length p.kc) := fun c => (hC c).cell 1 rfl 7 rfl
       have r8 : ∀ c, (cw c).cell? ⟨sb, 8, none⟩ = some (.slice p.TA s.time.length p.tc) := fun c => (hC c).cell 1 rfl 8 rfl
       repeat (refine pl_look rfl rfl rfl (fun Kv hK => ?_); go_big_quiet_op; refine hK _ ?_; clear hK Kv)
       clear q0 q1 q2 q3 q4 q5 q6 q7 q8 r7 r8 hC HS
       refine pl_end ?_
       intro w5 hS5
       refine pb_one 3 (by kernel_rfl) (by kernel_rfl) ?_
       refine kOp_eff rfl rfl fun Kv hK => ?_
       go_simp
       refine eff_call (HN.out w5) (fun e w6 h => ?_)
       obtain ⟨rfl, hb⟩ := h
       have hS6 := hS5.call hb
       clear hb hS5
       left
       refine ⟨_, rfl, hS6.sub (.cons _ (.cons _ (.cons_cons _ (.cons _ (.cons_cons _ .slnil))))), hK _ _ ?_⟩
       clear hK Kv
       refine pb_one 4 (by kernel_rfl) (by kernel_rfl) ?_
       refine kOp_eff rfl rfl fun Kv hK => ?_
       go_simp
       refine eff_call (square11_any p.KA p.kc s.cost s.n w6 (reads_more (HI.out.cost.below hS6.below) hS6.size) HL.out.cost HOK.out.cost HN10.out) (fun e w7 h => ?_)
       obtain ⟨v1, hk1, rfl, hh1, hq1⟩ := h
       obtain ⟨KA, kc, rfl, _, _⟩ := (hq1.row 0 rfl).slice_
       have hS7 := hS6.join hq1
       clear hq1 hS6
       left
       refine ⟨_, rfl, hS7.sub ((List.Sublist.cons _ (.cons _ (.cons_cons _ (.cons _ (.cons_cons _ .slnil))))).trans (List.sublist_append_right _ _)), hK _ _ ?_⟩
       clear hK Kv
       refine pb_told 10 (.pointer (some ⟨yb, 7, none⟩)) (by kernel_rfl) rfl (by kernel_rfl) (by kernel_rfl) (by kernel_rfl) (by kernel_rfl) (hS7.sub ((List.Sublist.cons _ (.cons _ (.cons_cons _ (.cons _ (.cons_cons _ .slnil))))).trans (List.sublist_append_right _ _))) rfl (fun _ _ => rfl) (fun Kv hK => ?_)
       go_simp
       refine hK _ ?_
       clear hK Kv
       refine pb_one 8 (by kernel_rfl) (by kernel_rfl) ?_
       refine kOp_eff rfl rfl fun Kv hK => ?_
       go_simp
       refine eff_call (HN.out w7) (fun e w8 h => ?_)
       obtain ⟨rfl, hb⟩ := h
       have hS8 := hS7.call hb
       clear hb hS7
       left
       refine ⟨_, rfl, hS8.sub ((List.Sublist.cons _ (.cons _ (.cons_cons _ (.cons _ (.cons_cons _ .slnil))))).trans (List.sublist_append_right _ _)), hK _ _ ?_⟩
       clear hK Kv
       refine pb_one 9 (by kernel_rfl) (by kernel_rfl) ?_
       refine kOp_eff rfl rfl fun Kv hK => ?_
       go_simp
       refine eff_call (square11_any p.TA p.tc s.time s.n w8 (reads_more (HI.out.time.below hS8.below) hS8.size) HL.out.time HOK.out.time HN10.out) (fun e w9 h => ?_)
       obtain ⟨v2, hk2, rfl, hh2, hq2⟩ := h
       obtain ⟨TA, tc, rfl, _, _⟩ := (hq2.row 0 rfl).slice_
       have hS9 := hS8.join hq2
       clear hq2 hS8
       left
       refine ⟨_, rfl, hS9.sub (((List.Sublist.cons _ (.cons _ (.cons_cons _ (.cons _ (.cons_cons _ .slnil))))).trans (List.sublist_append_right _ _)).trans (List.sublist_append_right _ _)), hK _ _ ?_⟩
       clear hK Kv
       refine pb_end (by kernel_rfl) ?_
       have hp := hS9.perm (perm_two _ _ _ _ _)
       have g7 : w9.cell? ⟨yb, 7, none⟩ = some (.slice none 0 0) := hp.cell 2 rfl 7 rfl
       have g7f := hp.free 2 rfl 7
       have hp7 := hp.setCell 2 rfl 7 (.slice KA s.n kc)
       have g8 : (w9.setCell ⟨yb, 7, none⟩ (.slice KA s.n kc)).cell? ⟨yb, 8, none⟩ = some (.slice none 0 0) := hp7.cell 2 rfl 8 rfl
       have g8f := hp7.free 2 rfl 8
       have hp8 := hp7.setCell 2 rfl 8 (.slice TA s.n tc)
       have n0 : ((w9.setCell ⟨yb, 7, none⟩ (.slice KA s.n kc)).setCell ⟨yb, 8, none⟩ (.slice TA s.n tc)).cell? ⟨yb, 0, none⟩ = some (.int .i64 (40 + s.fin * wide)) := hp8.cell 2 rfl 0 rfl
       have n1 : ((w9.setCell ⟨yb, 7, none⟩ (.slice KA s.n kc)).setCell ⟨yb, 8, none⟩ (.slice TA s.n tc)).cell? ⟨yb, 1, none⟩ = some (.int .i64 (1 + s.trucks % 4)) := hp8.cell 2 rfl 1 rfl
       have n2 : ((w9.setCell ⟨yb, 7, none⟩ (.slice KA s.n kc)).setCell ⟨yb, 8, none⟩ (.slice TA s.n tc)).cell? ⟨yb, 2, none⟩ = some (.int .i64 (5 + wide * (s.troom % 40))) := hp8.cell 2 rfl 2 rfl
       have n3 : ((w9.setCell ⟨yb, 7, none⟩ (.slice KA s.n kc)).setCell ⟨yb, 8, none⟩ (.slice TA s.n tc)).cell? ⟨yb, 3, none⟩ = some (.int .i64 (1 + s.bikes % 6)) := hp8.cell 2 rfl 3 rfl
       have n4 : ((w9.setCell ⟨yb, 7, none⟩ (.slice KA s.n kc)).setCell ⟨yb, 8, none⟩ (.slice TA s.n tc)).cell? ⟨yb, 4, none⟩ = some (.int .i64 (3 + wide * (s.broom % 20))) := hp8.cell 2 rfl 4 rfl
       have n5 : ((w9.setCell ⟨yb, 7, none⟩ (.slice KA s.n kc)).setCell ⟨yb, 8, none⟩ (.slice TA s.n tc)).cell? ⟨yb, 5, none⟩ = some (.slice As s.mkSats.length cs) := hp8.cell 2 rfl 5 rfl
       have n6 : ((w9.setCell ⟨yb, 7, none⟩ (.slice KA s.n kc)).setCell ⟨yb, 8, none⟩ (.slice TA s.n tc)).cell? ⟨yb, 6, none⟩ = some (.slice Ac s.mkCusts.length cc) := hp8.cell 2 rfl 6 rfl
       have n7 : ((w9.setCell ⟨yb, 7, none⟩ (.slice KA s.n kc)).setCell ⟨yb, 8, none⟩ (.slice TA s.n tc)).cell? ⟨yb, 7, none⟩ = some (.slice KA s.n kc) := hp8.cell 2 rfl 7 rfl
       have n8 : ((w9.setCell ⟨yb, 7, none⟩ (.slice KA s.n kc)).setCell ⟨yb, 8, none⟩ (.slice TA s.n tc)).cell? ⟨yb, 8, none⟩ = some (.slice TA s.n tc) := hp8.cell 2 rfl 8 rfl
       have HP8 := Lib.hid hp8
       have HHH := Lib.hid (And.intro hh1 hh2)
       have H1C : Hid ((#[.int .i64 (40 + s.fin * wide), .int .i64 (1 + s.trucks % 4), .int .i64 (5 + wide * (s.troom % 40)), .int .i64 (1 + s.bikes % 6), .int .i64 (3 + wide * (s.broom % 20)), .slice As s.mkSats.length cs, .slice Ac s.mkCusts.length cc, .slice KA s.n kc, .slice TA s.n tc] : Array Value).all (·.oneCell') = true) := Lib.hid (by simp [Value.oneCell'])
       clear hS9 hp hp7 hp8 hh1 hh2
       go_wp2_with (refine wpList_store_abs rfl 58 (.tmp 2) (.tmp 149) rfl rfl rb #[.int .i64 (40 + s.fin * wide), .int .i64 (1 + s.trucks % 4), .int .i64 (5 + wide * (s.troom % 40)), .int .i64 (1 + s.bikes % 6), .int .i64 (3 + wide * (s.broom % 20)), .slice As s.mkSats.length cs, .slice Ac s.mkCusts.length cc, .slice KA s.n kc, .slice TA s.n tc] rfl rfl 58 _ (HP8.out.blk 3 rfl) (by kernel_rfl) rfl H1C.out ?_; intro w10 ho10 hg10)
       refine retArr rfl _ _ rb 58 #[.int .i64 (40 + s.fin * wide), .int .i64 (1 + s.trucks % 4), .int .i64 (5 + wide * (s.troom % 40)), .int .i64 (1 + s.bikes % 6), .int .i64 (3 + wide * (s.broom % 20)), .slice As s.mkSats.length cs, .slice Ac s.mkCusts.length cc, .slice KA s.n kc, .slice TA s.n tc] _ rfl hg10 Try.underlying58 rfl (by kernel_rfl) ?_
       have hE := (HP8.out.only 3 rfl ho10 hg10).sub (.cons_cons _ (.cons_cons _ (.cons _ (.cons _ (.cons _ (List.Sublist.refl _))))))
       refine ⟨⟨As, cs, Ac, cc, KA, kc, TA, tc⟩, hk1, hk2, ?_, by rw [HHH.out.1]; exact (sqRows_len _ _ _).symm, by rw [HHH.out.2]; exact (sqRows_len _ _ _).symm, ?_⟩
       · unfold InstV.cells SmallV.mk_
         simp only [sqRows_len, HWW.out]
       · have h := hE.perm (List.Perm.swap _ _ _)
         rw [← HSB.out]
         unfold instRs SmallV.mk_
         simp only [sqRows_len]
         exact h
theorem make_any (s : SmallV) (p : IAt) (w : World) (hI : SmallIn w w.heap.size p s) (hL : SmallL s) (hok : s.ok) :
 Calls Try.prog 20 #[.agg (s.vals p)] w (MakePost w s.mk_) := by
 cases h : s.loose
 · exact make_false s p w hI hL hok h
 · exact make_true s p w hI hL hok h
end Go.Proofs.Ytpbhbmdghafkmaa
