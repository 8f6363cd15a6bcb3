/- law11.Small, opened; made into an instance. (printed by gen/smallopen.py) -/
import Derived.Test.YtpbhbmdghafkmaaMakeW
import Derived.Test.YtpbhbmdghafkmaaOpen17
import Derived.ChangeArms
namespace Go.Proofs.Ytpbhbmdghafkmaa
open Go.ChangeShapes Go.WideShapes Go.Deep Go.Joins Go.RowKit
set_option linter.unusedVariables false
theorem isU8_of {a : Int} (h : (Lit.int .u8 a).wf = true) : isU8 a := by
 simp [Lit.wf, IntKind.min, IntKind.max, IntKind.signed, IntKind.bits] at h
 exact h
section
variable {H : Type} {enc : TypeId × Value → H} {W : World}
theorem open_bool1 {n : Nat} {t : TypeId} (ht : Try.prog.underlying t = some .bool) {v : Value} {y : DataW H × List MemPlace} (h : DataW.trod enc Try.prog W 0 (fun _ => true) true n t [v] = some y) : ∃ b : Bool, v = .bool b := by
 obtain ⟨b, e, _⟩ := DataW.trod_bool ht h
 simp only [List.cons.injEq, and_true] at e
 exact ⟨b, e⟩
theorem bytes_open {n : Nat} {v : Value} {y : DataW H × List MemPlace} (h : DataW.trod enc Try.prog W 0 (fun _ => true) true n 22 [v] = some y) : ∃ (A : Option Addr) (c : Nat) (l : List Int), v = .slice A l.length c ∧ Reads W W.heap.size 1 A l.length (l.map (.int .u8)) ∧ l.length ≤ maxLen ∧ ∀ a ∈ l, isU8 a := by
 rcases Go.ChangeShapes.open_ints Try.underlying22 Try.underlying5 (by kernel_rfl) h with ⟨hcs, _⟩ | ⟨x, len, cap, zs, hcs, _, hl, hm, hz, _, hcell, hwz⟩
 · simp only [List.cons.injEq, and_true] at hcs
   exact ⟨none, 0, [], hcs, reads_nil _ _ _, by simp [maxLen], by simp⟩
 · simp only [List.cons.injEq, and_true] at hcs
   obtain ⟨l, h1, h2, h3, h4⟩ := reads_take hl hm (by simpa using hz) hcell hwz
   subst h1
   exact ⟨some x, cap, l, hcs, h2, h3, fun a ha => isU8_of (h4 a ha)⟩
theorem sats8_open {n : Nat} {v : Value} {y : DataW H × List MemPlace} (h : DataW.trod enc Try.prog W 0 (fun _ => true) true n 46 [v] = some y) : ∃ (A : Option Addr) (c : Nat) (l : List SatV), v = .slice A l.length c ∧ Reads W W.heap.size 2 A l.length (l.flatMap SatV.cells8) ∧ l.length ≤ maxLen ∧ ∀ x ∈ l, x.ok :=
 structs_open SatV.cells8 2 SatV.cells8_len (by decide) SatV.ok Try.underlying46 Try.underlying92 (by kernel_rfl) (by kernel_rfl) rfl h (fun c m ys hc => by
  obtain ⟨z0, _, t0⟩ := hc 0 _ rfl
  obtain ⟨z1, _, t1⟩ := hc 1 _ rfl
  obtain ⟨a0, e0, w0⟩ := open_one Try.underlying5 t0
  obtain ⟨a1, e1, w1⟩ := open_one Try.underlying5 t1
  refine ⟨⟨a0, a1⟩, ⟨isU8_of w0, isU8_of w1⟩, fun j u hu => ?_⟩
  match j, hu with
  | 0, hu => rw [e0]; simpa [SatV.cells8] using hu
  | 1, hu => rw [e1]; simpa [SatV.cells8] using hu
  | j + 2, hu => simp [SatV.cells8] at hu)
theorem custs8_open {n : Nat} {v : Value} {y : DataW H × List MemPlace} (h : DataW.trod enc Try.prog W 0 (fun _ => true) true n 47 [v] = some y) : ∃ (A : Option Addr) (c : Nat) (l : List CustV), v = .slice A l.length c ∧ Reads W W.heap.size 4 A l.length (l.flatMap CustV.cells8) ∧ l.length ≤ maxLen ∧ ∀ x ∈ l, x.ok :=
 structs_open CustV.cells8 4 CustV.cells8_len (by decide) CustV.ok Try.underlying47 Try.underlying96 (by kernel_rfl) (by kernel_rfl) rfl h (fun c m ys hc => by
  obtain ⟨z0, _, t0⟩ := hc 0 _ rfl
  obtain ⟨z1, _, t1⟩ := hc 1 _ rfl
  obtain ⟨z2, _, t2⟩ := hc 2 _ rfl
  obtain ⟨z3, _, t3⟩ := hc 3 _ rfl
  obtain ⟨a0, e0, w0⟩ := open_one Try.underlying5 t0
  obtain ⟨a1, e1, w1⟩ := open_one Try.underlying5 t1
  obtain ⟨a2, e2, w2⟩ := open_one Try.underlying5 t2
  obtain ⟨a3, e3, w3⟩ := open_one Try.underlying5 t3
  refine ⟨⟨a0, a1, a2, a3⟩, ⟨isU8_of w0, isU8_of w1, isU8_of w2, isU8_of w3⟩, fun j u hu => ?_⟩
  match j, hu with
  | 0, hu => rw [e0]; simpa [CustV.cells8] using hu
  | 1, hu => rw [e1]; simpa [CustV.cells8] using hu
  | 2, hu => rw [e2]; simpa [CustV.cells8] using hu
  | 3, hu => rw [e3]; simpa [CustV.cells8] using hu
  | j + 4, hu => simp [CustV.cells8] at hu)
theorem array11 {cs : Array Value} (h : cs.size = 11) : ∃ a b c d e f g i j k l, cs = #[a, b, c, d, e, f, g, i, j, k, l] := by
 obtain ⟨l⟩ := cs
 match l, h with
 | [a, b, c, d, e, f, g, i, j, k, l], _ => exact ⟨a, b, c, d, e, f, g, i, j, k, l, rfl⟩
set_option maxRecDepth 100000 in
theorem small_open {base : Nat} {v : Value} {d : DataW H} {p : List MemPlace} (o : Value.okWide Try.prog W .any base 49 v) (k : DataW.Trod enc Try.prog W 0 (fun _ => true) true 49 v d p) :
 ∃ (q : IAt) (s : SmallV), v = .agg (s.vals q) ∧ SmallIn W W.heap.size q s ∧ SmallL s ∧ s.ok := by
 obtain ⟨cs, rfl, hsz⟩ := okWide_struct Try.underlying49 o
 obtain ⟨fuel, hf⟩ := k
 obtain ⟨c0, c1, c2, c3, c4, c5, c6, c7, c8, c9, c10, rfl⟩ := array11 (hsz.trans (by kernel_rfl))
 obtain ⟨ys, n', hn', hy, hlen, hyl, hg⟩ := DataW.trod_struct Try.underlying49 hf
 have hy11 : ys.length = 11 := hyl
 have e1 : Try.prog.cellsOf 5 = 1 := by kernel_rfl
 have e2 : Try.prog.cellsOf 46 = 1 := by kernel_rfl
 have e3 : Try.prog.cellsOf 47 = 1 := by kernel_rfl
 have e4 : Try.prog.cellsOf 22 = 1 := by kernel_rfl
 have e5 : Try.prog.cellsOf 4 = 1 := by kernel_rfl
 have ys_ : ∀ i (h : i < ys.length), ys[i]? = some ys[i] := fun i h => List.getElem?_eq_getElem h
 have t0 : DataW.trod enc Try.prog W 0 (fun _ => true) true n' 5 [c0] = some (ys[0]'(by omega)) := by
  have h := hg 0 _ rfl
  rw [ys_ 0 (by omega)] at h
  simpa [e1, Value.cells] using h
 have t1 : DataW.trod enc Try.prog W 0 (fun _ => true) true n' 5 [c1] = some (ys[1]'(by omega)) := by
  have h := hg 1 _ rfl
  rw [ys_ 1 (by omega)] at h
  simpa [e1, Value.cells] using h
 have t2 : DataW.trod enc Try.prog W 0 (fun _ => true) true n' 5 [c2] = some (ys[2]'(by omega)) := by
  have h := hg 2 _ rfl
  rw [ys_ 2 (by omega)] at h
  simpa [e1, Value.cells] using h
 have t3 : DataW.trod enc Try.prog W 0 (fun _ => true) true n' 5 [c3] = some (ys[3]'(by omega)) := by
  have h := hg 3 _ rfl
  rw [ys_ 3 (by omega)] at h
  simpa [e1, Value.cells] using h
 have t4 : DataW.trod enc Try.prog W 0 (fun _ => true) true n' 5 [c4] = some (ys[4]'(by omega)) := by
  have h := hg 4 _ rfl
  rw [ys_ 4 (by omega)] at h
  simpa [e1, Value.cells] using h
 have t5 : DataW.trod enc Try.prog W 0 (fun _ => true) true n' 46 [c5] = some (ys[5]'(by omega)) := by
  have h := hg 5 _ rfl
  rw [ys_ 5 (by omega)] at h
  simpa [e2, Value.cells] using h
 have t6 : DataW.trod enc Try.prog W 0 (fun _ => true) true n' 47 [c6] = some (ys[6]'(by omega)) := by
  have h := hg 6 _ rfl
  rw [ys_ 6 (by omega)] at h
  simpa [e3, Value.cells] using h
 have t7 : DataW.trod enc Try.prog W 0 (fun _ => true) true n' 22 [c7] = some (ys[7]'(by omega)) := by
  have h := hg 7 _ rfl
  rw [ys_ 7 (by omega)] at h
  simpa [e4, Value.cells] using h
 have t8 : DataW.trod enc Try.prog W 0 (fun _ => true) true n' 22 [c8] = some (ys[8]'(by omega)) := by
  have h := hg 8 _ rfl
  rw [ys_ 8 (by omega)] at h
  simpa [e4, Value.cells] using h
 have t9 : DataW.trod enc Try.prog W 0 (fun _ => true) true n' 4 [c9] = some (ys[9]'(by omega)) := by
  have h := hg 9 _ rfl
  rw [ys_ 9 (by omega)] at h
  simpa [e5, Value.cells] using h
 have t10 : DataW.trod enc Try.prog W 0 (fun _ => true) true n' 4 [c10] = some (ys[10]'(by omega)) := by
  have h := hg 10 _ rfl
  rw [ys_ 10 (by omega)] at h
  simpa [e5, Value.cells] using h
 obtain ⟨a0, rfl, w0⟩ := open_one (n := n') (v := c0) Try.underlying5 t0
 obtain ⟨a1, rfl, w1⟩ := open_one (n := n') (v := c1) Try.underlying5 t1
 obtain ⟨a2, rfl, w2⟩ := open_one (n := n') (v := c2) Try.underlying5 t2
 obtain ⟨a3, rfl, w3⟩ := open_one (n := n') (v := c3) Try.underlying5 t3
 obtain ⟨a4, rfl, w4⟩ := open_one (n := n') (v := c4) Try.underlying5 t4
 obtain ⟨SA, sc, ss, rfl, hS, hs1, hs2⟩ := sats8_open (n := n') (v := c5) t5
 obtain ⟨CA, cc, cs, rfl, hC, hc1, hc2⟩ := custs8_open (n := n') (v := c6) t6
 obtain ⟨KA, kc, ks, rfl, hK, hk1, hk2⟩ := bytes_open (n := n') (v := c7) t7
 obtain ⟨TA, tc, ts, rfl, hT, ht1, ht2⟩ := bytes_open (n := n') (v := c8) t8
 obtain ⟨b0, rfl⟩ := open_bool1 (n := n') (v := c9) Try.underlying4 t9
 obtain ⟨b1, rfl⟩ := open_bool1 (n := n') (v := c10) Try.underlying4 t10
 exact ⟨⟨SA, sc, CA, cc, KA, kc, TA, tc⟩, ⟨a0, a1, a2, a3, a4, ss, cs, ks, ts, b0, b1⟩, rfl, ⟨hS, hC, hK, hT⟩, ⟨hs1, hc1, hk1, ht1⟩, ⟨isU8_of w0, isU8_of w1, isU8_of w2, isU8_of w3, isU8_of w4, hs2, hc2, hk2, ht2⟩⟩
end
/-- What law11.Make makes, ready to be read. -/
theorem made_in {w w' : World} {x : InstV} {p : IAt} {hk ht : List Value} (h1 : hk.length = x.cost.length) (h2 : ht.length = x.time.length) (hS : SL w w.heap.size (instRs p x hk ht) w') : InstIn w' w'.heap.size p x ∧ Below w.heap.size w w' :=
 ⟨instIn_own hS (fun r hr => hr) h1 h2, hS.below⟩
end Go.Proofs.Ytpbhbmdghafkmaa
