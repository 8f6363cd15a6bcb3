/- law23.Apply, of any move. (printed by gen/lawapply.py) -/
import Derived.Test.YtpbhbmdghafkmaaLawApA
import Derived.Test.YtpbhbmdghafkmaaLawApB
import Derived.Test.YtpbhbmdghafkmaaLawApC
import Derived.Test.YtpbhbmdghafkmaaLawApD
namespace Go.Proofs.Ytpbhbmdghafkmaa
open Go.ChangeShapes Go.WideShapes Go.ChangeAt Go.RowKit
set_option linter.unusedVariables false
set_option linter.unusedSimpArgs false
theorem lapply_any (sats : Int) (A : Option Addr) (c : Nat) (bs : List BikeV) (kd a i b j : Int) (w : World) (hB : Bikes w w.heap.size A bs) (hl : bs.length ≤ 100000) (hs : (allStops bs).length ≤ 100000) :
 Calls Try.prog 16 #[.int .i64 sats, .slice A bs.length c, .agg #[.int .i64 kd, .int .i64 a, .int .i64 i, .int .i64 b, .int .i64 j]] w (LApplyPost w (applyM sats bs ⟨kd, a, i, b, j⟩)) := by
 by_cases hA : kd = 0
 · exact lapply_A sats A c bs kd a i b j w hB hl hs hA
 by_cases hD : kd = 4
 · exact lapply_D sats A c bs kd a i b j w hB hl hs hD
 by_cases hC : kd = 1 ∨ kd = 2
 · exact lapply_B sats A c bs kd a i b j w hB hl hs hC
 · exact lapply_C sats A c bs kd a i b j w hB hl hs ⟨hA, hD, by omega, by omega⟩
end Go.Proofs.Ytpbhbmdghafkmaa
