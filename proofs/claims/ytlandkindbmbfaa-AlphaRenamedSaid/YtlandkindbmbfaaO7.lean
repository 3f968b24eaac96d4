/-
  The walk of the law AlphaRenamed, with the number's reach as the frame knows it. No condition.
-/
import Derived.Test.YtlandkindbmbfaaO3
import Derived.Test.YtlandkindbmbfaaL6
namespace Go.Proofs.Ytlandkindbmbfaa
open Go.RowKit Plain

theorem renamed_at (v0 : Value) (x0 : Int × List Slt) {w : World} (h0 : PatArg w v0 x0) (x : Int) (_ : -9223372036854775808 ≤ x ∧ x ≤ 9223372036854775807) :
    Calls Try.prog 8 #[v0, .int .i64 x] w fun e w' => e = .returned (.bool true) ∧ Below w.heap.size w w' := renamed_row v0 x0 h0 x

end Go.Proofs.Ytlandkindbmbfaa
