/-
  The walk of AlphaSpecial at opened arguments. No condition.
-/
import Derived.Test.YtlandkindbmbfaaO3
import Derived.Test.YtlandkindbmbfaaL3
namespace Go.Proofs.Ytlandkindbmbfaa
open Go.RowKit Plain

theorem special_at (v0 : Value) (x0 : Int × List Slt) {w : World} (h0 : PatArg w v0 x0) (v1 : Value) (x1 : Int × Int × Int) (h1 : TurnArg v1 x1) (v2 : Value) (r : Shp) (h2 : RowArg w v2 r) :
    Calls Try.prog 7 #[v0, v1, v2] w fun e w' => e = .returned (.bool true) ∧ Below w.heap.size w w' := special_row v0 x0 h0 v1 x1 h1 v2 r h2

end Go.Proofs.Ytlandkindbmbfaa
