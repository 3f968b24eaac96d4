/-
  The walk of AlphaMeans at opened arguments. No condition.
-/
import Derived.Test.YtlandkindbmbfaaO3
import Derived.Test.YtlandkindbmbfaaL4
namespace Go.Proofs.Ytlandkindbmbfaa
open Go.RowKit Plain

theorem means_at (v0 : Value) (x0 : Int × List Slt) {w : World} (h0 : PatArg w v0 x0) (v2 : Value) (r : Shp) (h2 : RowArg w v2 r) (v1 : Value) (x1 : Int × Int × Int) (h1 : TurnArg v1 x1) :
    Calls Try.prog 5 #[v0, v2, v1] w fun e w' => e = .returned (.bool true) ∧ Below w.heap.size w w' := means_row v0 x0 h0 v2 r h2 v1 x1 h1

end Go.Proofs.Ytlandkindbmbfaa
