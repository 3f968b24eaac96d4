/-
  The walks of the laws of shapes at opened arguments. No condition.
-/
import Derived.Test.YtlandkindbmbfaaO1
import Derived.Test.YtlandkindbmbfaaL1
namespace Go.Proofs.Ytlandkindbmbfaa
open Go.RowKit Plain

def ShpsArg (W : World) (v : Value) (ss : List Shp) : Prop := ShpsAt W W.heap.size v ss ∧ Okays ss ∧ ss.length ≤ 4398046510976
theorem covers_row (v : Value) (ss : List Shp) {W : World} (h : ShpsArg W v ss) : Calls Try.prog 3 #[v] W fun e w' => e = .returned (.bool true) ∧ Below W.heap.size W w' :=
  covers_walk v W ⟨ss, h⟩

end Go.Proofs.Ytlandkindbmbfaa
