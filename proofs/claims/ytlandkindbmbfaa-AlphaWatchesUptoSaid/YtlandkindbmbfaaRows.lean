/-
  No cell of these rows narrows 'for every input' (looked for: loops, veiled, ifaces, maps, wideKeys, modest, calm, conditions, laid).
  DERIVED. THE GIVEN ROWS OF THIS SEAT. 10 by the template 'for every input the law returns true; each argument reads behind the call as it read before'; 0 by the template 'total and deterministic' (their statements: YtlandkindbmbfaaTotals.lean).
  GIVEN WITH THE SEED: the statements are not yours to turn. If you find one false, say at which input.
  Laid BY PROGRAM, IN A SANDBOX (cutbox-rows.mjs): the forced cells as the released guide's own fill.sh prints them over the translation c91bcb870ef6aa6e… (all of the seat's roots in one cut). By AI agents, Wed Nov 11 2026. No macro, syntax, notation, axiom, sorry.
-/
import Derived.Test.YtlandkindbmbfaaChecked
import GoSem.Claim
import GoSem.ClaimJoined
import GoSem.ClaimMapViews
import Derived.JoinedTies
import Derived.KernelRfl
namespace Go.Proofs.Ytlandkindbmbfaa
/- THE CELL 'sum', in the pinned program and in every row, IS THE sha256 OF THE DUMP (.gsa) THAT YtlandkindbmbfaaProg.lean LOADS. Nothing in Lean hashes anything: it is a label: what it is worth is what the hold of that sum in a sandbox is worth. -/
noncomputable def Try.pinned : Pinned := { name := "ytlandkindbmbfaa", sum := "c91bcb870ef6aa6e5ae76ee0e85caf1ad940d10e13d0a1017a00c48a1473c40a", checked := Try.checked }
namespace Rows
def none {H : Type} : Left H := { results := [], args := [] }

/-- 'edictlaw10.AlphaCovers': WHATEVER THE INPUT: true; the input reads as it did. -/
def alphaCoversSpec : ChangeSpec := { name := "alphaCovers", fn := fun _ => fun
  | [d] => { results := [.lit (.bool true)], args := [d] }
  | _ => none }
def alphaCoversRow : OpenClaim := { program := "ytlandkindbmbfaa", sum := "c91bcb870ef6aa6e5ae76ee0e85caf1ad940d10e13d0a1017a00c48a1473c40a", func := "edict/edictlaw10.AlphaCovers", spec := "alphaCovers", apart := false }
def AlphaCoversSaid : Prop := alphaCoversRow.holds Try.pinned (OpenSpec.ofChange alphaCoversSpec)

/-- ITS FALSE NEIGHBOUR: 'it returns false'. Refute it at one input. -/
def alphaCoversWrong : ChangeSpec := { name := "alphaCovers", fn := fun _ => fun
  | [d] => { results := [.lit (.bool false)], args := [d] }
  | _ => none }
def AlphaCoversWrongFalsely : Prop := alphaCoversRow.holds Try.pinned (OpenSpec.ofChange alphaCoversWrong)

/-- 'edictlaw10.AlphaFits': WHATEVER THE INPUT: true; the input reads as it did. -/
def alphaFitsSpec : ChangeSpec := { name := "alphaFits", fn := fun _ => fun
  | [d1, d2] => { results := [.lit (.bool true)], args := [d1, d2] }
  | _ => none }
def alphaFitsRow : OpenClaim := { program := "ytlandkindbmbfaa", sum := "c91bcb870ef6aa6e5ae76ee0e85caf1ad940d10e13d0a1017a00c48a1473c40a", func := "edict/edictlaw10.AlphaFits", spec := "alphaFits", unfollowed := true, recurses := true, apart := false }
def AlphaFitsSaid : Prop := alphaFitsRow.holds Try.pinned (OpenSpec.ofChange alphaFitsSpec)

/-- ITS FALSE NEIGHBOUR: 'it returns false'. Refute it at one input. -/
def alphaFitsWrong : ChangeSpec := { name := "alphaFits", fn := fun _ => fun
  | [d1, d2] => { results := [.lit (.bool false)], args := [d1, d2] }
  | _ => none }
def AlphaFitsWrongFalsely : Prop := alphaFitsRow.holds Try.pinned (OpenSpec.ofChange alphaFitsWrong)

/-- 'edictlaw10.AlphaMeans': WHATEVER THE INPUT: true; the input reads as it did. -/
def alphaMeansSpec : ChangeSpec := { name := "alphaMeans", fn := fun _ => fun
  | [d1, d2, d3] => { results := [.lit (.bool true)], args := [d1, d2, d3] }
  | _ => none }
def alphaMeansRow : OpenClaim := { program := "ytlandkindbmbfaa", sum := "c91bcb870ef6aa6e5ae76ee0e85caf1ad940d10e13d0a1017a00c48a1473c40a", func := "edict/edictlaw10.AlphaMeans", spec := "alphaMeans", unfollowed := true, recurses := true, apart := false }
def AlphaMeansSaid : Prop := alphaMeansRow.holds Try.pinned (OpenSpec.ofChange alphaMeansSpec)

/-- ITS FALSE NEIGHBOUR: 'it returns false'. Refute it at one input. -/
def alphaMeansWrong : ChangeSpec := { name := "alphaMeans", fn := fun _ => fun
  | [d1, d2, d3] => { results := [.lit (.bool false)], args := [d1, d2, d3] }
  | _ => none }
def AlphaMeansWrongFalsely : Prop := alphaMeansRow.holds Try.pinned (OpenSpec.ofChange alphaMeansWrong)

/-- 'edictlaw10.AlphaShapes': WHATEVER THE INPUT: true; the input reads as it did. -/
def alphaShapesSpec : ChangeSpec := { name := "alphaShapes", fn := fun _ => fun
  | [d] => { results := [.lit (.bool true)], args := [d] }
  | _ => none }
def alphaShapesRow : OpenClaim := { program := "ytlandkindbmbfaa", sum := "c91bcb870ef6aa6e5ae76ee0e85caf1ad940d10e13d0a1017a00c48a1473c40a", func := "edict/edictlaw10.AlphaShapes", spec := "alphaShapes", unfollowed := true, recurses := true, apart := false }
def AlphaShapesSaid : Prop := alphaShapesRow.holds Try.pinned (OpenSpec.ofChange alphaShapesSpec)

/-- ITS FALSE NEIGHBOUR: 'it returns false'. Refute it at one input. -/
def alphaShapesWrong : ChangeSpec := { name := "alphaShapes", fn := fun _ => fun
  | [d] => { results := [.lit (.bool false)], args := [d] }
  | _ => none }
def AlphaShapesWrongFalsely : Prop := alphaShapesRow.holds Try.pinned (OpenSpec.ofChange alphaShapesWrong)

/-- 'edictlaw10.AlphaSpecial': WHATEVER THE INPUT: true; the input reads as it did. -/
def alphaSpecialSpec : ChangeSpec := { name := "alphaSpecial", fn := fun _ => fun
  | [d1, d2, d3] => { results := [.lit (.bool true)], args := [d1, d2, d3] }
  | _ => none }
def alphaSpecialRow : OpenClaim := { program := "ytlandkindbmbfaa", sum := "c91bcb870ef6aa6e5ae76ee0e85caf1ad940d10e13d0a1017a00c48a1473c40a", func := "edict/edictlaw10.AlphaSpecial", spec := "alphaSpecial", unfollowed := true, recurses := true, apart := false }
def AlphaSpecialSaid : Prop := alphaSpecialRow.holds Try.pinned (OpenSpec.ofChange alphaSpecialSpec)

/-- ITS FALSE NEIGHBOUR: 'it returns false'. Refute it at one input. -/
def alphaSpecialWrong : ChangeSpec := { name := "alphaSpecial", fn := fun _ => fun
  | [d1, d2, d3] => { results := [.lit (.bool false)], args := [d1, d2, d3] }
  | _ => none }
def AlphaSpecialWrongFalsely : Prop := alphaSpecialRow.holds Try.pinned (OpenSpec.ofChange alphaSpecialWrong)

/-- 'edictlaw10.AlphaRenamed': WHATEVER THE INPUT: true; the input reads as it did. -/
def alphaRenamedSpec : ChangeSpec := { name := "alphaRenamed", fn := fun _ => fun
  | [d1, d2] => { results := [.lit (.bool true)], args := [d1, d2] }
  | _ => none }
def alphaRenamedRow : OpenClaim := { program := "ytlandkindbmbfaa", sum := "c91bcb870ef6aa6e5ae76ee0e85caf1ad940d10e13d0a1017a00c48a1473c40a", func := "edict/edictlaw10.AlphaRenamed", spec := "alphaRenamed", unfollowed := true, recurses := true, apart := false }
def AlphaRenamedSaid : Prop := alphaRenamedRow.holds Try.pinned (OpenSpec.ofChange alphaRenamedSpec)

/-- ITS FALSE NEIGHBOUR: 'it returns false'. Refute it at one input. -/
def alphaRenamedWrong : ChangeSpec := { name := "alphaRenamed", fn := fun _ => fun
  | [d1, d2] => { results := [.lit (.bool false)], args := [d1, d2] }
  | _ => none }
def AlphaRenamedWrongFalsely : Prop := alphaRenamedRow.holds Try.pinned (OpenSpec.ofChange alphaRenamedWrong)

/-- 'edictlaw10.AlphaNets': WHATEVER THE INPUT: true; the input reads as it did. -/
def alphaNetsSpec : ChangeSpec := { name := "alphaNets", fn := fun _ => fun
  | [d1, d2] => { results := [.lit (.bool true)], args := [d1, d2] }
  | _ => none }
def alphaNetsRow : OpenClaim := { program := "ytlandkindbmbfaa", sum := "c91bcb870ef6aa6e5ae76ee0e85caf1ad940d10e13d0a1017a00c48a1473c40a", func := "edict/edictlaw10.AlphaNets", spec := "alphaNets", unfollowed := true, recurses := true, apart := false }
def AlphaNetsSaid : Prop := alphaNetsRow.holds Try.pinned (OpenSpec.ofChange alphaNetsSpec)

/-- ITS FALSE NEIGHBOUR: 'it returns false'. Refute it at one input. -/
def alphaNetsWrong : ChangeSpec := { name := "alphaNets", fn := fun _ => fun
  | [d1, d2] => { results := [.lit (.bool false)], args := [d1, d2] }
  | _ => none }
def AlphaNetsWrongFalsely : Prop := alphaNetsRow.holds Try.pinned (OpenSpec.ofChange alphaNetsWrong)

/-- 'edictlaw10.AlphaWatches': WHATEVER THE INPUT: true; the input reads as it did. -/
def alphaWatchesSpec : ChangeSpec := { name := "alphaWatches", fn := fun _ => fun
  | [d1, d2, d3] => { results := [.lit (.bool true)], args := [d1, d2, d3] }
  | _ => none }
def alphaWatchesRow : OpenClaim := { program := "ytlandkindbmbfaa", sum := "c91bcb870ef6aa6e5ae76ee0e85caf1ad940d10e13d0a1017a00c48a1473c40a", func := "edict/edictlaw10.AlphaWatches", spec := "alphaWatches", unfollowed := true, recurses := true, apart := false }
def AlphaWatchesSaid : Prop := alphaWatchesRow.holds Try.pinned (OpenSpec.ofChange alphaWatchesSpec)

/-- ITS FALSE NEIGHBOUR: 'it returns false'. Refute it at one input. -/
def alphaWatchesWrong : ChangeSpec := { name := "alphaWatches", fn := fun _ => fun
  | [d1, d2, d3] => { results := [.lit (.bool false)], args := [d1, d2, d3] }
  | _ => none }
def AlphaWatchesWrongFalsely : Prop := alphaWatchesRow.holds Try.pinned (OpenSpec.ofChange alphaWatchesWrong)

/-- 'edictlaw10.AlphaHolds': WHATEVER THE INPUT: true; the input reads as it did. -/
def alphaHoldsSpec : ChangeSpec := { name := "alphaHolds", fn := fun _ => fun
  | [d1, d2, d3] => { results := [.lit (.bool true)], args := [d1, d2, d3] }
  | _ => none }
def alphaHoldsRow : OpenClaim := { program := "ytlandkindbmbfaa", sum := "c91bcb870ef6aa6e5ae76ee0e85caf1ad940d10e13d0a1017a00c48a1473c40a", func := "edict/edictlaw10.AlphaHolds", spec := "alphaHolds", unfollowed := true, recurses := true, apart := false }
def AlphaHoldsSaid : Prop := alphaHoldsRow.holds Try.pinned (OpenSpec.ofChange alphaHoldsSpec)

/-- ITS FALSE NEIGHBOUR: 'it returns false'. Refute it at one input. -/
def alphaHoldsWrong : ChangeSpec := { name := "alphaHolds", fn := fun _ => fun
  | [d1, d2, d3] => { results := [.lit (.bool false)], args := [d1, d2, d3] }
  | _ => none }
def AlphaHoldsWrongFalsely : Prop := alphaHoldsRow.holds Try.pinned (OpenSpec.ofChange alphaHoldsWrong)

/-- 'edictlaw10.AlphaApart': WHATEVER THE INPUT: true; the input reads as it did. -/
def alphaApartSpec : ChangeSpec := { name := "alphaApart", fn := fun _ => fun
  | [d1, d2] => { results := [.lit (.bool true)], args := [d1, d2] }
  | _ => none }
def alphaApartRow : OpenClaim := { program := "ytlandkindbmbfaa", sum := "c91bcb870ef6aa6e5ae76ee0e85caf1ad940d10e13d0a1017a00c48a1473c40a", func := "edict/edictlaw10.AlphaApart", spec := "alphaApart", unfollowed := true, recurses := true, apart := false }
def AlphaApartSaid : Prop := alphaApartRow.holds Try.pinned (OpenSpec.ofChange alphaApartSpec)

/-- ITS FALSE NEIGHBOUR: 'it returns false'. Refute it at one input. -/
def alphaApartWrong : ChangeSpec := { name := "alphaApart", fn := fun _ => fun
  | [d1, d2] => { results := [.lit (.bool false)], args := [d1, d2] }
  | _ => none }
def AlphaApartWrongFalsely : Prop := alphaApartRow.holds Try.pinned (OpenSpec.ofChange alphaApartWrong)

/- THE SECOND FORM. 'bulk': how many values and letters a reading holds, each counted each time it is reached (what is shared counts as often as it is met; a slice's spare places count too). A statement '..UptoSaid' is the law's where the arguments, and the package variables that the reading takes, are together of bulk at most 1048576: NARROWER than '..Said'. Prove '..Said' where nothing that the law and all that it calls make is longer than what came in: it says more and counts as full. Else prove '..UptoSaid'. A law counts once. -/
mutual
def uptoBulk {H : Type} : DataW H → Nat
  | .lit (.string bytes) => bytes.length + 1
  | .lit _ => 1
  | .nil => 1
  | .ptr d => uptoBulk d + 1
  | .slice elems spare => uptoBulkAll elems + uptoBulkAll spare + 1
  | .agg parts => uptoBulkAll parts + 1
  | .iface _ d => uptoBulk d + 1
  | .map entries => uptoBulkEntries entries + 1
  | .held _ => 1
def uptoBulkAll {H : Type} : List (DataW H) → Nat
  | [] => 0
  | d :: r => uptoBulk d + uptoBulkAll r
def uptoBulkEntries {H : Type} : List (Lit × DataW H) → Nat
  | [] => 0
  | x :: r => uptoBulkEntry x + uptoBulkEntries r
def uptoBulkEntry {H : Type} : Lit × DataW H → Nat
  | (.string bytes, d) => bytes.length + uptoBulk d + 1
  | (_, d) => uptoBulk d + 1
 end
def uptoSmall : (H : Type) → List (DataW H) → Bool := fun _ ds => decide (uptoBulkAll ds ≤ 1048576)
def OpenSpec.upto (s : _root_.Go.ChangeSpec) : _root_.Go.OpenSpec := { _root_.Go.OpenSpec.ofChange s with cond := some uptoSmall }

/-- 'edictlaw10.AlphaCovers', WHERE WHAT IT READS IS OF BULK AT MOST 1048576: true; the input reads as it did. -/
def alphaCoversUptoRow : OpenClaim := { program := "ytlandkindbmbfaa", sum := "c91bcb870ef6aa6e5ae76ee0e85caf1ad940d10e13d0a1017a00c48a1473c40a", func := "edict/edictlaw10.AlphaCovers", spec := "alphaCovers", apart := false, narrowed := true }
def AlphaCoversUptoSaid : Prop := alphaCoversUptoRow.holds Try.pinned (OpenSpec.upto alphaCoversSpec)

/-- 'edictlaw10.AlphaFits', WHERE WHAT IT READS IS OF BULK AT MOST 1048576: true; the input reads as it did. -/
def alphaFitsUptoRow : OpenClaim := { program := "ytlandkindbmbfaa", sum := "c91bcb870ef6aa6e5ae76ee0e85caf1ad940d10e13d0a1017a00c48a1473c40a", func := "edict/edictlaw10.AlphaFits", spec := "alphaFits", unfollowed := true, recurses := true, apart := false, narrowed := true }
def AlphaFitsUptoSaid : Prop := alphaFitsUptoRow.holds Try.pinned (OpenSpec.upto alphaFitsSpec)

/-- 'edictlaw10.AlphaMeans', WHERE WHAT IT READS IS OF BULK AT MOST 1048576: true; the input reads as it did. -/
def alphaMeansUptoRow : OpenClaim := { program := "ytlandkindbmbfaa", sum := "c91bcb870ef6aa6e5ae76ee0e85caf1ad940d10e13d0a1017a00c48a1473c40a", func := "edict/edictlaw10.AlphaMeans", spec := "alphaMeans", unfollowed := true, recurses := true, apart := false, narrowed := true }
def AlphaMeansUptoSaid : Prop := alphaMeansUptoRow.holds Try.pinned (OpenSpec.upto alphaMeansSpec)

/-- 'edictlaw10.AlphaShapes', WHERE WHAT IT READS IS OF BULK AT MOST 1048576: true; the input reads as it did. -/
def alphaShapesUptoRow : OpenClaim := { program := "ytlandkindbmbfaa", sum := "c91bcb870ef6aa6e5ae76ee0e85caf1ad940d10e13d0a1017a00c48a1473c40a", func := "edict/edictlaw10.AlphaShapes", spec := "alphaShapes", unfollowed := true, recurses := true, apart := false, narrowed := true }
def AlphaShapesUptoSaid : Prop := alphaShapesUptoRow.holds Try.pinned (OpenSpec.upto alphaShapesSpec)

/-- 'edictlaw10.AlphaSpecial', WHERE WHAT IT READS IS OF BULK AT MOST 1048576: true; the input reads as it did. -/
def alphaSpecialUptoRow : OpenClaim := { program := "ytlandkindbmbfaa", sum := "c91bcb870ef6aa6e5ae76ee0e85caf1ad940d10e13d0a1017a00c48a1473c40a", func := "edict/edictlaw10.AlphaSpecial", spec := "alphaSpecial", unfollowed := true, recurses := true, apart := false, narrowed := true }
def AlphaSpecialUptoSaid : Prop := alphaSpecialUptoRow.holds Try.pinned (OpenSpec.upto alphaSpecialSpec)

/-- 'edictlaw10.AlphaRenamed', WHERE WHAT IT READS IS OF BULK AT MOST 1048576: true; the input reads as it did. -/
def alphaRenamedUptoRow : OpenClaim := { program := "ytlandkindbmbfaa", sum := "c91bcb870ef6aa6e5ae76ee0e85caf1ad940d10e13d0a1017a00c48a1473c40a", func := "edict/edictlaw10.AlphaRenamed", spec := "alphaRenamed", unfollowed := true, recurses := true, apart := false, narrowed := true }
def AlphaRenamedUptoSaid : Prop := alphaRenamedUptoRow.holds Try.pinned (OpenSpec.upto alphaRenamedSpec)

/-- 'edictlaw10.AlphaNets', WHERE WHAT IT READS IS OF BULK AT MOST 1048576: true; the input reads as it did. -/
def alphaNetsUptoRow : OpenClaim := { program := "ytlandkindbmbfaa", sum := "c91bcb870ef6aa6e5ae76ee0e85caf1ad940d10e13d0a1017a00c48a1473c40a", func := "edict/edictlaw10.AlphaNets", spec := "alphaNets", unfollowed := true, recurses := true, apart := false, narrowed := true }
def AlphaNetsUptoSaid : Prop := alphaNetsUptoRow.holds Try.pinned (OpenSpec.upto alphaNetsSpec)

/-- 'edictlaw10.AlphaWatches', WHERE WHAT IT READS IS OF BULK AT MOST 1048576: true; the input reads as it did. -/
def alphaWatchesUptoRow : OpenClaim := { program := "ytlandkindbmbfaa", sum := "c91bcb870ef6aa6e5ae76ee0e85caf1ad940d10e13d0a1017a00c48a1473c40a", func := "edict/edictlaw10.AlphaWatches", spec := "alphaWatches", unfollowed := true, recurses := true, apart := false, narrowed := true }
def AlphaWatchesUptoSaid : Prop := alphaWatchesUptoRow.holds Try.pinned (OpenSpec.upto alphaWatchesSpec)

/-- 'edictlaw10.AlphaHolds', WHERE WHAT IT READS IS OF BULK AT MOST 1048576: true; the input reads as it did. -/
def alphaHoldsUptoRow : OpenClaim := { program := "ytlandkindbmbfaa", sum := "c91bcb870ef6aa6e5ae76ee0e85caf1ad940d10e13d0a1017a00c48a1473c40a", func := "edict/edictlaw10.AlphaHolds", spec := "alphaHolds", unfollowed := true, recurses := true, apart := false, narrowed := true }
def AlphaHoldsUptoSaid : Prop := alphaHoldsUptoRow.holds Try.pinned (OpenSpec.upto alphaHoldsSpec)

/-- 'edictlaw10.AlphaApart', WHERE WHAT IT READS IS OF BULK AT MOST 1048576: true; the input reads as it did. -/
def alphaApartUptoRow : OpenClaim := { program := "ytlandkindbmbfaa", sum := "c91bcb870ef6aa6e5ae76ee0e85caf1ad940d10e13d0a1017a00c48a1473c40a", func := "edict/edictlaw10.AlphaApart", spec := "alphaApart", unfollowed := true, recurses := true, apart := false, narrowed := true }
def AlphaApartUptoSaid : Prop := alphaApartUptoRow.holds Try.pinned (OpenSpec.upto alphaApartSpec)

end Rows
end Go.Proofs.Ytlandkindbmbfaa
