/-
  DERIVED. GIVEN WITH THE SEED: THE CARDS: each row of YthidnjnaifcfoaaDoorRows.lean that lists a variable, with what it lists TIED to the program's text (the seventh form; the later family's looks); each row that meets fmt, with fmt's text TOLD by the authors' own Lean function (tested against real Go, not proved from fmt's source: count such statements apart). THE CARD IS WHAT COUNTS. Prove the row's statement (the work); the ties are given (YthidnjnaifcfoaaDoorTie.lean); close each card by the builder's one call (the guide's Derived/Test/ToyasCard.lean, 'card_holds'). Laid BY PROGRAM, IN A SANDBOX (cutbox-door.mjs). By AI agents, Wed Nov 11 2026. No macro, syntax, notation, axiom, sorry.
-/
import Derived.Test.YthidnjnaifcfoaaDoorRows
import GoSem.ClaimSeven
namespace Go.Proofs.YthidnjnaifcfoaaDoor
namespace Rows

/-- THE TIED CARD OF 'edicttop.TopTokens'. -/
def topTokensCard : Claim7 := { stood := { row := topTokensRow, standIns := [], harness := (true, "45535fc4762bf8d534eec5a7e50235571601096e1f94635b68e014cc5c97296d"), looks := true }, kinds := [], alts := [], laidByText := true, laidKinds := [.data, .data, .data, .sentinel, .sentinel, .data, .data, .data], laidTests := true, laidLooks := .later }
def TopTokensCardSaid : Prop := Claim7.holds Tryd.pinned (.plain (OpenSpec.ofChange topTokensSpec)) topTokensCard

/-- THE SECOND FORM's CARD OF 'edicttop.TopTokens'. -/
def topTokensUptoCard : Claim7 := { stood := { row := topTokensUptoRow, standIns := [], harness := (true, "45535fc4762bf8d534eec5a7e50235571601096e1f94635b68e014cc5c97296d"), looks := true }, kinds := [], alts := [], laidByText := true, laidKinds := [.data, .data, .data, .sentinel, .sentinel, .data, .data, .data], laidTests := true, laidLooks := .later }
def TopTokensUptoCardSaid : Prop := Claim7.holds Tryd.pinned (.plain (OpenSpec.upto topTokensSpec)) topTokensUptoCard
end Rows
end Go.Proofs.YthidnjnaifcfoaaDoor
