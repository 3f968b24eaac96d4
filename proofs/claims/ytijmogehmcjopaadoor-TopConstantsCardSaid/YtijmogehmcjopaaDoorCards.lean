/-
  DERIVED. GIVEN WITH THE SEED: THE CARDS: each row of YtijmogehmcjopaaDoorRows.lean that lists a variable, with what it lists TIED to the program's text (the seventh form; the later family's looks); each row that meets fmt, with fmt's text TOLD by the authors' own Lean function (tested against real Go, not proved from fmt's source: count such statements apart). THE CARD IS WHAT COUNTS. Prove the row's statement (the work); the ties are given (YtijmogehmcjopaaDoorTie.lean); close each card by the builder's one call (the guide's Derived/Test/ToyasCard.lean, 'card_holds'). Laid BY PROGRAM, IN A SANDBOX (cutbox-door.mjs). By AI agents, Wed Nov 11 2026. No macro, syntax, notation, axiom, sorry.
-/
import Derived.Test.YtijmogehmcjopaaDoorRows
import GoSem.ClaimSeven
namespace Go.Proofs.YtijmogehmcjopaaDoor
namespace Rows

/-- THE TIED CARD OF 'edicttop.TopConstants'. -/
def topConstantsCard : Claim7 := { stood := { row := topConstantsRow, standIns := [], harness := (true, "08255bfeb15ec321a5bfd9845d5080506eda5cabb38eb1dd1781b99d36c72df4"), looks := true }, kinds := [], alts := [], laidByText := true, laidKinds := [.data, .data, .data, .sentinel, .sentinel], laidTests := true, laidLooks := .later }
def TopConstantsCardSaid : Prop := Claim7.holds Tryd.pinned (.plain (OpenSpec.ofChange topConstantsSpec)) topConstantsCard

/-- THE SECOND FORM's CARD OF 'edicttop.TopConstants'. -/
def topConstantsUptoCard : Claim7 := { stood := { row := topConstantsUptoRow, standIns := [], harness := (true, "08255bfeb15ec321a5bfd9845d5080506eda5cabb38eb1dd1781b99d36c72df4"), looks := true }, kinds := [], alts := [], laidByText := true, laidKinds := [.data, .data, .data, .sentinel, .sentinel], laidTests := true, laidLooks := .later }
def TopConstantsUptoCardSaid : Prop := Claim7.holds Tryd.pinned (.plain (OpenSpec.upto topConstantsSpec)) topConstantsUptoCard
end Rows
end Go.Proofs.YtijmogehmcjopaaDoor
