/-
  DERIVED. GIVEN WITH THE SEED: THE CARDS: each row of YtncdjkdpoinfaaaGreatDoorRows.lean that lists a variable, with what it lists TIED to the program's text (the seventh form; the later family's looks); each row that meets fmt, with fmt's text TOLD by the authors' own Lean function (tested against real Go, not proved from fmt's source: count such statements apart). THE CARD IS WHAT COUNTS. Prove the row's statement (the work); the ties are given (YtncdjkdpoinfaaaGreatDoorTie.lean); close each card by the builder's one call (the guide's Derived/Test/ToyasCard.lean, 'card_holds'). Laid BY PROGRAM, IN A SANDBOX (cutbox-door.mjs). By AI agents, Wed Nov 11 2026. No macro, syntax, notation, axiom, sorry.
-/
import Derived.Test.YtncdjkdpoinfaaaGreatDoorRows
import GoSem.ClaimSeven
namespace Go.Proofs.YtncdjkdpoinfaaaGreatDoor
namespace Rows

/-- THE TIED CARD OF 'edicttop.TopGrammar'. -/
def topGrammarCard : Claim7 := { stood := { row := topGrammarRow, standIns := [], harness := (true, "867a2800a2b8051b3cab583755fc9fe6729e4831815a73c86714feee7d2e9506"), looks := true }, kinds := [], alts := [], laidByText := true, laidKinds := [.data, .data, .data, .sentinel, .sentinel, .data, .data, .data], laidTests := true, laidLooks := .later }
def TopGrammarCardSaid : Prop := Claim7.holds Tryz.pinned (.plain (OpenSpec.ofChange topGrammarSpec)) topGrammarCard

/-- THE SECOND FORM's CARD OF 'edicttop.TopGrammar'. -/
def topGrammarUptoCard : Claim7 := { stood := { row := topGrammarUptoRow, standIns := [], harness := (true, "867a2800a2b8051b3cab583755fc9fe6729e4831815a73c86714feee7d2e9506"), looks := true }, kinds := [], alts := [], laidByText := true, laidKinds := [.data, .data, .data, .sentinel, .sentinel, .data, .data, .data], laidTests := true, laidLooks := .later }
def TopGrammarUptoCardSaid : Prop := Claim7.holds Tryz.pinned (.plain (OpenSpec.upto topGrammarSpec)) topGrammarUptoCard
end Rows
end Go.Proofs.YtncdjkdpoinfaaaGreatDoor
