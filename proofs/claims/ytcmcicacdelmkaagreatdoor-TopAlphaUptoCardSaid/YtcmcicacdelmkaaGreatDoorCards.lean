/-
  DERIVED. GIVEN WITH THE SEED: THE CARDS: each row of YtcmcicacdelmkaaGreatDoorRows.lean that lists a variable, with what it lists TIED to the program's text (the seventh form; the later family's looks); each row that meets fmt, with fmt's text TOLD by the authors' own Lean function (tested against real Go, not proved from fmt's source: count such statements apart). THE CARD IS WHAT COUNTS. Prove the row's statement (the work); the ties are given (YtcmcicacdelmkaaGreatDoorTie.lean); close each card by the builder's one call (the guide's Derived/Test/ToyasCard.lean, 'card_holds'). Laid BY PROGRAM, IN A SANDBOX (cutbox-door.mjs). By AI agents, Wed Nov 11 2026. No macro, syntax, notation, axiom, sorry.
-/
import Derived.Test.YtcmcicacdelmkaaGreatDoorRows
import GoSem.ClaimSeven
namespace Go.Proofs.YtcmcicacdelmkaaGreatDoor
namespace Rows

/-- THE TIED CARD OF 'edicttop.TopAlpha'. -/
def topAlphaCard : Claim7 := { stood := { row := topAlphaRow, standIns := [], harness := (true, "f86188a821e4f1f45016fafb3791af05624bbaaadc793ff374bffcb8b6dee177"), looks := true }, kinds := [], alts := [], laidByText := true, laidKinds := [.data, .data, .data, .sentinel, .sentinel, .data, .data, .data], laidTests := true, laidLooks := .later }
def TopAlphaCardSaid : Prop := Claim7.holds Tryz.pinned (.plain (OpenSpec.ofChange topAlphaSpec)) topAlphaCard

/-- THE SECOND FORM's CARD OF 'edicttop.TopAlpha'. -/
def topAlphaUptoCard : Claim7 := { stood := { row := topAlphaUptoRow, standIns := [], harness := (true, "f86188a821e4f1f45016fafb3791af05624bbaaadc793ff374bffcb8b6dee177"), looks := true }, kinds := [], alts := [], laidByText := true, laidKinds := [.data, .data, .data, .sentinel, .sentinel, .data, .data, .data], laidTests := true, laidLooks := .later }
def TopAlphaUptoCardSaid : Prop := Claim7.holds Tryz.pinned (.plain (OpenSpec.upto topAlphaSpec)) topAlphaUptoCard
end Rows
end Go.Proofs.YtcmcicacdelmkaaGreatDoor
