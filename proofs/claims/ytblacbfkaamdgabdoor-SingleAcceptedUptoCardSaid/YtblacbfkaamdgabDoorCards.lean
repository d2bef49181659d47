/-
  DERIVED. GIVEN WITH THE SEED: THE CARDS: each row of YtblacbfkaamdgabDoorRows.lean that lists a variable, with what it lists TIED to the program's text (the seventh form; the later family's looks); each row that meets fmt, with fmt's text TOLD by the authors' own Lean function (tested against real Go, not proved from fmt's source: count such statements apart). THE CARD IS WHAT COUNTS. Prove the row's statement (the work); the ties are given (YtblacbfkaamdgabDoorTie.lean); close each card by the builder's one call (the guide's Derived/Test/ToyasCard.lean, 'card_holds'). Laid BY PROGRAM, IN A SANDBOX (cutbox-door.mjs). By AI agents, Wed Nov 11 2026. No macro, syntax, notation, axiom, sorry.
-/
import Derived.Test.YtblacbfkaamdgabDoorRows
import GoSem.ClaimSeven
namespace Go.Proofs.YtblacbfkaamdgabDoor
namespace Rows

/-- THE TIED CARD OF 'scrivenerlaw11.SingleAccepted'. -/
def singleAcceptedCard : Claim7 := { stood := { row := singleAcceptedRow, standIns := [], harness := (true, "1827a503755d0f9c21ece1180829cccef781e8c6e3a351d32fcbfe96e2d2145d"), looks := false }, kinds := [], alts := [], laidByText := true, laidKinds := [.data, .data, .data, .data], laidTests := true, laidLooks := .later }
def SingleAcceptedCardSaid : Prop := Claim7.holds Tryd.pinned (.plain (OpenSpec.ofChange singleAcceptedSpec)) singleAcceptedCard

/-- THE SECOND FORM's CARD OF 'scrivenerlaw11.SingleAccepted'. -/
def singleAcceptedUptoCard : Claim7 := { stood := { row := singleAcceptedUptoRow, standIns := [], harness := (true, "1827a503755d0f9c21ece1180829cccef781e8c6e3a351d32fcbfe96e2d2145d"), looks := false }, kinds := [], alts := [], laidByText := true, laidKinds := [.data, .data, .data, .data], laidTests := true, laidLooks := .later }
def SingleAcceptedUptoCardSaid : Prop := Claim7.holds Tryd.pinned (.plain (OpenSpec.upto singleAcceptedSpec)) singleAcceptedUptoCard
end Rows
end Go.Proofs.YtblacbfkaamdgabDoor
