/-
  DERIVED. GIVEN WITH THE SEED: THE CARDS: each row of YtdbghgpohdijfaaGreatDoorRows.lean that lists a variable, with what it lists TIED to the program's text (the seventh form; the later family's looks); each row that meets fmt, with fmt's text TOLD by the authors' own Lean function (tested against real Go, not proved from fmt's source: count such statements apart). THE CARD IS WHAT COUNTS. Prove the row's statement (the work); the ties are given (YtdbghgpohdijfaaGreatDoorTie.lean); close each card by the builder's one call (the guide's Derived/Test/ToyasCard.lean, 'card_holds'). Laid BY PROGRAM, IN A SANDBOX (cutbox-door.mjs). By AI agents, Wed Nov 11 2026. No macro, syntax, notation, axiom, sorry.
-/
import Derived.Test.YtdbghgpohdijfaaGreatDoorRows
import GoSem.ClaimSeven
namespace Go.Proofs.YtdbghgpohdijfaaGreatDoor
namespace Rows

/-- THE TIED CARD OF 'scrivenerlaw6.ExtractPlays'. -/
def extractPlaysCard : Claim7 := { stood := { row := extractPlaysRow, standIns := [], harness := (true, "a3d6778cbb50778b9dbddcda6fff84e9bc0a72ee335d6895cf22c3497297ecd4"), looks := true }, kinds := [], alts := [], laidByText := true, laidKinds := [.data, .data], laidTests := true, laidLooks := .later }
def ExtractPlaysCardSaid : Prop := Claim7.holds Tryz.pinned (.plain (OpenSpec.ofChange extractPlaysSpec)) extractPlaysCard

/-- THE SECOND FORM's CARD OF 'scrivenerlaw6.ExtractPlays'. -/
def extractPlaysUptoCard : Claim7 := { stood := { row := extractPlaysUptoRow, standIns := [], harness := (true, "a3d6778cbb50778b9dbddcda6fff84e9bc0a72ee335d6895cf22c3497297ecd4"), looks := true }, kinds := [], alts := [], laidByText := true, laidKinds := [.data, .data], laidTests := true, laidLooks := .later }
def ExtractPlaysUptoCardSaid : Prop := Claim7.holds Tryz.pinned (.plain (OpenSpec.upto extractPlaysSpec)) extractPlaysUptoCard
end Rows
end Go.Proofs.YtdbghgpohdijfaaGreatDoor
