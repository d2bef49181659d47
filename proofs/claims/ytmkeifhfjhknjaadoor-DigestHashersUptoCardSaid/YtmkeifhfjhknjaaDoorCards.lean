/-
  DERIVED. GIVEN WITH THE SEED: THE CARDS: each row of YtmkeifhfjhknjaaDoorRows.lean that lists a variable, with what it lists TIED to the program's text (the seventh form; the later family's looks); each row that meets fmt, with fmt's text TOLD by the authors' own Lean function (tested against real Go, not proved from fmt's source: count such statements apart). THE CARD IS WHAT COUNTS. Prove the row's statement (the work); the ties are given (YtmkeifhfjhknjaaDoorTie.lean); close each card by the builder's one call (the guide's Derived/Test/ToyasCard.lean, 'card_holds'). Laid BY PROGRAM, IN A SANDBOX (cutbox-door.mjs). By AI agents, Wed Nov 11 2026. No macro, syntax, notation, axiom, sorry.
-/
import Derived.Test.YtmkeifhfjhknjaaDoorRows
import GoSem.ClaimSeven
namespace Go.Proofs.YtmkeifhfjhknjaaDoor
namespace Rows

/-- THE TIED CARD OF 'scrivenerlaw20.WinternitzDigits'. -/
def winternitzDigitsCard : Claim7 := { stood := { row := winternitzDigitsRow, standIns := [], harness := (true, "52fde4ce775b6765a152e5bf3b785224bc898e0c0c1befad499e04e9dcb5c029"), looks := false }, kinds := [], alts := [], laidByText := true, laidKinds := [.data, .data], laidTests := true, laidLooks := .later }
def WinternitzDigitsCardSaid : Prop := Claim7.holds Tryd.pinned (.plain (OpenSpec.ofChange winternitzDigitsSpec)) winternitzDigitsCard

/-- THE TIED CARD OF 'scrivenerlaw1.DigestHashers'. -/
def digestHashersCard : Claim7 := { stood := { row := digestHashersRow, standIns := [], harness := (true, "52fde4ce775b6765a152e5bf3b785224bc898e0c0c1befad499e04e9dcb5c029"), looks := false }, kinds := [], alts := [], laidByText := true, laidKinds := [.data, .data], laidTests := true, laidLooks := .later }
def DigestHashersCardSaid : Prop := Claim7.holds Tryd.pinned (.plain (OpenSpec.ofChange digestHashersSpec)) digestHashersCard

/-- THE SECOND FORM's CARD OF 'scrivenerlaw20.WinternitzDigits'. -/
def winternitzDigitsUptoCard : Claim7 := { stood := { row := winternitzDigitsUptoRow, standIns := [], harness := (true, "52fde4ce775b6765a152e5bf3b785224bc898e0c0c1befad499e04e9dcb5c029"), looks := false }, kinds := [], alts := [], laidByText := true, laidKinds := [.data, .data], laidTests := true, laidLooks := .later }
def WinternitzDigitsUptoCardSaid : Prop := Claim7.holds Tryd.pinned (.plain (OpenSpec.upto winternitzDigitsSpec)) winternitzDigitsUptoCard

/-- THE SECOND FORM's CARD OF 'scrivenerlaw1.DigestHashers'. -/
def digestHashersUptoCard : Claim7 := { stood := { row := digestHashersUptoRow, standIns := [], harness := (true, "52fde4ce775b6765a152e5bf3b785224bc898e0c0c1befad499e04e9dcb5c029"), looks := false }, kinds := [], alts := [], laidByText := true, laidKinds := [.data, .data], laidTests := true, laidLooks := .later }
def DigestHashersUptoCardSaid : Prop := Claim7.holds Tryd.pinned (.plain (OpenSpec.upto digestHashersSpec)) digestHashersUptoCard
end Rows
end Go.Proofs.YtmkeifhfjhknjaaDoor
