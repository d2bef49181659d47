/-
  DERIVED. GIVEN WITH THE SEED: THE CARDS: each row of YtdgblimeehijpaaDoorRows.lean that lists a variable, with what it lists TIED to the program's text (the seventh form; the later family's looks); each row that meets fmt, with fmt's text TOLD by the authors' own Lean function (tested against real Go, not proved from fmt's source: count such statements apart). THE CARD IS WHAT COUNTS. Prove the row's statement (the work); the ties are given (YtdgblimeehijpaaDoorTie.lean); close each card by the builder's one call (the guide's Derived/Test/ToyasCard.lean, 'card_holds'). Laid BY PROGRAM, IN A SANDBOX (cutbox-door.mjs). By AI agents, Wed Nov 11 2026. No macro, syntax, notation, axiom, sorry.
-/
import Derived.Test.YtdgblimeehijpaaDoorRows
import GoSem.ClaimSeven
namespace Go.Proofs.YtdgblimeehijpaaDoor
namespace Rows

/-- THE TIED CARD OF 'scrivenerlaw20.WinternitzDigits'. -/
def winternitzDigitsCard : Claim7 := { stood := { row := winternitzDigitsRow, standIns := [], harness := (true, "8383f790afcd5549612c013667e829ec5bb68d935979f45a0bc0832c6c49502c"), looks := false }, kinds := [], alts := [], laidByText := true, laidKinds := [.data, .data], laidTests := true, laidLooks := .later }
def WinternitzDigitsCardSaid : Prop := Claim7.holds Tryd.pinned (.plain (OpenSpec.ofChange winternitzDigitsSpec)) winternitzDigitsCard

/-- THE TIED CARD OF 'scrivenerlaw20.WinternitzAbove'. -/
def winternitzAboveCard : Claim7 := { stood := { row := winternitzAboveRow, standIns := [], harness := (true, "8383f790afcd5549612c013667e829ec5bb68d935979f45a0bc0832c6c49502c"), looks := false }, kinds := [], alts := [], laidByText := true, laidKinds := [.data, .data], laidTests := true, laidLooks := .later }
def WinternitzAboveCardSaid : Prop := Claim7.holds Tryd.pinned (.plain (OpenSpec.ofChange winternitzAboveSpec)) winternitzAboveCard

/-- THE TIED CARD OF 'scrivenerlaw1.DigestNodes'. -/
def digestNodesCard : Claim7 := { stood := { row := digestNodesRow, standIns := [], harness := (true, "8383f790afcd5549612c013667e829ec5bb68d935979f45a0bc0832c6c49502c"), looks := false }, kinds := [], alts := [], laidByText := true, laidKinds := [.data, .data], laidTests := true, laidLooks := .later }
def DigestNodesCardSaid : Prop := Claim7.holds Tryd.pinned (.plain (OpenSpec.ofChange digestNodesSpec)) digestNodesCard

/-- THE TIED CARD OF 'scrivenerlaw1.DigestTexts'. -/
def digestTextsCard : Claim7 := { stood := { row := digestTextsRow, standIns := [], harness := (true, "8383f790afcd5549612c013667e829ec5bb68d935979f45a0bc0832c6c49502c"), looks := false }, kinds := [], alts := [], laidByText := true, laidKinds := [.data, .data], laidTests := true, laidLooks := .later }
def DigestTextsCardSaid : Prop := Claim7.holds Tryd.pinned (.plain (OpenSpec.ofChange digestTextsSpec)) digestTextsCard

/-- THE TIED CARD OF 'scrivenerlaw1.DigestBack'. -/
def digestBackCard : Claim7 := { stood := { row := digestBackRow, standIns := [], harness := (true, "8383f790afcd5549612c013667e829ec5bb68d935979f45a0bc0832c6c49502c"), looks := false }, kinds := [], alts := [], laidByText := true, laidKinds := [.data, .data], laidTests := true, laidLooks := .later }
def DigestBackCardSaid : Prop := Claim7.holds Tryd.pinned (.plain (OpenSpec.ofChange digestBackSpec)) digestBackCard

/-- THE TIED CARD OF 'scrivenerlaw1.DigestSums'. -/
def digestSumsCard : Claim7 := { stood := { row := digestSumsRow, standIns := [], harness := (true, "8383f790afcd5549612c013667e829ec5bb68d935979f45a0bc0832c6c49502c"), looks := false }, kinds := [], alts := [], laidByText := true, laidKinds := [.data, .data], laidTests := true, laidLooks := .later }
def DigestSumsCardSaid : Prop := Claim7.holds Tryd.pinned (.plain (OpenSpec.ofChange digestSumsSpec)) digestSumsCard

/-- THE TIED CARD OF 'scrivenerlaw1.DigestHashers'. -/
def digestHashersCard : Claim7 := { stood := { row := digestHashersRow, standIns := [], harness := (true, "8383f790afcd5549612c013667e829ec5bb68d935979f45a0bc0832c6c49502c"), looks := false }, kinds := [], alts := [], laidByText := true, laidKinds := [.data, .data], laidTests := true, laidLooks := .later }
def DigestHashersCardSaid : Prop := Claim7.holds Tryd.pinned (.plain (OpenSpec.ofChange digestHashersSpec)) digestHashersCard

/-- THE TIED CARD OF 'scrivenerlaw1.DigestCuts'. -/
def digestCutsCard : Claim7 := { stood := { row := digestCutsRow, standIns := [], harness := (true, "8383f790afcd5549612c013667e829ec5bb68d935979f45a0bc0832c6c49502c"), looks := false }, kinds := [], alts := [], laidByText := true, laidKinds := [.data, .data], laidTests := true, laidLooks := .later }
def DigestCutsCardSaid : Prop := Claim7.holds Tryd.pinned (.plain (OpenSpec.ofChange digestCutsSpec)) digestCutsCard

/-- THE SECOND FORM's CARD OF 'scrivenerlaw20.WinternitzDigits'. -/
def winternitzDigitsUptoCard : Claim7 := { stood := { row := winternitzDigitsUptoRow, standIns := [], harness := (true, "8383f790afcd5549612c013667e829ec5bb68d935979f45a0bc0832c6c49502c"), looks := false }, kinds := [], alts := [], laidByText := true, laidKinds := [.data, .data], laidTests := true, laidLooks := .later }
def WinternitzDigitsUptoCardSaid : Prop := Claim7.holds Tryd.pinned (.plain (OpenSpec.upto winternitzDigitsSpec)) winternitzDigitsUptoCard

/-- THE SECOND FORM's CARD OF 'scrivenerlaw20.WinternitzAbove'. -/
def winternitzAboveUptoCard : Claim7 := { stood := { row := winternitzAboveUptoRow, standIns := [], harness := (true, "8383f790afcd5549612c013667e829ec5bb68d935979f45a0bc0832c6c49502c"), looks := false }, kinds := [], alts := [], laidByText := true, laidKinds := [.data, .data], laidTests := true, laidLooks := .later }
def WinternitzAboveUptoCardSaid : Prop := Claim7.holds Tryd.pinned (.plain (OpenSpec.upto winternitzAboveSpec)) winternitzAboveUptoCard

/-- THE SECOND FORM's CARD OF 'scrivenerlaw1.DigestNodes'. -/
def digestNodesUptoCard : Claim7 := { stood := { row := digestNodesUptoRow, standIns := [], harness := (true, "8383f790afcd5549612c013667e829ec5bb68d935979f45a0bc0832c6c49502c"), looks := false }, kinds := [], alts := [], laidByText := true, laidKinds := [.data, .data], laidTests := true, laidLooks := .later }
def DigestNodesUptoCardSaid : Prop := Claim7.holds Tryd.pinned (.plain (OpenSpec.upto digestNodesSpec)) digestNodesUptoCard

/-- THE SECOND FORM's CARD OF 'scrivenerlaw1.DigestTexts'. -/
def digestTextsUptoCard : Claim7 := { stood := { row := digestTextsUptoRow, standIns := [], harness := (true, "8383f790afcd5549612c013667e829ec5bb68d935979f45a0bc0832c6c49502c"), looks := false }, kinds := [], alts := [], laidByText := true, laidKinds := [.data, .data], laidTests := true, laidLooks := .later }
def DigestTextsUptoCardSaid : Prop := Claim7.holds Tryd.pinned (.plain (OpenSpec.upto digestTextsSpec)) digestTextsUptoCard

/-- THE SECOND FORM's CARD OF 'scrivenerlaw1.DigestBack'. -/
def digestBackUptoCard : Claim7 := { stood := { row := digestBackUptoRow, standIns := [], harness := (true, "8383f790afcd5549612c013667e829ec5bb68d935979f45a0bc0832c6c49502c"), looks := false }, kinds := [], alts := [], laidByText := true, laidKinds := [.data, .data], laidTests := true, laidLooks := .later }
def DigestBackUptoCardSaid : Prop := Claim7.holds Tryd.pinned (.plain (OpenSpec.upto digestBackSpec)) digestBackUptoCard

/-- THE SECOND FORM's CARD OF 'scrivenerlaw1.DigestSums'. -/
def digestSumsUptoCard : Claim7 := { stood := { row := digestSumsUptoRow, standIns := [], harness := (true, "8383f790afcd5549612c013667e829ec5bb68d935979f45a0bc0832c6c49502c"), looks := false }, kinds := [], alts := [], laidByText := true, laidKinds := [.data, .data], laidTests := true, laidLooks := .later }
def DigestSumsUptoCardSaid : Prop := Claim7.holds Tryd.pinned (.plain (OpenSpec.upto digestSumsSpec)) digestSumsUptoCard

/-- THE SECOND FORM's CARD OF 'scrivenerlaw1.DigestHashers'. -/
def digestHashersUptoCard : Claim7 := { stood := { row := digestHashersUptoRow, standIns := [], harness := (true, "8383f790afcd5549612c013667e829ec5bb68d935979f45a0bc0832c6c49502c"), looks := false }, kinds := [], alts := [], laidByText := true, laidKinds := [.data, .data], laidTests := true, laidLooks := .later }
def DigestHashersUptoCardSaid : Prop := Claim7.holds Tryd.pinned (.plain (OpenSpec.upto digestHashersSpec)) digestHashersUptoCard

/-- THE SECOND FORM's CARD OF 'scrivenerlaw1.DigestCuts'. -/
def digestCutsUptoCard : Claim7 := { stood := { row := digestCutsUptoRow, standIns := [], harness := (true, "8383f790afcd5549612c013667e829ec5bb68d935979f45a0bc0832c6c49502c"), looks := false }, kinds := [], alts := [], laidByText := true, laidKinds := [.data, .data], laidTests := true, laidLooks := .later }
def DigestCutsUptoCardSaid : Prop := Claim7.holds Tryd.pinned (.plain (OpenSpec.upto digestCutsSpec)) digestCutsUptoCard
end Rows
end Go.Proofs.YtdgblimeehijpaaDoor
