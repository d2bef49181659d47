/-
  DERIVED. GIVEN WITH THE SEED: THE CARDS: each row of YtdbghgpohdijfaaDoorRows.lean that lists a variable, with what it lists TIED to the program's text (the seventh form; the later family's looks); each row that meets fmt, with fmt's text TOLD by the authors' own Lean function (tested against real Go, not proved from fmt's source: count such statements apart). THE CARD IS WHAT COUNTS. Prove the row's statement (the work); the ties are given (YtdbghgpohdijfaaDoorTie.lean); close each card by the builder's one call (the guide's Derived/Test/ToyasCard.lean, 'card_holds'). Laid BY PROGRAM, IN A SANDBOX (cutbox-door.mjs). By AI agents, Wed Nov 11 2026. No macro, syntax, notation, axiom, sorry.
-/
import Derived.Test.YtdbghgpohdijfaaDoorRows
import GoSem.ClaimSeven
namespace Go.Proofs.YtdbghgpohdijfaaDoor
namespace Rows

/-- THE TIED CARD OF 'scrivenerlaw6.ExtractPaths'. -/
def extractPathsCard : Claim7 := { stood := { row := extractPathsRow, standIns := [], harness := (true, "71a7297c0b52da29106edb3c66724fc86ae8812f1d8ab2fa7e1e43a2c404923e"), looks := true }, kinds := [], alts := [], laidByText := true, laidKinds := [.data, .data], laidTests := true, laidLooks := .later }
def ExtractPathsCardSaid : Prop := Claim7.holds Tryd.pinned (.plain (OpenSpec.ofChange extractPathsSpec)) extractPathsCard

/-- THE TIED CARD OF 'scrivenerlaw6.ExtractProofs'. -/
def extractProofsCard : Claim7 := { stood := { row := extractProofsRow, standIns := [], harness := (true, "71a7297c0b52da29106edb3c66724fc86ae8812f1d8ab2fa7e1e43a2c404923e"), looks := true }, kinds := [], alts := [], laidByText := true, laidKinds := [.data, .data], laidTests := true, laidLooks := .later }
def ExtractProofsCardSaid : Prop := Claim7.holds Tryd.pinned (.plain (OpenSpec.ofChange extractProofsSpec)) extractProofsCard

/-- THE TIED CARD OF 'scrivenerlaw6.ExtractLists'. -/
def extractListsCard : Claim7 := { stood := { row := extractListsRow, standIns := [], harness := (true, "71a7297c0b52da29106edb3c66724fc86ae8812f1d8ab2fa7e1e43a2c404923e"), looks := true }, kinds := [], alts := [], laidByText := true, laidKinds := [.data, .data], laidTests := true, laidLooks := .later }
def ExtractListsCardSaid : Prop := Claim7.holds Tryd.pinned (.plain (OpenSpec.ofChange extractListsSpec)) extractListsCard

/-- THE TIED CARD OF 'scrivenerlaw5.FrontPlays'. -/
def frontPlaysCard : Claim7 := { stood := { row := frontPlaysRow, standIns := [], harness := (true, "71a7297c0b52da29106edb3c66724fc86ae8812f1d8ab2fa7e1e43a2c404923e"), looks := true }, kinds := [], alts := [], laidByText := true, laidKinds := [.data, .data, .data, .data], laidTests := true, laidLooks := .later }
def FrontPlaysCardSaid : Prop := Claim7.holds Tryd.pinned (.plain (OpenSpec.ofChange frontPlaysSpec)) frontPlaysCard

/-- THE TIED CARD OF 'scrivenerlaw5.FrontRanges'. -/
def frontRangesCard : Claim7 := { stood := { row := frontRangesRow, standIns := [], harness := (true, "71a7297c0b52da29106edb3c66724fc86ae8812f1d8ab2fa7e1e43a2c404923e"), looks := true }, kinds := [], alts := [], laidByText := true, laidKinds := [.data, .data, .data, .data], laidTests := true, laidLooks := .later }
def FrontRangesCardSaid : Prop := Claim7.holds Tryd.pinned (.plain (OpenSpec.ofChange frontRangesSpec)) frontRangesCard

/-- THE TIED CARD OF 'scrivenerlaw5.FrontGoesOn'. -/
def frontGoesOnCard : Claim7 := { stood := { row := frontGoesOnRow, standIns := [], harness := (true, "71a7297c0b52da29106edb3c66724fc86ae8812f1d8ab2fa7e1e43a2c404923e"), looks := true }, kinds := [], alts := [], laidByText := true, laidKinds := [.data, .data, .data, .data], laidTests := true, laidLooks := .later }
def FrontGoesOnCardSaid : Prop := Claim7.holds Tryd.pinned (.plain (OpenSpec.ofChange frontGoesOnSpec)) frontGoesOnCard

/-- THE TIED CARD OF 'scrivenerlaw5.FrontJoins'. -/
def frontJoinsCard : Claim7 := { stood := { row := frontJoinsRow, standIns := [], harness := (true, "71a7297c0b52da29106edb3c66724fc86ae8812f1d8ab2fa7e1e43a2c404923e"), looks := true }, kinds := [], alts := [], laidByText := true, laidKinds := [.data, .data, .data, .data], laidTests := true, laidLooks := .later }
def FrontJoinsCardSaid : Prop := Claim7.holds Tryd.pinned (.plain (OpenSpec.ofChange frontJoinsSpec)) frontJoinsCard

/-- THE SECOND FORM's CARD OF 'scrivenerlaw6.ExtractPaths'. -/
def extractPathsUptoCard : Claim7 := { stood := { row := extractPathsUptoRow, standIns := [], harness := (true, "71a7297c0b52da29106edb3c66724fc86ae8812f1d8ab2fa7e1e43a2c404923e"), looks := true }, kinds := [], alts := [], laidByText := true, laidKinds := [.data, .data], laidTests := true, laidLooks := .later }
def ExtractPathsUptoCardSaid : Prop := Claim7.holds Tryd.pinned (.plain (OpenSpec.upto extractPathsSpec)) extractPathsUptoCard

/-- THE SECOND FORM's CARD OF 'scrivenerlaw6.ExtractProofs'. -/
def extractProofsUptoCard : Claim7 := { stood := { row := extractProofsUptoRow, standIns := [], harness := (true, "71a7297c0b52da29106edb3c66724fc86ae8812f1d8ab2fa7e1e43a2c404923e"), looks := true }, kinds := [], alts := [], laidByText := true, laidKinds := [.data, .data], laidTests := true, laidLooks := .later }
def ExtractProofsUptoCardSaid : Prop := Claim7.holds Tryd.pinned (.plain (OpenSpec.upto extractProofsSpec)) extractProofsUptoCard

/-- THE SECOND FORM's CARD OF 'scrivenerlaw6.ExtractLists'. -/
def extractListsUptoCard : Claim7 := { stood := { row := extractListsUptoRow, standIns := [], harness := (true, "71a7297c0b52da29106edb3c66724fc86ae8812f1d8ab2fa7e1e43a2c404923e"), looks := true }, kinds := [], alts := [], laidByText := true, laidKinds := [.data, .data], laidTests := true, laidLooks := .later }
def ExtractListsUptoCardSaid : Prop := Claim7.holds Tryd.pinned (.plain (OpenSpec.upto extractListsSpec)) extractListsUptoCard

/-- THE SECOND FORM's CARD OF 'scrivenerlaw5.FrontPlays'. -/
def frontPlaysUptoCard : Claim7 := { stood := { row := frontPlaysUptoRow, standIns := [], harness := (true, "71a7297c0b52da29106edb3c66724fc86ae8812f1d8ab2fa7e1e43a2c404923e"), looks := true }, kinds := [], alts := [], laidByText := true, laidKinds := [.data, .data, .data, .data], laidTests := true, laidLooks := .later }
def FrontPlaysUptoCardSaid : Prop := Claim7.holds Tryd.pinned (.plain (OpenSpec.upto frontPlaysSpec)) frontPlaysUptoCard

/-- THE SECOND FORM's CARD OF 'scrivenerlaw5.FrontRanges'. -/
def frontRangesUptoCard : Claim7 := { stood := { row := frontRangesUptoRow, standIns := [], harness := (true, "71a7297c0b52da29106edb3c66724fc86ae8812f1d8ab2fa7e1e43a2c404923e"), looks := true }, kinds := [], alts := [], laidByText := true, laidKinds := [.data, .data, .data, .data], laidTests := true, laidLooks := .later }
def FrontRangesUptoCardSaid : Prop := Claim7.holds Tryd.pinned (.plain (OpenSpec.upto frontRangesSpec)) frontRangesUptoCard

/-- THE SECOND FORM's CARD OF 'scrivenerlaw5.FrontGoesOn'. -/
def frontGoesOnUptoCard : Claim7 := { stood := { row := frontGoesOnUptoRow, standIns := [], harness := (true, "71a7297c0b52da29106edb3c66724fc86ae8812f1d8ab2fa7e1e43a2c404923e"), looks := true }, kinds := [], alts := [], laidByText := true, laidKinds := [.data, .data, .data, .data], laidTests := true, laidLooks := .later }
def FrontGoesOnUptoCardSaid : Prop := Claim7.holds Tryd.pinned (.plain (OpenSpec.upto frontGoesOnSpec)) frontGoesOnUptoCard

/-- THE SECOND FORM's CARD OF 'scrivenerlaw5.FrontJoins'. -/
def frontJoinsUptoCard : Claim7 := { stood := { row := frontJoinsUptoRow, standIns := [], harness := (true, "71a7297c0b52da29106edb3c66724fc86ae8812f1d8ab2fa7e1e43a2c404923e"), looks := true }, kinds := [], alts := [], laidByText := true, laidKinds := [.data, .data, .data, .data], laidTests := true, laidLooks := .later }
def FrontJoinsUptoCardSaid : Prop := Claim7.holds Tryd.pinned (.plain (OpenSpec.upto frontJoinsSpec)) frontJoinsUptoCard
end Rows
end Go.Proofs.YtdbghgpohdijfaaDoor
