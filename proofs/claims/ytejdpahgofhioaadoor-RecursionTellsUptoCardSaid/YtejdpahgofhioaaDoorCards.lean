/-
  DERIVED. GIVEN WITH THE SEED: THE CARDS: each row of YtejdpahgofhioaaDoorRows.lean that lists a variable, with what it lists TIED to the program's text (the seventh form; the later family's looks); each row that meets fmt, with fmt's text TOLD by the authors' own Lean function (tested against real Go, not proved from fmt's source: count such statements apart). THE CARD IS WHAT COUNTS. Prove the row's statement (the work); the ties are given (YtejdpahgofhioaaDoorTie.lean); close each card by the builder's one call (the guide's Derived/Test/ToyasCard.lean, 'card_holds'). Laid BY PROGRAM, IN A SANDBOX (cutbox-door.mjs). By AI agents, Wed Nov 11 2026. No macro, syntax, notation, axiom, sorry.
-/
import Derived.Test.YtejdpahgofhioaaDoorRows
import GoSem.ClaimSeven
namespace Go.Proofs.YtejdpahgofhioaaDoor
namespace Rows

/-- THE TIED CARD OF 'scrivenerlaw3.RecursionSplits'. -/
def recursionSplitsCard : Claim7 := { stood := { row := recursionSplitsRow, standIns := [], harness := (true, "3ca5167b37333590268e61180b0d73e46b4d66088480bac7dad99d11b21f35f4"), looks := false }, kinds := [], alts := [], laidByText := true, laidKinds := [.data, .data], laidTests := true, laidLooks := .later }
def RecursionSplitsCardSaid : Prop := Claim7.holds Tryd.pinned (.plain (OpenSpec.ofChange recursionSplitsSpec)) recursionSplitsCard

/-- THE TIED CARD OF 'scrivenerlaw3.RecursionRoots'. -/
def recursionRootsCard : Claim7 := { stood := { row := recursionRootsRow, standIns := [], harness := (true, "3ca5167b37333590268e61180b0d73e46b4d66088480bac7dad99d11b21f35f4"), looks := false }, kinds := [], alts := [], laidByText := true, laidKinds := [.data, .data], laidTests := true, laidLooks := .later }
def RecursionRootsCardSaid : Prop := Claim7.holds Tryd.pinned (.plain (OpenSpec.ofChange recursionRootsSpec)) recursionRootsCard

/-- THE TIED CARD OF 'scrivenerlaw3.RecursionTells'. -/
def recursionTellsCard : Claim7 := { stood := { row := recursionTellsRow, standIns := [], harness := (true, "3ca5167b37333590268e61180b0d73e46b4d66088480bac7dad99d11b21f35f4"), looks := false }, kinds := [], alts := [], laidByText := true, laidKinds := [.data, .data], laidTests := true, laidLooks := .later }
def RecursionTellsCardSaid : Prop := Claim7.holds Tryd.pinned (.plain (OpenSpec.ofChange recursionTellsSpec)) recursionTellsCard

/-- THE TIED CARD OF 'scrivenerlaw3.RecursionGrows'. -/
def recursionGrowsCard : Claim7 := { stood := { row := recursionGrowsRow, standIns := [], harness := (true, "3ca5167b37333590268e61180b0d73e46b4d66088480bac7dad99d11b21f35f4"), looks := false }, kinds := [], alts := [], laidByText := true, laidKinds := [.data, .data], laidTests := true, laidLooks := .later }
def RecursionGrowsCardSaid : Prop := Claim7.holds Tryd.pinned (.plain (OpenSpec.ofChange recursionGrowsSpec)) recursionGrowsCard

/-- THE TIED CARD OF 'scrivenerlaw3.RecursionPaths'. -/
def recursionPathsCard : Claim7 := { stood := { row := recursionPathsRow, standIns := [], harness := (true, "3ca5167b37333590268e61180b0d73e46b4d66088480bac7dad99d11b21f35f4"), looks := false }, kinds := [], alts := [], laidByText := true, laidKinds := [.data, .data], laidTests := true, laidLooks := .later }
def RecursionPathsCardSaid : Prop := Claim7.holds Tryd.pinned (.plain (OpenSpec.ofChange recursionPathsSpec)) recursionPathsCard

/-- THE TIED CARD OF 'scrivenerlaw3.RecursionManys'. -/
def recursionManysCard : Claim7 := { stood := { row := recursionManysRow, standIns := [], harness := (true, "3ca5167b37333590268e61180b0d73e46b4d66088480bac7dad99d11b21f35f4"), looks := false }, kinds := [], alts := [], laidByText := true, laidKinds := [.data, .data], laidTests := true, laidLooks := .later }
def RecursionManysCardSaid : Prop := Claim7.holds Tryd.pinned (.plain (OpenSpec.ofChange recursionManysSpec)) recursionManysCard

/-- THE TIED CARD OF 'scrivenerlaw8.ShapeCovers'. -/
def shapeCoversCard : Claim7 := { stood := { row := shapeCoversRow, standIns := [], harness := (true, "3ca5167b37333590268e61180b0d73e46b4d66088480bac7dad99d11b21f35f4"), looks := false }, kinds := [], alts := [], laidByText := true, laidKinds := [.data, .data], laidTests := true, laidLooks := .later }
def ShapeCoversCardSaid : Prop := Claim7.holds Tryd.pinned (.plain (OpenSpec.ofChange shapeCoversSpec)) shapeCoversCard

/-- THE TIED CARD OF 'scrivenerlaw8.ShapeInside'. -/
def shapeInsideCard : Claim7 := { stood := { row := shapeInsideRow, standIns := [], harness := (true, "3ca5167b37333590268e61180b0d73e46b4d66088480bac7dad99d11b21f35f4"), looks := false }, kinds := [], alts := [], laidByText := true, laidKinds := [.data, .data], laidTests := true, laidLooks := .later }
def ShapeInsideCardSaid : Prop := Claim7.holds Tryd.pinned (.plain (OpenSpec.ofChange shapeInsideSpec)) shapeInsideCard

/-- THE TIED CARD OF 'scrivenerlaw8.ShapePaths'. -/
def shapePathsCard : Claim7 := { stood := { row := shapePathsRow, standIns := [], harness := (true, "3ca5167b37333590268e61180b0d73e46b4d66088480bac7dad99d11b21f35f4"), looks := false }, kinds := [], alts := [], laidByText := true, laidKinds := [.data, .data], laidTests := true, laidLooks := .later }
def ShapePathsCardSaid : Prop := Claim7.holds Tryd.pinned (.plain (OpenSpec.ofChange shapePathsSpec)) shapePathsCard

/-- THE TIED CARD OF 'scrivenerlaw8.ShapeBatches'. -/
def shapeBatchesCard : Claim7 := { stood := { row := shapeBatchesRow, standIns := [], harness := (true, "3ca5167b37333590268e61180b0d73e46b4d66088480bac7dad99d11b21f35f4"), looks := false }, kinds := [], alts := [], laidByText := true, laidKinds := [.data, .data], laidTests := true, laidLooks := .later }
def ShapeBatchesCardSaid : Prop := Claim7.holds Tryd.pinned (.plain (OpenSpec.ofChange shapeBatchesSpec)) shapeBatchesCard

/-- THE TIED CARD OF 'scrivenerlaw8.ShapeFolds'. -/
def shapeFoldsCard : Claim7 := { stood := { row := shapeFoldsRow, standIns := [], harness := (true, "3ca5167b37333590268e61180b0d73e46b4d66088480bac7dad99d11b21f35f4"), looks := false }, kinds := [], alts := [], laidByText := true, laidKinds := [.data, .data], laidTests := true, laidLooks := .later }
def ShapeFoldsCardSaid : Prop := Claim7.holds Tryd.pinned (.plain (OpenSpec.ofChange shapeFoldsSpec)) shapeFoldsCard

/-- THE TIED CARD OF 'scrivenerlaw8.ShapeParts'. -/
def shapePartsCard : Claim7 := { stood := { row := shapePartsRow, standIns := [], harness := (true, "3ca5167b37333590268e61180b0d73e46b4d66088480bac7dad99d11b21f35f4"), looks := false }, kinds := [], alts := [], laidByText := true, laidKinds := [.data, .data], laidTests := true, laidLooks := .later }
def ShapePartsCardSaid : Prop := Claim7.holds Tryd.pinned (.plain (OpenSpec.ofChange shapePartsSpec)) shapePartsCard

/-- THE SECOND FORM's CARD OF 'scrivenerlaw3.RecursionSplits'. -/
def recursionSplitsUptoCard : Claim7 := { stood := { row := recursionSplitsUptoRow, standIns := [], harness := (true, "3ca5167b37333590268e61180b0d73e46b4d66088480bac7dad99d11b21f35f4"), looks := false }, kinds := [], alts := [], laidByText := true, laidKinds := [.data, .data], laidTests := true, laidLooks := .later }
def RecursionSplitsUptoCardSaid : Prop := Claim7.holds Tryd.pinned (.plain (OpenSpec.upto recursionSplitsSpec)) recursionSplitsUptoCard

/-- THE SECOND FORM's CARD OF 'scrivenerlaw3.RecursionRoots'. -/
def recursionRootsUptoCard : Claim7 := { stood := { row := recursionRootsUptoRow, standIns := [], harness := (true, "3ca5167b37333590268e61180b0d73e46b4d66088480bac7dad99d11b21f35f4"), looks := false }, kinds := [], alts := [], laidByText := true, laidKinds := [.data, .data], laidTests := true, laidLooks := .later }
def RecursionRootsUptoCardSaid : Prop := Claim7.holds Tryd.pinned (.plain (OpenSpec.upto recursionRootsSpec)) recursionRootsUptoCard

/-- THE SECOND FORM's CARD OF 'scrivenerlaw3.RecursionTells'. -/
def recursionTellsUptoCard : Claim7 := { stood := { row := recursionTellsUptoRow, standIns := [], harness := (true, "3ca5167b37333590268e61180b0d73e46b4d66088480bac7dad99d11b21f35f4"), looks := false }, kinds := [], alts := [], laidByText := true, laidKinds := [.data, .data], laidTests := true, laidLooks := .later }
def RecursionTellsUptoCardSaid : Prop := Claim7.holds Tryd.pinned (.plain (OpenSpec.upto recursionTellsSpec)) recursionTellsUptoCard

/-- THE SECOND FORM's CARD OF 'scrivenerlaw3.RecursionGrows'. -/
def recursionGrowsUptoCard : Claim7 := { stood := { row := recursionGrowsUptoRow, standIns := [], harness := (true, "3ca5167b37333590268e61180b0d73e46b4d66088480bac7dad99d11b21f35f4"), looks := false }, kinds := [], alts := [], laidByText := true, laidKinds := [.data, .data], laidTests := true, laidLooks := .later }
def RecursionGrowsUptoCardSaid : Prop := Claim7.holds Tryd.pinned (.plain (OpenSpec.upto recursionGrowsSpec)) recursionGrowsUptoCard

/-- THE SECOND FORM's CARD OF 'scrivenerlaw3.RecursionPaths'. -/
def recursionPathsUptoCard : Claim7 := { stood := { row := recursionPathsUptoRow, standIns := [], harness := (true, "3ca5167b37333590268e61180b0d73e46b4d66088480bac7dad99d11b21f35f4"), looks := false }, kinds := [], alts := [], laidByText := true, laidKinds := [.data, .data], laidTests := true, laidLooks := .later }
def RecursionPathsUptoCardSaid : Prop := Claim7.holds Tryd.pinned (.plain (OpenSpec.upto recursionPathsSpec)) recursionPathsUptoCard

/-- THE SECOND FORM's CARD OF 'scrivenerlaw3.RecursionManys'. -/
def recursionManysUptoCard : Claim7 := { stood := { row := recursionManysUptoRow, standIns := [], harness := (true, "3ca5167b37333590268e61180b0d73e46b4d66088480bac7dad99d11b21f35f4"), looks := false }, kinds := [], alts := [], laidByText := true, laidKinds := [.data, .data], laidTests := true, laidLooks := .later }
def RecursionManysUptoCardSaid : Prop := Claim7.holds Tryd.pinned (.plain (OpenSpec.upto recursionManysSpec)) recursionManysUptoCard

/-- THE SECOND FORM's CARD OF 'scrivenerlaw8.ShapeCovers'. -/
def shapeCoversUptoCard : Claim7 := { stood := { row := shapeCoversUptoRow, standIns := [], harness := (true, "3ca5167b37333590268e61180b0d73e46b4d66088480bac7dad99d11b21f35f4"), looks := false }, kinds := [], alts := [], laidByText := true, laidKinds := [.data, .data], laidTests := true, laidLooks := .later }
def ShapeCoversUptoCardSaid : Prop := Claim7.holds Tryd.pinned (.plain (OpenSpec.upto shapeCoversSpec)) shapeCoversUptoCard

/-- THE SECOND FORM's CARD OF 'scrivenerlaw8.ShapeInside'. -/
def shapeInsideUptoCard : Claim7 := { stood := { row := shapeInsideUptoRow, standIns := [], harness := (true, "3ca5167b37333590268e61180b0d73e46b4d66088480bac7dad99d11b21f35f4"), looks := false }, kinds := [], alts := [], laidByText := true, laidKinds := [.data, .data], laidTests := true, laidLooks := .later }
def ShapeInsideUptoCardSaid : Prop := Claim7.holds Tryd.pinned (.plain (OpenSpec.upto shapeInsideSpec)) shapeInsideUptoCard

/-- THE SECOND FORM's CARD OF 'scrivenerlaw8.ShapePaths'. -/
def shapePathsUptoCard : Claim7 := { stood := { row := shapePathsUptoRow, standIns := [], harness := (true, "3ca5167b37333590268e61180b0d73e46b4d66088480bac7dad99d11b21f35f4"), looks := false }, kinds := [], alts := [], laidByText := true, laidKinds := [.data, .data], laidTests := true, laidLooks := .later }
def ShapePathsUptoCardSaid : Prop := Claim7.holds Tryd.pinned (.plain (OpenSpec.upto shapePathsSpec)) shapePathsUptoCard

/-- THE SECOND FORM's CARD OF 'scrivenerlaw8.ShapeBatches'. -/
def shapeBatchesUptoCard : Claim7 := { stood := { row := shapeBatchesUptoRow, standIns := [], harness := (true, "3ca5167b37333590268e61180b0d73e46b4d66088480bac7dad99d11b21f35f4"), looks := false }, kinds := [], alts := [], laidByText := true, laidKinds := [.data, .data], laidTests := true, laidLooks := .later }
def ShapeBatchesUptoCardSaid : Prop := Claim7.holds Tryd.pinned (.plain (OpenSpec.upto shapeBatchesSpec)) shapeBatchesUptoCard

/-- THE SECOND FORM's CARD OF 'scrivenerlaw8.ShapeFolds'. -/
def shapeFoldsUptoCard : Claim7 := { stood := { row := shapeFoldsUptoRow, standIns := [], harness := (true, "3ca5167b37333590268e61180b0d73e46b4d66088480bac7dad99d11b21f35f4"), looks := false }, kinds := [], alts := [], laidByText := true, laidKinds := [.data, .data], laidTests := true, laidLooks := .later }
def ShapeFoldsUptoCardSaid : Prop := Claim7.holds Tryd.pinned (.plain (OpenSpec.upto shapeFoldsSpec)) shapeFoldsUptoCard

/-- THE SECOND FORM's CARD OF 'scrivenerlaw8.ShapeParts'. -/
def shapePartsUptoCard : Claim7 := { stood := { row := shapePartsUptoRow, standIns := [], harness := (true, "3ca5167b37333590268e61180b0d73e46b4d66088480bac7dad99d11b21f35f4"), looks := false }, kinds := [], alts := [], laidByText := true, laidKinds := [.data, .data], laidTests := true, laidLooks := .later }
def ShapePartsUptoCardSaid : Prop := Claim7.holds Tryd.pinned (.plain (OpenSpec.upto shapePartsSpec)) shapePartsUptoCard
end Rows
end Go.Proofs.YtejdpahgofhioaaDoor
