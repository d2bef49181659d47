/-
  DERIVED. GIVEN WITH THE SEED: THE CARDS: each row of YteknpnanmbfhfaaDoorRows.lean that lists a variable, with what it lists TIED to the program's text (the seventh form; the later family's looks); each row that meets fmt, with fmt's text TOLD by the authors' own Lean function (tested against real Go, not proved from fmt's source: count such statements apart). THE CARD IS WHAT COUNTS. Prove the row's statement (the work); the ties are given (YteknpnanmbfhfaaDoorTie.lean); close each card by the builder's one call (the guide's Derived/Test/ToyasCard.lean, 'card_holds'). Laid BY PROGRAM, IN A SANDBOX (cutbox-door.mjs). By AI agents, Wed Nov 11 2026. No macro, syntax, notation, axiom, sorry.
-/
import Derived.Test.YteknpnanmbfhfaaDoorRows
import GoSem.ClaimSeven
namespace Go.Proofs.YteknpnanmbfhfaaDoor
namespace Rows

/-- THE TIED CARD OF 'scrivenerlaw8.ShapeCovers'. -/
def shapeCoversCard : Claim7 := { stood := { row := shapeCoversRow, standIns := [], harness := (true, "340245e58138001787d80faab5badd6301bf61d8f395f7d1082c0c04e62c40cb"), looks := false }, kinds := [], alts := [], laidByText := true, laidKinds := [.data, .data], laidTests := true, laidLooks := .later }
def ShapeCoversCardSaid : Prop := Claim7.holds Tryd.pinned (.plain (OpenSpec.ofChange shapeCoversSpec)) shapeCoversCard

/-- THE TIED CARD OF 'scrivenerlaw8.ShapeInside'. -/
def shapeInsideCard : Claim7 := { stood := { row := shapeInsideRow, standIns := [], harness := (true, "340245e58138001787d80faab5badd6301bf61d8f395f7d1082c0c04e62c40cb"), looks := false }, kinds := [], alts := [], laidByText := true, laidKinds := [.data, .data], laidTests := true, laidLooks := .later }
def ShapeInsideCardSaid : Prop := Claim7.holds Tryd.pinned (.plain (OpenSpec.ofChange shapeInsideSpec)) shapeInsideCard

/-- THE TIED CARD OF 'scrivenerlaw8.ShapePaths'. -/
def shapePathsCard : Claim7 := { stood := { row := shapePathsRow, standIns := [], harness := (true, "340245e58138001787d80faab5badd6301bf61d8f395f7d1082c0c04e62c40cb"), looks := false }, kinds := [], alts := [], laidByText := true, laidKinds := [.data, .data], laidTests := true, laidLooks := .later }
def ShapePathsCardSaid : Prop := Claim7.holds Tryd.pinned (.plain (OpenSpec.ofChange shapePathsSpec)) shapePathsCard

/-- THE TIED CARD OF 'scrivenerlaw8.ShapeBatches'. -/
def shapeBatchesCard : Claim7 := { stood := { row := shapeBatchesRow, standIns := [], harness := (true, "340245e58138001787d80faab5badd6301bf61d8f395f7d1082c0c04e62c40cb"), looks := false }, kinds := [], alts := [], laidByText := true, laidKinds := [.data, .data], laidTests := true, laidLooks := .later }
def ShapeBatchesCardSaid : Prop := Claim7.holds Tryd.pinned (.plain (OpenSpec.ofChange shapeBatchesSpec)) shapeBatchesCard

/-- THE TIED CARD OF 'scrivenerlaw8.ShapeFolds'. -/
def shapeFoldsCard : Claim7 := { stood := { row := shapeFoldsRow, standIns := [], harness := (true, "340245e58138001787d80faab5badd6301bf61d8f395f7d1082c0c04e62c40cb"), looks := false }, kinds := [], alts := [], laidByText := true, laidKinds := [.data, .data], laidTests := true, laidLooks := .later }
def ShapeFoldsCardSaid : Prop := Claim7.holds Tryd.pinned (.plain (OpenSpec.ofChange shapeFoldsSpec)) shapeFoldsCard

/-- THE TIED CARD OF 'scrivenerlaw8.ShapeParts'. -/
def shapePartsCard : Claim7 := { stood := { row := shapePartsRow, standIns := [], harness := (true, "340245e58138001787d80faab5badd6301bf61d8f395f7d1082c0c04e62c40cb"), looks := false }, kinds := [], alts := [], laidByText := true, laidKinds := [.data, .data], laidTests := true, laidLooks := .later }
def ShapePartsCardSaid : Prop := Claim7.holds Tryd.pinned (.plain (OpenSpec.ofChange shapePartsSpec)) shapePartsCard

/-- THE TIED CARD OF 'scrivenerlaw8.ShapeTrees'. -/
def shapeTreesCard : Claim7 := { stood := { row := shapeTreesRow, standIns := [], harness := (true, "340245e58138001787d80faab5badd6301bf61d8f395f7d1082c0c04e62c40cb"), looks := false }, kinds := [], alts := [], laidByText := true, laidKinds := [.data, .data], laidTests := true, laidLooks := .later }
def ShapeTreesCardSaid : Prop := Claim7.holds Tryd.pinned (.plain (OpenSpec.ofChange shapeTreesSpec)) shapeTreesCard

/-- THE SECOND FORM's CARD OF 'scrivenerlaw8.ShapeCovers'. -/
def shapeCoversUptoCard : Claim7 := { stood := { row := shapeCoversUptoRow, standIns := [], harness := (true, "340245e58138001787d80faab5badd6301bf61d8f395f7d1082c0c04e62c40cb"), looks := false }, kinds := [], alts := [], laidByText := true, laidKinds := [.data, .data], laidTests := true, laidLooks := .later }
def ShapeCoversUptoCardSaid : Prop := Claim7.holds Tryd.pinned (.plain (OpenSpec.upto shapeCoversSpec)) shapeCoversUptoCard

/-- THE SECOND FORM's CARD OF 'scrivenerlaw8.ShapeInside'. -/
def shapeInsideUptoCard : Claim7 := { stood := { row := shapeInsideUptoRow, standIns := [], harness := (true, "340245e58138001787d80faab5badd6301bf61d8f395f7d1082c0c04e62c40cb"), looks := false }, kinds := [], alts := [], laidByText := true, laidKinds := [.data, .data], laidTests := true, laidLooks := .later }
def ShapeInsideUptoCardSaid : Prop := Claim7.holds Tryd.pinned (.plain (OpenSpec.upto shapeInsideSpec)) shapeInsideUptoCard

/-- THE SECOND FORM's CARD OF 'scrivenerlaw8.ShapePaths'. -/
def shapePathsUptoCard : Claim7 := { stood := { row := shapePathsUptoRow, standIns := [], harness := (true, "340245e58138001787d80faab5badd6301bf61d8f395f7d1082c0c04e62c40cb"), looks := false }, kinds := [], alts := [], laidByText := true, laidKinds := [.data, .data], laidTests := true, laidLooks := .later }
def ShapePathsUptoCardSaid : Prop := Claim7.holds Tryd.pinned (.plain (OpenSpec.upto shapePathsSpec)) shapePathsUptoCard

/-- THE SECOND FORM's CARD OF 'scrivenerlaw8.ShapeBatches'. -/
def shapeBatchesUptoCard : Claim7 := { stood := { row := shapeBatchesUptoRow, standIns := [], harness := (true, "340245e58138001787d80faab5badd6301bf61d8f395f7d1082c0c04e62c40cb"), looks := false }, kinds := [], alts := [], laidByText := true, laidKinds := [.data, .data], laidTests := true, laidLooks := .later }
def ShapeBatchesUptoCardSaid : Prop := Claim7.holds Tryd.pinned (.plain (OpenSpec.upto shapeBatchesSpec)) shapeBatchesUptoCard

/-- THE SECOND FORM's CARD OF 'scrivenerlaw8.ShapeFolds'. -/
def shapeFoldsUptoCard : Claim7 := { stood := { row := shapeFoldsUptoRow, standIns := [], harness := (true, "340245e58138001787d80faab5badd6301bf61d8f395f7d1082c0c04e62c40cb"), looks := false }, kinds := [], alts := [], laidByText := true, laidKinds := [.data, .data], laidTests := true, laidLooks := .later }
def ShapeFoldsUptoCardSaid : Prop := Claim7.holds Tryd.pinned (.plain (OpenSpec.upto shapeFoldsSpec)) shapeFoldsUptoCard

/-- THE SECOND FORM's CARD OF 'scrivenerlaw8.ShapeParts'. -/
def shapePartsUptoCard : Claim7 := { stood := { row := shapePartsUptoRow, standIns := [], harness := (true, "340245e58138001787d80faab5badd6301bf61d8f395f7d1082c0c04e62c40cb"), looks := false }, kinds := [], alts := [], laidByText := true, laidKinds := [.data, .data], laidTests := true, laidLooks := .later }
def ShapePartsUptoCardSaid : Prop := Claim7.holds Tryd.pinned (.plain (OpenSpec.upto shapePartsSpec)) shapePartsUptoCard

/-- THE SECOND FORM's CARD OF 'scrivenerlaw8.ShapeTrees'. -/
def shapeTreesUptoCard : Claim7 := { stood := { row := shapeTreesUptoRow, standIns := [], harness := (true, "340245e58138001787d80faab5badd6301bf61d8f395f7d1082c0c04e62c40cb"), looks := false }, kinds := [], alts := [], laidByText := true, laidKinds := [.data, .data], laidTests := true, laidLooks := .later }
def ShapeTreesUptoCardSaid : Prop := Claim7.holds Tryd.pinned (.plain (OpenSpec.upto shapeTreesSpec)) shapeTreesUptoCard
end Rows
end Go.Proofs.YteknpnanmbfhfaaDoor
