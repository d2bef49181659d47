/-
  DERIVED. GIVEN WITH THE SEED: THE CARDS: each row of YtblacbfkaamdgaaDoorRows.lean that lists a variable, with what it lists TIED to the program's text (the seventh form; the later family's looks); each row that meets fmt, with fmt's text TOLD by the authors' own Lean function (tested against real Go, not proved from fmt's source: count such statements apart). THE CARD IS WHAT COUNTS. Prove the row's statement (the work); the ties are given (YtblacbfkaamdgaaDoorTie.lean); close each card by the builder's one call (the guide's Derived/Test/ToyasCard.lean, 'card_holds'). Laid BY PROGRAM, IN A SANDBOX (cutbox-door.mjs). By AI agents, Wed Nov 11 2026. No macro, syntax, notation, axiom, sorry.
-/
import Derived.Test.YtblacbfkaamdgaaDoorRows
import GoSem.ClaimSeven
namespace Go.Proofs.YtblacbfkaamdgaaDoor
namespace Rows

/-- THE TIED CARD OF 'scrivenerlaw7.TileTiles'. -/
def tileTilesCard : Claim7 := { stood := { row := tileTilesRow, standIns := [], harness := (true, "fb3da3eec6960687342016a3bceaae76f339b9fe172606d99ae8ffc7c981a545"), looks := false }, kinds := [], alts := [], laidByText := true, laidKinds := [.data, .data, .data, .data], laidTests := true, laidLooks := .later }
def TileTilesCardSaid : Prop := Claim7.holds Tryd.pinned (.plain (OpenSpec.ofChange tileTilesSpec)) tileTilesCard

/-- THE TIED CARD OF 'scrivenerlaw7.TilePlays'. -/
def tilePlaysCard : Claim7 := { stood := { row := tilePlaysRow, standIns := [], harness := (true, "fb3da3eec6960687342016a3bceaae76f339b9fe172606d99ae8ffc7c981a545"), looks := false }, kinds := [], alts := [], laidByText := true, laidKinds := [.data, .data, .data, .data], laidTests := true, laidLooks := .later }
def TilePlaysCardSaid : Prop := Claim7.holds Tryd.pinned (.plain (OpenSpec.ofChange tilePlaysSpec)) tilePlaysCard

/-- THE TIED CARD OF 'scrivenerlaw7.TileClones'. -/
def tileClonesCard : Claim7 := { stood := { row := tileClonesRow, standIns := [], harness := (true, "fb3da3eec6960687342016a3bceaae76f339b9fe172606d99ae8ffc7c981a545"), looks := false }, kinds := [], alts := [], laidByText := true, laidKinds := [.data, .data, .data, .data], laidTests := true, laidLooks := .later }
def TileClonesCardSaid : Prop := Claim7.holds Tryd.pinned (.plain (OpenSpec.ofChange tileClonesSpec)) tileClonesCard

/-- THE TIED CARD OF 'scrivenerlaw7.TileRoots'. -/
def tileRootsCard : Claim7 := { stood := { row := tileRootsRow, standIns := [], harness := (true, "fb3da3eec6960687342016a3bceaae76f339b9fe172606d99ae8ffc7c981a545"), looks := false }, kinds := [], alts := [], laidByText := true, laidKinds := [.data, .data, .data, .data], laidTests := true, laidLooks := .later }
def TileRootsCardSaid : Prop := Claim7.holds Tryd.pinned (.plain (OpenSpec.ofChange tileRootsSpec)) tileRootsCard

/-- THE TIED CARD OF 'scrivenerlaw11.SingleShapes'. -/
def singleShapesCard : Claim7 := { stood := { row := singleShapesRow, standIns := [], harness := (true, "fb3da3eec6960687342016a3bceaae76f339b9fe172606d99ae8ffc7c981a545"), looks := false }, kinds := [], alts := [], laidByText := true, laidKinds := [.data, .data, .data, .data], laidTests := true, laidLooks := .later }
def SingleShapesCardSaid : Prop := Claim7.holds Tryd.pinned (.plain (OpenSpec.ofChange singleShapesSpec)) singleShapesCard

/-- THE TIED CARD OF 'scrivenerlaw11.SingleTells'. -/
def singleTellsCard : Claim7 := { stood := { row := singleTellsRow, standIns := [], harness := (true, "fb3da3eec6960687342016a3bceaae76f339b9fe172606d99ae8ffc7c981a545"), looks := false }, kinds := [], alts := [], laidByText := true, laidKinds := [.data, .data, .data, .data], laidTests := true, laidLooks := .later }
def SingleTellsCardSaid : Prop := Claim7.holds Tryd.pinned (.plain (OpenSpec.ofChange singleTellsSpec)) singleTellsCard

/-- THE SECOND FORM's CARD OF 'scrivenerlaw7.TileTiles'. -/
def tileTilesUptoCard : Claim7 := { stood := { row := tileTilesUptoRow, standIns := [], harness := (true, "fb3da3eec6960687342016a3bceaae76f339b9fe172606d99ae8ffc7c981a545"), looks := false }, kinds := [], alts := [], laidByText := true, laidKinds := [.data, .data, .data, .data], laidTests := true, laidLooks := .later }
def TileTilesUptoCardSaid : Prop := Claim7.holds Tryd.pinned (.plain (OpenSpec.upto tileTilesSpec)) tileTilesUptoCard

/-- THE SECOND FORM's CARD OF 'scrivenerlaw7.TilePlays'. -/
def tilePlaysUptoCard : Claim7 := { stood := { row := tilePlaysUptoRow, standIns := [], harness := (true, "fb3da3eec6960687342016a3bceaae76f339b9fe172606d99ae8ffc7c981a545"), looks := false }, kinds := [], alts := [], laidByText := true, laidKinds := [.data, .data, .data, .data], laidTests := true, laidLooks := .later }
def TilePlaysUptoCardSaid : Prop := Claim7.holds Tryd.pinned (.plain (OpenSpec.upto tilePlaysSpec)) tilePlaysUptoCard

/-- THE SECOND FORM's CARD OF 'scrivenerlaw7.TileClones'. -/
def tileClonesUptoCard : Claim7 := { stood := { row := tileClonesUptoRow, standIns := [], harness := (true, "fb3da3eec6960687342016a3bceaae76f339b9fe172606d99ae8ffc7c981a545"), looks := false }, kinds := [], alts := [], laidByText := true, laidKinds := [.data, .data, .data, .data], laidTests := true, laidLooks := .later }
def TileClonesUptoCardSaid : Prop := Claim7.holds Tryd.pinned (.plain (OpenSpec.upto tileClonesSpec)) tileClonesUptoCard

/-- THE SECOND FORM's CARD OF 'scrivenerlaw7.TileRoots'. -/
def tileRootsUptoCard : Claim7 := { stood := { row := tileRootsUptoRow, standIns := [], harness := (true, "fb3da3eec6960687342016a3bceaae76f339b9fe172606d99ae8ffc7c981a545"), looks := false }, kinds := [], alts := [], laidByText := true, laidKinds := [.data, .data, .data, .data], laidTests := true, laidLooks := .later }
def TileRootsUptoCardSaid : Prop := Claim7.holds Tryd.pinned (.plain (OpenSpec.upto tileRootsSpec)) tileRootsUptoCard

/-- THE SECOND FORM's CARD OF 'scrivenerlaw11.SingleShapes'. -/
def singleShapesUptoCard : Claim7 := { stood := { row := singleShapesUptoRow, standIns := [], harness := (true, "fb3da3eec6960687342016a3bceaae76f339b9fe172606d99ae8ffc7c981a545"), looks := false }, kinds := [], alts := [], laidByText := true, laidKinds := [.data, .data, .data, .data], laidTests := true, laidLooks := .later }
def SingleShapesUptoCardSaid : Prop := Claim7.holds Tryd.pinned (.plain (OpenSpec.upto singleShapesSpec)) singleShapesUptoCard

/-- THE SECOND FORM's CARD OF 'scrivenerlaw11.SingleTells'. -/
def singleTellsUptoCard : Claim7 := { stood := { row := singleTellsUptoRow, standIns := [], harness := (true, "fb3da3eec6960687342016a3bceaae76f339b9fe172606d99ae8ffc7c981a545"), looks := false }, kinds := [], alts := [], laidByText := true, laidKinds := [.data, .data, .data, .data], laidTests := true, laidLooks := .later }
def SingleTellsUptoCardSaid : Prop := Claim7.holds Tryd.pinned (.plain (OpenSpec.upto singleTellsSpec)) singleTellsUptoCard
end Rows
end Go.Proofs.YtblacbfkaamdgaaDoor
