/-
  DERIVED. GIVEN WITH THE SEED: THE CARDS: each row of YtmlekeegmdpjkaaDoorRows.lean that lists a variable, with what it lists TIED to the program's text (the seventh form; the later family's looks); each row that meets fmt, with fmt's text TOLD by the authors' own Lean function (tested against real Go, not proved from fmt's source: count such statements apart). THE CARD IS WHAT COUNTS. Prove the row's statement (the work); the ties are given (YtmlekeegmdpjkaaDoorTie.lean); close each card by the builder's one call (the guide's Derived/Test/ToyasCard.lean, 'card_holds'). Laid BY PROGRAM, IN A SANDBOX (cutbox-door.mjs). By AI agents, Wed Nov 11 2026. No macro, syntax, notation, axiom, sorry.
-/
import Derived.Test.YtmlekeegmdpjkaaDoorRows
import GoSem.ClaimSeven
namespace Go.Proofs.YtmlekeegmdpjkaaDoor
namespace Rows

/-- THE TIED CARD OF 'scrivenerlaw4.VerifyLens'. -/
def verifyLensCard : Claim7 := { stood := { row := verifyLensRow, standIns := [], harness := (true, "ef0fe41ee587bc0ae65167de7f1cd22b00e8f862058e524c5964fdaf20db12af"), looks := false }, kinds := [], alts := [], laidByText := true, laidKinds := [.data, .data], laidTests := true, laidLooks := .later }
def VerifyLensCardSaid : Prop := Claim7.holds Tryd.pinned (.plain (OpenSpec.ofChange verifyLensSpec)) verifyLensCard

/-- THE TIED CARD OF 'scrivenerlaw4.VerifyPaths'. -/
def verifyPathsCard : Claim7 := { stood := { row := verifyPathsRow, standIns := [], harness := (true, "ef0fe41ee587bc0ae65167de7f1cd22b00e8f862058e524c5964fdaf20db12af"), looks := false }, kinds := [], alts := [], laidByText := true, laidKinds := [.data, .data], laidTests := true, laidLooks := .later }
def VerifyPathsCardSaid : Prop := Claim7.holds Tryd.pinned (.plain (OpenSpec.ofChange verifyPathsSpec)) verifyPathsCard

/-- THE TIED CARD OF 'scrivenerlaw4.VerifyProofs'. -/
def verifyProofsCard : Claim7 := { stood := { row := verifyProofsRow, standIns := [], harness := (true, "ef0fe41ee587bc0ae65167de7f1cd22b00e8f862058e524c5964fdaf20db12af"), looks := false }, kinds := [], alts := [], laidByText := true, laidKinds := [.data, .data], laidTests := true, laidLooks := .later }
def VerifyProofsCardSaid : Prop := Claim7.holds Tryd.pinned (.plain (OpenSpec.ofChange verifyProofsSpec)) verifyProofsCard

/-- THE TIED CARD OF 'scrivenerlaw4.VerifyOne'. -/
def verifyOneCard : Claim7 := { stood := { row := verifyOneRow, standIns := [], harness := (true, "ef0fe41ee587bc0ae65167de7f1cd22b00e8f862058e524c5964fdaf20db12af"), looks := false }, kinds := [], alts := [], laidByText := true, laidKinds := [.data, .data], laidTests := true, laidLooks := .later }
def VerifyOneCardSaid : Prop := Claim7.holds Tryd.pinned (.plain (OpenSpec.ofChange verifyOneSpec)) verifyOneCard

/-- THE TIED CARD OF 'scrivenerlaw4.VerifyTrees'. -/
def verifyTreesCard : Claim7 := { stood := { row := verifyTreesRow, standIns := [], harness := (true, "ef0fe41ee587bc0ae65167de7f1cd22b00e8f862058e524c5964fdaf20db12af"), looks := false }, kinds := [], alts := [], laidByText := true, laidKinds := [.data, .data], laidTests := true, laidLooks := .later }
def VerifyTreesCardSaid : Prop := Claim7.holds Tryd.pinned (.plain (OpenSpec.ofChange verifyTreesSpec)) verifyTreesCard

/-- THE TIED CARD OF 'scrivenerlaw3.RecursionSplits'. -/
def recursionSplitsCard : Claim7 := { stood := { row := recursionSplitsRow, standIns := [], harness := (true, "ef0fe41ee587bc0ae65167de7f1cd22b00e8f862058e524c5964fdaf20db12af"), looks := false }, kinds := [], alts := [], laidByText := true, laidKinds := [.data, .data], laidTests := true, laidLooks := .later }
def RecursionSplitsCardSaid : Prop := Claim7.holds Tryd.pinned (.plain (OpenSpec.ofChange recursionSplitsSpec)) recursionSplitsCard

/-- THE TIED CARD OF 'scrivenerlaw3.RecursionRoots'. -/
def recursionRootsCard : Claim7 := { stood := { row := recursionRootsRow, standIns := [], harness := (true, "ef0fe41ee587bc0ae65167de7f1cd22b00e8f862058e524c5964fdaf20db12af"), looks := false }, kinds := [], alts := [], laidByText := true, laidKinds := [.data, .data], laidTests := true, laidLooks := .later }
def RecursionRootsCardSaid : Prop := Claim7.holds Tryd.pinned (.plain (OpenSpec.ofChange recursionRootsSpec)) recursionRootsCard

/-- THE TIED CARD OF 'scrivenerlaw3.RecursionTells'. -/
def recursionTellsCard : Claim7 := { stood := { row := recursionTellsRow, standIns := [], harness := (true, "ef0fe41ee587bc0ae65167de7f1cd22b00e8f862058e524c5964fdaf20db12af"), looks := false }, kinds := [], alts := [], laidByText := true, laidKinds := [.data, .data], laidTests := true, laidLooks := .later }
def RecursionTellsCardSaid : Prop := Claim7.holds Tryd.pinned (.plain (OpenSpec.ofChange recursionTellsSpec)) recursionTellsCard

/-- THE TIED CARD OF 'scrivenerlaw3.RecursionGrows'. -/
def recursionGrowsCard : Claim7 := { stood := { row := recursionGrowsRow, standIns := [], harness := (true, "ef0fe41ee587bc0ae65167de7f1cd22b00e8f862058e524c5964fdaf20db12af"), looks := false }, kinds := [], alts := [], laidByText := true, laidKinds := [.data, .data], laidTests := true, laidLooks := .later }
def RecursionGrowsCardSaid : Prop := Claim7.holds Tryd.pinned (.plain (OpenSpec.ofChange recursionGrowsSpec)) recursionGrowsCard

/-- THE TIED CARD OF 'scrivenerlaw3.RecursionPaths'. -/
def recursionPathsCard : Claim7 := { stood := { row := recursionPathsRow, standIns := [], harness := (true, "ef0fe41ee587bc0ae65167de7f1cd22b00e8f862058e524c5964fdaf20db12af"), looks := false }, kinds := [], alts := [], laidByText := true, laidKinds := [.data, .data], laidTests := true, laidLooks := .later }
def RecursionPathsCardSaid : Prop := Claim7.holds Tryd.pinned (.plain (OpenSpec.ofChange recursionPathsSpec)) recursionPathsCard

/-- THE TIED CARD OF 'scrivenerlaw3.RecursionManys'. -/
def recursionManysCard : Claim7 := { stood := { row := recursionManysRow, standIns := [], harness := (true, "ef0fe41ee587bc0ae65167de7f1cd22b00e8f862058e524c5964fdaf20db12af"), looks := false }, kinds := [], alts := [], laidByText := true, laidKinds := [.data, .data], laidTests := true, laidLooks := .later }
def RecursionManysCardSaid : Prop := Claim7.holds Tryd.pinned (.plain (OpenSpec.ofChange recursionManysSpec)) recursionManysCard

/-- THE SECOND FORM's CARD OF 'scrivenerlaw4.VerifyLens'. -/
def verifyLensUptoCard : Claim7 := { stood := { row := verifyLensUptoRow, standIns := [], harness := (true, "ef0fe41ee587bc0ae65167de7f1cd22b00e8f862058e524c5964fdaf20db12af"), looks := false }, kinds := [], alts := [], laidByText := true, laidKinds := [.data, .data], laidTests := true, laidLooks := .later }
def VerifyLensUptoCardSaid : Prop := Claim7.holds Tryd.pinned (.plain (OpenSpec.upto verifyLensSpec)) verifyLensUptoCard

/-- THE SECOND FORM's CARD OF 'scrivenerlaw4.VerifyPaths'. -/
def verifyPathsUptoCard : Claim7 := { stood := { row := verifyPathsUptoRow, standIns := [], harness := (true, "ef0fe41ee587bc0ae65167de7f1cd22b00e8f862058e524c5964fdaf20db12af"), looks := false }, kinds := [], alts := [], laidByText := true, laidKinds := [.data, .data], laidTests := true, laidLooks := .later }
def VerifyPathsUptoCardSaid : Prop := Claim7.holds Tryd.pinned (.plain (OpenSpec.upto verifyPathsSpec)) verifyPathsUptoCard

/-- THE SECOND FORM's CARD OF 'scrivenerlaw4.VerifyProofs'. -/
def verifyProofsUptoCard : Claim7 := { stood := { row := verifyProofsUptoRow, standIns := [], harness := (true, "ef0fe41ee587bc0ae65167de7f1cd22b00e8f862058e524c5964fdaf20db12af"), looks := false }, kinds := [], alts := [], laidByText := true, laidKinds := [.data, .data], laidTests := true, laidLooks := .later }
def VerifyProofsUptoCardSaid : Prop := Claim7.holds Tryd.pinned (.plain (OpenSpec.upto verifyProofsSpec)) verifyProofsUptoCard

/-- THE SECOND FORM's CARD OF 'scrivenerlaw4.VerifyOne'. -/
def verifyOneUptoCard : Claim7 := { stood := { row := verifyOneUptoRow, standIns := [], harness := (true, "ef0fe41ee587bc0ae65167de7f1cd22b00e8f862058e524c5964fdaf20db12af"), looks := false }, kinds := [], alts := [], laidByText := true, laidKinds := [.data, .data], laidTests := true, laidLooks := .later }
def VerifyOneUptoCardSaid : Prop := Claim7.holds Tryd.pinned (.plain (OpenSpec.upto verifyOneSpec)) verifyOneUptoCard

/-- THE SECOND FORM's CARD OF 'scrivenerlaw4.VerifyTrees'. -/
def verifyTreesUptoCard : Claim7 := { stood := { row := verifyTreesUptoRow, standIns := [], harness := (true, "ef0fe41ee587bc0ae65167de7f1cd22b00e8f862058e524c5964fdaf20db12af"), looks := false }, kinds := [], alts := [], laidByText := true, laidKinds := [.data, .data], laidTests := true, laidLooks := .later }
def VerifyTreesUptoCardSaid : Prop := Claim7.holds Tryd.pinned (.plain (OpenSpec.upto verifyTreesSpec)) verifyTreesUptoCard

/-- THE SECOND FORM's CARD OF 'scrivenerlaw3.RecursionSplits'. -/
def recursionSplitsUptoCard : Claim7 := { stood := { row := recursionSplitsUptoRow, standIns := [], harness := (true, "ef0fe41ee587bc0ae65167de7f1cd22b00e8f862058e524c5964fdaf20db12af"), looks := false }, kinds := [], alts := [], laidByText := true, laidKinds := [.data, .data], laidTests := true, laidLooks := .later }
def RecursionSplitsUptoCardSaid : Prop := Claim7.holds Tryd.pinned (.plain (OpenSpec.upto recursionSplitsSpec)) recursionSplitsUptoCard

/-- THE SECOND FORM's CARD OF 'scrivenerlaw3.RecursionRoots'. -/
def recursionRootsUptoCard : Claim7 := { stood := { row := recursionRootsUptoRow, standIns := [], harness := (true, "ef0fe41ee587bc0ae65167de7f1cd22b00e8f862058e524c5964fdaf20db12af"), looks := false }, kinds := [], alts := [], laidByText := true, laidKinds := [.data, .data], laidTests := true, laidLooks := .later }
def RecursionRootsUptoCardSaid : Prop := Claim7.holds Tryd.pinned (.plain (OpenSpec.upto recursionRootsSpec)) recursionRootsUptoCard

/-- THE SECOND FORM's CARD OF 'scrivenerlaw3.RecursionTells'. -/
def recursionTellsUptoCard : Claim7 := { stood := { row := recursionTellsUptoRow, standIns := [], harness := (true, "ef0fe41ee587bc0ae65167de7f1cd22b00e8f862058e524c5964fdaf20db12af"), looks := false }, kinds := [], alts := [], laidByText := true, laidKinds := [.data, .data], laidTests := true, laidLooks := .later }
def RecursionTellsUptoCardSaid : Prop := Claim7.holds Tryd.pinned (.plain (OpenSpec.upto recursionTellsSpec)) recursionTellsUptoCard

/-- THE SECOND FORM's CARD OF 'scrivenerlaw3.RecursionGrows'. -/
def recursionGrowsUptoCard : Claim7 := { stood := { row := recursionGrowsUptoRow, standIns := [], harness := (true, "ef0fe41ee587bc0ae65167de7f1cd22b00e8f862058e524c5964fdaf20db12af"), looks := false }, kinds := [], alts := [], laidByText := true, laidKinds := [.data, .data], laidTests := true, laidLooks := .later }
def RecursionGrowsUptoCardSaid : Prop := Claim7.holds Tryd.pinned (.plain (OpenSpec.upto recursionGrowsSpec)) recursionGrowsUptoCard

/-- THE SECOND FORM's CARD OF 'scrivenerlaw3.RecursionPaths'. -/
def recursionPathsUptoCard : Claim7 := { stood := { row := recursionPathsUptoRow, standIns := [], harness := (true, "ef0fe41ee587bc0ae65167de7f1cd22b00e8f862058e524c5964fdaf20db12af"), looks := false }, kinds := [], alts := [], laidByText := true, laidKinds := [.data, .data], laidTests := true, laidLooks := .later }
def RecursionPathsUptoCardSaid : Prop := Claim7.holds Tryd.pinned (.plain (OpenSpec.upto recursionPathsSpec)) recursionPathsUptoCard

/-- THE SECOND FORM's CARD OF 'scrivenerlaw3.RecursionManys'. -/
def recursionManysUptoCard : Claim7 := { stood := { row := recursionManysUptoRow, standIns := [], harness := (true, "ef0fe41ee587bc0ae65167de7f1cd22b00e8f862058e524c5964fdaf20db12af"), looks := false }, kinds := [], alts := [], laidByText := true, laidKinds := [.data, .data], laidTests := true, laidLooks := .later }
def RecursionManysUptoCardSaid : Prop := Claim7.holds Tryd.pinned (.plain (OpenSpec.upto recursionManysSpec)) recursionManysUptoCard
end Rows
end Go.Proofs.YtmlekeegmdpjkaaDoor
