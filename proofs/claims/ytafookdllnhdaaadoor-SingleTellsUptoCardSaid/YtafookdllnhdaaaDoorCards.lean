/-
  DERIVED. GIVEN WITH THE SEED: THE CARDS: each row of YtafookdllnhdaaaDoorRows.lean that lists a variable, with what it lists TIED to the program's text (the seventh form; the later family's looks); each row that meets fmt, with fmt's text TOLD by the authors' own Lean function (tested against real Go, not proved from fmt's source: count such statements apart). THE CARD IS WHAT COUNTS. Prove the row's statement (the work); the ties are given (YtafookdllnhdaaaDoorTie.lean); close each card by the builder's one call (the guide's Derived/Test/ToyasCard.lean, 'card_holds'). Laid BY PROGRAM, IN A SANDBOX (cutbox-door.mjs). By AI agents, Wed Nov 11 2026. No macro, syntax, notation, axiom, sorry.
-/
import Derived.Test.YtafookdllnhdaaaDoorRows
import GoSem.ClaimSeven
namespace Go.Proofs.YtafookdllnhdaaaDoor
namespace Rows

/-- THE TIED CARD OF 'scrivenerlaw7.TilePlays'. -/
def tilePlaysCard : Claim7 := { stood := { row := tilePlaysRow, standIns := [], harness := (true, "c1260c4309f3857ae79a28bc785dbd9c20bfb4666eae48951f1375ae5b16b05b"), looks := false }, kinds := [], alts := [], laidByText := true, laidKinds := [.data, .data, .data, .data], laidTests := true, laidLooks := .later }
def TilePlaysCardSaid : Prop := Claim7.holds Tryd.pinned (.plain (OpenSpec.ofChange tilePlaysSpec)) tilePlaysCard

/-- THE TIED CARD OF 'scrivenerlaw11.SingleTells'. -/
def singleTellsCard : Claim7 := { stood := { row := singleTellsRow, standIns := [], harness := (true, "c1260c4309f3857ae79a28bc785dbd9c20bfb4666eae48951f1375ae5b16b05b"), looks := false }, kinds := [], alts := [], laidByText := true, laidKinds := [.data, .data, .data, .data], laidTests := true, laidLooks := .later }
def SingleTellsCardSaid : Prop := Claim7.holds Tryd.pinned (.plain (OpenSpec.ofChange singleTellsSpec)) singleTellsCard

/-- THE SECOND FORM's CARD OF 'scrivenerlaw7.TilePlays'. -/
def tilePlaysUptoCard : Claim7 := { stood := { row := tilePlaysUptoRow, standIns := [], harness := (true, "c1260c4309f3857ae79a28bc785dbd9c20bfb4666eae48951f1375ae5b16b05b"), looks := false }, kinds := [], alts := [], laidByText := true, laidKinds := [.data, .data, .data, .data], laidTests := true, laidLooks := .later }
def TilePlaysUptoCardSaid : Prop := Claim7.holds Tryd.pinned (.plain (OpenSpec.upto tilePlaysSpec)) tilePlaysUptoCard

/-- THE SECOND FORM's CARD OF 'scrivenerlaw11.SingleTells'. -/
def singleTellsUptoCard : Claim7 := { stood := { row := singleTellsUptoRow, standIns := [], harness := (true, "c1260c4309f3857ae79a28bc785dbd9c20bfb4666eae48951f1375ae5b16b05b"), looks := false }, kinds := [], alts := [], laidByText := true, laidKinds := [.data, .data, .data, .data], laidTests := true, laidLooks := .later }
def SingleTellsUptoCardSaid : Prop := Claim7.holds Tryd.pinned (.plain (OpenSpec.upto singleTellsSpec)) singleTellsUptoCard
end Rows
end Go.Proofs.YtafookdllnhdaaaDoor
