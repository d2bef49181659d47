/-
  NARROWER THAN 'FOR EVERY INPUT', by the rows' own cells (each row's printed sentence says how): ShapeCovers: laid · ShapeInside: laid · ShapePaths: laid · ShapeBatches: laid · ShapeFolds: laid · ShapeParts: laid · ShapeTrees: laid.
  DERIVED. THE GIVEN ROWS OF THIS SEAT. 7 by the template 'for every input the law returns true; each argument reads behind the call as it read before'; 0 by the template 'total and deterministic' (their statements: YteknpnanmbfhfaaDoorTotals.lean).
  GIVEN WITH THE SEED: the statements are not yours to turn. If you find one false, say at which input.
  Laid BY PROGRAM, IN A SANDBOX (cutbox-rows.mjs): the forced cells as the released guide's own fill.sh prints them over the translation d53fd9019a781397… (all of the seat's roots in one cut). By AI agents, Wed Nov 11 2026. No macro, syntax, notation, axiom, sorry.
-/
import Derived.Test.YteknpnanmbfhfaaDoorChecked
import GoSem.Claim
import GoSem.ClaimJoined
import GoSem.ClaimMapViews
import Derived.JoinedTies
import Derived.KernelRfl
namespace Go.Proofs.YteknpnanmbfhfaaDoor
/- THE CELL 'sum', in the pinned program and in every row, IS THE sha256 OF THE DUMP (.gsa) THAT YteknpnanmbfhfaaDoorProg.lean LOADS. Nothing in Lean hashes anything: it is a label: what it is worth is what the hold of that sum in a sandbox is worth. -/
noncomputable def Tryd.pinned : Pinned := { name := "yteknpnanmbfhfaadoor", sum := "d53fd9019a78139765cc5d6161e6b86d960d2f4e77b5530a0c98b068aeb8908e", checked := Tryd.checked }
namespace Rows
def none {H : Type} : Left H := { results := [], args := [] }

/- WHAT THE LISTED PACKAGE-LEVEL VARIABLES READ AS WHEN THE CALL BEGINS. Each datum BY PROGRAM (the guide's laid-datum.mjs) off the statement by which the dump's own 'gosem.cut.vars' lays the variable. In a bare row this is a premise. The card (YteknpnanmbfhfaaDoorCards.lean) ties it to the program's text. -/
def laid_scrivener_digest_first {H : Type} : DataW H := .agg [.lit (.int .u32 1779033703), .lit (.int .u32 3144134277), .lit (.int .u32 1013904242), .lit (.int .u32 2773480762), .lit (.int .u32 1359893119), .lit (.int .u32 2600822924), .lit (.int .u32 528734635), .lit (.int .u32 1541459225)]
def laid_scrivener_digest_numbers {H : Type} : DataW H := .agg [.lit (.int .u32 1116352408), .lit (.int .u32 1899447441), .lit (.int .u32 3049323471), .lit (.int .u32 3921009573), .lit (.int .u32 961987163), .lit (.int .u32 1508970993), .lit (.int .u32 2453635748), .lit (.int .u32 2870763221), .lit (.int .u32 3624381080), .lit (.int .u32 310598401), .lit (.int .u32 607225278), .lit (.int .u32 1426881987), .lit (.int .u32 1925078388), .lit (.int .u32 2162078206), .lit (.int .u32 2614888103), .lit (.int .u32 3248222580), .lit (.int .u32 3835390401), .lit (.int .u32 4022224774), .lit (.int .u32 264347078), .lit (.int .u32 604807628), .lit (.int .u32 770255983), .lit (.int .u32 1249150122), .lit (.int .u32 1555081692), .lit (.int .u32 1996064986), .lit (.int .u32 2554220882), .lit (.int .u32 2821834349), .lit (.int .u32 2952996808), .lit (.int .u32 3210313671), .lit (.int .u32 3336571891), .lit (.int .u32 3584528711), .lit (.int .u32 113926993), .lit (.int .u32 338241895), .lit (.int .u32 666307205), .lit (.int .u32 773529912), .lit (.int .u32 1294757372), .lit (.int .u32 1396182291), .lit (.int .u32 1695183700), .lit (.int .u32 1986661051), .lit (.int .u32 2177026350), .lit (.int .u32 2456956037), .lit (.int .u32 2730485921), .lit (.int .u32 2820302411), .lit (.int .u32 3259730800), .lit (.int .u32 3345764771), .lit (.int .u32 3516065817), .lit (.int .u32 3600352804), .lit (.int .u32 4094571909), .lit (.int .u32 275423344), .lit (.int .u32 430227734), .lit (.int .u32 506948616), .lit (.int .u32 659060556), .lit (.int .u32 883997877), .lit (.int .u32 958139571), .lit (.int .u32 1322822218), .lit (.int .u32 1537002063), .lit (.int .u32 1747873779), .lit (.int .u32 1955562222), .lit (.int .u32 2024104815), .lit (.int .u32 2227730452), .lit (.int .u32 2361852424), .lit (.int .u32 2428436474), .lit (.int .u32 2756734187), .lit (.int .u32 3204031479), .lit (.int .u32 3329325298)]

/-- 'scrivenerlaw8.ShapeCovers': WHATEVER THE INPUT: true; the input reads as it did. -/
def shapeCoversSpec : ChangeSpec := { name := "shapeCovers", fn := fun _ => fun
  | [d1, d2, d3, d4, d5] => { results := [.lit (.bool true)], args := [d1, d2, d3, d4, d5] }
  | _ => none }
def shapeCoversRow : OpenClaim := { program := "yteknpnanmbfhfaadoor", sum := "d53fd9019a78139765cc5d6161e6b86d960d2f4e77b5530a0c98b068aeb8908e", func := "scrivener/scrivenerlaw8.ShapeCovers", spec := "shapeCovers", unfollowed := true, recurses := true, named := ["scrivener/digest.first", "scrivener/digest.numbers"], apart := false, laid := [("scrivener/digest.first", laid_scrivener_digest_first), ("scrivener/digest.numbers", laid_scrivener_digest_numbers)] }
def ShapeCoversSaid : Prop := shapeCoversRow.holds Tryd.pinned (OpenSpec.ofChange shapeCoversSpec)

/-- ITS FALSE NEIGHBOUR: 'it returns false'. Refute it at one input. -/
def shapeCoversWrong : ChangeSpec := { name := "shapeCovers", fn := fun _ => fun
  | [d1, d2, d3, d4, d5] => { results := [.lit (.bool false)], args := [d1, d2, d3, d4, d5] }
  | _ => none }
def ShapeCoversWrongFalsely : Prop := shapeCoversRow.holds Tryd.pinned (OpenSpec.ofChange shapeCoversWrong)

/-- 'scrivenerlaw8.ShapeInside': WHATEVER THE INPUT: true; the input reads as it did. -/
def shapeInsideSpec : ChangeSpec := { name := "shapeInside", fn := fun _ => fun
  | [d1, d2] => { results := [.lit (.bool true)], args := [d1, d2] }
  | _ => none }
def shapeInsideRow : OpenClaim := { program := "yteknpnanmbfhfaadoor", sum := "d53fd9019a78139765cc5d6161e6b86d960d2f4e77b5530a0c98b068aeb8908e", func := "scrivener/scrivenerlaw8.ShapeInside", spec := "shapeInside", unfollowed := true, recurses := true, named := ["scrivener/digest.first", "scrivener/digest.numbers"], apart := false, laid := [("scrivener/digest.first", laid_scrivener_digest_first), ("scrivener/digest.numbers", laid_scrivener_digest_numbers)] }
def ShapeInsideSaid : Prop := shapeInsideRow.holds Tryd.pinned (OpenSpec.ofChange shapeInsideSpec)

/-- ITS FALSE NEIGHBOUR: 'it returns false'. Refute it at one input. -/
def shapeInsideWrong : ChangeSpec := { name := "shapeInside", fn := fun _ => fun
  | [d1, d2] => { results := [.lit (.bool false)], args := [d1, d2] }
  | _ => none }
def ShapeInsideWrongFalsely : Prop := shapeInsideRow.holds Tryd.pinned (OpenSpec.ofChange shapeInsideWrong)

/-- 'scrivenerlaw8.ShapePaths': WHATEVER THE INPUT: true; the input reads as it did. -/
def shapePathsSpec : ChangeSpec := { name := "shapePaths", fn := fun _ => fun
  | [d1, d2, d3, d4] => { results := [.lit (.bool true)], args := [d1, d2, d3, d4] }
  | _ => none }
def shapePathsRow : OpenClaim := { program := "yteknpnanmbfhfaadoor", sum := "d53fd9019a78139765cc5d6161e6b86d960d2f4e77b5530a0c98b068aeb8908e", func := "scrivener/scrivenerlaw8.ShapePaths", spec := "shapePaths", unfollowed := true, recurses := true, named := ["scrivener/digest.first", "scrivener/digest.numbers"], apart := false, laid := [("scrivener/digest.first", laid_scrivener_digest_first), ("scrivener/digest.numbers", laid_scrivener_digest_numbers)] }
def ShapePathsSaid : Prop := shapePathsRow.holds Tryd.pinned (OpenSpec.ofChange shapePathsSpec)

/-- ITS FALSE NEIGHBOUR: 'it returns false'. Refute it at one input. -/
def shapePathsWrong : ChangeSpec := { name := "shapePaths", fn := fun _ => fun
  | [d1, d2, d3, d4] => { results := [.lit (.bool false)], args := [d1, d2, d3, d4] }
  | _ => none }
def ShapePathsWrongFalsely : Prop := shapePathsRow.holds Tryd.pinned (OpenSpec.ofChange shapePathsWrong)

/-- 'scrivenerlaw8.ShapeBatches': WHATEVER THE INPUT: true; the input reads as it did. -/
def shapeBatchesSpec : ChangeSpec := { name := "shapeBatches", fn := fun _ => fun
  | [d1, d2, d3, d4] => { results := [.lit (.bool true)], args := [d1, d2, d3, d4] }
  | _ => none }
def shapeBatchesRow : OpenClaim := { program := "yteknpnanmbfhfaadoor", sum := "d53fd9019a78139765cc5d6161e6b86d960d2f4e77b5530a0c98b068aeb8908e", func := "scrivener/scrivenerlaw8.ShapeBatches", spec := "shapeBatches", unfollowed := true, recurses := true, named := ["scrivener/digest.first", "scrivener/digest.numbers"], apart := false, laid := [("scrivener/digest.first", laid_scrivener_digest_first), ("scrivener/digest.numbers", laid_scrivener_digest_numbers)] }
def ShapeBatchesSaid : Prop := shapeBatchesRow.holds Tryd.pinned (OpenSpec.ofChange shapeBatchesSpec)

/-- ITS FALSE NEIGHBOUR: 'it returns false'. Refute it at one input. -/
def shapeBatchesWrong : ChangeSpec := { name := "shapeBatches", fn := fun _ => fun
  | [d1, d2, d3, d4] => { results := [.lit (.bool false)], args := [d1, d2, d3, d4] }
  | _ => none }
def ShapeBatchesWrongFalsely : Prop := shapeBatchesRow.holds Tryd.pinned (OpenSpec.ofChange shapeBatchesWrong)

/-- 'scrivenerlaw8.ShapeFolds': WHATEVER THE INPUT: true; the input reads as it did. -/
def shapeFoldsSpec : ChangeSpec := { name := "shapeFolds", fn := fun _ => fun
  | [d1, d2, d3, d4, d5, d6, d7] => { results := [.lit (.bool true)], args := [d1, d2, d3, d4, d5, d6, d7] }
  | _ => none }
def shapeFoldsRow : OpenClaim := { program := "yteknpnanmbfhfaadoor", sum := "d53fd9019a78139765cc5d6161e6b86d960d2f4e77b5530a0c98b068aeb8908e", func := "scrivener/scrivenerlaw8.ShapeFolds", spec := "shapeFolds", unfollowed := true, recurses := true, named := ["scrivener/digest.first", "scrivener/digest.numbers"], apart := false, laid := [("scrivener/digest.first", laid_scrivener_digest_first), ("scrivener/digest.numbers", laid_scrivener_digest_numbers)] }
def ShapeFoldsSaid : Prop := shapeFoldsRow.holds Tryd.pinned (OpenSpec.ofChange shapeFoldsSpec)

/-- ITS FALSE NEIGHBOUR: 'it returns false'. Refute it at one input. -/
def shapeFoldsWrong : ChangeSpec := { name := "shapeFolds", fn := fun _ => fun
  | [d1, d2, d3, d4, d5, d6, d7] => { results := [.lit (.bool false)], args := [d1, d2, d3, d4, d5, d6, d7] }
  | _ => none }
def ShapeFoldsWrongFalsely : Prop := shapeFoldsRow.holds Tryd.pinned (OpenSpec.ofChange shapeFoldsWrong)

/-- 'scrivenerlaw8.ShapeParts': WHATEVER THE INPUT: true; the input reads as it did. -/
def shapePartsSpec : ChangeSpec := { name := "shapeParts", fn := fun _ => fun
  | [d1, d2, d3, d4, d5] => { results := [.lit (.bool true)], args := [d1, d2, d3, d4, d5] }
  | _ => none }
def shapePartsRow : OpenClaim := { program := "yteknpnanmbfhfaadoor", sum := "d53fd9019a78139765cc5d6161e6b86d960d2f4e77b5530a0c98b068aeb8908e", func := "scrivener/scrivenerlaw8.ShapeParts", spec := "shapeParts", unfollowed := true, recurses := true, named := ["scrivener/digest.first", "scrivener/digest.numbers"], apart := false, laid := [("scrivener/digest.first", laid_scrivener_digest_first), ("scrivener/digest.numbers", laid_scrivener_digest_numbers)] }
def ShapePartsSaid : Prop := shapePartsRow.holds Tryd.pinned (OpenSpec.ofChange shapePartsSpec)

/-- ITS FALSE NEIGHBOUR: 'it returns false'. Refute it at one input. -/
def shapePartsWrong : ChangeSpec := { name := "shapeParts", fn := fun _ => fun
  | [d1, d2, d3, d4, d5] => { results := [.lit (.bool false)], args := [d1, d2, d3, d4, d5] }
  | _ => none }
def ShapePartsWrongFalsely : Prop := shapePartsRow.holds Tryd.pinned (OpenSpec.ofChange shapePartsWrong)

/-- 'scrivenerlaw8.ShapeTrees': WHATEVER THE INPUT: true; the input reads as it did. -/
def shapeTreesSpec : ChangeSpec := { name := "shapeTrees", fn := fun _ => fun
  | [d1, d2, d3, d4] => { results := [.lit (.bool true)], args := [d1, d2, d3, d4] }
  | _ => none }
def shapeTreesRow : OpenClaim := { program := "yteknpnanmbfhfaadoor", sum := "d53fd9019a78139765cc5d6161e6b86d960d2f4e77b5530a0c98b068aeb8908e", func := "scrivener/scrivenerlaw8.ShapeTrees", spec := "shapeTrees", unfollowed := true, recurses := true, named := ["scrivener/digest.first", "scrivener/digest.numbers"], apart := false, laid := [("scrivener/digest.first", laid_scrivener_digest_first), ("scrivener/digest.numbers", laid_scrivener_digest_numbers)] }
def ShapeTreesSaid : Prop := shapeTreesRow.holds Tryd.pinned (OpenSpec.ofChange shapeTreesSpec)

/-- ITS FALSE NEIGHBOUR: 'it returns false'. Refute it at one input. -/
def shapeTreesWrong : ChangeSpec := { name := "shapeTrees", fn := fun _ => fun
  | [d1, d2, d3, d4] => { results := [.lit (.bool false)], args := [d1, d2, d3, d4] }
  | _ => none }
def ShapeTreesWrongFalsely : Prop := shapeTreesRow.holds Tryd.pinned (OpenSpec.ofChange shapeTreesWrong)

/- THE SECOND FORM. 'bulk': how many values and letters a reading holds, each counted each time it is reached (what is shared counts as often as it is met; a slice's spare places count too). A statement '..UptoSaid' is the law's where the arguments, and the package variables that the reading takes, are together of bulk at most 1048576: NARROWER than '..Said'. Prove '..Said' where nothing that the law and all that it calls make is longer than what came in: it says more and counts as full. Else prove '..UptoSaid'. A law counts once. -/
mutual
def uptoBulk {H : Type} : DataW H → Nat
  | .lit (.string bytes) => bytes.length + 1
  | .lit _ => 1
  | .nil => 1
  | .ptr d => uptoBulk d + 1
  | .slice elems spare => uptoBulkAll elems + uptoBulkAll spare + 1
  | .agg parts => uptoBulkAll parts + 1
  | .iface _ d => uptoBulk d + 1
  | .map entries => uptoBulkEntries entries + 1
  | .held _ => 1
def uptoBulkAll {H : Type} : List (DataW H) → Nat
  | [] => 0
  | d :: r => uptoBulk d + uptoBulkAll r
def uptoBulkEntries {H : Type} : List (Lit × DataW H) → Nat
  | [] => 0
  | x :: r => uptoBulkEntry x + uptoBulkEntries r
def uptoBulkEntry {H : Type} : Lit × DataW H → Nat
  | (.string bytes, d) => bytes.length + uptoBulk d + 1
  | (_, d) => uptoBulk d + 1
 end
def uptoSmall : (H : Type) → List (DataW H) → Bool := fun _ ds => decide (uptoBulkAll ds ≤ 1048576)
def OpenSpec.upto (s : _root_.Go.ChangeSpec) : _root_.Go.OpenSpec := { _root_.Go.OpenSpec.ofChange s with cond := some uptoSmall }

/-- 'scrivenerlaw8.ShapeCovers', WHERE WHAT IT READS IS OF BULK AT MOST 1048576: true; the input reads as it did. -/
def shapeCoversUptoRow : OpenClaim := { program := "yteknpnanmbfhfaadoor", sum := "d53fd9019a78139765cc5d6161e6b86d960d2f4e77b5530a0c98b068aeb8908e", func := "scrivener/scrivenerlaw8.ShapeCovers", spec := "shapeCovers", unfollowed := true, recurses := true, named := ["scrivener/digest.first", "scrivener/digest.numbers"], apart := false, laid := [("scrivener/digest.first", laid_scrivener_digest_first), ("scrivener/digest.numbers", laid_scrivener_digest_numbers)], narrowed := true }
def ShapeCoversUptoSaid : Prop := shapeCoversUptoRow.holds Tryd.pinned (OpenSpec.upto shapeCoversSpec)

/-- 'scrivenerlaw8.ShapeInside', WHERE WHAT IT READS IS OF BULK AT MOST 1048576: true; the input reads as it did. -/
def shapeInsideUptoRow : OpenClaim := { program := "yteknpnanmbfhfaadoor", sum := "d53fd9019a78139765cc5d6161e6b86d960d2f4e77b5530a0c98b068aeb8908e", func := "scrivener/scrivenerlaw8.ShapeInside", spec := "shapeInside", unfollowed := true, recurses := true, named := ["scrivener/digest.first", "scrivener/digest.numbers"], apart := false, laid := [("scrivener/digest.first", laid_scrivener_digest_first), ("scrivener/digest.numbers", laid_scrivener_digest_numbers)], narrowed := true }
def ShapeInsideUptoSaid : Prop := shapeInsideUptoRow.holds Tryd.pinned (OpenSpec.upto shapeInsideSpec)

/-- 'scrivenerlaw8.ShapePaths', WHERE WHAT IT READS IS OF BULK AT MOST 1048576: true; the input reads as it did. -/
def shapePathsUptoRow : OpenClaim := { program := "yteknpnanmbfhfaadoor", sum := "d53fd9019a78139765cc5d6161e6b86d960d2f4e77b5530a0c98b068aeb8908e", func := "scrivener/scrivenerlaw8.ShapePaths", spec := "shapePaths", unfollowed := true, recurses := true, named := ["scrivener/digest.first", "scrivener/digest.numbers"], apart := false, laid := [("scrivener/digest.first", laid_scrivener_digest_first), ("scrivener/digest.numbers", laid_scrivener_digest_numbers)], narrowed := true }
def ShapePathsUptoSaid : Prop := shapePathsUptoRow.holds Tryd.pinned (OpenSpec.upto shapePathsSpec)

/-- 'scrivenerlaw8.ShapeBatches', WHERE WHAT IT READS IS OF BULK AT MOST 1048576: true; the input reads as it did. -/
def shapeBatchesUptoRow : OpenClaim := { program := "yteknpnanmbfhfaadoor", sum := "d53fd9019a78139765cc5d6161e6b86d960d2f4e77b5530a0c98b068aeb8908e", func := "scrivener/scrivenerlaw8.ShapeBatches", spec := "shapeBatches", unfollowed := true, recurses := true, named := ["scrivener/digest.first", "scrivener/digest.numbers"], apart := false, laid := [("scrivener/digest.first", laid_scrivener_digest_first), ("scrivener/digest.numbers", laid_scrivener_digest_numbers)], narrowed := true }
def ShapeBatchesUptoSaid : Prop := shapeBatchesUptoRow.holds Tryd.pinned (OpenSpec.upto shapeBatchesSpec)

/-- 'scrivenerlaw8.ShapeFolds', WHERE WHAT IT READS IS OF BULK AT MOST 1048576: true; the input reads as it did. -/
def shapeFoldsUptoRow : OpenClaim := { program := "yteknpnanmbfhfaadoor", sum := "d53fd9019a78139765cc5d6161e6b86d960d2f4e77b5530a0c98b068aeb8908e", func := "scrivener/scrivenerlaw8.ShapeFolds", spec := "shapeFolds", unfollowed := true, recurses := true, named := ["scrivener/digest.first", "scrivener/digest.numbers"], apart := false, laid := [("scrivener/digest.first", laid_scrivener_digest_first), ("scrivener/digest.numbers", laid_scrivener_digest_numbers)], narrowed := true }
def ShapeFoldsUptoSaid : Prop := shapeFoldsUptoRow.holds Tryd.pinned (OpenSpec.upto shapeFoldsSpec)

/-- 'scrivenerlaw8.ShapeParts', WHERE WHAT IT READS IS OF BULK AT MOST 1048576: true; the input reads as it did. -/
def shapePartsUptoRow : OpenClaim := { program := "yteknpnanmbfhfaadoor", sum := "d53fd9019a78139765cc5d6161e6b86d960d2f4e77b5530a0c98b068aeb8908e", func := "scrivener/scrivenerlaw8.ShapeParts", spec := "shapeParts", unfollowed := true, recurses := true, named := ["scrivener/digest.first", "scrivener/digest.numbers"], apart := false, laid := [("scrivener/digest.first", laid_scrivener_digest_first), ("scrivener/digest.numbers", laid_scrivener_digest_numbers)], narrowed := true }
def ShapePartsUptoSaid : Prop := shapePartsUptoRow.holds Tryd.pinned (OpenSpec.upto shapePartsSpec)

/-- 'scrivenerlaw8.ShapeTrees', WHERE WHAT IT READS IS OF BULK AT MOST 1048576: true; the input reads as it did. -/
def shapeTreesUptoRow : OpenClaim := { program := "yteknpnanmbfhfaadoor", sum := "d53fd9019a78139765cc5d6161e6b86d960d2f4e77b5530a0c98b068aeb8908e", func := "scrivener/scrivenerlaw8.ShapeTrees", spec := "shapeTrees", unfollowed := true, recurses := true, named := ["scrivener/digest.first", "scrivener/digest.numbers"], apart := false, laid := [("scrivener/digest.first", laid_scrivener_digest_first), ("scrivener/digest.numbers", laid_scrivener_digest_numbers)], narrowed := true }
def ShapeTreesUptoSaid : Prop := shapeTreesUptoRow.holds Tryd.pinned (OpenSpec.upto shapeTreesSpec)

end Rows
end Go.Proofs.YteknpnanmbfhfaaDoor
