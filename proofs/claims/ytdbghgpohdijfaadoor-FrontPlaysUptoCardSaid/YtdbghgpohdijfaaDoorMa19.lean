/- A hash put: the next node of its level. -/
import Derived.Test.YtdbghgpohdijfaaDoorMa18
import Derived.Deep.RegionHeld3
namespace Go.Proofs.YtdbghgpohdijfaaDoor
open Go.RowKit Go.Scr Go.ChangeMaps Go.MapKept
set_option linter.unusedVariables false
theorem info_strT : (Tryd.prog.info? 9).map (fun i => (i.zero, i.size, i.bytes)) = some (some (.string ⟨#[]⟩), 1, 16) := by kernel_rfl
theorem ChT.below {col : Nat → Option (Nat × Nat × Nat)} {w a b : World} (h : ChT col w a) (k : Below a.heap.size a b) : ChT col w b := h.trans (ChT.of_below (col := col) k) fun _ _ => rfl
end Go.Proofs.YtdbghgpohdijfaaDoor
