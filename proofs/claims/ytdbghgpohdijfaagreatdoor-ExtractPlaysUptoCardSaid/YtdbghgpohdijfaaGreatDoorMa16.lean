/- A hash put: the next node of its level. -/
import Derived.Test.YtdbghgpohdijfaaGreatDoorMa15
import Derived.Deep.RegionHeld3
namespace Go.Proofs.YtdbghgpohdijfaaGreatDoor
open Go.RowKit Go.Scr Go.ChangeMaps Go.MapKept
set_option linter.unusedVariables false
theorem held_ty {w : World} {T n g : Nat} {v : Value} {xs : List Value} (h : Held w T 1 v n xs) (hg : v.ownBlock = some g) : ∃ cur, w.heap[g]? = some (.cells cur T (0, 0)) := by
  rcases h.2 with ⟨h0, _⟩ | ⟨g2, cap, cur, rfl, hb, _⟩
  · rw [h0] at hg; cases hg
  · injection hg with hg
    exact ⟨cur, by rw [← hg]; exact hb⟩
theorem info_strT : (Tryz.prog.info? 9).map (fun i => (i.zero, i.size, i.bytes)) = some (some (.string ⟨#[]⟩), 1, 16) := by kernel_rfl
theorem ChT.below {col : Nat → Option (Nat × Nat × Nat)} {w a b : World} (h : ChT col w a) (k : Below a.heap.size a b) : ChT col w b := h.trans (ChT.of_below (col := col) k) fun _ _ => rfl
end Go.Proofs.YtdbghgpohdijfaaGreatDoor
