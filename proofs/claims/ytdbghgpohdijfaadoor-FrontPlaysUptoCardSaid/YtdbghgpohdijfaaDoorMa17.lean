/- Tiles in plain Lean: which node lies where; rows of a tile; what a node more does. -/
import Derived.Test.YtdbghgpohdijfaaDoorMa4
import Derived.Laws.CopyOwn
import Derived.BigQuiet
import Derived.WalkMore
import Derived.Maps.Own
import Derived.ChangeMaps5
import Derived.Test.YtdbghgpohdijfaaDoorMa2
namespace Go.Scr
set_option linter.unusedVariables false
theorem two_pos (a : Nat) : 0 < 2 ^ a := Nat.pos_of_ne_zero (by simp)
end Go.Scr
/- Maps whose keys are places of tiles: looked up, stored into. -/
namespace Go.Proofs.YtdbghgpohdijfaaDoor
open Go.RowKit Go.Scr Go.ChangeMaps Go.MapKept
set_option linter.unusedVariables false
end Go.Proofs.YtdbghgpohdijfaaDoor
/- A tree of tiles in memory. -/
namespace Go.Proofs.YtdbghgpohdijfaaDoor
open Go.RowKit Go.Scr Go.ChangeMaps Go.MapKept
set_option linter.unusedVariables false
/-- what has turned lies in the tree's own blocks, or is new -/
structure ChT (col : Nat → Option (Nat × Nat × Nat)) (w w' : World) : Prop where
  os : w'.os = w.os
  tape : w'.tape = w.tape
  output : w'.output = w.output
  size : w.heap.size ≤ w'.heap.size
  block : ∀ g, g < w.heap.size → col g = none → w'.heap[g]? = w.heap[g]?
theorem ChT.refl (col : Nat → Option (Nat × Nat × Nat)) (w : World) : ChT col w w := ⟨rfl, rfl, rfl, Nat.le_refl _, fun _ _ _ => rfl⟩
theorem ChT.trans {col col' : Nat → Option (Nat × Nat × Nat)} {a b c : World} (h : ChT col a b) (k : ChT col' b c) (hc : ∀ g, g < a.heap.size → col' g = col g) : ChT col a c :=
  ⟨k.os.trans h.os, k.tape.trans h.tape, k.output.trans h.output, Nat.le_trans h.size k.size, fun g hg hn => (k.block g (Nat.lt_of_lt_of_le hg h.size) (by rw [hc g hg]; exact hn)).trans (h.block g hg hn)⟩
theorem ChT.of_below {col : Nat → Option (Nat × Nat × Nat)} {w w' : World} (h : Below w.heap.size w w') : ChT col w w' := ⟨h.os, h.tape, h.output, h.size, fun g hg _ => h.block g hg⟩
end Go.Proofs.YtdbghgpohdijfaaDoor
