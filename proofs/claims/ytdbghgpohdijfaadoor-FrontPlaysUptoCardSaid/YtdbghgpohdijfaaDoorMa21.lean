/- A leaf added: the hashes up to the first one that waits. -/
import Derived.Test.YtdbghgpohdijfaaDoorMa19
import Derived.Test.YtdbghgpohdijfaaDoorMa20
import Derived.Test.YtdbghgpohdijfaaDoorMa11
import Derived.Deep.Cut
import Derived.LoopTactic
namespace Go.Proofs.YtdbghgpohdijfaaDoor
open Go.RowKit Go.Scr Go.ChangeMaps Go.MapKept
set_option linter.unusedVariables false
/-- the tables, all below B -/
structure Bas (w : World) (B : Nat) : Prop where
  tabs : Tabs w
  tz : TabZ w
  lt : 1 < B ∧ 0 < B ∧ 3 < B
  le : B ≤ w.heap.size
theorem Bas.below {w w' : World} {B : Nat} (h : Bas w B) (hb : Below B w w') : Bas w' B :=
  ⟨⟨fun j hj => (hb.cell (p := ⟨_, j, none⟩) h.lt.1).trans (h.tabs.1 j hj), fun j hj => (hb.cell (p := ⟨_, j, none⟩) h.lt.2.1).trans (h.tabs.2 j hj)⟩, fun j hj => (hb.cell (p := ⟨_, j, none⟩) h.lt.2.2).trans (h.tz j hj), h.lt, Nat.le_trans h.le hb.size⟩
abbrev Col := Nat → Option (Nat × Nat × Nat)
theorem ChT.keeps {col : Col} {w w' : World} (h : ChT col w w') {g : Nat} {o : Obj} (hg : w.heap[g]? = some o) (hc : col g = none) : w'.heap[g]? = some o := (h.block g (blk_lt hg) hc).trans hg
end Go.Proofs.YtdbghgpohdijfaaDoor
/- A leaf added. -/
namespace Go.Proofs.YtdbghgpohdijfaaDoor
open Go.RowKit Go.Scr Go.ChangeMaps Go.MapKept
set_option linter.unusedVariables false
theorem ChT.set {col : Col} {W w : World} (h : ChT col W w) {p : Addr} (hp : W.heap.size ≤ p.block) (u : Value) : ChT col W (w.setCell p u) :=
  ⟨h.os, h.tape, h.output, by simpa [World.setCell] using h.size, fun g hg hn => (Below.heap_setCell w p u g (by omega)).trans (h.block g hg hn)⟩
end Go.Proofs.YtdbghgpohdijfaaDoor
