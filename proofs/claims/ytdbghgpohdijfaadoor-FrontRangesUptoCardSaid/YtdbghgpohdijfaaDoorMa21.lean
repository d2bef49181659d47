/- A leaf added: the hashes up to the first one that waits. -/
import Derived.Test.YtdbghgpohdijfaaDoorMa19
import Derived.Test.YtdbghgpohdijfaaDoorMa20
import Derived.Test.YtdbghgpohdijfaaDoorMa11
import Derived.Deep.Cut
import Derived.LoopTactic
namespace Go.Proofs.YtdbghgpohdijfaaDoor
open Go.RowKit Go.Scr Go.ChangeMaps Go.MapKept
set_option linter.unusedVariables false
/-- the tables, all below B -/
structure Bas (w : World) (B : Nat) : Prop where
  tabs : Tabs w
  tz : TabZ w
  lt : 1 < B ∧ 0 < B ∧ 3 < B
  le : B ≤ w.heap.size
theorem Bas.below {w w' : World} {B : Nat} (h : Bas w B) (hb : Below B w w') : Bas w' B :=
  ⟨⟨fun j hj => (hb.cell (p := ⟨_, j, none⟩) h.lt.1).trans (h.tabs.1 j hj), fun j hj => (hb.cell (p := ⟨_, j, none⟩) h.lt.2.1).trans (h.tabs.2 j hj)⟩, fun j hj => (hb.cell (p := ⟨_, j, none⟩) h.lt.2.2).trans (h.tz j hj), h.lt, Nat.le_trans h.le hb.size⟩
abbrev Col := Nat → Option (Nat × Nat × Nat)
theorem ChT.low {col : Col} {w w' : World} {B : Nat} (h : ChT col w w') (hb : ∀ g, col g ≠ none → B ≤ g) (hB : B ≤ w.heap.size) : Below B w w' :=
  ⟨h.os, h.tape, h.output, h.size, fun g hg => h.block g (Nat.lt_of_lt_of_le hg hB) (by
    cases e : col g with
    | none => rfl
    | some x => exact absurd (hb g (by rw [e]; simp)) (by omega))⟩
theorem ChT.keeps {col : Col} {w w' : World} (h : ChT col w w') {g : Nat} {o : Obj} (hg : w.heap[g]? = some o) (hc : col g = none) : w'.heap[g]? = some o := (h.block g (blk_lt hg) hc).trans hg
end Go.Proofs.YtdbghgpohdijfaaDoor
/- A leaf added. -/
namespace Go.Proofs.YtdbghgpohdijfaaDoor
open Go.RowKit Go.Scr Go.ChangeMaps Go.MapKept
set_option linter.unusedVariables false
theorem cAdd_at (n k : Nat) : cAdd n k k = n / 2 ^ k := by unfold cAdd; rw [if_neg (by omega)]
theorem add_odd {n k z : Nat} (hz : 2 ^ z ∣ n + 1) (hk : k < z) : n / 2 ^ k = 2 * (n / 2 ^ (k + 1)) + 1 := by
  have h1 := div_succ (dvd_low hz (Nat.le_of_lt hk))
  have h2 := div_succ (dvd_low hz (show k + 1 ≤ z from hk))
  obtain ⟨q, hq⟩ := dvd_low hz (show k + 1 ≤ z from hk)
  have h3 : (n + 1) / 2 ^ k = 2 * ((n + 1) / 2 ^ (k + 1)) := by
    rw [hq, Nat.mul_div_cancel_left _ (two_pos (k + 1)), Nat.pow_succ, Nat.mul_assoc, Nat.mul_div_cancel_left _ (two_pos k)]
  omega
theorem add_val {n k z : Nat} (hz : 2 ^ z ∣ n + 1) (hk : k < z) {M : List ByteArray} (hM : M.length = n + 1) : valL M (k + 1) (n / 2 ^ (k + 1)) = nodeS (valL M k (n / 2 ^ k - 1)) (valL M k (n / 2 ^ k)) := by
  have h2 := div_succ (dvd_low hz (show k + 1 ≤ z from hk))
  rw [valL_node (by rw [hM]; unfold cL; omega), add_odd hz hk]
  congr 1
theorem add_low {n z : Nat} (hz : 2 ^ z ∣ n + 1) (hn : n < 1048576) : z ≤ 20 := by
  have h1 := Nat.le_of_dvd (by omega) hz
  apply Decidable.byContradiction
  intro h
  have h2 : 2 ^ 21 ≤ 2 ^ z := Nat.pow_le_pow_right (by decide) (by omega)
  omega
theorem low_of' {col col' : Col} {W : World} {B : Nat} (hb : ∀ g, col g ≠ none → B ≤ g) (hB : B ≤ W.heap.size) (h : ∀ q, q < W.heap.size → col' q = col q) : ∀ g, col' g ≠ none → B ≤ g := fun g hg => by
  by_cases e : g < W.heap.size
  · exact hb g (by rw [← h g e]; exact hg)
  · omega
theorem ChT.set {col : Col} {W w : World} (h : ChT col W w) {p : Addr} (hp : W.heap.size ≤ p.block) (u : Value) : ChT col W (w.setCell p u) :=
  ⟨h.os, h.tape, h.output, by simpa [World.setCell] using h.size, fun g hg hn => (Below.heap_setCell w p u g (by omega)).trans (h.block g hg hn)⟩
end Go.Proofs.YtdbghgpohdijfaaDoor
