/- A leaf added: the hashes up to the first one that waits. -/
import Derived.Test.YtdbghgpohdijfaaGreatDoorMa16
import Derived.Test.YtdbghgpohdijfaaGreatDoorMa17
import Derived.Test.YtdbghgpohdijfaaGreatDoorMa10
import Derived.Deep.Cut
import Derived.LoopTactic
import Derived.Deep.RegionHeld3
namespace Go.Proofs.YtdbghgpohdijfaaGreatDoor
open Go.RowKit Go.Scr Go.ChangeMaps Go.MapKept
set_option linter.unusedVariables false
abbrev Col := Nat → Option (Nat × Nat × Nat)
theorem ChT.low {col : Col} {w w' : World} {B : Nat} (h : ChT col w w') (hb : ∀ g, col g ≠ none → B ≤ g) (hB : B ≤ w.heap.size) : Below B w w' :=
  ⟨h.os, h.tape, h.output, h.size, fun g hg => h.block g (Nat.lt_of_lt_of_le hg hB) (by
    cases e : col g with
    | none => rfl
    | some x => exact absurd (hb g (by rw [e]; simp)) (by omega))⟩
theorem ChT.keeps {col : Col} {w w' : World} (h : ChT col w w') {g : Nat} {o : Obj} (hg : w.heap[g]? = some o) (hc : col g = none) : w'.heap[g]? = some o := (h.block g (blk_lt hg) hc).trans hg
end Go.Proofs.YtdbghgpohdijfaaGreatDoor
/- A leaf added. -/
namespace Go.Proofs.YtdbghgpohdijfaaGreatDoor
open Go.RowKit Go.Scr Go.ChangeMaps Go.MapKept
set_option linter.unusedVariables false
theorem cAdd_at (n k : Nat) : cAdd n k k = n / 2 ^ k := by unfold cAdd; rw [if_neg (by omega)]
theorem add_odd {n k z : Nat} (hz : 2 ^ z ∣ n + 1) (hk : k < z) : n / 2 ^ k = 2 * (n / 2 ^ (k + 1)) + 1 := by
  have h1 := div_succ (dvd_low hz (Nat.le_of_lt hk))
  have h2 := div_succ (dvd_low hz (show k + 1 ≤ z from hk))
  obtain ⟨q, hq⟩ := dvd_low hz (show k + 1 ≤ z from hk)
  have h3 : (n + 1) / 2 ^ k = 2 * ((n + 1) / 2 ^ (k + 1)) := by
    rw [hq, Nat.mul_div_cancel_left _ (two_pos (k + 1)), Nat.pow_succ, Nat.mul_assoc, Nat.mul_div_cancel_left _ (two_pos k)]
  omega
theorem add_val {n k z : Nat} (hz : 2 ^ z ∣ n + 1) (hk : k < z) {M : List ByteArray} (hM : M.length = n + 1) : valL M (k + 1) (n / 2 ^ (k + 1)) = nodeS (valL M k (n / 2 ^ k - 1)) (valL M k (n / 2 ^ k)) := by
  have h2 := div_succ (dvd_low hz (show k + 1 ≤ z from hk))
  rw [valL_node (by rw [hM]; unfold cL; omega), add_odd hz hk]
  congr 1
theorem add_low {n z : Nat} (hz : 2 ^ z ∣ n + 1) (hn : n < 1048576) : z ≤ 20 := by
  have h1 := Nat.le_of_dvd (by omega) hz
  apply Decidable.byContradiction
  intro h
  have h2 : 2 ^ 21 ≤ 2 ^ z := Nat.pow_le_pow_right (by decide) (by omega)
  omega
theorem low_of' {col col' : Col} {W : World} {B : Nat} (hb : ∀ g, col g ≠ none → B ≤ g) (hB : B ≤ W.heap.size) (h : ∀ q, q < W.heap.size → col' q = col q) : ∀ g, col' g ≠ none → B ≤ g := fun g hg => by
  by_cases e : g < W.heap.size
  · exact hb g (by rw [← h g e]; exact hg)
  · omega
theorem ChT.set {col : Col} {W w : World} (h : ChT col W w) {p : Addr} (hp : W.heap.size ≤ p.block) (u : Value) : ChT col W (w.setCell p u) :=
  ⟨h.os, h.tape, h.output, by simpa [World.setCell] using h.size, fun g hg hn => (Below.heap_setCell w p u g (by omega)).trans (h.block g hg hn)⟩
end Go.Proofs.YtdbghgpohdijfaaGreatDoor
/- A tree made; its size, its height; a complete subtree asked. -/
namespace Go.Proofs.YtdbghgpohdijfaaGreatDoor
open Go.RowKit Go.Scr Go.ChangeMaps Go.MapKept
set_option linter.unusedVariables false
theorem cL_none (l : Nat) : cL 0 l = 0 := by unfold cL; simp
end Go.Proofs.YtdbghgpohdijfaaGreatDoor
/- The hash of a span that is there. -/
namespace Go.Proofs.YtdbghgpohdijfaaGreatDoor
open Go.RowKit Go.Scr Go.ChangeMaps Go.MapKept
set_option linter.unusedVariables false
theorem rootR_nil : rootR [] = hempty := by unfold rootR rootL; rfl
theorem spl_of {n i : Nat} (h1 : 2 ^ i < n) (h2 : n ≤ 2 ^ (i + 1)) : spl n = 2 ^ i := by
  have h0 := two_pos i
  obtain ⟨k, q1, q2, q3⟩ := spl_pow (show 2 ≤ n by omega)
  have h3 := (Nat.pow_lt_pow_iff_right (show 1 < 2 by decide)).1 (Nat.lt_of_lt_of_le h1 q3)
  have h4 := (Nat.pow_lt_pow_iff_right (show 1 < 2 by decide)).1 (Nat.lt_of_lt_of_le q2 h2)
  rw [q1, show k = i by omega]
def partL (L : List ByteArray) (b e : Nat) : ByteArray := rootR ((L.drop b).take (e - b))
theorem partL_node {L : List ByteArray} {b e k : Nat} (hd : e - b = 2 ^ k) (hm : b % 2 ^ k = 0) : partL L b e = valL L k (b / 2 ^ k) := by
  unfold partL valL
  have := idx_back b k
  rw [hd, show b / 2 ^ k * 2 ^ k = b by omega]
theorem partL_two {L : List ByteArray} {b e m : Nat} (h2 : 2 ≤ e - b) (he : e ≤ L.length) (hm : m = spl (e - b)) : partL L b e = nodeS (partL L b (b + m)) (partL L (b + m) e) := by
  have hl : ((L.drop b).take (e - b)).length = e - b := by rw [List.length_take, List.length_drop]; omega
  have hs := spl_lt h2
  unfold partL
  rw [rootR_split (by rw [hl]; exact h2), hl, ← hm, List.take_take, Nat.min_eq_left (by omega), show b + m - b = m by omega, List.drop_take, List.drop_drop, show e - b - m = e - (b + m) by omega]
theorem pow_ex {d : Nat} (h : 1 ≤ d) (hd : d ≤ 1048576) : ∃ k, 2 ^ k ≤ d ∧ d < 2 ^ (k + 1) ∧ k ≤ 20 := by
  obtain ⟨k, _, q2, q3⟩ := bitLen_spec d (by omega) (by omega)
  refine ⟨k, q2, q3, ?_⟩
  apply Decidable.byContradiction
  intro hc
  have : 2 ^ 21 ≤ 2 ^ k := Nat.pow_le_pow_right (by decide) (by omega)
  omega
end Go.Proofs.YtdbghgpohdijfaaGreatDoor
