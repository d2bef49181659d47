/- A tree made; its size, its height; a complete subtree asked. -/
import Derived.Test.YtdbghgpohdijfaaDoorMa21
import Derived.Test.YtdbghgpohdijfaaDoorMa11
import Derived.Deep.RegionHeld3
namespace Go.Proofs.YtdbghgpohdijfaaDoor
open Go.RowKit Go.Scr Go.ChangeMaps Go.MapKept
set_option linter.unusedVariables false
end Go.Proofs.YtdbghgpohdijfaaDoor
/- The hash of a span that is there. -/
namespace Go.Proofs.YtdbghgpohdijfaaDoor
open Go.RowKit Go.Scr Go.ChangeMaps Go.MapKept
set_option linter.unusedVariables false
theorem spl_of {n i : Nat} (h1 : 2 ^ i < n) (h2 : n ≤ 2 ^ (i + 1)) : spl n = 2 ^ i := by
  have h0 := two_pos i
  obtain ⟨k, q1, q2, q3⟩ := spl_pow (show 2 ≤ n by omega)
  have h3 := (Nat.pow_lt_pow_iff_right (show 1 < 2 by decide)).1 (Nat.lt_of_lt_of_le h1 q3)
  have h4 := (Nat.pow_lt_pow_iff_right (show 1 < 2 by decide)).1 (Nat.lt_of_lt_of_le q2 h2)
  rw [q1, show k = i by omega]
def partL (L : List ByteArray) (b e : Nat) : ByteArray := rootR ((L.drop b).take (e - b))
theorem partL_two {L : List ByteArray} {b e m : Nat} (h2 : 2 ≤ e - b) (he : e ≤ L.length) (hm : m = spl (e - b)) : partL L b e = nodeS (partL L b (b + m)) (partL L (b + m) e) := by
  have hl : ((L.drop b).take (e - b)).length = e - b := by rw [List.length_take, List.length_drop]; omega
  have hs := spl_lt h2
  unfold partL
  rw [rootR_split (by rw [hl]; exact h2), hl, ← hm, List.take_take, Nat.min_eq_left (by omega), show b + m - b = m by omega, List.drop_take, List.drop_drop, show e - b - m = e - (b + m) by omega]
end Go.Proofs.YtdbghgpohdijfaaDoor
/- The hash of a span that is there: walked. -/
namespace Go.Proofs.YtdbghgpohdijfaaDoor
open Go.RowKit Go.Scr Go.ChangeMaps Go.MapKept
set_option linter.unusedVariables false
end Go.Proofs.YtdbghgpohdijfaaDoor
/- Part of a span that is there. -/
namespace Go.Proofs.YtdbghgpohdijfaaDoor
open Go.RowKit Go.Scr Go.ChangeMaps Go.MapKept
set_option linter.unusedVariables false
end Go.Proofs.YtdbghgpohdijfaaDoor
