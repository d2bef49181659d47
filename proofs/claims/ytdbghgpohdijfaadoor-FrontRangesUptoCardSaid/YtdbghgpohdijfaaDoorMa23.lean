/- A tree made; its size, its height; a complete subtree asked. -/
import Derived.Test.YtdbghgpohdijfaaDoorMa21
import Derived.Test.YtdbghgpohdijfaaDoorMa11
import Derived.Deep.RegionHeld3
namespace Go.Proofs.YtdbghgpohdijfaaDoor
open Go.RowKit Go.Scr Go.ChangeMaps Go.MapKept
set_option linter.unusedVariables false
theorem cL_none (l : Nat) : cL 0 l = 0 := by unfold cL; simp
end Go.Proofs.YtdbghgpohdijfaaDoor
/- The hash of a span that is there. -/
namespace Go.Proofs.YtdbghgpohdijfaaDoor
open Go.RowKit Go.Scr Go.ChangeMaps Go.MapKept
set_option linter.unusedVariables false
theorem rootR_nil : rootR [] = hempty := by unfold rootR rootL; rfl
theorem spl_of {n i : Nat} (h1 : 2 ^ i < n) (h2 : n ≤ 2 ^ (i + 1)) : spl n = 2 ^ i := by
  have h0 := two_pos i
  obtain ⟨k, q1, q2, q3⟩ := spl_pow (show 2 ≤ n by omega)
  have h3 := (Nat.pow_lt_pow_iff_right (show 1 < 2 by decide)).1 (Nat.lt_of_lt_of_le h1 q3)
  have h4 := (Nat.pow_lt_pow_iff_right (show 1 < 2 by decide)).1 (Nat.lt_of_lt_of_le q2 h2)
  rw [q1, show k = i by omega]
def partL (L : List ByteArray) (b e : Nat) : ByteArray := rootR ((L.drop b).take (e - b))
theorem partL_node {L : List ByteArray} {b e k : Nat} (hd : e - b = 2 ^ k) (hm : b % 2 ^ k = 0) : partL L b e = valL L k (b / 2 ^ k) := by
  unfold partL valL
  have := idx_back b k
  rw [hd, show b / 2 ^ k * 2 ^ k = b by omega]
theorem partL_two {L : List ByteArray} {b e m : Nat} (h2 : 2 ≤ e - b) (he : e ≤ L.length) (hm : m = spl (e - b)) : partL L b e = nodeS (partL L b (b + m)) (partL L (b + m) e) := by
  have hl : ((L.drop b).take (e - b)).length = e - b := by rw [List.length_take, List.length_drop]; omega
  have hs := spl_lt h2
  unfold partL
  rw [rootR_split (by rw [hl]; exact h2), hl, ← hm, List.take_take, Nat.min_eq_left (by omega), show b + m - b = m by omega, List.drop_take, List.drop_drop, show e - b - m = e - (b + m) by omega]
theorem tlen_any (d k : Nat) (hk1 : 2 ^ k ≤ d) (hk2 : d < 2 ^ (k + 1)) (hd : d ≤ 1048576) (w : World) : Calls Tryd.prog 133 #[.int .u64 (d : Int)] w fun o w' => o = .returned (.int .i64 ((k : Int) + 1)) ∧ w' = w := by
  have hp := two_pos k
  obtain ⟨k2, q1, q2, q3⟩ := bitLen_spec d (by omega) (by omega)
  have h3 := (Nat.pow_lt_pow_iff_right (show 1 < 2 by decide)).1 (Nat.lt_of_le_of_lt hk1 q3)
  have h4 := (Nat.pow_lt_pow_iff_right (show 1 < 2 by decide)).1 (Nat.lt_of_le_of_lt q2 hk2)
  have := len_any d w (by omega)
  rw [q1, show k2 = k by omega] at this
  exact this
theorem pow_ex {d : Nat} (h : 1 ≤ d) (hd : d ≤ 1048576) : ∃ k, 2 ^ k ≤ d ∧ d < 2 ^ (k + 1) ∧ k ≤ 20 := by
  obtain ⟨k, _, q2, q3⟩ := bitLen_spec d (by omega) (by omega)
  refine ⟨k, q2, q3, ?_⟩
  apply Decidable.byContradiction
  intro hc
  have : 2 ^ 21 ≤ 2 ^ k := Nat.pow_le_pow_right (by decide) (by omega)
  omega
end Go.Proofs.YtdbghgpohdijfaaDoor
/- The hash of a span that is there: walked. -/
namespace Go.Proofs.YtdbghgpohdijfaaDoor
open Go.RowKit Go.Scr Go.ChangeMaps Go.MapKept
set_option linter.unusedVariables false
end Go.Proofs.YtdbghgpohdijfaaDoor
/- Part of a span that is there. -/
namespace Go.Proofs.YtdbghgpohdijfaaDoor
open Go.RowKit Go.Scr Go.ChangeMaps Go.MapKept
set_option linter.unusedVariables false
end Go.Proofs.YtdbghgpohdijfaaDoor
