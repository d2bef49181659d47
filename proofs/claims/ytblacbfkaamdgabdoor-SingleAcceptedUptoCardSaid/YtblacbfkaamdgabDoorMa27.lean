/- Is a node a complete subtree that is there? Its hash. -/
import Derived.Test.YtblacbfkaamdgabDoorMa25
namespace Go.Proofs.YtblacbfkaamdgabDoor
open Go.RowKit Go.Scr Go.ChangeMaps Go.MapKept
set_option linter.unusedVariables false
theorem cL_high {n l : Nat} (h : ¬ l < Lib.bitLen n) (hn : n ≤ 1048576) : cL n l = 0 := by
  unfold cL
  rcases Nat.eq_zero_or_pos n with e | e
  · rw [e]; simp
  · obtain ⟨k, q1, q2, q3⟩ := bitLen_spec n (by omega) (by omega)
    have : 2 ^ (k + 1) ≤ 2 ^ l := Nat.pow_le_pow_right (by decide) (by omega)
    exact Nat.div_eq_of_lt (by omega)
def hashT (n : Nat) (val : Nat → Nat → ByteArray) (l i : Nat) : Value := if i < cL n l then .tuple #[.string (val l i), .int .i64 0] else .tuple #[.string ⟨#[]⟩, .int .i64 72]
end Go.Proofs.YtblacbfkaamdgabDoor
