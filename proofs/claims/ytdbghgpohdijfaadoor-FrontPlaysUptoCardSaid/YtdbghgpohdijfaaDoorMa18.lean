/- Tiles: the hashes of complete subtrees of some leaves; how many there are. -/
import Derived.Test.YtdbghgpohdijfaaDoorMa17
import Derived.Test.YtdbghgpohdijfaaDoorMa16
import Derived.IntWalk
import Derived.WalkKit
import Derived.WalkSpells
import Derived.WalkLawsBesides
import Derived.Lib.Hide
import Derived.BigRegion
import Derived.RegionTactic
import Derived.Deep.QuietTactic
import Derived.Deep.RegionWith
import Derived.Deep.RegionLaw
namespace Go.Proofs.YtdbghgpohdijfaaDoor
open Go.RowKit Go.Scr
set_option linter.unusedVariables false
end Go.Proofs.YtdbghgpohdijfaaDoor
/- Where a node lies: its tile, its level there, its place. -/
namespace Go.Proofs.YtdbghgpohdijfaaDoor
open Go.RowKit Go.Scr
set_option linter.unusedVariables false
theorem i64_andm (q k : Nat) (hk : k ≤ 62) : bits .and .i64 (q : Int) (((2 ^ k - 1 : Nat)) : Int) = ((q % 2 ^ k : Nat) : Int) := by
  have hp : 2 ^ k ≤ 2 ^ 62 := Nat.pow_le_pow_right (by decide) hk
  have hp0 := two_pos k
  have h1 : (BitVec.ofInt 64 ((2 ^ k - 1 : Nat) : Int)).toNat = 2 ^ k - 1 := by
    rw [BitVec.toNat_ofInt]
    omega
  have key : (BitVec.ofInt 64 (q : Int) &&& BitVec.ofInt 64 ((2 ^ k - 1 : Nat) : Int)).toNat = ((q : Int) % ((2 ^ 64 : Nat) : Int)).toNat % 2 ^ k := by
    rw [BitVec.toNat_and, BitVec.toNat_ofInt, h1, Nat.and_two_pow_sub_one_eq_mod]
  show IntKind.i64.wrap ((BitVec.ofInt 64 (q : Int) &&& BitVec.ofInt 64 ((2 ^ k - 1 : Nat) : Int)).toNat : Nat) = _
  have hd : ((q : Int) % ((2 ^ 64 : Nat) : Int)).toNat % 2 ^ k = q % 2 ^ k := by
    have h3 : ((q : Int) % ((2 ^ 64 : Nat) : Int)).toNat = q % 2 ^ 64 := by omega
    rw [h3, Nat.mod_mod_of_dvd q (Nat.pow_dvd_pow 2 (by omega : k ≤ 64))]
  have hm := Nat.mod_lt q hp0
  rw [key, hd]
  exact IntWalk.i64_in _ (by omega)
theorem cellB {w : World} {g k : Nat} {cs : Array Value} {T : TypeId} {v : Value} (h : w.heap[g]? = some (.cells cs T (0, 0))) (hk : cs[k]? = some v) : w.cell? ⟨g, k, none⟩ = some v := by
  simp [World.cell?, h, hk]
theorem frozB {w : World} {g k : Nat} {cs : Array Value} {T : TypeId} (h : w.heap[g]? = some (.cells cs T (0, 0))) : w.frozen? ⟨g, k, none⟩ = false := by
  simp [World.frozen?, h]
end Go.Proofs.YtdbghgpohdijfaaDoor
/- The hash of a node that is there. -/
namespace Go.Proofs.YtdbghgpohdijfaaDoor
open Go.RowKit Go.Scr
set_option linter.unusedVariables false
end Go.Proofs.YtdbghgpohdijfaaDoor
