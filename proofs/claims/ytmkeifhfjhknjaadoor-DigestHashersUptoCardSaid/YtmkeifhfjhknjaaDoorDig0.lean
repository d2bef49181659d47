/- The digest's own functions, walked: words turned; one block; a hasher's calls. -/
import Derived.Test.YtmkeifhfjhknjaaDoorRows
import Derived.Test.YtmkeifhfjhknjaaDoorSha
import Derived.Test.YtmkeifhfjhknjaaDoorMem
import Derived.WalkKit
import Derived.WalkSpells
import Derived.WalkLawsBesides
import Derived.Lib.Hide
namespace Go.Proofs.YtmkeifhfjhknjaaDoor
open Go.RowKit Go.Scr
set_option linter.unusedVariables false

set_option maxHeartbeats 400000 in
theorem rot_any (x n : Nat) (hx : x < 4294967296) (hn : 1 ≤ n) (hn' : n ≤ 31) (w : World) :
    Calls Tryd.prog 35 #[.int .u32 x, .int .i64 (-(n : Int))] w fun e w' => e = .returned (.int .u32 (ror x n : Nat)) ∧ w = w' := by
  have hc := rot_count n hn hn'
  have HR := Lib.hid (rot_word x n hx hn hn')
  go_enter Tryd.func35, Tryd.ntmps35
  go_wp2
  go_ret
  exact ⟨ret_int HR.out, rfl⟩
set_option maxHeartbeats 400000 in
theorem turned_any (x : Nat) (n : Int) (hx : x < 4294967296) (hn : 1 ≤ n) (hn' : n ≤ 31) (w : World) :
    Calls Tryd.prog 32 #[.int .u32 x, .int .i64 n] w fun e w' => e = .returned (.int .u32 (ror x n.toNat : Nat)) ∧ w' = w := by
  obtain ⟨m, rfl⟩ := Int.eq_ofNat_of_zero_le (show 0 ≤ n by omega)
  go_enter Tryd.func32, Tryd.ntmps32
  go_wp2_with (go_at_call 35; refine (rot_any x m hx (by omega) (by omega) _).mono ?_; rintro e w' ⟨rfl, rfl⟩)
  go_ret
  exact ⟨rfl, rfl⟩
end Go.Proofs.YtmkeifhfjhknjaaDoor
