/- The digest's own functions, walked: words turned; one block; a hasher's calls. -/
import Derived.Test.YtmlekeegmdpjkaaDoorRows
import Derived.Test.YtmlekeegmdpjkaaDoorSha
import Derived.Test.YtmlekeegmdpjkaaDoorMem
import Derived.WalkKit
import Derived.WalkSpells
import Derived.WalkLawsBesides
import Derived.Lib.Hide
namespace Go.Proofs.YtmlekeegmdpjkaaDoor
open Go.RowKit Go.Scr
set_option linter.unusedVariables false

set_option maxHeartbeats 400000 in
theorem rot_any (x n : Nat) (hx : x < 4294967296) (hn : 1 ≤ n) (hn' : n ≤ 31) (w : World) :
    Calls Tryd.prog 122 #[.int .u32 x, .int .i64 (-(n : Int))] w fun e w' => e = .returned (.int .u32 (ror x n : Nat)) ∧ w = w' := by
  have hc := rot_count n hn hn'
  have HR := Lib.hid (rot_word x n hx hn hn')
  go_enter Tryd.func122, Tryd.ntmps122
  go_wp2
  go_ret
  exact ⟨ret_int HR.out, rfl⟩
set_option maxHeartbeats 400000 in
theorem turned_any (x : Nat) (n : Int) (hx : x < 4294967296) (hn : 1 ≤ n) (hn' : n ≤ 31) (w : World) :
    Calls Tryd.prog 121 #[.int .u32 x, .int .i64 n] w fun e w' => e = .returned (.int .u32 (ror x n.toNat : Nat)) ∧ w' = w := by
  obtain ⟨m, rfl⟩ := Int.eq_ofNat_of_zero_le (show 0 ≤ n by omega)
  go_enter Tryd.func121, Tryd.ntmps121
  go_wp2_with (go_at_call 122; refine (rot_any x m hx (by omega) (by omega) _).mono ?_; rintro e w' ⟨rfl, rfl⟩)
  go_ret
  exact ⟨rfl, rfl⟩
end Go.Proofs.YtmlekeegmdpjkaaDoor
