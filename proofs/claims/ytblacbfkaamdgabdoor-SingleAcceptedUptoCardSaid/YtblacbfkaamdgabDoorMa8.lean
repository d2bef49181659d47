/- The reference's own functions of layer 1, walked: ror; the tables. -/
import Derived.Test.YtblacbfkaamdgabDoorRows
import Derived.Test.YtblacbfkaamdgabDoorMa0
import Derived.WalkKit
import Derived.WalkSpells
import Derived.WalkLawsBesides
import Derived.Lib.Hide
import Derived.Deep.QuietTactic
import Derived.BigQuiet
import Derived.StillTailTactics
import Derived.Deep.OwnRows
import Derived.Deep.DeepCutAuto
namespace Go.Proofs.YtblacbfkaamdgabDoor
open Go.RowKit Go.Scr
set_option linter.unusedVariables false

def kI : Array Value := (Ks.map (fun x : Nat => Value.int .i64 (x : Int))).toArray
def agg8 (st : List Nat) : Array Value := (st.map (fun x : Nat => Value.int .i64 (x : Int))).toArray
theorem kI_size : kI.size = 64 := rfl
def zI : Array Value := (List.replicate 64 (Value.int .i64 0)).toArray
theorem kI_one : kI.all (·.oneCell') = true := by kernel_rfl
theorem zI_size : zI.size = 64 := rfl
end Go.Proofs.YtblacbfkaamdgabDoor
