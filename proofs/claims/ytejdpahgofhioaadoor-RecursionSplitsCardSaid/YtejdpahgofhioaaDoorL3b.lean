/- RecursionSplits, walked. -/
import Derived.Test.YtejdpahgofhioaaDoorL3a
namespace Go.Proofs.YtejdpahgofhioaaDoor
open Go.RowKit Go.Scr
set_option linter.unusedVariables false

set_option maxRecDepth 100000 in
set_option maxHeartbeats 1000000 in
theorem rsplits_any (z : Int) (w : World) (ht : Tabs w) (hz : z ≤ 9223372036854775807) :
    Calls Tryd.prog 3 #[.int .i64 z] w fun e w' => e = .returned (.bool true) ∧ Below w.heap.size w w' := by
  have C1 := Lib.hid (known3_any w ht)
  have C2 := Lib.hid (fun w' => split_any z w' hz)
  have C3 := Lib.hid (fun w' => splitr_any z w' hz)
  generalize splitS z = a at C2 C3
  clear ht
  go_enter Tryd.func3, Tryd.ntmps3
  go_wp2_with (first
    | (go_at_call 15; with_reducible refine (C1.out).mono ?_; rintro r w1 ⟨rfl, hb⟩; have HB1 := Lib.hid hb; clear hb)
    | (go_at_call 16; with_reducible refine (C2.out w1).mono ?_; rintro r wx ⟨rfl, hw⟩; rw [hw]; clear hw wx)
    | (go_at_call 17; with_reducible refine (C3.out w1).mono ?_; rintro r wx ⟨rfl, hw⟩; rw [hw]; clear hw wx))
  go_ret
  exact ⟨rfl, HB1.out⟩
end Go.Proofs.YtejdpahgofhioaaDoor
