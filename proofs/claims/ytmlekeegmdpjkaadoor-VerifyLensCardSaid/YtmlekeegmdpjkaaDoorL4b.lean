/- VerifyLens, walked. -/
import Derived.Test.YtmlekeegmdpjkaaDoorL4a
namespace Go.Proofs.YtmlekeegmdpjkaaDoor
open Go.RowKit Go.Scr
set_option linter.unusedVariables false

set_option maxRecDepth 100000 in
set_option maxHeartbeats 1000000 in
theorem vlens_any (s i f t : Int) (w : World) (ht : Tabs w) :
    Calls Tryd.prog 3 #[.int .i64 s, .int .i64 i, .int .i64 f, .int .i64 t] w fun e w' => e = .returned (.bool true) ∧ Below w.heap.size w w' := by
  have HT := Lib.hid ht
  have HB0 := Lib.hid (Below.refl w.heap.size w)
  have c1 := known4_any w ht
  have c2 := fun w => pathlen_any s i w
  have c3 := fun w => pathlen4_any s i w
  have c4 := fun w => prooflen_any f t w
  have c5 := fun w => prooflen4_any f t w
  generalize pathLenS s i = a1 at c2 c3
  generalize pathLenE s i = a2 at c2 c3
  generalize proofLenS f t = a3 at c4 c5
  generalize proofLenE f t = a4 at c4 c5
  have C1 := Lib.hid c1
  have C2 := Lib.hid c2
  have C3 := Lib.hid c3
  have C4 := Lib.hid c4
  have C5 := Lib.hid c5
  clear c1 c2 c3 c4 c5 ht
  go_enter Tryd.func3, Tryd.ntmps3
  go_wp2_with (first
    | (go_at_call 14; with_reducible refine (C1.out).mono ?_; rintro r w1 ⟨rfl, hb⟩; have HB1 := Lib.hid hb; clear hb)
    | (go_at_call 15; with_reducible refine (C2.out w1).mono ?_; rintro r w2 ⟨rfl, hb⟩; have HB2 := Lib.hid (below_from HB1.out hb HB1.out.size); clear hb)
    | (go_at_call 16; with_reducible refine (C3.out w2).mono ?_; rintro r w3 ⟨rfl, hw⟩; rw [hw]; clear hw w3)
    | (go_at_call 17; with_reducible refine (C4.out w2).mono ?_; rintro r w4 ⟨rfl, hb⟩; have HB4 := Lib.hid (below_from HB2.out hb HB2.out.size); clear hb)
    | (go_at_call 18; with_reducible refine (C5.out w4).mono ?_; rintro r w5 ⟨rfl, hw⟩; rw [hw]; clear hw w5))
  go_ret
  exact ⟨rfl, HB4.out⟩
end Go.Proofs.YtmlekeegmdpjkaaDoor
