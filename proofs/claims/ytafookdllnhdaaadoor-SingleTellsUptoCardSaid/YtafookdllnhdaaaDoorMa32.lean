/- Layer 4, walked: the climb: half, steps (by the closure's own contract), begin. -/
import Derived.Test.YtafookdllnhdaaaDoorMa0
import Derived.Test.YtafookdllnhdaaaDoorMa3
import Derived.Test.YtafookdllnhdaaaDoorRows
import Derived.BigQuiet
import Derived.Deep.Cut
import Derived.WalkMore
namespace Go.Proofs.YtafookdllnhdaaaDoor
open Go.RowKit Go.Scr
set_option linter.unusedVariables false

theorem grow_cell (w : World) (g i : Nat) (u : Value) : w.grownBy (w.setCell ⟨g, i, none⟩ u) (some g) := only_setCell (p := ⟨g, i, none⟩) (only_refl w (some g)) (Or.inl rfl) u
def climbAt (w : World) (g : Nat) : Nat := match w.cell? ⟨g, 0, none⟩ with | some v => (intOf v).toNat | none => 0
def climbLast (w : World) (g : Nat) : Nat := match w.cell? ⟨g, 1, none⟩ with | some v => (intOf v).toNat | none => 0
def skB (b : Bool) (x y : Nat) : Nat × Nat := if b then skipUp x y else (x, y)
theorem stepL_cons {x y : Nat} (hy : y ≠ 0) : stepL x y = isLeft x y :: stepL ((skB (isLeft x y) x y).1 / 2) ((skB (isLeft x y) x y).2 / 2) := by
  rw [stepL, dif_neg hy]
  unfold skB
  cases isLeft x y <;> simp
theorem skB_le (b : Bool) (x y : Nat) : (skB b x y).1 ≤ x ∧ (skB b x y).2 ≤ y := by
  unfold skB
  cases b
  · simp
  · simpa using skipUp_le x y
theorem drop_cons {α} {L : List α} {k : Nat} {b : α} {r : List α} (h : L.drop k = b :: r) : L[k]? = some b ∧ L.drop (k + 1) = r ∧ L.take (k + 1) = L.take k ++ [b] := by
  have h1 : L[k]? = some b := by
    have := congrArg (fun l => l[0]?) h
    simpa [List.getElem?_drop] using this
  refine ⟨h1, ?_, ?_⟩
  · have := congrArg (List.drop 1) h
    simpa [List.drop_drop, Nat.add_comm] using this
  · obtain ⟨hk, hb⟩ := List.getElem?_eq_some_iff.mp h1
    rw [List.take_succ_eq_append_getElem hk, hb]
theorem drop_nil {α} {L : List α} {k : Nat} (h : L.drop k = []) : L.take k = L := by
  have : L.length ≤ k := by simpa using h
  exact List.take_of_length_le this

end Go.Proofs.YtafookdllnhdaaaDoor
