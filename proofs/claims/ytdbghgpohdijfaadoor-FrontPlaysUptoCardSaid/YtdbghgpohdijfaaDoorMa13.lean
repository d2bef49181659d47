/- Arguments of the digest laws: slices of numbers, of texts; what the bound on the bulk gives. -/
import Derived.Test.YtdbghgpohdijfaaDoorMa7
import Derived.Test.YtdbghgpohdijfaaDoorMa12
import Derived.ChangeMaps5
import Derived.SliceStrings
import Derived.ChangeSlices
import Derived.WideKeyArgs
namespace Go.Proofs.YtdbghgpohdijfaaDoor
open Go.ChangeShapes Go.WideShapes Go.ChangeAt Go.RowKit Go.Scr
set_option linter.unusedVariables false

theorem bulk_one {H : Type} (d : DataW H) : 1 ≤ Rows.uptoBulk d := by
  cases d with
  | lit l => cases l <;> simp [Rows.uptoBulk]
  | nil => simp [Rows.uptoBulk]
  | ptr d => simp [Rows.uptoBulk]
  | slice elems spare => simp [Rows.uptoBulk]
  | agg parts => simp [Rows.uptoBulk]
  | iface t d => simp [Rows.uptoBulk]
  | map entries => simp [Rows.uptoBulk]
  | held h => simp [Rows.uptoBulk]
theorem bulk_length {H : Type} (l : List (DataW H)) : l.length ≤ Rows.uptoBulkAll l := by
  induction l with
  | nil => simp [Rows.uptoBulkAll]
  | cons x r ih => have := bulk_one x; simp only [Rows.uptoBulkAll, List.length_cons]; omega
theorem bulk_elems {H : Type} (elems spare : List (DataW H)) : Rows.uptoBulkAll elems + 1 ≤ Rows.uptoBulk (.slice elems spare) := by
  simp only [Rows.uptoBulk]
  omega
theorem bulk_string {H : Type} (bytes : List UInt8) : Rows.uptoBulk (DataW.lit (H := H) (.string bytes)) = bytes.length + 1 := by simp [Rows.uptoBulk]
theorem bulk_bound {H : Type} {l : List (DataW H)} (hk : Rows.uptoSmall H l = true) : Rows.uptoBulkAll l ≤ 1048576 := by simpa [Rows.uptoSmall] using hk
theorem bulk_strs {H : Type} (L : List ByteArray) : Rows.uptoBulkAll (strs (H := H) L) = (cat L).length + L.length := by
  induction L with
  | nil => rfl
  | cons s L ih =>
    have e : strs (H := H) (s :: L) = .lit (.string s.data.toList) :: strs L := rfl
    rw [e, Rows.uptoBulkAll, ih, bulk_string]
    simp [cat]
    omega

section
variable {H : Type} {enc : TypeId × Value → H} {P : Program} {W : World} {base b0 : Nat} {sp : Nat → Bool} {held : Bool}
end
end Go.Proofs.YtdbghgpohdijfaaDoor
