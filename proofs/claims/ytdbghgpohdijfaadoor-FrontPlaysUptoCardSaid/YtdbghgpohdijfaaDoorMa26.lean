/- Layer 3, walked: refused, wrong; root; R. -/
import Derived.Test.YtdbghgpohdijfaaDoorMa16
import Derived.Test.YtdbghgpohdijfaaDoorMa11
namespace Go.Proofs.YtdbghgpohdijfaaDoor
open Go.RowKit Go.Scr
set_option linter.unusedVariables false

/-- has each text 32 bytes? -/
def ok32 (L : List ByteArray) : Bool := L.all fun s => s.size == 32
theorem ok32_take {L : List ByteArray} {k : Nat} {s : ByteArray} (h : L[k]? = some s) : ok32 (L.take (k + 1)) = (ok32 (L.take k) && (s.size == 32)) := by
  obtain ⟨hk, rfl⟩ := List.getElem?_eq_some_iff.mp h
  unfold ok32
  rw [List.take_succ_eq_append_getElem hk, List.all_append]
  simp
end Go.Proofs.YtdbghgpohdijfaaDoor
/- Layer 3, walked: root, R; Root of both. -/
namespace Go.Proofs.YtdbghgpohdijfaaDoor
open Go.RowKit Go.Scr
set_option linter.unusedVariables false

end Go.Proofs.YtdbghgpohdijfaaDoor
/- Layer 3, walked: Root, Part of both. -/
namespace Go.Proofs.YtdbghgpohdijfaaDoor
open Go.RowKit Go.Scr
set_option linter.unusedVariables false

end Go.Proofs.YtdbghgpohdijfaaDoor
