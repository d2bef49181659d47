/- What the rows' list of four package-level tables gives: the two of digest and the one of math/bits that TrailingZeros64 reads. -/
import Derived.Test.YtafookdllnhdaaaDoorMa7
import Derived.Test.YtafookdllnhdaaaDoorMa23
namespace Go.Proofs.YtafookdllnhdaaaDoor
open Go.RowKit Go.Scr
set_option linter.unusedVariables false
theorem gBru64 : Tryd.prog.globalNamed "math/bits.deBruijn64tab" = some 1 := by kernel_rfl
theorem gBru64Type : (Tryd.prog.globals[1]?).map (·.type) = some 121 := by kernel_rfl
theorem und64u8 : Tryd.prog.underlying 121 = some (.array 64 5) := by kernel_rfl
theorem undU8x : Tryd.prog.underlying 5 = some (.int .u8) := by kernel_rfl
theorem cells64u8 : Tryd.prog.cellsOf 121 = 64 := by kernel_rfl
theorem cellsU8x : Tryd.prog.cellsOf 5 = 1 := by kernel_rfl
def bruI : List Int := Lib.deBruijn64tab.map fun n : Nat => ((n : Nat) : Int)
theorem bas_of_laid {W : World} (h : laidMetH Tryd.prog [("math/bits.deBruijn32tab", Rows.laid_math_bits_deBruijn32tab), ("math/bits.deBruijn64tab", Rows.laid_math_bits_deBruijn64tab), ("scrivener/digest.first", Rows.laid_scrivener_digest_first), ("scrivener/digest.numbers", Rows.laid_scrivener_digest_numbers)] W) : Bas W W.heap.size := by
  have h1 : laidMet Tryd.prog [("math/bits.deBruijn32tab", Rows.laid_math_bits_deBruijn32tab), ("math/bits.deBruijn64tab", Lib.tabData .u8 bruI), ("scrivener/digest.first", Rows.laid_scrivener_digest_first), ("scrivener/digest.numbers", Rows.laid_scrivener_digest_numbers)] W := h
  have h2 := laidMet_tail h1
  have t3 := Lib.tabIs_of_head gBru64 gBru64Type und64u8 undU8x cellsU8x cells64u8 h2
  have HT := tabs_of_laid (laidMet_tail h2)
  have HZ : TabZ W := fun j hj => by
    rw [t3.cell gBru64 j (by unfold bruI; rw [List.length_map]; exact hj), bruI, List.getD_eq_getElem?_getD, List.getElem?_map, List.getD_eq_getElem?_getD, List.getElem?_eq_getElem (show j < Lib.deBruijn64tab.length from hj)]
    rfl
  exact ⟨HT, HZ, ⟨HT.lt.1, HT.lt.2, block_lt_of_cell (HZ 0 (by decide))⟩, Nat.le_refl _⟩
end Go.Proofs.YtafookdllnhdaaaDoor
