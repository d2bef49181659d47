/- What the rows' list of package-level tables gives: the two tables of digest, where they lie. -/
import Derived.Test.YtmkeifhfjhknjaaDoorRows
import Derived.Test.YtmkeifhfjhknjaaDoorDig2
import Derived.Lib.LaidTab
import Derived.Deep.DeepHandedRow
namespace Go.Proofs.YtmkeifhfjhknjaaDoor
open Go.RowKit Go.Scr
set_option linter.unusedVariables false

theorem laidMet_tail {P : Program} {x : String × DataW Unit} {rest : List (String × DataW Unit)} {W : World} (h : laidMet P (x :: rest) W) : laidMet P rest W := by
  obtain ⟨ps, ⟨g, t, cs, fuel, p, q, hg, ht, hvar, hd, hr, rfl⟩, hn, hc⟩ := h
  exact ⟨q, hr, (List.nodup_append.mp hn).2.1, fun b off hb => hc b off (List.mem_append_right _ hb)⟩
theorem gFirst : Tryd.prog.globalNamed "scrivener/digest.first" = some 0 := by kernel_rfl
theorem gNumbers : Tryd.prog.globalNamed "scrivener/digest.numbers" = some 1 := by kernel_rfl
theorem gFirstType : (Tryd.prog.globals[0]?).map (·.type) = some 50 := by kernel_rfl
theorem gNumbersType : (Tryd.prog.globals[1]?).map (·.type) = some 65 := by kernel_rfl
theorem undState : Tryd.prog.underlying 50 = some (.array 8 48) := by kernel_rfl
theorem und64u32 : Tryd.prog.underlying 65 = some (.array 64 48) := by kernel_rfl
theorem undU32 : Tryd.prog.underlying 48 = some (.int .u32) := by kernel_rfl
theorem cellsState : Tryd.prog.cellsOf 50 = 8 := by kernel_rfl
theorem cells64u32 : Tryd.prog.cellsOf 65 = 64 := by kernel_rfl
theorem cellsU32 : Tryd.prog.cellsOf 48 = 1 := by kernel_rfl
theorem tabs_of_laid {W : World} (h : laidMetH Tryd.prog [("scrivener/digest.first", Rows.laid_scrivener_digest_first), ("scrivener/digest.numbers", Rows.laid_scrivener_digest_numbers)] W) : Tabs W := by
  have h1 : laidMet Tryd.prog [("scrivener/digest.first", Lib.tabData .u32 (Hs.map fun n : Nat => ((n : Nat) : Int))), ("scrivener/digest.numbers", Lib.tabData .u32 (Ks.map fun n : Nat => ((n : Nat) : Int)))] W := h
  have t1 := Lib.tabIs_of_head gFirst gFirstType undState undU32 cellsU32 cellsState h1
  have t2 := Lib.tabIs_of_head gNumbers gNumbersType und64u32 undU32 cellsU32 cells64u32 (laidMet_tail h1)
  refine ⟨fun j hj => ?_, fun j hj => ?_⟩
  · rw [t2.cell gNumbers j (by rw [List.length_map]; exact hj), List.getD_eq_getElem?_getD, List.getElem?_map, List.getD_eq_getElem?_getD, List.getElem?_eq_getElem (show j < Ks.length from hj)]
    rfl
  · rw [t1.cell gFirst j (by rw [List.length_map]; exact hj), List.getD_eq_getElem?_getD, List.getElem?_map, List.getD_eq_getElem?_getD, List.getElem?_eq_getElem (show j < Hs.length from hj)]
    rfl
end Go.Proofs.YtmkeifhfjhknjaaDoor
