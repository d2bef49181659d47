/- What the rows' list of package-level tables gives: the two tables of digest, where they lie. -/
import Derived.Test.YtafookdllnhdaaaDoorRows
import Derived.Test.YtafookdllnhdaaaDoorMa6
import Derived.Lib.LaidTab
import Derived.Deep.DeepHandedRow
import Derived.WalkKit
import Derived.ProofKit
namespace Go.Proofs.YtafookdllnhdaaaDoor
open Go.RowKit Go.Scr
set_option linter.unusedVariables false

theorem laidMet_tail {P : Program} {x : String × DataW Unit} {rest : List (String × DataW Unit)} {W : World} (h : laidMet P (x :: rest) W) : laidMet P rest W := by
  obtain ⟨ps, ⟨g, t, cs, fuel, p, q, hg, ht, hvar, hd, hr, rfl⟩, hn, hc⟩ := h
  exact ⟨q, hr, (List.nodup_append.mp hn).2.1, fun b off hb => hc b off (List.mem_append_right _ hb)⟩
theorem gFirst : Tryd.prog.globalNamed "scrivener/digest.first" = some 2 := by kernel_rfl
theorem gNumbers : Tryd.prog.globalNamed "scrivener/digest.numbers" = some 3 := by kernel_rfl
theorem gFirstType : (Tryd.prog.globals[2]?).map (·.type) = some 125 := by kernel_rfl
theorem gNumbersType : (Tryd.prog.globals[3]?).map (·.type) = some 135 := by kernel_rfl
theorem undState : Tryd.prog.underlying 125 = some (.array 8 99) := by kernel_rfl
theorem und64u32 : Tryd.prog.underlying 135 = some (.array 64 99) := by kernel_rfl
theorem undU32 : Tryd.prog.underlying 99 = some (.int .u32) := by kernel_rfl
theorem cellsState : Tryd.prog.cellsOf 125 = 8 := by kernel_rfl
theorem cells64u32 : Tryd.prog.cellsOf 135 = 64 := by kernel_rfl
theorem cellsU32 : Tryd.prog.cellsOf 99 = 1 := by kernel_rfl
theorem tabs_of_laid {W : World} (h : laidMetH Tryd.prog [("scrivener/digest.first", Rows.laid_scrivener_digest_first), ("scrivener/digest.numbers", Rows.laid_scrivener_digest_numbers)] W) : Tabs W := by
  have h1 : laidMet Tryd.prog [("scrivener/digest.first", Lib.tabData .u32 (Hs.map fun n : Nat => ((n : Nat) : Int))), ("scrivener/digest.numbers", Lib.tabData .u32 (Ks.map fun n : Nat => ((n : Nat) : Int)))] W := h
  have t1 := Lib.tabIs_of_head gFirst gFirstType undState undU32 cellsU32 cellsState h1
  have t2 := Lib.tabIs_of_head gNumbers gNumbersType und64u32 undU32 cellsU32 cells64u32 (laidMet_tail h1)
  refine ⟨fun j hj => ?_, fun j hj => ?_⟩
  · rw [t2.cell gNumbers j (by rw [List.length_map]; exact hj), List.getD_eq_getElem?_getD, List.getElem?_map, List.getD_eq_getElem?_getD, List.getElem?_eq_getElem (show j < Ks.length from hj)]
    rfl
  · rw [t1.cell gFirst j (by rw [List.length_map]; exact hj), List.getD_eq_getElem?_getD, List.getElem?_map, List.getD_eq_getElem?_getD, List.getElem?_eq_getElem (show j < Hs.length from hj)]
    rfl
end Go.Proofs.YtafookdllnhdaaaDoor
/- What a law's row asks behind the call, where below the heap's old size nothing has turned: new blocks may bear any mark. -/
namespace Go.Proofs.YtafookdllnhdaaaDoor
open Go.ChangeShapes Go.WideShapes Go.ChangeAt Go.RowKit
set_option linter.unusedVariables false

theorem post_below {H : Type} {enc : TypeId × Value → H} {P : Program} {f : Func} {s : ChangeSpec} {apart fresh handsOn again : Bool} {W W' : World} {args : Array Value} {v : Value} {ds gs : List (DataW H)} {before pa pv : List MemPlace}
    (hW : DataW.Whole enc P f.params.toList s.vars apart W args.toList ds gs before)
    (hres : ∀ (b : Nat) (sp : Nat → Bool) (hd : Bool), DataW.TrodAll enc P W' b sp hd f.resultTypes.toList (v.resultList f.resultTypes.size) (s.fn H (ds ++ gs)).results [])
    (hargs : ∀ sp : Nat → Bool, (∀ p ∈ before, sp p.block = true) → DataW.TrodAll enc P W' 0 sp true f.params.toList args.toList (s.fn H (ds ++ gs)).args pa)
    (hvars : ∀ sp : Nat → Bool, (∀ p ∈ before, sp p.block = true) → DataW.TrodVars enc P W' sp s.vars (s.fn H (ds ++ gs)).vars pv)
    (hps : before = pa ++ pv) (hb : Below W.heap.size W W')
    (hok : ∀ (j : Nat) (t : TypeId) (r : Value), f.resultTypes[j]? = some t → (v.resultList f.resultTypes.size)[j]? = some r → Value.okWide P W' .any 0 t r) :
    s.post enc P f apart fresh handsOn again W args v W' := by
  have hlt : ∀ p ∈ before, p.block < W.heap.size := fun p hp => hW.lt p hp
  have hold : ∀ p ∈ before, (fun b => decide (b < W.heap.size)) p.block = true := fun p hp => by simpa using hW.lt p hp
  refine ⟨ds, gs, before, [], pa, pv, hW, hres _ _ _, hargs _ hold, hvars _ hold, World.keptBut_mono (fun p hp => ⟨hp, ?_⟩) (hb.frame _), fun _ => ?_⟩
  · rw [hps, List.mem_append] at hp
    exact Or.inr hp
  · obtain ⟨_, _, _, _, _, hz, hn⟩ := hW
    refine ⟨hok, _, _, ([] ++ pa) ++ pv, ⟨[] ++ pa, pv, trodAll_append (hargs _ (fun _ _ => rfl)) (hres _ _ _), hvars _ (fun _ _ => rfl), rfl, ?_, ?_⟩, ?_⟩
    · intro b off hp
      have hp' : MemPlace.cell b off ∈ before := by rw [hps]; simpa using hp
      rw [hb.frozen (hlt _ hp')]
      exact hz b off hp'
    · intro ha
      have := hn ha
      rw [hps] at this
      simpa using this
    · intro p hp _
      rw [hps]
      simpa using hp
end Go.Proofs.YtafookdllnhdaaaDoor
