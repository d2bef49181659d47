/- FrontPlays (upto): for every argument the law's call returns true and leaves what was there untouched. The two tables of the package digest hold what the program's text lays. -/
import Derived.Test.YtdbghgpohdijfaaDoorCards
import Derived.Test.YtdbghgpohdijfaaDoorTie
import Derived.Test.YtdbghgpohdijfaaDoorMa13
import Derived.Test.YtdbghgpohdijfaaDoorMa7
import Derived.Test.YtdbghgpohdijfaaDoorMa22
import Derived.Test.YtdbghgpohdijfaaDoorMa72
import Derived.WalkKit
import Derived.ProofKit
import Derived.OpenShut
import Derived.ChangeMaps5
import Derived.SizedLaws
import Derived.Carry
import Derived.Deep.DeepHandedRow
namespace Go.Proofs.YtdbghgpohdijfaaDoor.frontPlays
open Go.ChangeShapes Go.WideShapes Go.ChangeAt Go.RowKit Go.Scr
set_option linter.unusedVariables false

theorem own : ownKnob Tryd.prog.godebug = none := by kernel_rfl
theorem laidOut : laidOutB Tryd.prog = true := by kernel_rfl
theorem undString : Tryd.prog.underlying 9 = some .string := by kernel_rfl

set_option maxRecDepth 100000 in
theorem contract (H : Type) (enc : TypeId × Value → H) (W : World) (base : Nat) (args : Array Value) (ds gs : List (DataW H)) (before : List MemPlace)
    (hval : ∀ (j : Nat) t v, Tryd.f6.params[j]? = some t → args[j]? = some v → Value.okWide Tryd.prog W .any base t v)
    (hW : DataW.Whole enc Tryd.prog Tryd.f6.params.toList Rows.frontPlaysSpec.vars false W args.toList ds gs before) (hL : laidMetH Tryd.prog Rows.frontPlaysRow.laid W)
    (hS : (DataW.weightsEach Tryd.prog Tryd.f6.params.toList ds).all (· ≤ reachBytes) = true) (hU : Rows.uptoSmall H ds = true) :
    Calls Tryd.prog 6 args W fun e W' => ∃ v, e = .returned v ∧ Rows.frontPlaysSpec.post enc Tryd.prog Tryd.f6 false true false false W args v W' := by
  have HT := bas_of_laid hL
  have hW' := hW
  obtain ⟨p, q, hA0, hV, rfl, hfz, hnd⟩ := hW
  have hA : DataW.TrodAll enc Tryd.prog W 0 (fun _ => true) true Tryd.f6.params.toList args.toList ds p := hA0
  rw [Tryd.params6] at hA hval hS
  obtain ⟨v0, vs0, d0, ds0, p0, q0, ha0, rfl, rfl, h0, r0⟩ := trodAll_cons hA
  obtain ⟨rfl, rfl, rfl⟩ := trodAll_nil r0
  obtain rfl : args = #[v0] := by cases args; simp_all
  obtain ⟨rfl, rfl⟩ := trodVars_none hV
  have hbk := bulk_bound hU
  simp only [Rows.uptoBulkAll] at hbk
  obtain ⟨L0, hL0⟩ := arg_opsF Tryd.underlying42 Tryd.underlying54 (by kernel_rfl) (by kernel_rfl) (by kernel_rfl) (by kernel_rfl) (by kernel_rfl) (by kernel_rfl) (by kernel_rfl) (by kernel_rfl) (hval 0 42 v0 rfl rfl) h0 (by omega)
  clear hA0 hval hS
  have hltW : ∀ x ∈ ((p0 ++ ([] : List MemPlace)) ++ []), x.block < W.heap.size := fun x hx => hW'.lt x hx
  have walk := frontplays_any HT hL0
  refine walk.mono fun e W' ⟨he, hb⟩ => ?_
  subst he
  exact ⟨_, rfl, post_below (pv := []) hW' (fun _ _ _ => trodAll_cons_mk (shut_bool Tryd.underlying4 _) trodAll_mk0) (fun sp hsp => trodAll_cons_mk (WideElems.Trod_stays laidOut (by kernel_rfl) (of_decide_eq_true (by kernel_rfl)) h0 (fun x hx => hb.same (hltW x (by simp [hx]))) (fun x hx => hsp x (by simp [hx]))) (trodAll_mk0)) (fun _ _ => rfl) (by simp)
    hb (ok_one (by kernel_rfl) rfl (okWide_bool_mk Tryd.underlying4 _))⟩

def layCells (h : Array Obj) (g : Nat) (cs : Array Value) : Array Obj :=
  h.modify g fun
    | .cells _ t frozen => .cells cs t frozen
    | o => o
/-- a world for the witness: the settled one, the tables holding what their initialisers lay -/
noncomputable def laidWorld (os : Os) : World :=
  { World.holding Tryd.prog os ⟨#[], #[], []⟩ with heap := layCells (layCells (layCells (layCells (World.holding Tryd.prog os ⟨#[], #[], []⟩).heap 2 ((Lib.deBruijn32tab.map fun n : Nat => Value.int .u8 ((n : Nat) : Int)).toArray)) 3 ((Lib.deBruijn64tab.map fun n : Nat => Value.int .u8 ((n : Nat) : Int)).toArray)) 0 ((Hs.map fun n : Nat => Value.int .u32 ((n : Nat) : Int)).toArray)) 1 ((Ks.map fun n : Nat => Value.int .u32 ((n : Nat) : Int)).toArray) }
theorem laid_met (os : Os) : laidMet Tryd.prog Rows.frontPlaysUptoRow.laid ((laidWorld os).forCall (fun _ _ => 0) ⟨#[], #[.slice none 0 0], []⟩).memory :=
  laidMet_of_run' 80 (by kernel_rfl) (by kernel_rfl)
theorem reads (os : Os) {H : Type} (enc : TypeId × Value → H) : ∃ places, DataW.whole enc Tryd.prog ((laidWorld os).forCall (fun _ _ => 0) ⟨#[], #[.slice none 0 0], []⟩).memory Tryd.f6.params.toList Rows.frontPlaysSpec.vars false (#[.slice none 0 0] : Array Value).toList 8 = some ([.nil], [], places) :=
  ⟨[], by kernel_rfl⟩

set_option maxRecDepth 100000 in
theorem lifted (os : Os) (started : os.Started) (H : Type) (enc : TypeId × Value → H) (F : Stop.Interp) :
    ReturnsInHanded {} Tryd.checked os 6 .any ((Rows.OpenSpec.upto Rows.frontPlaysSpec).preRow enc Tryd.prog Tryd.f6 Rows.frontPlaysUptoRow.domain false Rows.frontPlaysUptoRow.laid) (((Rows.OpenSpec.upto Rows.frontPlaysSpec).at F).post enc Tryd.prog Tryd.f6 false true false false) := by
  obtain ⟨places, hx⟩ := reads os enc
  refine returnsInHanded_of_row (C := Tryd.checked) (s := Rows.OpenSpec.upto Rows.frontPlaysSpec) own started (by kernel_rfl) Tryd.func6
    (witness_row_at (enc := enc) (C := Tryd.checked) false (laidWorld os) #[.slice none 0 0] rfl (by kernel_rfl) (by kernel_rfl) (by kernel_rfl)
      (OpenSpec.preRow_of_cond 8 hx (by kernel_rfl) (fun k hk => by cases hk; kernel_rfl) (by kernel_rfl) (laid_met os))) ?_
  intro W base args ds gs before hval hW _ hcond hS hL _ _
  have hgs : gs = [] := by
    obtain ⟨p, q, _, hV, _⟩ := hW
    exact (trodVars_none hV).1
  subst hgs
  exact contract H enc W base args ds [] before hval hW hL (by have h := hS; change (DataW.weightsEach Tryd.prog (Tryd.f6.params.toList ++ []) (ds ++ [])).all _ = true at h; rw [List.append_nil, List.append_nil] at h; exact h) (by have h := hcond _ rfl; rw [List.append_nil] at h; exact h)

theorem said : Rows.FrontPlaysUptoSaid :=
  OpenClaim.holds_of_cond 6 Tryd.f6 rfl rfl rfl rfl rfl rfl rfl ⟨rfl, rfl, rfl, rfl, rfl⟩ rfl rfl rfl rfl rfl (by kernel_rfl) Tryd.func6 (by kernel_rfl)
    (of_decide_eq_true (by kernel_rfl)) (by unfold Func.isWrapper; first | (rw [if_pos (by decide +kernel)]; kernel_rfl) | (rw [if_neg (by decide +kernel)]; exact ⟨rfl, rfl⟩))
    (fun os started H enc _ F => by rw [OpenClaim.pre_eq_preRow]; exact lifted os started H enc F)
theorem plain (f : FuncId) (fn : Func) (hf : Tryd.pinned.checked.prog.funcNamed "scrivener/scrivenerlaw5.FrontPlays" = some f) (hfn : Tryd.pinned.checked.prog.funcs[f]? = some fn) :
    true = Tryd.pinned.checked.prog.looks [] ∧ ∀ (j : Nat) t, fn.params[j]? = some t → Tryd.pinned.checked.prog.wantsStandIn t = false := by
  obtain rfl : f = 6 := Option.some.inj ((show Tryd.prog.funcNamed "scrivener/scrivenerlaw5.FrontPlays" = some 6 by kernel_rfl).symm.trans hf) |>.symm
  obtain rfl : fn = Tryd.f6 := (Option.some.inj (Tryd.func6.symm.trans hfn)).symm
  refine ⟨by kernel_rfl, fun j t ht => ?_⟩
  rw [Tryd.params6] at ht
  have hall : ∀ t ∈ ([42] : List TypeId), Tryd.prog.wantsStandIn t = false := by
    intro t ht
    simp only [List.mem_cons, List.not_mem_nil, or_false] at ht
    rcases ht with rfl <;> kernel_rfl
  exact hall t (by simpa using Array.mem_of_getElem? ht)

/-- THE CARD -/
theorem card : Rows.FrontPlaysUptoCardSaid :=
  Claim7.holds_tied_plain_at .later [] _ _ _ _ said (fun _ h => by cases h) (by kernel_rfl) (fun _ h => by cases h) frontPlaysUpto_row_tie rfl ⟨rfl, rfl⟩ (by kernel_rfl) rfl plain (by kernel_rfl)
#print axioms card
end Go.Proofs.YtdbghgpohdijfaaDoor.frontPlays
