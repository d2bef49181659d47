/- SingleTells (upto): for every argument the law's call returns true and leaves what was there untouched. The two tables of the package digest hold what the program's text lays. -/
import Derived.Test.YtafookdllnhdaaaDoorCards
import Derived.Test.YtafookdllnhdaaaDoorTie
import Derived.Test.YtafookdllnhdaaaDoorMa13
import Derived.Test.YtafookdllnhdaaaDoorMa7
import Derived.Test.YtafookdllnhdaaaDoorMa24
import Derived.Test.YtafookdllnhdaaaDoorMa48
import Derived.WalkKit
import Derived.ProofKit
import Derived.OpenShut
import Derived.ChangeMaps5
import Derived.SizedLaws
import Derived.Carry
import Derived.Deep.DeepHandedRow
namespace Go.Proofs.YtafookdllnhdaaaDoor.singleTells
open Go.ChangeShapes Go.WideShapes Go.ChangeAt Go.RowKit Go.Scr
set_option linter.unusedVariables false

theorem own : ownKnob Tryd.prog.godebug = none := by kernel_rfl
theorem laidOut : laidOutB Tryd.prog = true := by kernel_rfl
theorem undString : Tryd.prog.underlying 9 = some .string := by kernel_rfl

set_option maxRecDepth 100000 in
set_option maxHeartbeats 2000000 in
theorem contract (H : Type) (enc : TypeId × Value → H) (W : World) (base : Nat) (args : Array Value) (ds gs : List (DataW H)) (before : List MemPlace)
    (hval : ∀ (j : Nat) t v, Tryd.f4.params[j]? = some t → args[j]? = some v → Value.okWide Tryd.prog W .any base t v)
    (hW : DataW.Whole enc Tryd.prog Tryd.f4.params.toList Rows.singleTellsSpec.vars false W args.toList ds gs before) (hL : laidMetH Tryd.prog Rows.singleTellsRow.laid W)
    (hS : (DataW.weightsEach Tryd.prog Tryd.f4.params.toList ds).all (· ≤ reachBytes) = true) (hU : Rows.uptoSmall H ds = true) :
    Calls Tryd.prog 4 args W fun e W' => ∃ v, e = .returned v ∧ Rows.singleTellsSpec.post enc Tryd.prog Tryd.f4 false true false false W args v W' := by
  have HT := bas_of_laid hL
  have hW' := hW
  obtain ⟨p, q, hA0, hV, rfl, hfz, hnd⟩ := hW
  have hA : DataW.TrodAll enc Tryd.prog W 0 (fun _ => true) true Tryd.f4.params.toList args.toList ds p := hA0
  rw [Tryd.params4] at hA hval hS
  obtain ⟨v0, vs0, d0, ds0, p0, q0, ha0, rfl, rfl, h0, r0⟩ := trodAll_cons hA
  obtain ⟨v1, vs1, d1, ds1, p1, q1, ha1, rfl, rfl, h1, r1⟩ := trodAll_cons r0
  obtain ⟨v2, vs2, d2, ds2, p2, q2, ha2, rfl, rfl, h2, r2⟩ := trodAll_cons r1
  obtain ⟨v3, vs3, d3, ds3, p3, q3, ha3, rfl, rfl, h3, r3⟩ := trodAll_cons r2
  obtain ⟨v4, vs4, d4, ds4, p4, q4, ha4, rfl, rfl, h4, r4⟩ := trodAll_cons r3
  obtain ⟨v5, vs5, d5, ds5, p5, q5, ha5, rfl, rfl, h5, r5⟩ := trodAll_cons r4
  obtain ⟨rfl, rfl, rfl⟩ := trodAll_nil r5
  subst ha5
  subst ha4
  subst ha3
  subst ha2
  subst ha1
  obtain rfl : args = #[v0, v1, v2, v3, v4, v5] := by cases args; simp_all
  obtain ⟨rfl, rfl⟩ := trodVars_none hV
  obtain ⟨s0, rfl, rfl, rfl, hz0⟩ := open_int (show Tryd.prog.underlying 3 = some (.int .i64) by kernel_rfl) (hval 0 3 v0 rfl rfl) h0
  have hi0 : -9223372036854775808 ≤ s0 ∧ s0 ≤ 9223372036854775807 := by have h := hz0; simp only [Lit.wf, Bool.and_eq_true, decide_eq_true_eq] at h; exact ⟨h.1, h.2⟩
  obtain ⟨s2, rfl, rfl, rfl, hz2⟩ := open_int (show Tryd.prog.underlying 3 = some (.int .i64) by kernel_rfl) (hval 2 3 v2 rfl rfl) h2
  have hi2 : -9223372036854775808 ≤ s2 ∧ s2 ≤ 9223372036854775807 := by have h := hz2; simp only [Lit.wf, Bool.and_eq_true, decide_eq_true_eq] at h; exact ⟨h.1, h.2⟩
  obtain ⟨s3, rfl, rfl, rfl, hz3⟩ := open_int (show Tryd.prog.underlying 3 = some (.int .i64) by kernel_rfl) (hval 3 3 v3 rfl rfl) h3
  have hi3 : -9223372036854775808 ≤ s3 ∧ s3 ≤ 9223372036854775807 := by have h := hz3; simp only [Lit.wf, Bool.and_eq_true, decide_eq_true_eq] at h; exact ⟨h.1, h.2⟩
  obtain ⟨s4, rfl, rfl, rfl, hz4⟩ := open_int (show Tryd.prog.underlying 3 = some (.int .i64) by kernel_rfl) (hval 4 3 v4 rfl rfl) h4
  have hi4 : -9223372036854775808 ≤ s4 ∧ s4 ≤ 9223372036854775807 := by have h := hz4; simp only [Lit.wf, Bool.and_eq_true, decide_eq_true_eq] at h; exact ⟨h.1, h.2⟩
  obtain ⟨s5, rfl, rfl, rfl, hz5⟩ := open_int (show Tryd.prog.underlying 3 = some (.int .i64) by kernel_rfl) (hval 5 3 v5 rfl rfl) h5
  have hi5 : -9223372036854775808 ≤ s5 ∧ s5 ≤ 9223372036854775807 := by have h := hz5; simp only [Lit.wf, Bool.and_eq_true, decide_eq_true_eq] at h; exact ⟨h.1, h.2⟩
  have hbk := bulk_bound hU
  simp only [Rows.uptoBulkAll] at hbk
  obtain ⟨L1, hL1, hN1⟩ := arg_ints Tryd.underlying48 (show Tryd.prog.underlying 3 = some (.int .i64) by kernel_rfl) (by kernel_rfl) (hval 1 48 v1 rfl rfl) h1 (by omega)
  clear hA0 hval hS
  have hltW : ∀ x ∈ (([] ++ (p1 ++ ([] ++ ([] ++ ([] ++ ([] ++ ([] : List MemPlace))))))) ++ []), x.block < W.heap.size := fun x hx => hW'.lt x hx
  have walk := singletells_any (x1 := s2) (x2 := s3) (x3 := s4) (x4 := s5) HT hL1 hi0
  refine walk.mono fun e W' ⟨he, hb⟩ => ?_
  subst he
  exact ⟨_, rfl, post_below (pv := []) hW' (fun _ _ _ => trodAll_cons_mk (shut_bool Tryd.underlying4 _) trodAll_mk0) (fun sp hsp => trodAll_cons_mk (shut_int (show Tryd.prog.underlying 3 = some (.int .i64) by kernel_rfl) hz0) (trodAll_cons_mk (WideElems.Trod_stays laidOut (by kernel_rfl) (of_decide_eq_true (by kernel_rfl)) h1 (fun x hx => hb.same (hltW x (by simp [hx]))) (fun x hx => hsp x (by simp [hx]))) (trodAll_cons_mk (shut_int (show Tryd.prog.underlying 3 = some (.int .i64) by kernel_rfl) hz2) (trodAll_cons_mk (shut_int (show Tryd.prog.underlying 3 = some (.int .i64) by kernel_rfl) hz3) (trodAll_cons_mk (shut_int (show Tryd.prog.underlying 3 = some (.int .i64) by kernel_rfl) hz4) (trodAll_cons_mk (shut_int (show Tryd.prog.underlying 3 = some (.int .i64) by kernel_rfl) hz5) (trodAll_mk0))))))) (fun _ _ => rfl) (by simp)
    hb (ok_one (by kernel_rfl) rfl (okWide_bool_mk Tryd.underlying4 _))⟩

def layCells (h : Array Obj) (g : Nat) (cs : Array Value) : Array Obj :=
  h.modify g fun
    | .cells _ t frozen => .cells cs t frozen
    | o => o
/-- a world for the witness: the settled one, the tables holding what their initialisers lay -/
noncomputable def laidWorld (os : Os) : World :=
  { World.holding Tryd.prog os ⟨#[], #[], []⟩ with heap := layCells (layCells (layCells (layCells (World.holding Tryd.prog os ⟨#[], #[], []⟩).heap 0 ((Lib.deBruijn32tab.map fun n : Nat => Value.int .u8 ((n : Nat) : Int)).toArray)) 1 ((Lib.deBruijn64tab.map fun n : Nat => Value.int .u8 ((n : Nat) : Int)).toArray)) 2 ((Hs.map fun n : Nat => Value.int .u32 ((n : Nat) : Int)).toArray)) 3 ((Ks.map fun n : Nat => Value.int .u32 ((n : Nat) : Int)).toArray) }
theorem laid_met (os : Os) : laidMet Tryd.prog Rows.singleTellsUptoRow.laid ((laidWorld os).forCall (fun _ _ => 0) ⟨#[], #[.int .i64 0, .slice none 0 0, .int .i64 0, .int .i64 0, .int .i64 0, .int .i64 0], []⟩).memory :=
  laidMet_of_run' 80 (by kernel_rfl) (by kernel_rfl)
theorem reads (os : Os) {H : Type} (enc : TypeId × Value → H) : ∃ places, DataW.whole enc Tryd.prog ((laidWorld os).forCall (fun _ _ => 0) ⟨#[], #[.int .i64 0, .slice none 0 0, .int .i64 0, .int .i64 0, .int .i64 0, .int .i64 0], []⟩).memory Tryd.f4.params.toList Rows.singleTellsSpec.vars false (#[.int .i64 0, .slice none 0 0, .int .i64 0, .int .i64 0, .int .i64 0, .int .i64 0] : Array Value).toList 8 = some ([.lit (.int .i64 0), .nil, .lit (.int .i64 0), .lit (.int .i64 0), .lit (.int .i64 0), .lit (.int .i64 0)], [], places) :=
  ⟨[], by kernel_rfl⟩

set_option maxRecDepth 100000 in
theorem lifted (os : Os) (started : os.Started) (H : Type) (enc : TypeId × Value → H) (F : Stop.Interp) :
    ReturnsInHanded {} Tryd.checked os 4 .any ((Rows.OpenSpec.upto Rows.singleTellsSpec).preRow enc Tryd.prog Tryd.f4 Rows.singleTellsUptoRow.domain false Rows.singleTellsUptoRow.laid) (((Rows.OpenSpec.upto Rows.singleTellsSpec).at F).post enc Tryd.prog Tryd.f4 false true false false) := by
  obtain ⟨places, hx⟩ := reads os enc
  refine returnsInHanded_of_row (C := Tryd.checked) (s := Rows.OpenSpec.upto Rows.singleTellsSpec) own started (by kernel_rfl) Tryd.func4
    (witness_row_at (enc := enc) (C := Tryd.checked) false (laidWorld os) #[.int .i64 0, .slice none 0 0, .int .i64 0, .int .i64 0, .int .i64 0, .int .i64 0] rfl (by kernel_rfl) (by kernel_rfl) (by kernel_rfl)
      (OpenSpec.preRow_of_cond 8 hx (by kernel_rfl) (fun k hk => by cases hk; kernel_rfl) (by kernel_rfl) (laid_met os))) ?_
  intro W base args ds gs before hval hW _ hcond hS hL _ _
  have hgs : gs = [] := by
    obtain ⟨p, q, _, hV, _⟩ := hW
    exact (trodVars_none hV).1
  subst hgs
  exact contract H enc W base args ds [] before hval hW hL (by have h := hS; change (DataW.weightsEach Tryd.prog (Tryd.f4.params.toList ++ []) (ds ++ [])).all _ = true at h; rw [List.append_nil, List.append_nil] at h; exact h) (by have h := hcond _ rfl; rw [List.append_nil] at h; exact h)

theorem said : Rows.SingleTellsUptoSaid :=
  OpenClaim.holds_of_cond 4 Tryd.f4 rfl rfl rfl rfl rfl rfl rfl ⟨rfl, rfl, rfl, rfl, rfl⟩ rfl rfl rfl rfl rfl (by kernel_rfl) Tryd.func4 (by kernel_rfl)
    (of_decide_eq_true (by kernel_rfl)) (by unfold Func.isWrapper; first | (rw [if_pos (by decide +kernel)]; kernel_rfl) | (rw [if_neg (by decide +kernel)]; exact ⟨rfl, rfl⟩))
    (fun os started H enc _ F => by rw [OpenClaim.pre_eq_preRow]; exact lifted os started H enc F)
theorem plain (f : FuncId) (fn : Func) (hf : Tryd.pinned.checked.prog.funcNamed "scrivener/scrivenerlaw11.SingleTells" = some f) (hfn : Tryd.pinned.checked.prog.funcs[f]? = some fn) :
    false = Tryd.pinned.checked.prog.looks [] ∧ ∀ (j : Nat) t, fn.params[j]? = some t → Tryd.pinned.checked.prog.wantsStandIn t = false := by
  obtain rfl : f = 4 := Option.some.inj ((show Tryd.prog.funcNamed "scrivener/scrivenerlaw11.SingleTells" = some 4 by kernel_rfl).symm.trans hf) |>.symm
  obtain rfl : fn = Tryd.f4 := (Option.some.inj (Tryd.func4.symm.trans hfn)).symm
  refine ⟨by kernel_rfl, fun j t ht => ?_⟩
  rw [Tryd.params4] at ht
  have hall : ∀ t ∈ ([3, 48, 3, 3, 3, 3] : List TypeId), Tryd.prog.wantsStandIn t = false := by
    intro t ht
    simp only [List.mem_cons, List.not_mem_nil, or_false] at ht
    rcases ht with rfl | rfl | rfl | rfl | rfl | rfl <;> kernel_rfl
  exact hall t (by simpa using Array.mem_of_getElem? ht)

/-- THE CARD -/
theorem card : Rows.SingleTellsUptoCardSaid :=
  Claim7.holds_tied_plain_at .later [] _ _ _ _ said (fun _ h => by cases h) (by kernel_rfl) (fun _ h => by cases h) singleTellsUpto_row_tie rfl ⟨rfl, rfl⟩ (by kernel_rfl) rfl plain (by kernel_rfl)
#print axioms card
end Go.Proofs.YtafookdllnhdaaaDoor.singleTells
