/- CacheNests (upto): for every argument the law's call returns true and leaves what was there untouched. -/
import Derived.Test.YthaccjjkbbkehaaAr2
import Derived.Test.YthaccjjkbbkehaaPo2
import Derived.Test.YthaccjjkbbkehaaCah
import Derived.WalkKit
import Derived.ProofKit
import Derived.OpenShut
import Derived.ChangeMaps5
import Derived.SizedLaws
import Derived.Carry
import Derived.Deep.DeepHandedRow
namespace Go.Proofs.Ythaccjjkbbkehaa.cacheNests
open Go.ChangeShapes Go.WideShapes Go.ChangeAt Go.RowKit Go.Scr
set_option linter.unusedVariables false

theorem own : ownKnob Try.prog.godebug = none := by kernel_rfl
theorem laidOut : laidOutB Try.prog = true := by kernel_rfl
theorem undString : Try.prog.underlying 9 = some .string := by kernel_rfl

set_option maxRecDepth 100000 in
theorem contract (H : Type) (enc : TypeId × Value → H) (W : World) (base : Nat) (args : Array Value) (ds gs : List (DataW H)) (before : List MemPlace)
    (hval : ∀ (j : Nat) t v, Try.f3.params[j]? = some t → args[j]? = some v → Value.okWide Try.prog W .any base t v)
    (hW : DataW.Whole enc Try.prog Try.f3.params.toList Rows.cacheNestsSpec.vars false W args.toList ds gs before) (hL : laidMetH Try.prog Rows.cacheNestsRow.laid W)
    (hS : (DataW.weightsEach Try.prog Try.f3.params.toList ds).all (· ≤ reachBytes) = true) (hU : Rows.uptoSmall H ds = true) :
    Calls Try.prog 3 args W fun e W' => ∃ v, e = .returned v ∧ Rows.cacheNestsSpec.post enc Try.prog Try.f3 false true false false W args v W' := by
  have hW' := hW
  obtain ⟨p, q, hA0, hV, rfl, hfz, hnd⟩ := hW
  have hA : DataW.TrodAll enc Try.prog W 0 (fun _ => true) true Try.f3.params.toList args.toList ds p := hA0
  rw [Try.params3] at hA hval hS
  obtain ⟨v0, vs0, d0, ds0, p0, q0, ha0, rfl, rfl, h0, r0⟩ := trodAll_cons hA
  obtain ⟨v1, vs1, d1, ds1, p1, q1, ha1, rfl, rfl, h1, r1⟩ := trodAll_cons r0
  obtain ⟨v2, vs2, d2, ds2, p2, q2, ha2, rfl, rfl, h2, r2⟩ := trodAll_cons r1
  obtain ⟨rfl, rfl, rfl⟩ := trodAll_nil r2
  subst ha2
  subst ha1
  obtain rfl : args = #[v0, v1, v2] := by cases args; simp_all
  obtain ⟨rfl, rfl⟩ := trodVars_none hV
  obtain ⟨s0, rfl, rfl, rfl, hz0⟩ := open_int (show Try.prog.underlying 3 = some (.int .i64) by kernel_rfl) (hval 0 3 v0 rfl rfl) h0
  have hi0 : -9223372036854775808 ≤ s0 ∧ s0 ≤ 9223372036854775807 := by have h := hz0; simp only [Lit.wf, Bool.and_eq_true, decide_eq_true_eq] at h; exact ⟨h.1, h.2⟩
  obtain ⟨s1, rfl, rfl, rfl, hz1⟩ := open_int (show Try.prog.underlying 3 = some (.int .i64) by kernel_rfl) (hval 1 3 v1 rfl rfl) h1
  have hi1 : -9223372036854775808 ≤ s1 ∧ s1 ≤ 9223372036854775807 := by have h := hz1; simp only [Lit.wf, Bool.and_eq_true, decide_eq_true_eq] at h; exact ⟨h.1, h.2⟩
  have hbk := bulk_bound hU
  simp only [Rows.uptoBulkAll] at hbk
  obtain ⟨L2, hL2, hN2⟩ := arg_ints Try.underlying22 (show Try.prog.underlying 3 = some (.int .i64) by kernel_rfl) (by kernel_rfl) (hval 2 22 v2 rfl rfl) h2 (by omega)
  clear hA0 hval hS
  have hltW : ∀ x ∈ (([] ++ ([] ++ (p2 ++ ([] : List MemPlace)))) ++ []), x.block < W.heap.size := fun x hx => hW'.lt x hx
  have walk := cnests_any s0 s1 v2 L2 W hi0 hi1 hL2
  refine walk.mono fun e W' ⟨he, hb⟩ => ?_
  subst he
  exact ⟨_, rfl, post_below (pv := []) hW' (fun _ _ _ => trodAll_cons_mk (shut_bool Try.underlying4 _) trodAll_mk0) (fun sp hsp => trodAll_cons_mk (shut_int (show Try.prog.underlying 3 = some (.int .i64) by kernel_rfl) hz0) (trodAll_cons_mk (shut_int (show Try.prog.underlying 3 = some (.int .i64) by kernel_rfl) hz1) (trodAll_cons_mk (WideElems.Trod_stays laidOut (by kernel_rfl) (of_decide_eq_true (by kernel_rfl)) h2 (fun x hx => hb.same (hltW x (by simp [hx]))) (fun x hx => hsp x (by simp [hx]))) (trodAll_mk0)))) (fun _ _ => rfl) (by simp)
    hb (ok_one (by kernel_rfl) rfl (okWide_bool_mk Try.underlying4 _))⟩

noncomputable def laidWorld (os : Os) : World := World.holding Try.prog os ⟨#[], #[], []⟩
theorem laid_met (os : Os) : laidMet Try.prog Rows.cacheNestsUptoRow.laid ((laidWorld os).forCall (fun _ _ => 0) ⟨#[], #[.int .i64 0, .int .i64 0, .slice none 0 0], []⟩).memory :=
  Go.laidMet_nil _ _
theorem reads (os : Os) {H : Type} (enc : TypeId × Value → H) : ∃ places, DataW.whole enc Try.prog ((laidWorld os).forCall (fun _ _ => 0) ⟨#[], #[.int .i64 0, .int .i64 0, .slice none 0 0], []⟩).memory Try.f3.params.toList Rows.cacheNestsSpec.vars false (#[.int .i64 0, .int .i64 0, .slice none 0 0] : Array Value).toList 8 = some ([.lit (.int .i64 0), .lit (.int .i64 0), .nil], [], places) :=
  ⟨[], by kernel_rfl⟩

set_option maxRecDepth 100000 in
theorem lifted (os : Os) (started : os.Started) (H : Type) (enc : TypeId × Value → H) (F : Stop.Interp) :
    ReturnsInHanded {} Try.checked os 3 .any ((Rows.OpenSpec.upto Rows.cacheNestsSpec).preRow enc Try.prog Try.f3 Rows.cacheNestsUptoRow.domain false Rows.cacheNestsUptoRow.laid) (((Rows.OpenSpec.upto Rows.cacheNestsSpec).at F).post enc Try.prog Try.f3 false true false false) := by
  obtain ⟨places, hx⟩ := reads os enc
  refine returnsInHanded_of_row (C := Try.checked) (s := Rows.OpenSpec.upto Rows.cacheNestsSpec) own started (by kernel_rfl) Try.func3
    (witness_row_at (enc := enc) (C := Try.checked) false (laidWorld os) #[.int .i64 0, .int .i64 0, .slice none 0 0] rfl (by kernel_rfl) (by kernel_rfl) (by kernel_rfl)
      (OpenSpec.preRow_of_cond 8 hx (by kernel_rfl) (fun k hk => by cases hk; kernel_rfl) (by kernel_rfl) (laid_met os))) ?_
  intro W base args ds gs before hval hW _ hcond hS hL _ _
  have hgs : gs = [] := by
    obtain ⟨p, q, _, hV, _⟩ := hW
    exact (trodVars_none hV).1
  subst hgs
  exact contract H enc W base args ds [] before hval hW hL (by have h := hS; change (DataW.weightsEach Try.prog (Try.f3.params.toList ++ []) (ds ++ [])).all _ = true at h; rw [List.append_nil, List.append_nil] at h; exact h) (by have h := hcond _ rfl; rw [List.append_nil] at h; exact h)

theorem said : Rows.CacheNestsUptoSaid :=
  OpenClaim.holds_of_cond 3 Try.f3 rfl rfl rfl rfl rfl rfl rfl ⟨rfl, rfl, rfl, rfl, rfl⟩ rfl rfl rfl rfl rfl (by kernel_rfl) Try.func3 (by kernel_rfl)
    (of_decide_eq_true (by kernel_rfl)) (by unfold Func.isWrapper; first | (rw [if_pos (by decide +kernel)]; kernel_rfl) | (rw [if_neg (by decide +kernel)]; exact ⟨rfl, rfl⟩))
    (fun os started H enc _ F => by rw [OpenClaim.pre_eq_preRow]; exact lifted os started H enc F)
#print axioms said
end Go.Proofs.Ythaccjjkbbkehaa.cacheNests
