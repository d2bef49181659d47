/- ExtractPlays (upto): for every argument the law's call returns true and leaves what was there untouched. The two tables of the package digest hold what the program's text lays. -/
import Derived.Test.YtdbghgpohdijfaaGreatDoorCards
import Derived.Test.YtdbghgpohdijfaaGreatDoorTie
import Derived.Test.YtdbghgpohdijfaaGreatDoorMa11
import Derived.Test.YtdbghgpohdijfaaGreatDoorMa6
import Derived.Test.YtdbghgpohdijfaaGreatDoorMa50
import Derived.WalkKit
import Derived.ProofKit
import Derived.OpenShut
import Derived.ChangeMaps5
import Derived.SizedLaws
import Derived.Carry
import Derived.Deep.DeepHandedRow
namespace Go.Proofs.YtdbghgpohdijfaaGreatDoor.extractPlays
open Go.ChangeShapes Go.WideShapes Go.ChangeAt Go.RowKit Go.Scr
set_option linter.unusedVariables false

theorem own : ownKnob Tryz.prog.godebug = none := by kernel_rfl
theorem laidOut : laidOutB Tryz.prog = true := by kernel_rfl
theorem undString : Tryz.prog.underlying 9 = some .string := by kernel_rfl

set_option maxRecDepth 100000 in
theorem contract (H : Type) (enc : TypeId × Value → H) (W : World) (base : Nat) (args : Array Value) (ds gs : List (DataW H)) (before : List MemPlace)
    (hval : ∀ (j : Nat) t v, Tryz.f3.params[j]? = some t → args[j]? = some v → Value.okWide Tryz.prog W .any base t v)
    (hW : DataW.Whole enc Tryz.prog Tryz.f3.params.toList Rows.extractPlaysSpec.vars false W args.toList ds gs before) (hL : laidMetH Tryz.prog Rows.extractPlaysRow.laid W)
    (hS : (DataW.weightsEach Tryz.prog Tryz.f3.params.toList ds).all (· ≤ reachBytes) = true) (hU : Rows.uptoSmall H ds = true) :
    Calls Tryz.prog 3 args W fun e W' => ∃ v, e = .returned v ∧ Rows.extractPlaysSpec.post enc Tryz.prog Tryz.f3 false true false false W args v W' := by
  have HT := tabs_of_laid hL
  have hW' := hW
  obtain ⟨p, q, hA0, hV, rfl, hfz, hnd⟩ := hW
  have hA : DataW.TrodAll enc Tryz.prog W 0 (fun _ => true) true Tryz.f3.params.toList args.toList ds p := hA0
  rw [Tryz.params3] at hA hval hS
  obtain ⟨v0, vs0, d0, ds0, p0, q0, ha0, rfl, rfl, h0, r0⟩ := trodAll_cons hA
  obtain ⟨v1, vs1, d1, ds1, p1, q1, ha1, rfl, rfl, h1, r1⟩ := trodAll_cons r0
  obtain ⟨v2, vs2, d2, ds2, p2, q2, ha2, rfl, rfl, h2, r2⟩ := trodAll_cons r1
  obtain ⟨v3, vs3, d3, ds3, p3, q3, ha3, rfl, rfl, h3, r3⟩ := trodAll_cons r2
  obtain ⟨v4, vs4, d4, ds4, p4, q4, ha4, rfl, rfl, h4, r4⟩ := trodAll_cons r3
  obtain ⟨v5, vs5, d5, ds5, p5, q5, ha5, rfl, rfl, h5, r5⟩ := trodAll_cons r4
  obtain ⟨v6, vs6, d6, ds6, p6, q6, ha6, rfl, rfl, h6, r6⟩ := trodAll_cons r5
  obtain ⟨v7, vs7, d7, ds7, p7, q7, ha7, rfl, rfl, h7, r7⟩ := trodAll_cons r6
  obtain ⟨v8, vs8, d8, ds8, p8, q8, ha8, rfl, rfl, h8, r8⟩ := trodAll_cons r7
  obtain ⟨rfl, rfl, rfl⟩ := trodAll_nil r8
  subst ha8
  subst ha7
  subst ha6
  subst ha5
  subst ha4
  subst ha3
  subst ha2
  subst ha1
  obtain rfl : args = #[v0, v1, v2, v3, v4, v5, v6, v7, v8] := by cases args; simp_all
  obtain ⟨rfl, rfl⟩ := trodVars_none hV
  obtain ⟨s0, rfl, rfl, rfl, hz0⟩ := open_int (show Tryz.prog.underlying 3 = some (.int .i64) by kernel_rfl) (hval 0 3 v0 rfl rfl) h0
  have hi0 : -9223372036854775808 ≤ s0 ∧ s0 ≤ 9223372036854775807 := by have h := hz0; simp only [Lit.wf, Bool.and_eq_true, decide_eq_true_eq] at h; exact ⟨h.1, h.2⟩
  obtain ⟨s1, rfl, rfl, rfl, hz1⟩ := open_int (show Tryz.prog.underlying 3 = some (.int .i64) by kernel_rfl) (hval 1 3 v1 rfl rfl) h1
  have hi1 : -9223372036854775808 ≤ s1 ∧ s1 ≤ 9223372036854775807 := by have h := hz1; simp only [Lit.wf, Bool.and_eq_true, decide_eq_true_eq] at h; exact ⟨h.1, h.2⟩
  obtain ⟨s2, rfl, rfl, rfl, hm2⟩ := ChangeMaps.open_string undString (hval 2 9 v2 rfl rfl) h2
  have hz2 : s2.size ≤ 140737488351232 := by have := sized_string hS (j := 2) rfl rfl; simpa [reachBytes] using this
  obtain ⟨s3, rfl, rfl, rfl, hm3⟩ := ChangeMaps.open_string undString (hval 3 9 v3 rfl rfl) h3
  have hz3 : s3.size ≤ 140737488351232 := by have := sized_string hS (j := 3) rfl rfl; simpa [reachBytes] using this
  obtain ⟨s5, rfl, rfl, rfl, hm5⟩ := ChangeMaps.open_string undString (hval 5 9 v5 rfl rfl) h5
  have hz5 : s5.size ≤ 140737488351232 := by have := sized_string hS (j := 5) rfl rfl; simpa [reachBytes] using this
  obtain ⟨s7, rfl, rfl, rfl, hz7⟩ := open_int (show Tryz.prog.underlying 3 = some (.int .i64) by kernel_rfl) (hval 7 3 v7 rfl rfl) h7
  have hi7 : -9223372036854775808 ≤ s7 ∧ s7 ≤ 9223372036854775807 := by have h := hz7; simp only [Lit.wf, Bool.and_eq_true, decide_eq_true_eq] at h; exact ⟨h.1, h.2⟩
  obtain ⟨s8, rfl, rfl, rfl, hm8⟩ := ChangeMaps.open_string undString (hval 8 9 v8 rfl rfl) h8
  have hz8 : s8.size ≤ 140737488351232 := by have := sized_string hS (j := 8) rfl rfl; simpa [reachBytes] using this
  have hbk := bulk_bound hU
  simp only [Rows.uptoBulkAll] at hbk
  have hy2 : s2.size ≤ 1048576 := by have h := hbk; simp only [bulk_str_size] at h; omega
  have hy3 : s3.size ≤ 1048576 := by have h := hbk; simp only [bulk_str_size] at h; omega
  obtain ⟨L4, hL4, hN4⟩ := arg_strs Tryz.underlying22 undString (by kernel_rfl) (hval 4 22 v4 rfl rfl) h4 (by omega)
  have hy5 : s5.size ≤ 1048576 := by have h := hbk; simp only [bulk_str_size] at h; omega
  obtain ⟨L6, hL6, hN6⟩ := arg_strs Tryz.underlying22 undString (by kernel_rfl) (hval 6 22 v6 rfl rfl) h6 (by omega)
  have hy8 : s8.size ≤ 1048576 := by have h := hbk; simp only [bulk_str_size] at h; omega
  clear hA0 hval hS
  have hltW : ∀ x ∈ (([] ++ ([] ++ ([] ++ ([] ++ (p4 ++ ([] ++ (p6 ++ ([] ++ ([] ++ ([] : List MemPlace)))))))))) ++ []), x.block < W.heap.size := fun x hx => hW'.lt x hx
  have walk := extractplays_any (s := s0) (i := s1) (root := s2) (leaf := s3) (other := s5) (f := s7) (old := s8) HT hL4 hL6 (by omega) (by omega) hy2 hy3
  refine walk.mono fun e W' ⟨he, hb⟩ => ?_
  subst he
  exact ⟨_, rfl, post_below (pv := []) hW' (fun _ _ _ => trodAll_cons_mk (shut_bool Tryz.underlying4 _) trodAll_mk0) (fun sp hsp => trodAll_cons_mk (shut_int (show Tryz.prog.underlying 3 = some (.int .i64) by kernel_rfl) hz0) (trodAll_cons_mk (shut_int (show Tryz.prog.underlying 3 = some (.int .i64) by kernel_rfl) hz1) (trodAll_cons_mk (ChangeMaps.shut_string undString hm2) (trodAll_cons_mk (ChangeMaps.shut_string undString hm3) (trodAll_cons_mk (WideElems.Trod_stays laidOut (by kernel_rfl) (of_decide_eq_true (by kernel_rfl)) h4 (fun x hx => hb.same (hltW x (by simp [hx]))) (fun x hx => hsp x (by simp [hx]))) (trodAll_cons_mk (ChangeMaps.shut_string undString hm5) (trodAll_cons_mk (WideElems.Trod_stays laidOut (by kernel_rfl) (of_decide_eq_true (by kernel_rfl)) h6 (fun x hx => hb.same (hltW x (by simp [hx]))) (fun x hx => hsp x (by simp [hx]))) (trodAll_cons_mk (shut_int (show Tryz.prog.underlying 3 = some (.int .i64) by kernel_rfl) hz7) (trodAll_cons_mk (ChangeMaps.shut_string undString hm8) (trodAll_mk0)))))))))) (fun _ _ => rfl) (by simp)
    hb (ok_one (by kernel_rfl) rfl (okWide_bool_mk Tryz.underlying4 _))⟩

def layCells (h : Array Obj) (g : Nat) (cs : Array Value) : Array Obj :=
  h.modify g fun
    | .cells _ t frozen => .cells cs t frozen
    | o => o
/-- a world for the witness: the settled one, the tables holding what their initialisers lay -/
noncomputable def laidWorld (os : Os) : World :=
  { World.holding Tryz.prog os ⟨#[], #[], []⟩ with heap := layCells (layCells (World.holding Tryz.prog os ⟨#[], #[], []⟩).heap 0 ((Hs.map fun n : Nat => Value.int .u32 ((n : Nat) : Int)).toArray)) 1 ((Ks.map fun n : Nat => Value.int .u32 ((n : Nat) : Int)).toArray) }
theorem laid_met (os : Os) : laidMet Tryz.prog Rows.extractPlaysUptoRow.laid ((laidWorld os).forCall (fun _ _ => 0) ⟨#[], #[.int .i64 0, .int .i64 0, .string ⟨#[]⟩, .string ⟨#[]⟩, .slice none 0 0, .string ⟨#[]⟩, .slice none 0 0, .int .i64 0, .string ⟨#[]⟩], []⟩).memory :=
  laidMet_of_run' 80 (by kernel_rfl) (by kernel_rfl)
theorem reads (os : Os) {H : Type} (enc : TypeId × Value → H) : ∃ places, DataW.whole enc Tryz.prog ((laidWorld os).forCall (fun _ _ => 0) ⟨#[], #[.int .i64 0, .int .i64 0, .string ⟨#[]⟩, .string ⟨#[]⟩, .slice none 0 0, .string ⟨#[]⟩, .slice none 0 0, .int .i64 0, .string ⟨#[]⟩], []⟩).memory Tryz.f3.params.toList Rows.extractPlaysSpec.vars false (#[.int .i64 0, .int .i64 0, .string ⟨#[]⟩, .string ⟨#[]⟩, .slice none 0 0, .string ⟨#[]⟩, .slice none 0 0, .int .i64 0, .string ⟨#[]⟩] : Array Value).toList 8 = some ([.lit (.int .i64 0), .lit (.int .i64 0), .lit (.string []), .lit (.string []), .nil, .lit (.string []), .nil, .lit (.int .i64 0), .lit (.string [])], [], places) :=
  ⟨[], by kernel_rfl⟩

set_option maxRecDepth 100000 in
theorem lifted (os : Os) (started : os.Started) (H : Type) (enc : TypeId × Value → H) (F : Stop.Interp) :
    ReturnsInHanded {} Tryz.checked os 3 .any ((Rows.OpenSpec.upto Rows.extractPlaysSpec).preRow enc Tryz.prog Tryz.f3 Rows.extractPlaysUptoRow.domain false Rows.extractPlaysUptoRow.laid) (((Rows.OpenSpec.upto Rows.extractPlaysSpec).at F).post enc Tryz.prog Tryz.f3 false true false false) := by
  obtain ⟨places, hx⟩ := reads os enc
  refine returnsInHanded_of_row (C := Tryz.checked) (s := Rows.OpenSpec.upto Rows.extractPlaysSpec) own started (by kernel_rfl) Tryz.func3
    (witness_row_at (enc := enc) (C := Tryz.checked) false (laidWorld os) #[.int .i64 0, .int .i64 0, .string ⟨#[]⟩, .string ⟨#[]⟩, .slice none 0 0, .string ⟨#[]⟩, .slice none 0 0, .int .i64 0, .string ⟨#[]⟩] rfl (by kernel_rfl) (by kernel_rfl) (by kernel_rfl)
      (OpenSpec.preRow_of_cond 8 hx (by kernel_rfl) (fun k hk => by cases hk; kernel_rfl) (by kernel_rfl) (laid_met os))) ?_
  intro W base args ds gs before hval hW _ hcond hS hL _ _
  have hgs : gs = [] := by
    obtain ⟨p, q, _, hV, _⟩ := hW
    exact (trodVars_none hV).1
  subst hgs
  exact contract H enc W base args ds [] before hval hW hL (by have h := hS; change (DataW.weightsEach Tryz.prog (Tryz.f3.params.toList ++ []) (ds ++ [])).all _ = true at h; rw [List.append_nil, List.append_nil] at h; exact h) (by have h := hcond _ rfl; rw [List.append_nil] at h; exact h)

theorem said : Rows.ExtractPlaysUptoSaid :=
  OpenClaim.holds_of_cond 3 Tryz.f3 rfl rfl rfl rfl rfl rfl rfl ⟨rfl, rfl, rfl, rfl, rfl⟩ rfl rfl rfl rfl rfl (by kernel_rfl) Tryz.func3 (by kernel_rfl)
    (of_decide_eq_true (by kernel_rfl)) (by unfold Func.isWrapper; first | (rw [if_pos (by decide +kernel)]; kernel_rfl) | (rw [if_neg (by decide +kernel)]; exact ⟨rfl, rfl⟩))
    (fun os started H enc _ F => by rw [OpenClaim.pre_eq_preRow]; exact lifted os started H enc F)
theorem plain (f : FuncId) (fn : Func) (hf : Tryz.pinned.checked.prog.funcNamed "scrivener/scrivenerlaw6.ExtractPlays" = some f) (hfn : Tryz.pinned.checked.prog.funcs[f]? = some fn) :
    true = Tryz.pinned.checked.prog.looks [] ∧ ∀ (j : Nat) t, fn.params[j]? = some t → Tryz.pinned.checked.prog.wantsStandIn t = false := by
  obtain rfl : f = 3 := Option.some.inj ((show Tryz.prog.funcNamed "scrivener/scrivenerlaw6.ExtractPlays" = some 3 by kernel_rfl).symm.trans hf) |>.symm
  obtain rfl : fn = Tryz.f3 := (Option.some.inj (Tryz.func3.symm.trans hfn)).symm
  refine ⟨by kernel_rfl, fun j t ht => ?_⟩
  rw [Tryz.params3] at ht
  have hall : ∀ t ∈ ([3, 3, 9, 9, 22, 9, 22, 3, 9] : List TypeId), Tryz.prog.wantsStandIn t = false := by
    intro t ht
    simp only [List.mem_cons, List.not_mem_nil, or_false] at ht
    rcases ht with rfl | rfl | rfl | rfl | rfl | rfl | rfl | rfl | rfl <;> kernel_rfl
  exact hall t (by simpa using Array.mem_of_getElem? ht)

/-- THE CARD -/
theorem card : Rows.ExtractPlaysUptoCardSaid :=
  Claim7.holds_tied_plain_at .later [] _ _ _ _ said (fun _ h => by cases h) (by kernel_rfl) (fun _ h => by cases h) extractPlaysUpto_row_tie rfl ⟨rfl, rfl⟩ (by kernel_rfl) rfl plain (by kernel_rfl)
#print axioms card
end Go.Proofs.YtdbghgpohdijfaaGreatDoor.extractPlays
