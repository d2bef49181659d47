/- Law 11: the hashes of a path and of a proof are those of the spans of their shape. -/
import Derived.Test.YtblacbfkaamdgaaDoorMa27
namespace Go.Proofs.YtblacbfkaamdgaaDoor
open Go.RowKit Go.Scr Go.ChangeMaps Go.MapKept
set_option linter.unusedVariables false
set_option maxRecDepth 100000 in
set_option maxHeartbeats 8000000 in
theorem singleshapes_any {W : World} {s0 s2 s3 : Int} {v1 : Value} {Z : List Int} (hB : Bas W W.heap.size) (hz : Ints W v1 Z) (h0 : -9223372036854775808 ≤ s0 ∧ s0 ≤ 9223372036854775807) (h2 : -9223372036854775808 ≤ s2 ∧ s2 ≤ 9223372036854775807) (h3 : -9223372036854775808 ≤ s3 ∧ s3 ≤ 9223372036854775807) :
    Calls Tryd.prog 7 #[.int .i64 s0, v1, .int .i64 s2, .int .i64 s3] W fun o w' => o = .returned (.bool true) ∧ Below W.heap.size W w' := by
  have CK := Lib.hid (knownU_any hB)
  have CF : Hid (∀ w2, Below W.heap.size W w2 → Calls Tryd.prog 36 #[.int .i64 s0, v1] w2 fun o w' => ∃ tb, o = .returned (bpT tb) ∧ FiI w2 w' W.heap.size tb (1 + pickN s0 8) Z (min Z.length 300)) := Lib.hid (fun w2 hb2 => filledU_any (hB.below hb2) (ints_belowHK hz hb2 (Nat.le_refl _)) h0)
  obtain ⟨M, hM⟩ : ∃ M, M = min Z.length 300 := ⟨_, rfl⟩
  rw [← hM] at CF
  have hM3 : M ≤ 300 := by omega
  obtain ⟨L, hL⟩ : ∃ L, L = (Z.take M).map leafSU := ⟨_, rfl⟩
  have hLM : L.length = M := by rw [hL, List.length_map, List.length_take]; omega
  have HLM : Hid (L = (Z.take M).map leafSU ∧ L.length = M) := Lib.hid ⟨hL, hLM⟩
  have HBW := Lib.hid hB
  clear hB hz h0 hM hL hLM
  go_enter Tryd.func7, Tryd.ntmps7
  go_upto_region 3 with (first
    | (go_at_call 35; with_reducible refine CK.out.mono ?_; rintro o w0 ⟨rfl, hb0⟩; have HB0 := Lib.hid hb0; clear hb0)
    | (go_at_call 36; with_reducible refine (CF.out _ HB0.out).mono ?_; rintro o w1 ⟨tb, rfl, hf⟩; have HF := Lib.hid hf; clear hf))
  have HB1 : Hid (Below W.heap.size W w1) := Lib.hid (HB0.out.trans (HF.out.b.mono HB0.out.size))
  have HTU : Hid (∃ col, TreeU w1 W.heap.size tb (1 + pickN s0 8) L col) := Lib.hid (by obtain ⟨col, t, _⟩ := HF.out.t; rw [← HLM.out.1] at t; exact ⟨col, t⟩)
  have CS : Hid (Calls Tryd.prog 12 #[bpT tb] w1 fun o w' => o = .returned (.int .i64 (M : Int)) ∧ w' = w1) := Lib.hid (by obtain ⟨col, t⟩ := HTU.out; have := size_any t.t; rwa [HLM.out.2] at this)
  by_cases hM0 : M = 0
  · have hmz : ((M : Int) == 0) = true := by simp [hM0]
    clear hM0
    go_wp2_with (go_at_call 12; with_reducible refine CS.out.mono ?_; rintro o w' ⟨rfl, hww⟩; replace hww := hww.symm; subst hww)
    go_ret
    exact ⟨rfl, HB1.out⟩
  have hmz : ((M : Int) == 0) = false := by rw [beq_eq_false_iff_ne]; omega
  obtain ⟨a, ha⟩ : ∃ a, a = pickN s2 M := ⟨_, rfl⟩
  have haM : a < M := by rw [ha]; unfold pickN; split <;> exact Nat.mod_lt _ (by omega)
  have C1 := Lib.hid (pickU_any s2 M w1 (by omega) (by omega) h2)
  rw [← ha] at C1
  obtain ⟨N, hN⟩ : ∃ N, N = 1 + a := ⟨_, rfl⟩
  have hNi : (1 : Int) + (a : Int) = (N : Int) := by omega
  obtain ⟨m, hm⟩ : ∃ m, m = pickN s3 N := ⟨_, rfl⟩
  have hmN : m < N := by rw [hm]; unfold pickN; split <;> exact Nat.mod_lt _ (by omega)
  have C2 := Lib.hid (pickU_any s3 N w1 (by omega) (by omega) h3)
  rw [← hm] at C2
  obtain ⟨q, hq⟩ : ∃ q, q = m + 1 := ⟨_, rfl⟩
  have hqi : (m : Int) + 1 = (q : Int) := by omega
  have hN3 : N ≤ 300 := by omega
  have hq3 : q ≤ 300 := by omega
  obtain ⟨P, hP⟩ : ∃ P, P = (Go.Scr.pathT 0 N m).reverse := ⟨_, rfl⟩
  obtain ⟨U, hU⟩ : ∃ U, U = (Go.Scr.proofT 0 N q).reverse := ⟨_, rfl⟩
  obtain ⟨np, hnp⟩ : ∃ k, k = P.length := ⟨_, rfl⟩
  obtain ⟨nu, hnu⟩ : ∃ k, k = U.length := ⟨_, rfl⟩
  have CI : Hid (∀ w2, Below w1.heap.size w1 w2 → Calls Tryd.prog 38 #[bpT tb, .int .i64 (N : Int), .int .i64 (m : Int)] w2 fun r w' => ∃ v, r = .returned (.tuple #[v, .int .i64 0]) ∧ AlI w2 w' L P np v) := Lib.hid (fun w2 hb2 => by
    obtain ⟨col, t⟩ := HTU.out
    rw [hnp, hP]
    exact incl_at (t.below hb2) (HBW.out.below (HB1.out.trans (hb2.mono HB1.out.size))) hmN (by rw [HLM.out.2]; omega) (by rw [HLM.out.2]; omega))
  have CC : Hid (∀ w2, Below w1.heap.size w1 w2 → Calls Tryd.prog 40 #[bpT tb, .int .i64 (q : Int), .int .i64 (N : Int)] w2 fun r w' => ∃ v, r = .returned (.tuple #[v, .int .i64 0]) ∧ AlI w2 w' L U nu v) := Lib.hid (fun w2 hb2 => by
    obtain ⟨col, t⟩ := HTU.out
    rw [hnu, hU]
    exact cons_at (t.below hb2) (HBW.out.below (HB1.out.trans (hb2.mono HB1.out.size))) (by omega) (by omega) (by rw [HLM.out.2]; omega) (by rw [HLM.out.2]; omega))
  have CPa : Hid (∀ w2, Calls Tryd.prog 39 #[.int .i64 (N : Int), .int .i64 (m : Int)] w2 (SpOutK w2 P np)) := Lib.hid (fun w2 => by rw [hP]; exact sPathK w2 hmN (by omega) (by rw [hnp, hP]))
  have CPr : Hid (∀ w2, Calls Tryd.prog 41 #[.int .i64 (q : Int), .int .i64 (N : Int)] w2 (SpOutK w2 U nu)) := Lib.hid (fun w2 => by rw [hU]; exact sProofK w2 (by omega) (by omega) (by omega) (by rw [hnu, hU]))
  have HPF : Hid (∀ x ∈ P, x.1 ≤ x.2 ∧ x.2 ≤ L.length) := Lib.hid (fun x hx => by rw [hP] at hx; have := pathT_fitsK N 0 m x (List.mem_reverse.1 hx); rw [HLM.out.2]; omega)
  have HUF : Hid (∀ x ∈ U, x.1 ≤ x.2 ∧ x.2 ≤ L.length) := Lib.hid (fun x hx => by rw [hU] at hx; have := proofT_fitsK N 0 q (by omega) (by omega) x (List.mem_reverse.1 hx); rw [HLM.out.2]; omega)
  have HL : Hid (np = P.length ∧ nu = U.length) := Lib.hid ⟨hnp, hnu⟩
  have hnp3 : np ≤ 300 := by rw [hnp, hP, List.length_reverse]; have := pathT_leK N 0 m; omega
  have hnu3 : nu ≤ 300 := by rw [hnu, hU, List.length_reverse]; have := proofT_leK N 0 q (by omega) (by omega); omega
  clear hM0 ha hN hm hq hP hU hnp hnu h2 h3 haM hmN
  go_upto_region 11 with (first
    | (go_at_call 12; with_reducible refine CS.out.mono ?_; rintro o w' ⟨rfl, hww⟩; replace hww := hww.symm; subst hww)
    | (go_at_call 37; with_reducible refine C1.out.mono ?_; rintro o w' ⟨rfl, hww⟩; replace hww := hww.symm; subst hww)
    | (go_at_call 37; with_reducible refine C2.out.mono ?_; rintro o w' ⟨rfl, hww⟩; replace hww := hww.symm; subst hww)
    | (go_at_call 38; with_reducible refine (CI.out _ (Below.refl _ _)).mono ?_; rintro o w2 ⟨vp, rfl, hal⟩; obtain ⟨pp, cp, rfl, _⟩ := hal.hd.cells; have HA2 := Lib.hid hal; clear hal)
    | (go_at_call 39; refine (CPa.out _).mono ?_; rintro o w3 ⟨⟨ps, cs, rfl, hh, _⟩, hb⟩; have H3 := Lib.hid (And.intro hh hb); clear hh hb)
    | (go_at_call 40; with_reducible refine (CC.out _ (HA2.out.b.trans (H3.out.2.mono HA2.out.b.size))).mono ?_; rintro o w4 ⟨vq, rfl, hal⟩; obtain ⟨pq, cq, rfl, _⟩ := hal.hd.cells; have HA4 := Lib.hid hal; clear hal)
    | (go_at_call 41; refine (CPr.out _).mono ?_; rintro o w6 ⟨⟨pu, cu, rfl, hh, _⟩, hb⟩; have H6 := Lib.hid (And.intro hh hb); clear hh hb))
  have HB26 : Hid (Below w2.heap.size w2 w6 ∧ Below w1.heap.size w1 w6) := Lib.hid (by
    have e1 := H3.out.2.trans (HA4.out.b.mono H3.out.2.size)
    have e2 := e1.trans (H6.out.2.mono e1.size)
    exact ⟨e2, HA2.out.b.trans (e2.mono HA2.out.b.size)⟩)
  have HP6 : Hid (Held w6 9 1 (.slice pp np cp) np ((partsL L P).map Value.string)) := Lib.hid (by
    have := HA2.out.hd
    rw [List.take_of_length_le (by have := HL.out; omega)] at this
    exact this.below HB26.out.1)
  have HQ6 : Hid (Held w6 9 1 (.slice pq nu cq) nu ((partsL L U).map Value.string)) := Lib.hid (by
    have := HA4.out.hd
    rw [List.take_of_length_le (by have := HL.out; omega)] at this
    exact this.below H6.out.2)
  have HS6 : Hid (Held w6 56 2 (.slice ps np cs) np (prsV P)) := Lib.hid (by
    have e1 := HA4.out.b.trans (H6.out.2.mono HA4.out.b.size)
    exact H3.out.1.below e1)
  have HU6 : Hid (Held w6 56 2 (.slice pu nu cu) nu (prsV U)) := Lib.hid H6.out.1
  have CPA : Hid (∀ w7, Below w6.heap.size w6 w7 → ∀ b e : Nat, b ≤ e ∧ e ≤ L.length → Calls Tryd.prog 22 #[bpT tb, .agg #[.int .i64 (b : Int), .int .i64 (e : Int)]] w7 fun o w' => o = .returned (.tuple #[.string (partL L b e), .int .i64 0]) ∧ Below w7.heap.size w7 w') := Lib.hid (fun w7 hb7 b e hbe => by
    obtain ⟨col, t⟩ := HTU.out
    have e1 := HB26.out.2.trans (hb7.mono HB26.out.2.size)
    exact tpart_any (t.below e1) (HBW.out.below (HB1.out.trans (e1.mono HB1.out.size))) hbe.1 hbe.2)
  have HBS : Hid (Below w6.heap.size w6 w6) := Lib.hid (Below.refl _ _)
  have HEND : Hid (∀ w7, Below w6.heap.size w6 w7 → Below W.heap.size W w7) := Lib.hid (fun w7 hb7 => by
    have e1 := HB26.out.2.trans (hb7.mono HB26.out.2.size)
    exact HB1.out.trans (e1.mono HB1.out.size))
  go_wp2_with fail
  go_loopw [21] (fun k wr => ∃ i : Nat, k = .int .i64 (i : Int) ∧ i ≤ np ∧ Hid (Below w6.heap.size w6 wr)) (fun k _ => np - (intOf k).toNat)
  case atStart => exact ⟨0, rfl, Nat.zero_le _, HBS⟩
  case round =>
    obtain ⟨i, rfl, hi, HI⟩ := hrel
    by_cases hlt : i < np
    · have hli : (i : Int) < (np : Int) := by omega
      have hi0 : (0 : Int) ≤ (i : Int) := by omega
      obtain ⟨⟨xb, xe⟩, hx⟩ : ∃ x, P[i]? = some x := ⟨P[i]'(by have := HL.out; omega), List.getElem?_eq_getElem _⟩
      obtain ⟨q0, q1⟩ := prsV_get hx
      obtain ⟨g, rfl, hg⟩ := held_cellK (HS6.out.below HI.out) (by omega)
      have k0 := hg _ _ q0
      have k1 := hg _ _ q1
      have hstr : ((partsL L P).map Value.string)[i]? = some (.string (partL L xb xe)) := by unfold partsL; rw [List.getElem?_map, List.getElem?_map, hx]; rfl
      have HSTR := Lib.hid hstr
      have CPT : Hid (Calls Tryd.prog 22 #[bpT tb, .agg #[.int .i64 (xb : Int), .int .i64 (xe : Int)]] wr fun o w' => o = .returned (.tuple #[.string (partL L xb xe), .int .i64 0]) ∧ Below wr.heap.size wr w') := Lib.hid (CPA.out wr HI.out xb xe (HPF.out _ (List.mem_of_getElem? hx)))
      obtain ⟨sx, hsx⟩ : ∃ s, s = partL L xb xe := ⟨_, rfl⟩
      rw [← hsx] at CPT HSTR
      have HLT := Lib.hid hlt
      clear hx q0 q1 hg hstr hsx hlt
      go_wp2_with (go_at_call 22; with_reducible refine CPT.out.mono ?_; rintro o w7 ⟨rfl, hb7⟩; have HB7 : Hid (Below w6.heap.size w6 w7) := Lib.hid (HI.out.trans (hb7.mono HI.out.size)); obtain ⟨g2, hpe, hg2⟩ := held_cellK (HP6.out.below HB7.out) (by have := HLT.out; omega); have k3 := hg2 _ _ HSTR.out; subst hpe; clear hb7 hg2)
      exact ⟨⟨i + 1, by simp, HLT.out, HB7⟩, by show np - ((i : Int) + 1).toNat < np - (i : Int).toNat; have := HLT.out; omega⟩
    · obtain rfl : i = np := by omega
      clear hlt hi
      go_wp2_with fail
      have HI1 := HI
      clear HI
      go_loopw [24] (fun k wr => ∃ i : Nat, k = .int .i64 (i : Int) ∧ i ≤ nu ∧ Hid (Below w6.heap.size w6 wr)) (fun k _ => nu - (intOf k).toNat)
      case atStart => exact ⟨0, rfl, Nat.zero_le _, HI1⟩
      case round =>
        obtain ⟨i, rfl, hi, HI⟩ := hrel
        by_cases hlt : i < nu
        · have hli : (i : Int) < (nu : Int) := by omega
          have hi0 : (0 : Int) ≤ (i : Int) := by omega
          obtain ⟨⟨xb, xe⟩, hx⟩ : ∃ x, U[i]? = some x := ⟨U[i]'(by have := HL.out; omega), List.getElem?_eq_getElem _⟩
          obtain ⟨q0, q1⟩ := prsV_get hx
          obtain ⟨g, rfl, hg⟩ := held_cellK (HU6.out.below HI.out) (by omega)
          have k0 := hg _ _ q0
          have k1 := hg _ _ q1
          have hstr : ((partsL L U).map Value.string)[i]? = some (.string (partL L xb xe)) := by unfold partsL; rw [List.getElem?_map, List.getElem?_map, hx]; rfl
          have HSTR := Lib.hid hstr
          have CPT : Hid (Calls Tryd.prog 22 #[bpT tb, .agg #[.int .i64 (xb : Int), .int .i64 (xe : Int)]] wr fun o w' => o = .returned (.tuple #[.string (partL L xb xe), .int .i64 0]) ∧ Below wr.heap.size wr w') := Lib.hid (CPA.out wr HI.out xb xe (HUF.out _ (List.mem_of_getElem? hx)))
          obtain ⟨sx, hsx⟩ : ∃ s, s = partL L xb xe := ⟨_, rfl⟩
          rw [← hsx] at CPT HSTR
          have HLT := Lib.hid hlt
          clear hx q0 q1 hg hstr hsx hlt
          go_wp2_with (go_at_call 22; with_reducible refine CPT.out.mono ?_; rintro o w7 ⟨rfl, hb7⟩; have HB7 : Hid (Below w6.heap.size w6 w7) := Lib.hid (HI.out.trans (hb7.mono HI.out.size)); obtain ⟨g2, hpe, hg2⟩ := held_cellK (HQ6.out.below HB7.out) (by have := HLT.out; omega); have k3 := hg2 _ _ HSTR.out; subst hpe; clear hb7 hg2)
          exact ⟨⟨i + 1, by simp, HLT.out, HB7⟩, by show nu - ((i : Int) + 1).toNat < nu - (i : Int).toNat; have := HLT.out; omega⟩
        · obtain rfl : i = nu := by omega
          clear hlt hi
          go_wp2_with fail
          go_ret
          exact ⟨rfl, HEND.out _ HI.out⟩
end Go.Proofs.YtblacbfkaamdgaaDoor
