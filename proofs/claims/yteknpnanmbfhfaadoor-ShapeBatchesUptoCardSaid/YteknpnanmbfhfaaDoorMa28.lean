/- Law 8, walked: ShapeParts. -/
import Derived.Test.YteknpnanmbfhfaaDoorMa27
namespace Go.Proofs.YteknpnanmbfhfaaDoor
open Go.RowKit Go.Scr Go.Shelf
set_option linter.unusedVariables false
set_option maxRecDepth 100000 in
set_option maxHeartbeats 8000000 in
theorem shapeparts_any (s0 s1 s2 s4 : Int) (v : Value) (Z : List Int) (w : World) (ht : Tabs w) (hv : Ints w v Z) (hb0 : -9223372036854775808 ≤ s0 ∧ s0 ≤ 9223372036854775807) (hb1 : -9223372036854775808 ≤ s1 ∧ s1 ≤ 9223372036854775807) (hb2 : -9223372036854775808 ≤ s2 ∧ s2 ≤ 9223372036854775807) (hb4 : -9223372036854775808 ≤ s4 ∧ s4 ≤ 9223372036854775807) :
    Calls Tryd.prog 8 #[.int .i64 s0, .int .i64 s1, .int .i64 s2, v, .int .i64 s4] w fun r w' => r = .returned (.bool true) ∧ Below w.heap.size w w' := by
  have CK := Lib.hid (known8_any w ht)
  obtain ⟨m, hm⟩ : ∃ m, m = pickN s0 1099511627776 := ⟨_, rfl⟩
  have hm2 : m < 1099511627776 := by rw [hm]; exact pickN_lt _ (by decide)
  have CP1 : Hid (∀ w', Calls Tryd.prog 11 #[.int .i64 s0, .int .i64 1099511627776] w' fun e w2 => e = .returned (.int .i64 (m : Int)) ∧ w2 = w') := Lib.hid (fun w' => by
    rw [hm]
    exact pick8_any s0 1099511627776 w' (by decide) (by decide) hb0)
  obtain ⟨N, hN⟩ : ∃ N, N = 1 + m := ⟨_, rfl⟩
  have hNi : 1 + (m : Int) = (N : Int) := by omega
  obtain ⟨k, hk⟩ : ∃ k, k = pickN s1 N := ⟨_, rfl⟩
  have hkN : k < N := by rw [hk]; exact pickN_lt _ (by omega)
  have CP2 : Hid (∀ w', Calls Tryd.prog 11 #[.int .i64 s1, .int .i64 (N : Int)] w' fun e w2 => e = .returned (.int .i64 (k : Int)) ∧ w2 = w') := Lib.hid (fun w' => by
    rw [hk]
    exact pick8_any s1 N w' (by omega) (by omega) hb1)
  obtain ⟨f0, hf0⟩ : ∃ f0, f0 = pickN s2 N := ⟨_, rfl⟩
  have hfN : f0 < N := by rw [hf0]; exact pickN_lt _ (by omega)
  have CP3 : Hid (∀ w', Calls Tryd.prog 11 #[.int .i64 s2, .int .i64 (N : Int)] w' fun e w2 => e = .returned (.int .i64 (f0 : Int)) ∧ w2 = w') := Lib.hid (fun w' => by
    rw [hf0]
    exact pick8_any s2 N w' (by omega) (by omega) hb2)
  obtain ⟨M, hM⟩ : ∃ M, M = 1 + f0 := ⟨_, rfl⟩
  have hMi : 1 + (f0 : Int) = (M : Int) := by omega
  obtain ⟨q, hq⟩ : ∃ q, q = N - k := ⟨_, rfl⟩
  have hqi : (N : Int) - (k : Int) = (q : Int) := by omega
  obtain ⟨e0, he0⟩ : ∃ e0, e0 = pickN s4 q := ⟨_, rfl⟩
  have heq : e0 < q := by rw [he0]; exact pickN_lt _ (by omega)
  have CP4 : Hid (∀ w', Calls Tryd.prog 11 #[.int .i64 s4, .int .i64 (q : Int)] w' fun e w2 => e = .returned (.int .i64 (e0 : Int)) ∧ w2 = w') := Lib.hid (fun w' => by
    rw [he0]
    exact pick8_any s4 q w' (by omega) (by omega) hb4)
  obtain ⟨E, hE⟩ : ∃ E, E = k + 1 + e0 := ⟨_, rfl⟩
  have hEi : (k : Int) + 1 + (e0 : Int) = (E : Int) := by omega
  have hEb : E ≤ 1099511627776 := by omega
  have HN : Hid (1 ≤ N ∧ N ≤ 1099511627776 ∧ k < N ∧ 1 ≤ M ∧ M ≤ N ∧ k < E ∧ E ≤ N) := Lib.hid ⟨by omega, by omega, by omega, by omega, by omega, by omega, by omega⟩
  have hNb : N ≤ 1099511627776 := by omega
  have hkb : k ≤ 1099511627776 := by omega
  have hqb : q ≤ 1099511627776 := by omega
  have hMb : M ≤ 1099511627776 := by omega
  have he0b : e0 ≤ 1099511627776 := by omega
  have CRI := Lib.hid (fun (w' : World) (h : Ints w' v Z) => rising_any v Z N 256 w' h (by omega) (by omega) (by decide) (by decide))
  obtain ⟨A1, hA1⟩ : ∃ x, x = wayN N k := ⟨_, rfl⟩
  have C6 : Hid (∀ w', Calls Tryd.prog 19 #[.int .i64 (N : Int), .int .i64 (k : Int)] w' fun r w2 => (∃ p c, r = .returned (.tuple #[.slice p A1 c, .int .i64 0])) ∧ Below w'.heap.size w' w2) := Lib.hid (fun w' => by
    refine (path_yes N k w' hkN (by omega)).mono ?_
    rintro r w2 ⟨⟨p, c, h1, _⟩, h3⟩
    rw [path_length N 0 k hkN, ← hA1] at h1
    exact ⟨⟨p, c, h1⟩, h3⟩)
  obtain ⟨A2, hA2⟩ : ∃ x, x = toldN M N true := ⟨_, rfl⟩
  have C7 : Hid (∀ w', Calls Tryd.prog 21 #[.int .i64 (M : Int), .int .i64 (N : Int)] w' fun r w2 => (∃ p c, r = .returned (.tuple #[.slice p A2 c, .int .i64 0])) ∧ Below w'.heap.size w' w2) := Lib.hid (fun w' => by
    by_cases hMN : M = N
    · have hz : A2 = 0 := by rw [hA2, hMN, toldN_same]; rfl
      rw [hz, hMN]
      refine (proof_eq (N : Int) w' (by omega) (by omega)).mono ?_
      rintro r w2 ⟨h1, rfl⟩
      exact ⟨⟨none, 0, h1⟩, Below.refl _ _⟩
    · refine (proof_yes M N w' (by omega) (by omega) (by omega)).mono ?_
      rintro r w2 ⟨⟨p, c, h1, _⟩, h3⟩
      rw [proof_length N 0 M (by omega) (by omega), decide_eq_true rfl, ← hA2] at h1
      exact ⟨⟨p, c, h1⟩, h3⟩)
  have C9 : Hid (∀ w', Calls Tryd.prog 32 #[.int .i64 (N : Int), .int .i64 (k : Int)] w' fun e w2 => e = .returned (.tuple #[.int .i64 (A1 : Int), .int .i64 0]) ∧ w2 = w') := Lib.hid (fun w' => by
    have h := pathlen4_any (N : Int) (k : Int) w'
    rw [(pathLenS_ok hkN (by omega)).1, (pathLenS_ok hkN (by omega)).2, ← hA1] at h
    exact h)
  have C10 : Hid (∀ w', Calls Tryd.prog 33 #[.int .i64 (M : Int), .int .i64 (N : Int)] w' fun e w2 => e = .returned (.tuple #[.int .i64 (A2 : Int), .int .i64 0]) ∧ w2 = w') := Lib.hid (fun w' => by
    have h := prooflen4_any (M : Int) (N : Int) w'
    rw [(proofLenS_ok (f := M) (s := N) (by omega) (by omega) (by omega)).1, (proofLenS_ok (f := M) (s := N) (by omega) (by omega) (by omega)).2, ← hA2] at h
    exact h)
  obtain ⟨mo, hmo⟩ : ∃ x, x = dptT N := ⟨_, rfl⟩
  have C11 : Hid (∀ w', Calls Tryd.prog 32 #[.int .i64 (N : Int), .int .i64 0] w' fun e w2 => e = .returned (.tuple #[.int .i64 (mo : Int), .int .i64 0]) ∧ w2 = w') := Lib.hid (fun w' => by
    have h := pathlen4_any (N : Int) ((0 : Nat) : Int) w'
    rw [(pathLenS_ok (n := N) (m := 0) (by omega) (by omega)).1, (pathLenS_ok (n := N) (m := 0) (by omega) (by omega)).2, show wayN N 0 = mo from hmo.symm] at h
    exact h)
  have HMO := Lib.hid hmo
  have HV := Lib.hid hv
  clear hm hN hk hf0 hM hq he0 hE ht hv hb0 hb1 hb2 hb4 hA1 hA2 hmo hm2 hkN hfN heq
  obtain ⟨vp, vc, rfl, _⟩ := id HV.out
  go_enter Tryd.func8, Tryd.ntmps8
  go_upto_region 6 with (first
    | (go_at_call 10; with_reducible refine CK.out.mono ?_; rintro r w2 ⟨rfl, hb2⟩; have HB2 := Lib.hid hb2; clear hb2)
    | (go_at_call 11; with_reducible refine (CP1.out _).mono ?_; rintro r wx ⟨rfl, hwx⟩; rw [hwx]; clear hwx wx)
    | (go_at_call 11; with_reducible refine (CP2.out _).mono ?_; rintro r wx ⟨rfl, hwx⟩; rw [hwx]; clear hwx wx)
    | (go_at_call 11; with_reducible refine (CP3.out _).mono ?_; rintro r wx ⟨rfl, hwx⟩; rw [hwx]; clear hwx wx)
    | (go_at_call 24; refine (CRI.out _ (ints_belowH HV.out HB2.out (Nat.le_refl _))).mono ?_; rintro r w3 ⟨vr, R, rfl, hne, hlen, hri⟩; obtain ⟨rp, rc, rfl, _⟩ := hri.hd.cells; have HRI := Lib.hid (And.intro hne (And.intro hlen hri)); clear hne hlen hri))
  obtain ⟨hne, hlen, hri⟩ := HRI.out
  obtain ⟨rl, hrl⟩ : ∃ x, x = R.length := ⟨_, rfl⟩
  obtain ⟨C, hC⟩ : ∃ x, x = restT (lookZ (R.map (fun x : Nat => (x : Int)))) 0 N := ⟨_, rfl⟩
  obtain ⟨cl, hcl⟩ : ∃ x, x = C.length := ⟨_, rfl⟩
  have hcount := rest_count hri.ris.1 N 0 HN.out.1
  have hdepth := rest_depth (R := R) N 0 HN.out.1 (by rw [hasT_all hri.ris.2]; exact List.length_pos_iff.2 hne)
  rw [hasT_all hri.ris.2, ← hC, ← hcl, ← hrl] at hcount hdepth
  rw [← HMO.out] at hdepth
  have hlen' : rl ≤ 256 := by omega
  have C8 : Hid (∀ w', Below w3.heap.size w3 w' → Calls Tryd.prog 31 #[.int .i64 (N : Int), .slice rp rl rc] w' fun r w2 => (∃ p c, r = .returned (.tuple #[.slice p cl c, .int .i64 0]) ∧ Held w2 29 2 (.slice p cl c) cl (prsV C)) ∧ Below w'.heap.size w' w2) := Lib.hid (fun w' hb => by
    have hi := ints_nat (hri.hd.below hb) (by omega) (fun x hx => by have := hri.ris.2 x hx; have := HN.out; omega)
    rw [← hrl] at hi
    refine (batch_any (N : Int) _ _ w' hi).mono ?_
    rintro r w2 ⟨_, h2, h3⟩
    obtain ⟨p, c, h1, h4, _⟩ := h2 (batE_ok HN.out.1 HN.out.2.1 hri.ris hne hlen)
    rw [Int.toNat_natCast, ← hC, ← hcl] at h1 h4
    exact ⟨⟨p, c, h1, h4⟩, h3⟩)
  have CA : Hid (∀ (w' : World) (p : Option Addr) (c : Nat), Below w3.heap.size w3 w' → Held w' 29 2 (.slice p cl c) cl (prsV C) → Calls Tryd.prog 34 #[.int .i64 (N : Int), .slice p cl c, .slice rp rl rc] w' fun r w2 => r = .returned (.bool true) ∧ w2 = w') := Lib.hid (fun w' p c hb hh => by
    rw [hcl] at hh ⊢
    have h2 := hri.hd.below hb
    rw [hrl]
    have := apart_any N (.slice p C.length c) _ C R w' hh h2 (fun x hx => by rw [hC] at hx; have := restT_fits _ N 0 HN.out.1 x hx; have := HN.out; omega) (fun x hx => by have := hri.ris.2 x hx; have := HN.out; omega) (by have := HN.out; omega)
    rwa [show apartT N C R 0 = true by rw [hC]; exact apartT_batch HN.out.1 hri.ris.1 hri.ris.2] at this)
  obtain ⟨d, hd⟩ : ∃ d, d = N - rl := ⟨_, rfl⟩
  have hdi : (N : Int) - (rl : Int) = (d : Int) := by omega
  have hdc : ¬ (d : Int) < (cl : Int) := by omega
  obtain ⟨pr, hpr⟩ : ∃ x, x = rl * mo := ⟨_, rfl⟩
  have hpri : (rl : Int) * (mo : Int) = (pr : Int) := by rw [hpr]; simp
  have hmob : mo ≤ 1099511627776 := by
    rw [HMO.out]
    have := wayN_le N 0
    unfold dptT
    omega
  have hprb : pr ≤ 281474976710656 := by
    rw [hpr]
    exact Nat.le_trans (Nat.mul_le_mul hlen' hmob) (by decide)
  have hprc : ¬ (pr : Int) < (cl : Int) := by omega
  have HB3 : Hid (Below w.heap.size w w3) := Lib.hid (below_onS HB2.out hri.bel HB2.out.size)
  have CRUN : Hid (∀ w', Calls Tryd.prog 26 #[.int .i64 (N : Int), .agg #[.int .i64 (k : Int), .int .i64 (E : Int)]] w' fun r w2 => (∃ p c, r = .returned (.tuple #[.slice p (restT (lookR k E) 0 N).length c, .int .i64 0]) ∧ Held w2 29 2 (.slice p (restT (lookR k E) 0 N).length c) (restT (lookR k E) 0 N).length (prsV (restT (lookR k E) 0 N))) ∧ Below w'.heap.size w' w2) := Lib.hid (fun w' => by
    refine (run_yes N k E w' (by have := HN.out; omega) (by have := HN.out; omega) (by have := HN.out; omega)).mono ?_
    rintro r w2 ⟨⟨p, c, h1, h2, _⟩, h3⟩
    exact ⟨⟨p, c, h1, h2⟩, h3⟩)
  rw [← hrl]
  clear hne hlen hri hC hcl hcount hdepth hd hpr hrl
  go_upto_region 17 with (first
    | (go_at_call 19; with_reducible refine (C6.out _).mono ?_; rintro r w4 ⟨⟨p4, c4, rfl⟩, hb4⟩; have HB4 := Lib.hid hb4; clear hb4)
    | (go_at_call 21; with_reducible refine (C7.out _).mono ?_; rintro r w5 ⟨⟨p5, c5, rfl⟩, hb5⟩; have HB5 := Lib.hid (below_onS HB4.out hb5 HB4.out.size); clear hb5)
    | (go_at_call 31; with_reducible refine (C8.out _ HB5.out).mono ?_; rintro r w6 ⟨⟨p6, c6, rfl, hh⟩, hb6⟩; have HH6 := Lib.hid hh; have HB6 := Lib.hid (below_onS HB5.out hb6 HB5.out.size); clear hb6 hh)
    | (go_at_call 32; with_reducible refine (C9.out _).mono ?_; rintro r wx ⟨rfl, hwx⟩; rw [hwx]; clear hwx wx)
    | (go_at_call 33; with_reducible refine (C10.out _).mono ?_; rintro r wx ⟨rfl, hwx⟩; rw [hwx]; clear hwx wx)
    | (go_at_call 32; with_reducible refine (C11.out _).mono ?_; rintro r wx ⟨rfl, hwx⟩; rw [hwx]; clear hwx wx)
    | (go_at_call 34; with_reducible refine (CA.out _ _ _ HB6.out HH6.out).mono ?_; rintro r wx ⟨rfl, hwx⟩; rw [hwx]; clear hwx wx))
  go_upto_region 18 with (go_at_call 11; with_reducible refine (CP4.out _).mono ?_; rintro r wx ⟨rfl, hwx⟩; rw [hwx]; clear hwx wx)
  obtain ⟨B, hB⟩ : ∃ x, x = w6.heap.size := ⟨_, rfl⟩
  obtain ⟨wA, hwA⟩ : ∃ x, x = w6.alloc (.cells #[.int .i64 (k : Int), .int .i64 (E : Int)] 29) := ⟨_, rfl⟩
  have hb6w := below_onS HB3.out HB6.out HB3.out.size
  have hbA : Below w.heap.size w wA := by rw [hwA]; exact hb6w.alloc hb6w.size _
  have rA : spRow wA B k E := by rw [hwA, hB]; exact heap_alloc_new w6 _
  rw [← hwA, ← hB]
  obtain ⟨d0, d1, _⟩ := rA.at
  have HRA := Lib.hid rA
  have HBA := Lib.hid hbA
  have hchk := chkR_run (N := N) (lo := k) (hi := E) (by have := HN.out; omega) (by have := HN.out; omega)
  have hfit := restT_fits (lookR k E) N 0 HN.out.1
  obtain ⟨L, hL⟩ : ∃ x, x = restT (lookR k E) 0 N := ⟨_, rfl⟩
  rw [← hL] at CRUN hchk hfit
  obtain ⟨n, hn⟩ : ∃ x, x = L.length := ⟨_, rfl⟩
  rw [← hn] at CRUN
  have HCH := Lib.hid hchk
  have HFIT := Lib.hid hfit
  have HLN := Lib.hid hn
  clear hB hwA hb6w hbA rA hchk hfit hL hn
  go_upto_region 19 with (go_at_call 26; with_reducible refine (CRUN.out _).mono ?_; rintro r w7 ⟨⟨p7, c7, rfl, hh⟩, hb7⟩; have HH7 := Lib.hid hh; have HB7 := Lib.hid hb7; clear hb7 hh)
  clear d0 d1
  obtain ⟨d0, d1, _⟩ := (HRA.out.keep (HB7.out.block _ HRA.out.lt)).at
  have HFB : Hid (Below w.heap.size w w7) := Lib.hid (below_onS HBA.out HB7.out HBA.out.size)
  have hnb : n ≤ 9223372036854775807 := by
    obtain ⟨p', c', hpe, h1, h2, _⟩ := HH7.out.cells
    simp only [maxLen] at h2
    omega
  go_wp2_with fail
  go_loop [32, 33] (fun x y => ∃ a t : Nat, x = .int .i64 (a : Int) ∧ y = .int .i64 (t : Int) ∧ a ≤ 1099511627776 ∧ t ≤ n ∧ Hid (chkR N k E (L.drop t) a = true)) (fun _ y => n - (intOf y).toNat)
  case atStart => exact ⟨0, 0, rfl, rfl, by omega, by omega, Lib.hid (by rw [List.drop_zero]; exact HCH.out)⟩
  case round =>
    obtain ⟨a, t, rfl, rfl, ha, ht, HI⟩ := hrel
    by_cases hlt : t < n
    · have hlti : (t : Int) < (n : Int) := by omega
      have ht0 : (0 : Int) ≤ (t : Int) := by omega
      obtain ⟨⟨xb, xe⟩, hx⟩ : ∃ x, L[t]? = some x := ⟨L[t]'(by have := HLN.out; omega), List.getElem?_eq_getElem _⟩
      obtain ⟨q0, q1⟩ := prsV_get hx
      obtain ⟨g, rfl, hg⟩ := held_cell HH7.out (by omega)
      have k0 := hg _ _ q0
      have k1 := hg _ _ q1
      have hI := HI.out
      rw [chkR_more N k E hx] at hI
      have hok : ¬ ((xb, xe).1 ≠ nxtR k E a ∨ (xb, xe).2 ≤ nxtR k E a) := fun h => by rw [if_pos h] at hI; cases hI
      rw [if_neg hok] at hI
      have hok1 : xb = nxtR k E a ∧ nxtR k E a < xe := by
        refine ⟨Decidable.byContradiction fun h => hok (.inl h), ?_⟩
        apply Nat.lt_of_not_le
        exact fun h => hok (.inr h)
      have HX : Hid (xe ≤ 1099511627776 ∧ t < n ∧ chkR N k E (L.drop (t + 1)) xe = true) := Lib.hid ⟨by have := HFIT.out _ (List.mem_of_getElem? hx); have := HN.out; omega, hlt, hI⟩
      clear hx q0 q1 hg hlt hok hI
      by_cases hak : a = k
      · subst hak
        have hxb : xb = E := by rw [hok1.1]; unfold nxtR; rw [if_pos rfl]
        subst hxb
        have hxe : ¬ (xe : Int) ≤ (xb : Int) := by omega
        clear hok1
        go_wp2_with fail
        refine ⟨⟨xe, t + 1, rfl, by simp, HX.out.1, HX.out.2.1, Lib.hid HX.out.2.2⟩, ?_⟩
        show n - ((t : Int) + 1).toNat < n - ((t : Int)).toNat
        have := HX.out
        omega
      · have haki : ((a : Int) == (k : Int)) = false := by rw [beq_eq_false_iff_ne]; omega
        have hxb : xb = a := by rw [hok1.1]; unfold nxtR; rw [if_neg hak]
        have hxa : nxtR k E a = a := by unfold nxtR; rw [if_neg hak]
        rw [hxa] at hok1
        subst hxb
        have hxe : ¬ (xe : Int) ≤ (xb : Int) := by omega
        clear hok1 hak hxa
        go_wp2_with fail
        refine ⟨⟨xe, t + 1, rfl, by simp, HX.out.1, HX.out.2.1, Lib.hid HX.out.2.2⟩, ?_⟩
        show n - ((t : Int) + 1).toNat < n - ((t : Int)).toNat
        have := HX.out
        omega
    · have hlti : ¬ (t : Int) < (n : Int) := by omega
      have hI := HI.out
      rw [chkR_end N k E (by have := HLN.out; omega), decide_eq_true_eq] at hI
      clear hlt
      by_cases hak : a = k
      · subst hak
        unfold nxtR at hI
        rw [if_pos rfl] at hI
        subst hI
        go_wp2_with fail
        go_ret
        exact ⟨rfl, HFB.out⟩
      · have haki : ((a : Int) == (k : Int)) = false := by rw [beq_eq_false_iff_ne]; omega
        unfold nxtR at hI
        rw [if_neg hak] at hI
        subst hI
        clear hak
        go_wp2_with fail
        go_ret
        exact ⟨rfl, HFB.out⟩
end Go.Proofs.YteknpnanmbfhfaaDoor
