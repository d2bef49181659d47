/- RecursionGrows, walked. -/
import Derived.Test.YtejdpahgofhioaaDoorL3d
namespace Go.Proofs.YtejdpahgofhioaaDoor
open Go.RowKit Go.Scr
set_option linter.unusedVariables false

theorem ok32_cut {L : List ByteArray} (m : Nat) (h : ok32 L = true) : ok32 (L.take m) = true := by
  unfold ok32 at *
  rw [List.all_eq_true] at *
  exact fun x hx => h x (List.mem_of_mem_take hx)
theorem refused_ok {L : List ByteArray} (h : ok32 L = true) (hl : L.length ≤ 4096) : refusedE L = 0 := by
  unfold refusedE
  rw [if_neg (by omega), if_neg (by rw [h]; decide)]
theorem slice_of {w : World} {x : Value} {L : List ByteArray} {n : Nat} (h : Txts w x L) (hn : n = L.length) : ∃ p c, x = .slice p n c := by
  obtain ⟨p, c, hx, _⟩ := h
  exact ⟨p, c, by rw [hn]; exact hx⟩

set_option maxRecDepth 100000 in
set_option maxHeartbeats 4000000 in
theorem rgrows_any (v : Value) (Z : List Int) (z : Int) (w : World) (ht : Tabs w) (hv : Ints w v Z) (hz : -9223372036854775808 ≤ z ∧ z ≤ 9223372036854775807) :
    Calls Tryd.prog 6 #[v, .int .i64 z] w fun e w' => e = .returned (.bool true) ∧ Below w.heap.size w w' := by
  have HT := Lib.hid ht
  have C1 := Lib.hid (known3_any w ht)
  obtain ⟨L, hLL⟩ : ∃ L, L = numL Z 300 := ⟨_, rfl⟩
  have hok : ok32 L = true := by rw [hLL]; exact numL_ok Z 300
  have hlen : L.length ≤ 300 := by rw [hLL, numL_length]; omega
  obtain ⟨n, hn⟩ : ∃ n, n = L.length := ⟨_, rfl⟩
  have hvb := fun w' (hb : Below w.heap.size w w') => (show Ints w' v Z by
    obtain ⟨p, c, h1, h2, h3, h4, h5⟩ := hv
    exact ⟨p, c, h1, h2, h3, h4, fun j x hx => by
      obtain ⟨a, ha, hc⟩ := h5 j x hx
      exact ⟨a, ha, (hb.cell (block_lt_of_cell hc)).trans hc⟩⟩)
  have cn : ∀ w', Below w.heap.size w w' → Calls Tryd.prog 36 #[v, .int .i64 300] w' fun e w'' => ∃ pl cl, e = .returned (.slice pl n cl) ∧ Txts w'' (.slice pl n cl) L ∧ Below w'.heap.size w' w'' := fun w' hb =>
    (numbered3_any v Z 300 w' (hvb w' hb) (by decide)).mono (fun e w'' h => by
      obtain ⟨x, rfl, hown, hb2⟩ := h
      rw [← hLL] at hown
      have htx := txts_ownR hown (by omega)
      obtain ⟨pl, cl, hx⟩ := slice_of htx hn
      subst hx
      exact ⟨pl, cl, rfl, htx, hb2⟩)
  have CN := Lib.hid cn
  obtain ⟨p0, c0, rfl, _⟩ := hv
  by_cases hn0 : n = 0
  · have hni : ((n : Int) == 0) = true := beq_iff_eq.2 (by omega)
    clear hok hlen hn hvb cn hn0 hLL ht hz
    go_enter Tryd.func6, Tryd.ntmps6
    go_wp2_with (first
      | (go_at_call 15; with_reducible refine (C1.out).mono ?_; rintro r w1 ⟨rfl, hb⟩; have HB1 := Lib.hid hb; clear hb)
      | (go_at_call 36; with_reducible refine (CN.out w1 HB1.out).mono ?_; rintro r w2 ⟨pl, cl, rfl, htx, hb⟩; have HB2 := Lib.hid (below_from HB1.out hb HB1.out.size); clear hb htx))
    go_ret
    exact ⟨rfl, HB2.out⟩
  · have hni : ((n : Int) == 0) = false := beq_eq_false_iff_ne.2 (by omega)
    have cp := fun w' => pick3_any z n w' (by omega) (by omega) hz
    obtain ⟨m0, hm0⟩ : ∃ m, m = pickN z n := ⟨_, rfl⟩
    have hm0n : m0 < n := by rw [hm0]; exact pickN_lt z (by omega)
    rw [← hm0] at cp
    obtain ⟨m, hm⟩ : ∃ m, m = m0 + 1 := ⟨_, rfl⟩
    have hmi : 1 + (m0 : Int) = (m : Int) := by omega
    have hm1 : 1 ≤ m := by omega
    have hmn : m ≤ n := by omega
    have hre := refused_ok hok (by omega)
    have hre2 := refused_ok (ok32_cut m hok) (by rw [List.length_take]; omega)
    have hpe : proofE L m = 0 := by unfold proofE; rw [if_neg (by simp [hre]), if_neg (by omega)]
    have hpt : proofT L m = proofR m L true := by unfold proofT; rw [if_pos hpe, Int.toNat_natCast]
    obtain ⟨q, hq⟩ : ∃ q, q = (proofR m L true).length := ⟨_, rfl⟩
    have hql : q ≤ n := by rw [hq, hn]; exact proofR_len true hm1 (by omega)
    have cpr := fun x w' (h : Tabs w') (htx : Txts w' x L) => (Proof_any x L m w' h htx).mono (R' := fun e w'' => ∃ pp cp, e = .returned (.tuple #[.slice pp q cp, .int .i64 0]) ∧ Txts w'' (.slice pp q cp) (proofR m L true) ∧ Below w'.heap.size w' w'') (fun e w'' h => by
      obtain ⟨x, rfl, hown, hb2⟩ := h
      rw [hpt, hpe] at *
      have htx := txts_ownR hown (by omega)
      obtain ⟨pl, cl, hx⟩ := slice_of htx hq
      subst hx
      exact ⟨pl, cl, rfl, htx, hb2⟩)
    have crt := fun x w' (h : Tabs w') (htx : Txts w' x (L.take m)) => Root_any x (L.take m) w' h htx
    have hrt : rootT (L.take m) = rootR (L.take m) := by unfold rootT; rw [if_pos hre2]
    rw [hrt, hre2] at crt
    have cpa := fun x w' (h : Tabs w') (htx : Txts w' x L) => Part_any x L 0 n w' h htx
    have hpe2 : partE L 0 n = 0 := by unfold partE; rw [if_neg (by simp [hre]), if_neg (by omega)]
    have hpt2 : partT L 0 n = rootR L := by unfold partT; rw [if_pos hpe2]; rw [show ((n : Int) - 0).toNat = n by omega, Int.toNat_zero, List.drop_zero, hn, List.take_length]
    rw [hpe2, hpt2] at cpa
    have cg := fun pp cp w' (h : Tabs w') (htx : Txts w' (.slice pp q cp) (proofR m L true)) => grown3_any n m L true (rootR (L.take m)) pp q cp w' htx hq.symm hn.symm (by omega) hm1 hmn (fun _ => rfl) h
    generalize rootR (L.take m) = A at crt cg
    generalize rootR L = B at cpa cg
    have HCUT := Lib.hid (fun pl cl w' (h : Txts w' (.slice pl n cl) L) => h.cutC hmn)
    have HCL := Lib.hid (fun pl cl w' (h : Txts w' (.slice pl n cl) L) => (show (m : Int) ≤ (cl : Int) by obtain ⟨_, _, he, h2, _⟩ := h; cases he; omega))
    have hmi0 : (0 : Int) ≤ (m : Int) := by omega
    have hmb : m ≤ 300 := by omega
    have hend : ((m : Int) = (n : Int) → ((q : Int) == 0) = true) := by
      intro h
      have : m = L.length := by omega
      have hp := proofR_same this true
      rw [hp] at hq
      simp at hq
      rw [hq]; rfl
    have CP := Lib.hid cp
    have CPR := Lib.hid cpr
    have CRT := Lib.hid crt
    have CPA := Lib.hid cpa
    have CG := Lib.hid cg
    have hnb : n ≤ 300 := by omega
    clear hok hlen hn hvb cn hn0 hLL ht hz cp hm0 hm0n hm hre hre2 hpe hpt hq cpr crt hrt cpa hpe2 hpt2 cg hm1 hmn
    by_cases hmn2 : (m : Int) = (n : Int)
    · have hq0 := hend hmn2
      have hb0 : ((m : Int) != (n : Int)) = false := by rw [bne_eq_false_iff_eq]; exact hmn2
      clear hend hmn2
      go_enter Tryd.func6, Tryd.ntmps6
      go_wp2_with (first
        | (go_at_call 15; with_reducible refine (C1.out).mono ?_; rintro r w1 ⟨rfl, hb⟩; have HB1 := Lib.hid hb; clear hb)
        | (go_at_call 36; with_reducible refine (CN.out w1 HB1.out).mono ?_; rintro r w2 ⟨pl, cl, rfl, htx, hb⟩; have HB2 := Lib.hid (below_from HB1.out hb HB1.out.size); have HX2 := Lib.hid htx; have hmcl := HCL.out pl cl _ htx; clear hb htx)
        | (go_at_call 23; with_reducible refine (CP.out w2).mono ?_; rintro r wx ⟨rfl, hw⟩; rw [hw]; clear hw wx)
        | (go_at_call 27; with_reducible refine (CPR.out _ w2 (HT.out.below HB2.out) HX2.out).mono ?_; rintro r w3 ⟨pp, cp, rfl, hpx, hb⟩; have HB3 := Lib.hid (below_from HB2.out hb HB2.out.size); have HX3 := Lib.hid (HX2.out.below hb (Nat.le_refl _)); have HP3 := Lib.hid hpx; clear hb hpx)
        | (go_at_call 19; with_reducible refine (CRT.out _ w3 (HT.out.below HB3.out) (HCUT.out pl cl w3 HX3.out)).mono ?_; rintro r w4 ⟨rfl, hb⟩; have HB4 := Lib.hid (below_from HB3.out hb HB3.out.size); have HX4 := Lib.hid (HX3.out.below hb (Nat.le_refl _)); have HP4 := Lib.hid (HP3.out.below hb (Nat.le_refl _)); clear hb)
        | (go_at_call 21; with_reducible refine (CPA.out _ w4 (HT.out.below HB4.out) HX4.out).mono ?_; rintro r w5 ⟨rfl, hb⟩; have HB5 := Lib.hid (below_from HB4.out hb HB4.out.size); have HP5 := Lib.hid (HP4.out.below hb (Nat.le_refl _)); clear hb)
        | (go_at_call 37; with_reducible refine (CG.out pp cp w5 (HT.out.below HB5.out) HP5.out).mono ?_; rintro r w6 ⟨rfl, hb⟩; have HB6 := Lib.hid (below_from HB5.out hb HB5.out.size); clear hb))
      go_ret
      exact ⟨rfl, HB6.out⟩
    · have hb0 : ((m : Int) != (n : Int)) = true := by rw [bne_iff_ne]; exact hmn2
      clear hend hmn2
      go_enter Tryd.func6, Tryd.ntmps6
      go_wp2_with (first
        | (go_at_call 15; with_reducible refine (C1.out).mono ?_; rintro r w1 ⟨rfl, hb⟩; have HB1 := Lib.hid hb; clear hb)
        | (go_at_call 36; with_reducible refine (CN.out w1 HB1.out).mono ?_; rintro r w2 ⟨pl, cl, rfl, htx, hb⟩; have HB2 := Lib.hid (below_from HB1.out hb HB1.out.size); have HX2 := Lib.hid htx; have hmcl := HCL.out pl cl _ htx; clear hb htx)
        | (go_at_call 23; with_reducible refine (CP.out w2).mono ?_; rintro r wx ⟨rfl, hw⟩; rw [hw]; clear hw wx)
        | (go_at_call 27; with_reducible refine (CPR.out _ w2 (HT.out.below HB2.out) HX2.out).mono ?_; rintro r w3 ⟨pp, cp, rfl, hpx, hb⟩; have HB3 := Lib.hid (below_from HB2.out hb HB2.out.size); have HX3 := Lib.hid (HX2.out.below hb (Nat.le_refl _)); have HP3 := Lib.hid hpx; clear hb hpx)
        | (go_at_call 19; with_reducible refine (CRT.out _ w3 (HT.out.below HB3.out) (HCUT.out pl cl w3 HX3.out)).mono ?_; rintro r w4 ⟨rfl, hb⟩; have HB4 := Lib.hid (below_from HB3.out hb HB3.out.size); have HX4 := Lib.hid (HX3.out.below hb (Nat.le_refl _)); have HP4 := Lib.hid (HP3.out.below hb (Nat.le_refl _)); clear hb)
        | (go_at_call 21; with_reducible refine (CPA.out _ w4 (HT.out.below HB4.out) HX4.out).mono ?_; rintro r w5 ⟨rfl, hb⟩; have HB5 := Lib.hid (below_from HB4.out hb HB4.out.size); have HP5 := Lib.hid (HP4.out.below hb (Nat.le_refl _)); clear hb)
        | (go_at_call 37; with_reducible refine (CG.out pp cp w5 (HT.out.below HB5.out) HP5.out).mono ?_; rintro r w6 ⟨rfl, hb⟩; have HB6 := Lib.hid (below_from HB5.out hb HB5.out.size); clear hb))
      go_ret
      exact ⟨rfl, HB6.out⟩
end Go.Proofs.YtejdpahgofhioaaDoor
