/- VerifyProofs, walked. -/
import Derived.Test.YtmlekeegmdpjkaaDoorL4i
import Derived.Test.YtmlekeegmdpjkaaDoorL4h
namespace Go.Proofs.YtmlekeegmdpjkaaDoor
open Go.RowKit Go.Scr
set_option linter.unusedVariables false

theorem keepO {W w w' : World} {B T n c g : Nat} {xs : List Value} (h : Below W.heap.size W w ∧ w.ownsRow B T 1 (.slice (some ⟨g, 0, none⟩) n c) n xs) (hb : Below w.heap.size w w') : Below W.heap.size W w' ∧ w'.ownsRow B T 1 (.slice (some ⟨g, 0, none⟩) n c) n xs :=
  ⟨below_from h.1 hb h.1.size, owns_below h.2 hb (Nat.le_refl _)⟩
theorem toldN_pow (j : Nat) : ∀ f s b, s ≤ 2 ^ j → 1 ≤ f → f ≤ s → toldN f s b ≤ j + 1 := by
  induction j with
  | zero =>
    intro f s b h h1 h2
    have h3 : s = 1 := by have : s ≤ 1 := by simpa using h
                          omega
    have h4 : f = 1 := by omega
    subst h3; subst h4
    rw [toldN_same]; split <;> omega
  | succ j ih =>
    intro f s b h h1 h2
    by_cases h0 : f = s
    · subst h0; rw [toldN_same]; split <;> omega
    · obtain ⟨i, hi, hi2, hi3⟩ := spl_pow (show 2 ≤ s by omega)
      have hp : 0 < 2 ^ i := Nat.pos_of_ne_zero (by simp)
      have hij : i ≤ j := by
        have : 2 ^ i < 2 ^ (j + 1) := by omega
        have := (Nat.pow_lt_pow_iff_right (a := 2) (by omega)).1 this
        omega
      have hpow : 2 ^ i ≤ 2 ^ j := Nat.pow_le_pow_right (by omega) hij
      have hps : 2 ^ (i + 1) = 2 * 2 ^ i := by rw [Nat.pow_succ]; omega
      by_cases hle : f ≤ spl s
      · rw [toldN_left b h0 (by omega) hle, hi]
        rw [hi] at hle
        have := ih f (2 ^ i) b hpow h1 hle
        omega
      · rw [toldN_right b h0 (by omega) hle, hi]
        rw [hi] at hle
        have := ih (f - 2 ^ i) (s - 2 ^ i) false (by omega) (by omega) (by omega)
        omega

set_option maxRecDepth 100000 in
set_option maxHeartbeats 4000000 in
theorem vproofs_any (z i : Int) (old now : ByteArray) (v : Value) (L : List ByteArray) (w : World) (ht : Tabs w) (hv : Txts w v L) (hl : L.length ≤ 1048576) (hz : -9223372036854775808 ≤ z ∧ z ≤ 9223372036854775807) (hi : -9223372036854775808 ≤ i ∧ i ≤ 9223372036854775807)
    (hs : ∀ s ∈ L, s.size ≤ 1048576) (hold : old.size ≤ 1048576) (hnow : now.size ≤ 1048576) :
    Calls Tryd.prog 5 #[.int .i64 i, .int .i64 z, .string old, .string now, v] w fun e w' => e = .returned (.bool true) ∧ Below w.heap.size w w' := by
  have HT := Lib.hid ht
  have HV := Lib.hid hv
  have cp1 : ∀ w', Calls Tryd.prog 20 #[.int .i64 z, .int .i64 1099511627776] w' fun e w'' => e = .returned (.int .i64 ((pickN z 1099511627776 : Nat) : Int)) ∧ w'' = w' := fun w' => pick4_any z 1099511627776 w' (by decide) (by decide) hz
  obtain ⟨n0, hn0⟩ : ∃ n, n = pickN z 1099511627776 := ⟨_, rfl⟩
  have hn0l : n0 < 1099511627776 := by rw [hn0]; exact pickN_lt z (by decide)
  rw [← hn0] at cp1
  obtain ⟨n, hn⟩ : ∃ n, n = n0 + 1 := ⟨_, rfl⟩
  have hni : 1 + (n0 : Int) = (n : Int) := by omega
  have cp2 := fun w' => pick4_any i n w' (by omega) (by omega) hi
  obtain ⟨k0, hk0⟩ : ∃ k, k = pickN i n := ⟨_, rfl⟩
  have hk0n : k0 < n := by rw [hk0]; exact pickN_lt i (by omega)
  rw [← hk0] at cp2
  obtain ⟨k, hk⟩ : ∃ k, k = k0 + 1 := ⟨_, rfl⟩
  have hki : 1 + (k0 : Int) = (k : Int) := by omega
  have hk1 : 1 ≤ k := by omega
  have hkn : k ≤ n := by omega
  have cl := fun w' => prooflen4_any k n w'
  rw [(proofLenS_ok hk1 hkn (by omega)).1, (proofLenS_ok hk1 hkn (by omega)).2] at cl
  have hm40 : toldN k n true ≤ 41 := toldN_pow 40 k n true (by omega) hk1 hkn
  obtain ⟨m, hm⟩ : ∃ m, m = toldN k n true := ⟨_, rfl⟩
  rw [← hm] at cl hm40
  obtain ⟨m1, hm1⟩ : ∃ m1, m1 = m + 1 := ⟨_, rfl⟩
  have hm1i : (m : Int) + 1 = (m1 : Int) := by omega
  have ch1 := fun w' (h : Txts w' v L) => hashes4L_any v L m1 w' h (by omega) hs
  have cho := fun w' => hash4_any old w' (by omega)
  have chn := fun w' => hash4_any now w' (by omega)
  have hX0 := hsL_length L m
  have hX1 := hsL_length L m1
  have c0 := fun w' (ht : Tabs w') (h : Txts w' v L) => proof4_any i z old now v L w' ht h hl hs
  have ca := fun x w' (ht : Tabs w') (h : Txts w' x (hsL L m)) => proof4_any k n (hashS old) now x (hsL L m) w' ht h (by omega) (hsL_small L m)
  have cb := fun x w' (ht : Tabs w') (h : Txts w' x (hsL L m)) => proof4_any k n old (hashS now) x (hsL L m) w' ht h (by omega) (hsL_small L m)
  have cc := fun x w' (ht : Tabs w') (h : Txts w' x (hsL L m1)) => proof4_any k n (hashS old) (hashS now) x (hsL L m1) w' ht h (by omega) (hsL_small L m1)
  have hmi : ((m : Nat) : Int) ≤ 41 := by omega
  have hmi0 : (0 : Int) ≤ (m : Int) := by omega
  have HYL := Lib.hid (show (hsL L m1).length ≤ 281474976710656 by omega)
  have HXL := Lib.hid (show (hsL L m).length ≤ 281474976710656 by omega)
  have C1 := Lib.hid (known4_any w ht)
  have CP1 := Lib.hid cp1
  have CP2 := Lib.hid cp2
  have CL := Lib.hid cl
  have CH1 := Lib.hid ch1
  have CHO := Lib.hid cho
  have CHN := Lib.hid chn
  have CQ := Lib.hid c0
  have CA := Lib.hid ca
  have CB := Lib.hid cb
  have CC := Lib.hid cc
  have hnb : n ≤ 1099511627776 := by omega
  have hkb : k ≤ 1099511627776 := by omega
  have hm1b : m1 ≤ 42 := by omega
  by_cases hm00 : m = 0
  · have CH := Lib.hid (fun w' (h : Txts w' v L) => hashes4L_any v L m w' h (by omega) hs)
    have hmz : (m : Int) = 0 := by omega
    have hmn : ¬ ((0 : Int) < (m : Int)) := by omega
    have hme : ((m : Int) == 0) = true := beq_iff_eq.2 hmz
    clear cp1 cp2 cl ch1 cho chn c0 ca cb cc hX0 hX1 hm40 hk hk0 hn hn0 hs hold hnow ht hv hz hi hn0l hm hl hmz hm1 hm00
    go_enter Tryd.func5, Tryd.ntmps5
    go_wp2_with (first
      | (go_at_call 14; with_reducible refine (C1.out).mono ?_; rintro r w1 ⟨rfl, hb⟩; have HB1 := Lib.hid hb; clear hb)
      | (go_at_call 23; with_reducible refine (CQ.out w1 (HT.out.below HB1.out) (HV.out.below HB1.out (Nat.le_refl _))).mono ?_; rintro r w2 ⟨rfl, hb⟩; have HB2 := Lib.hid (below_from HB1.out hb HB1.out.size); clear hb)
      | (go_at_call 20; with_reducible refine (CP1.out w2).mono ?_; rintro r w1' ⟨rfl, hw⟩; rw [hw]; clear hw w1')
      | (go_at_call 20; with_reducible refine (CP2.out w2).mono ?_; rintro r w1' ⟨rfl, hw⟩; rw [hw]; clear hw w1')
      | (go_at_call 18; with_reducible refine (CL.out w2).mono ?_; rintro r w1' ⟨rfl, hw⟩; rw [hw]; clear hw w1')
      | (go_at_call 21; with_reducible refine (CH.out w2 (HV.out.below HB2.out (Nat.le_refl _))).mono ?_; rintro r w3 ⟨x, rfl, hown, hb⟩; have HB3 := Lib.hid (below_from HB2.out hb HB2.out.size); have HO3 := Lib.hid hown; clear hb hown)
      | (go_at_call 22; with_reducible refine (CHO.out w3).mono ?_; rintro r w4 ⟨rfl, hb⟩; have HB4 := Lib.hid (below_from HB3.out hb HB3.out.size); have HO4 := Lib.hid (owns_below HO3.out hb (Nat.le_refl _)); clear hb)
      | (go_at_call 23; with_reducible refine (CA.out _ w4 (HT.out.below HB4.out) (txts_own HO4.out HXL.out)).mono ?_; rintro r w5 ⟨rfl, hb⟩; have HB5 := Lib.hid (below_from HB4.out hb HB4.out.size); have HO5 := Lib.hid (owns_below HO4.out hb (Nat.le_refl _)); clear hb)
      | (go_at_call 22; with_reducible refine (CHN.out w5).mono ?_; rintro r w6 ⟨rfl, hb⟩; have HB6 := Lib.hid (below_from HB5.out hb HB5.out.size); have HO6 := Lib.hid (owns_below HO5.out hb (Nat.le_refl _)); clear hb)
      | (go_at_call 23; with_reducible refine (CB.out _ w6 (HT.out.below HB6.out) (txts_own HO6.out HXL.out)).mono ?_; rintro r w7 ⟨rfl, hb⟩; have HB7 := Lib.hid (below_from HB6.out hb HB6.out.size); have HO7 := Lib.hid (owns_below HO6.out hb (Nat.le_refl _)); clear hb)
      | (go_at_call 22; with_reducible refine (CHO.out w7).mono ?_; rintro r w8 ⟨rfl, hb⟩; have HB8 := Lib.hid (below_from HB7.out hb HB7.out.size); have HO8 := Lib.hid (owns_below HO7.out hb (Nat.le_refl _)); clear hb)
      | (go_at_call 22; with_reducible refine (CHN.out w8).mono ?_; rintro r w9 ⟨rfl, hb⟩; have HB9 := Lib.hid (below_from HB8.out hb HB8.out.size); have HO9 := Lib.hid (owns_below HO8.out hb (Nat.le_refl _)); clear hb)
      | (go_at_call 21; with_reducible refine (CH1.out w9 (HV.out.below HB9.out (Nat.le_refl _))).mono ?_; rintro r w10 ⟨y, rfl, hown, hb⟩; have HB10 := Lib.hid (below_from HB9.out hb HB9.out.size); have HO10 := Lib.hid (owns_below HO9.out hb (Nat.le_refl _)); have HY10 := Lib.hid (txts_own hown HYL.out); clear hb hown)
      | (go_at_call 23; with_reducible refine (CC.out _ w10 (HT.out.below HB10.out) HY10.out).mono ?_; rintro r w11 ⟨rfl, hb⟩; have HB11 := Lib.hid (below_from HB10.out hb HB10.out.size); have HO11 := Lib.hid (owns_below HO10.out hb (Nat.le_refl _)); clear hb))
    go_ret
    exact ⟨rfl, HB11.out⟩
  · have hm0 : 0 < m := by omega
    obtain ⟨M, hM⟩ : ∃ M, M = m - 1 := ⟨_, rfl⟩
    have hMi : (m : Int) - 1 = (M : Int) := by omega
    have hMm : M ≤ m := by omega
    have HCUT := Lib.hid (hsL_take L m M hMm)
    have ch := fun w' (h : Txts w' v L) => (hashes4L_any v L m w' h (by omega) hs).mono (R' := fun e w'' => ∃ gx cx, e = .returned (.slice (some ⟨gx, 0, none⟩) m cx) ∧ w''.ownsRow w'.heap.size 9 1 (.slice (some ⟨gx, 0, none⟩) m cx) m ((hsL L m).map Value.string) ∧ Below w'.heap.size w' w'') (fun e w'' h => by
      obtain ⟨x, rfl, hown, hb⟩ := h
      rcases hown.2 with ⟨_, h0⟩ | ⟨gx, cx, cur, hx, _⟩
      · omega
      · subst hx
        exact ⟨gx, cx, rfl, hown, hb⟩)
    have CH := Lib.hid ch
    have CP3 := Lib.hid (fun w' => pick4_any i m w' hm0 (by omega) hi)
    obtain ⟨kx, hkx⟩ : ∃ kx, kx = pickN i m := ⟨_, rfl⟩
    have hkxm : kx < m := by rw [hkx]; exact pickN_lt i hm0
    rw [← hkx] at CP3
    have cd := fun x w' (ht : Tabs w') (h : Txts w' x (hsL L M)) => proof4_any k n (hashS old) (hashS now) x (hsL L M) w' ht h (by rw [hsL_length]; omega) (hsL_small L M)
    have ce := fun x w' (ht : Tabs w') (h : Txts w' x ((hsL L m).set kx old)) => proof4_any k n (hashS old) (hashS now) x ((hsL L m).set kx old) w' ht h (by rw [List.length_set]; omega) (set_small (hsL_small L m) hold)
    have HSETL := Lib.hid (show ((hsL L m).set kx old).length ≤ 281474976710656 by rw [List.length_set]; omega)
    have HSETM := Lib.hid (show ((hsL L m).set kx old).map Value.string = ((hsL L m).map Value.string).set kx (.string old) by rw [List.map_set])
    obtain ⟨olds, holds⟩ : ∃ o, (hsL L m)[kx]? = some o := ⟨(hsL L m)[kx]'(by omega), List.getElem?_eq_getElem _⟩
    have HOLD := Lib.hid (show ((hsL L m).map Value.string)[kx]? = some (.string olds) by rw [List.getElem?_map, holds]; rfl)
    have CD := Lib.hid cd
    have CE := Lib.hid ce
    have HKXM := Lib.hid hkxm
    have hkxi : (kx : Int) < (m : Int) := by omega
    have hmp : (0 : Int) < (m : Int) := by omega
    have hMi0 : (0 : Int) ≤ (M : Int) := by omega
    have hMc : ∀ c : Nat, m ≤ c → (M : Int) ≤ (c : Int) := fun c h => by omega
    have HMC := Lib.hid hMc
    have hme : ((m : Int) == 0) = false := beq_eq_false_iff_ne.2 (by omega)
    have hmb : m ≤ 41 := by omega
    clear cp1 cp2 cl ch1 ch cho chn c0 ca cb cc cd ce hX0 hX1 hm40 hk hk0 hn hn0 hs hold hnow ht hv hz hi hn0l hm hl hm1 hm00 hm0 hM hMm hkx hkxm holds hMc
    go_enter Tryd.func5, Tryd.ntmps5
    go_upto_region 14 with (first
      | (go_at_call 14; with_reducible refine (C1.out).mono ?_; rintro r w1 ⟨rfl, hb⟩; have HB1 := Lib.hid hb; clear hb)
      | (go_at_call 23; with_reducible refine (CQ.out w1 (HT.out.below HB1.out) (HV.out.below HB1.out (Nat.le_refl _))).mono ?_; rintro r w2 ⟨rfl, hb⟩; have HB2 := Lib.hid (below_from HB1.out hb HB1.out.size); clear hb)
      | (go_at_call 20; with_reducible refine (CP1.out w2).mono ?_; rintro r w1' ⟨rfl, hw⟩; rw [hw]; clear hw w1')
      | (go_at_call 20; with_reducible refine (CP2.out w2).mono ?_; rintro r w1' ⟨rfl, hw⟩; rw [hw]; clear hw w1')
      | (go_at_call 18; with_reducible refine (CL.out w2).mono ?_; rintro r w1' ⟨rfl, hw⟩; rw [hw]; clear hw w1')
      | (go_at_call 21; with_reducible refine (CH.out w2 (HV.out.below HB2.out (Nat.le_refl _))).mono ?_; rintro r w3 ⟨gx, cx, rfl, hown, hb⟩; have HB3 := Lib.hid (below_from HB2.out hb HB2.out.size); have HO3 := Lib.hid hown; clear hb hown)
      | (go_at_call 22; with_reducible refine (CHO.out w3).mono ?_; rintro r w4 ⟨rfl, hb⟩; have HB4 := Lib.hid (below_from HB3.out hb HB3.out.size); have HO4 := Lib.hid (owns_below HO3.out hb (Nat.le_refl _)); clear hb)
      | (go_at_call 23; with_reducible refine (CA.out _ w4 (HT.out.below HB4.out) (txts_own HO4.out HXL.out)).mono ?_; rintro r w5 ⟨rfl, hb⟩; have HB5 := Lib.hid (below_from HB4.out hb HB4.out.size); have HO5 := Lib.hid (owns_below HO4.out hb (Nat.le_refl _)); clear hb)
      | (go_at_call 22; with_reducible refine (CHN.out w5).mono ?_; rintro r w6 ⟨rfl, hb⟩; have HB6 := Lib.hid (below_from HB5.out hb HB5.out.size); have HO6 := Lib.hid (owns_below HO5.out hb (Nat.le_refl _)); clear hb)
      | (go_at_call 23; with_reducible refine (CB.out _ w6 (HT.out.below HB6.out) (txts_own HO6.out HXL.out)).mono ?_; rintro r w7 ⟨rfl, hb⟩; have HB7 := Lib.hid (below_from HB6.out hb HB6.out.size); have HO7 := Lib.hid (owns_below HO6.out hb (Nat.le_refl _)); clear hb)
      | (go_at_call 22; with_reducible refine (CHO.out w7).mono ?_; rintro r w8 ⟨rfl, hb⟩; have HB8 := Lib.hid (below_from HB7.out hb HB7.out.size); have HO8 := Lib.hid (owns_below HO7.out hb (Nat.le_refl _)); clear hb)
      | (go_at_call 22; with_reducible refine (CHN.out w8).mono ?_; rintro r w9 ⟨rfl, hb⟩; have HB9 := Lib.hid (below_from HB8.out hb HB8.out.size); have HO9 := Lib.hid (owns_below HO8.out hb (Nat.le_refl _)); clear hb)
      | (go_at_call 21; with_reducible refine (CH1.out w9 (HV.out.below HB9.out (Nat.le_refl _))).mono ?_; rintro r w10 ⟨y, rfl, hown, hb⟩; have HB10 := Lib.hid (below_from HB9.out hb HB9.out.size); have HO10 := Lib.hid (owns_below HO9.out hb (Nat.le_refl _)); have HY10 := Lib.hid (txts_own hown HYL.out); clear hb hown)
      | (go_at_call 23; with_reducible refine (CC.out _ w10 (HT.out.below HB10.out) HY10.out).mono ?_; rintro r w11 ⟨rfl, hb⟩; have HB11 := Lib.hid (below_from HB10.out hb HB10.out.size); have HO11 := Lib.hid (owns_below HO10.out hb (Nat.le_refl _)); clear hb))
    have hcx := (owns_blk HO11.out).2.2
    have hMcx : (M : Int) ≤ (cx : Int) := HMC.out cx hcx
    have HOd : Hid (w11.drew.ownsRow w2.heap.size 9 1 (.slice (some ⟨gx, 0, none⟩) m cx) m ((hsL L m).map Value.string)) := HO11
    have HBd : Hid (Below w.heap.size w w11.drew) := below_drew HB11.out
    have hw1 : IntKind.i64.wrap ((m : Int) - 1) = (M : Int) := by rw [hMi]; exact IntWalk.i64_in _ (by omega)
    have hw2 : IntKind.i64.wrap (M : Int) = (M : Int) := IntWalk.i64_in _ (by omega)
    have HS0 := Lib.hid (show Below w.heap.size w w11.drew ∧ w11.drew.ownsRow w2.heap.size 9 1 (.slice (some ⟨gx, 0, none⟩) m cx) m ((hsL L m).map Value.string) from ⟨HBd.out, HOd.out⟩)
    go_region_held3 (fun w' => Below w.heap.size w w' ∧ w'.ownsRow w2.heap.size 9 1 (.slice (some ⟨gx, 0, none⟩) m cx) m ((hsL L m).map Value.string)) (first | exact HS3.out | exact HS1.out | exact HS0.out) (first
      | (go_at_call 22; with_reducible refine (CHO.out _).mono ?_; rintro r w12 ⟨rfl, hb⟩; have HS1 := Lib.hid (keepO (by first | exact HS1.out | exact HS0.out) hb); clear hb)
      | (go_at_call 22; with_reducible refine (CHN.out _).mono ?_; rintro r w12 ⟨rfl, hb⟩; have HS1 := Lib.hid (keepO (by first | exact HS1.out | exact HS0.out) hb); clear hb)
      | (go_at_call 23; refine (CD.out _ _ (HT.out.below HS1.out.1) (by have h := txts_cut (m := M) (txts_own HS1.out.2 HXL.out) (by have := hMi; omega); rw [HCUT.out] at h; exact h)).mono ?_; rintro r w14 ⟨rfl, hb⟩; have HS3 := Lib.hid (keepO HS1.out hb); clear hb))
    clear hw1 hw2
    all_goals
      have hold := owns_cell HS3.out.2 HKXM.out
      rw [HOLD.out] at hold
      have hfz := owns_slot (k := kx) HS3.out.2
      have HO15 := Lib.hid (owns_set (k := kx) HS3.out.2 (.string old))
      rw [← HSETM.out] at HO15
      have HB15 := Lib.hid (HS3.out.1.trans (step_below (g := gx) (i := kx) (.string old) (Nat.le_trans HB2.out.size (owns_blk HS3.out.2).1) HS3.out.1.size))
      go_wp2_with (first
        | (go_at_call 20; with_reducible refine (CP3.out _).mono ?_; rintro r w1' ⟨rfl, hw⟩; rw [hw]; clear hw w1')
        | (go_at_call 22; with_reducible refine (CHO.out _).mono ?_; rintro r w16 ⟨rfl, hb⟩; have HB16 := Lib.hid (below_from HB15.out hb HB15.out.size); have HO16 := Lib.hid (owns_below HO15.out hb (Nat.le_refl _)); clear hb)
        | (go_at_call 22; with_reducible refine (CHN.out _).mono ?_; rintro r w17 ⟨rfl, hb⟩; have HB17 := Lib.hid (below_from HB16.out hb HB16.out.size); have HO17 := Lib.hid (owns_below HO16.out hb (Nat.le_refl _)); clear hb)
        | (go_at_call 23; with_reducible refine (CE.out _ w17 (HT.out.below HB17.out) (txts_own HO17.out HSETL.out)).mono ?_; rintro r w18 ⟨rfl, hb⟩; have HB18 := Lib.hid (below_from HB17.out hb HB17.out.size); clear hb))
      go_ret
      exact ⟨rfl, HB18.out⟩
end Go.Proofs.YtmlekeegmdpjkaaDoor
