/- VerifyOne, walked. -/
import Derived.Test.YtmlekeegmdpjkaaDoorL4c
namespace Go.Proofs.YtmlekeegmdpjkaaDoor
open Go.RowKit Go.Scr
set_option linter.unusedVariables false

theorem wayN_le (j : Nat) : ∀ n m, n ≤ 2 ^ j → m < n → wayN n m ≤ j := by
  induction j with
  | zero => intro n m h _; rw [wayN_one m (by simpa using h)]; exact Nat.le_refl _
  | succ j ih =>
    intro n m h hm
    by_cases h1 : n ≤ 1
    · rw [wayN_one m h1]; omega
    · obtain ⟨i, hi, hi2, hi3⟩ := spl_pow (show 2 ≤ n by omega)
      have hp : 0 < 2 ^ i := Nat.pos_of_ne_zero (by simp)
      have hij : i ≤ j := by
        have : 2 ^ i < 2 ^ (j + 1) := by omega
        have := (Nat.pow_lt_pow_iff_right (a := 2) (by omega)).1 this
        omega
      have hpow : 2 ^ i ≤ 2 ^ j := Nat.pow_le_pow_right (by omega) hij
      have hps : 2 ^ (i + 1) = 2 * 2 ^ i := by rw [Nat.pow_succ]; omega
      by_cases h2 : m < spl n
      · rw [wayN_left (by omega) h2, hi]
        rw [hi] at h2
        have := ih (2 ^ i) m (by omega) h2
        omega
      · rw [wayN_right (by omega) h2, hi]
        rw [hi] at h2
        have := ih (n - 2 ^ i) (m - 2 ^ i) (by omega) (by omega)
        omega
theorem climbF_size : ∀ (D : List Bool) (L : List ByteArray) (r : ByteArray), r.size = 32 → all32 L = true → (climbF nodeS D L r).size = 32 := by
  intro D
  induction D with
  | nil => intro L r hr _; cases L <;> exact hr
  | cons d D ih =>
    intro L r hr hL
    cases L with
    | nil => exact hr
    | cons p L =>
      have hp : p.size = 32 ∧ all32 L = true := by
        unfold all32 at hL ⊢
        rw [List.all_cons, Bool.and_eq_true] at hL
        exact ⟨by simpa using hL.1, hL.2⟩
      exact ih L _ (by cases d <;> simp <;> exact nodeS_size (by first | exact hr | exact hp.1) (by first | exact hr | exact hp.1)) hp.2

set_option maxRecDepth 100000 in
set_option maxHeartbeats 4000000 in
theorem vone_any (z i : Int) (leaf : ByteArray) (v : Value) (L : List ByteArray) (root : ByteArray) (w : World) (ht : Tabs w) (hv : Txts w v L) (hz : -9223372036854775808 ≤ z ∧ z ≤ 9223372036854775807) (hi : -9223372036854775808 ≤ i ∧ i ≤ 9223372036854775807)
    (hs : ∀ s ∈ L, s.size ≤ 1048576) (hleaf : leaf.size ≤ 1048576) (hroot : root.size ≤ 1048576) :
    Calls Tryd.prog 6 #[.int .i64 z, .int .i64 i, .string leaf, v, .string root] w fun e w' => e = .returned (.bool true) ∧ Below w.heap.size w w' := by
  have HT := Lib.hid ht
  have HV := Lib.hid hv
  have cp1 : ∀ w', Calls Tryd.prog 20 #[.int .i64 z, .int .i64 1099511627776] w' fun e w'' => e = .returned (.int .i64 ((pickN z 1099511627776 : Nat) : Int)) ∧ w'' = w' := fun w' => pick4_any z 1099511627776 w' (by decide) (by decide) hz
  obtain ⟨n0, hn0⟩ : ∃ n, n = pickN z 1099511627776 := ⟨_, rfl⟩
  have hn0l : n0 < 1099511627776 := by rw [hn0]; exact pickN_lt z (by decide)
  rw [← hn0] at cp1
  obtain ⟨n, hn⟩ : ∃ n, n = n0 + 1 := ⟨_, rfl⟩
  have hni : 1 + (n0 : Int) = (n : Int) := by omega
  have cp2 := fun w' => pick4_any i n w' (by omega) (by omega) hi
  obtain ⟨k, hk⟩ : ∃ k, k = pickN i n := ⟨_, rfl⟩
  have hkn : k < n := by rw [hk]; exact pickN_lt i (by omega)
  rw [← hk] at cp2
  have cl := fun w' => pathlen_any n k w'
  rw [(pathLenS_ok hkn (by omega)).1, (pathLenS_ok hkn (by omega)).2] at cl
  have hm40 : wayN n k ≤ 40 := wayN_le 40 n k (by omega) hkn
  have hX0 := hsL_length L (wayN n k)
  have hok := rootOf_ok (n := n) (m := k) (leaf := hashS leaf) (L := hsL L (wayN n k)) hkn (by omega) (hashS_size _) (hsL_all _ _) hX0
  obtain ⟨R, hR⟩ : ∃ R, R = climbF nodeS (dn n k) (hsL L (wayN n k)) (hashS leaf) := ⟨_, rfl⟩
  have hRs : R.size = 32 := by rw [hR]; exact climbF_size _ _ _ (hashS_size _) (hsL_all _ _)
  rw [← hR] at hok
  obtain ⟨m, hm⟩ : ∃ m, m = wayN n k := ⟨_, rfl⟩
  rw [← hm] at cl hm40 hX0 hok
  have ch := fun w' (h : Txts w' v L) => hashes4L_any v L m w' h (by omega) hs
  have chl := fun w' => hash4_any leaf w' (by omega)
  have chr := fun w' => hash4_any root w' (by omega)
  have cr := fun x w' (ht : Tabs w') (h : Txts w' x (hsL L m)) => rootof_any n k (hashS leaf) x (hsL L m) w' ht h (by omega)
  rw [hok.1, hok.2] at cr
  have ci := fun t x w' (ht : Tabs w') (h : Txts w' x (hsL L m)) => inclusion_any n k (hashS leaf) x (hsL L m) t w' ht h (by omega)
  have hincl : ∀ t, inclS n k (hashS leaf) (hsL L m) t = if t.size ≠ 32 then 42 else if R ≠ t then 44 else 0 := by
    intro t
    unfold inclS
    rw [hok.1, hok.2, if_neg (by simp)]
  simp only [hincl] at ci
  have ci1 := ci R
  rw [if_neg (by simp [hRs]), if_neg (by simp)] at ci1
  have ci3 := ci (hashS root)
  rw [if_neg (by simp [hashS_size])] at ci3
  have ci2 := ci root
  have hmi : ((m : Nat) : Int) ≤ 40 := by omega
  have hmi0 : (0 : Int) ≤ (m : Int) := by omega
  have hXl : (hsL L m).length ≤ 281474976710656 := by omega
  generalize hsL L m = X at ch cr ci1 ci2 ci3 hXl
  have hnb : n ≤ 1099511627776 := by omega
  have hkb : k ≤ 1099511627776 := by omega
  have C1 := Lib.hid (known4_any w ht)
  have CP1 := Lib.hid cp1
  have CP2 := Lib.hid cp2
  have CL := Lib.hid cl
  have CH := Lib.hid ch
  have CHL := Lib.hid chl
  have CHR := Lib.hid chr
  have CR := Lib.hid cr
  have CI1 := Lib.hid ci1
  have HXL := Lib.hid hXl
  obtain ⟨HR, hHR⟩ : ∃ H, H = hashS root := ⟨_, rfl⟩
  rw [← hHR] at CHR ci3
  have HRS := Lib.hid hRs
  clear cp1 cp2 cl ch chl chr cr ci ci1 hincl hok hR hRs hm hm40 hX0 hk hn hn0 hs hleaf hroot hHR hXl ht hv hz hi hn0l
  have finish : ∀ (V2 V3 : Int), True := fun _ _ => trivial
  clear finish
  by_cases h32 : root.size = 32
  · have h32i : (root.size : Int) = 32 := by omega
    rw [if_neg (by simp [h32])] at ci2
    clear h32
    by_cases hrr : root = R
    · rw [if_neg (by simp [hrr])] at ci2
      have CI2 := Lib.hid ci2
      have e1 : (root.toList == R.toList) = true := by rw [hrr]; exact toList_same _
      clear hrr ci2
      by_cases hh : HR = R
      · rw [if_neg (by simp [hh])] at ci3
        have CI3 := Lib.hid ci3
        have e2 : (HR.toList == R.toList) = true := by rw [hh]; exact toList_same _
        clear hh ci3
        go_enter Tryd.func6, Tryd.ntmps6
        go_wp2_with (first
          | (go_at_call 14; with_reducible refine (C1.out).mono ?_; rintro r w1 ⟨rfl, hb⟩; have HB1 := Lib.hid hb; clear hb)
          | (go_at_call 20; with_reducible refine (CP1.out w1).mono ?_; rintro r w1' ⟨rfl, hw⟩; rw [hw]; clear hw w1')
          | (go_at_call 20; with_reducible refine (CP2.out w1).mono ?_; rintro r w1' ⟨rfl, hw⟩; rw [hw]; clear hw w1')
          | (go_at_call 15; with_reducible refine (CL.out w1).mono ?_; rintro r w2 ⟨rfl, hb⟩; have HB2 := Lib.hid (below_from HB1.out hb HB1.out.size); clear hb)
          | (go_at_call 21; with_reducible refine (CH.out w2 (HV.out.below HB2.out (Nat.le_refl _))).mono ?_; rintro r w3 ⟨x, rfl, hown, hb⟩; have HB3 := Lib.hid (below_from HB2.out hb HB2.out.size); have HX3 := Lib.hid (txts_own hown HXL.out); clear hb hown)
          | (go_at_call 22; with_reducible refine (CHL.out w3).mono ?_; rintro r w4 ⟨rfl, hb⟩; have HB4 := Lib.hid (below_from HB3.out hb HB3.out.size); have HX4 := Lib.hid (HX3.out.below hb (Nat.le_refl _)); clear hb)
          | (go_at_call 24; with_reducible refine (CR.out _ w4 (HT.out.below HB4.out) HX4.out).mono ?_; rintro r w5 ⟨rfl, hb⟩; have HB5 := Lib.hid (below_from HB4.out hb HB4.out.size); have HX5 := Lib.hid (HX4.out.below hb (Nat.le_refl _)); clear hb)
          | (go_at_call 22; with_reducible refine (CHL.out w5).mono ?_; rintro r w6 ⟨rfl, hb⟩; have HB6 := Lib.hid (below_from HB5.out hb HB5.out.size); have HX6 := Lib.hid (HX5.out.below hb (Nat.le_refl _)); clear hb)
          | (go_at_call 25; with_reducible refine (CI1.out _ w6 (HT.out.below HB6.out) HX6.out).mono ?_; rintro r w7 ⟨rfl, hb⟩; have HB7 := Lib.hid (below_from HB6.out hb HB6.out.size); have HX7 := Lib.hid (HX6.out.below hb (Nat.le_refl _)); clear hb)
          | (go_at_call 22; with_reducible refine (CHL.out w7).mono ?_; rintro r w8 ⟨rfl, hb⟩; have HB8 := Lib.hid (below_from HB7.out hb HB7.out.size); have HX8 := Lib.hid (HX7.out.below hb (Nat.le_refl _)); clear hb)
          | (go_at_call 25; with_reducible refine (CI2.out _ w8 (HT.out.below HB8.out) HX8.out).mono ?_; rintro r w9 ⟨rfl, hb⟩; have HB9 := Lib.hid (below_from HB8.out hb HB8.out.size); have HX9 := Lib.hid (HX8.out.below hb (Nat.le_refl _)); clear hb)
          | (go_at_call 22; with_reducible refine (CHL.out w9).mono ?_; rintro r w10 ⟨rfl, hb⟩; have HB10 := Lib.hid (below_from HB9.out hb HB9.out.size); have HX10 := Lib.hid (HX9.out.below hb (Nat.le_refl _)); clear hb)
          | (go_at_call 22; with_reducible refine (CHR.out w10).mono ?_; rintro r w11 ⟨rfl, hb⟩; have HB11 := Lib.hid (below_from HB10.out hb HB10.out.size); have HX11 := Lib.hid (HX10.out.below hb (Nat.le_refl _)); clear hb)
          | (go_at_call 25; with_reducible refine (CI3.out _ w11 (HT.out.below HB11.out) HX11.out).mono ?_; rintro r w12 ⟨rfl, hb⟩; have HB12 := Lib.hid (below_from HB11.out hb HB11.out.size); have HX12 := Lib.hid (HX11.out.below hb (Nat.le_refl _)); clear hb)
          | (go_at_call 22; with_reducible refine (CHR.out w12).mono ?_; rintro r w13 ⟨rfl, hb⟩; have HB13 := Lib.hid (below_from HB12.out hb HB12.out.size); have HX13 := Lib.hid (HX12.out.below hb (Nat.le_refl _)); clear hb))
        go_ret
        exact ⟨rfl, HB13.out⟩
      · rw [if_pos (fun h => hh h.symm)] at ci3
        have CI3 := Lib.hid ci3
        have e2 : (HR.toList == R.toList) = false := toList_ne hh
        clear hh ci3
        go_enter Tryd.func6, Tryd.ntmps6
        go_wp2_with (first
          | (go_at_call 14; with_reducible refine (C1.out).mono ?_; rintro r w1 ⟨rfl, hb⟩; have HB1 := Lib.hid hb; clear hb)
          | (go_at_call 20; with_reducible refine (CP1.out w1).mono ?_; rintro r w1' ⟨rfl, hw⟩; rw [hw]; clear hw w1')
          | (go_at_call 20; with_reducible refine (CP2.out w1).mono ?_; rintro r w1' ⟨rfl, hw⟩; rw [hw]; clear hw w1')
          | (go_at_call 15; with_reducible refine (CL.out w1).mono ?_; rintro r w2 ⟨rfl, hb⟩; have HB2 := Lib.hid (below_from HB1.out hb HB1.out.size); clear hb)
          | (go_at_call 21; with_reducible refine (CH.out w2 (HV.out.below HB2.out (Nat.le_refl _))).mono ?_; rintro r w3 ⟨x, rfl, hown, hb⟩; have HB3 := Lib.hid (below_from HB2.out hb HB2.out.size); have HX3 := Lib.hid (txts_own hown HXL.out); clear hb hown)
          | (go_at_call 22; with_reducible refine (CHL.out w3).mono ?_; rintro r w4 ⟨rfl, hb⟩; have HB4 := Lib.hid (below_from HB3.out hb HB3.out.size); have HX4 := Lib.hid (HX3.out.below hb (Nat.le_refl _)); clear hb)
          | (go_at_call 24; with_reducible refine (CR.out _ w4 (HT.out.below HB4.out) HX4.out).mono ?_; rintro r w5 ⟨rfl, hb⟩; have HB5 := Lib.hid (below_from HB4.out hb HB4.out.size); have HX5 := Lib.hid (HX4.out.below hb (Nat.le_refl _)); clear hb)
          | (go_at_call 22; with_reducible refine (CHL.out w5).mono ?_; rintro r w6 ⟨rfl, hb⟩; have HB6 := Lib.hid (below_from HB5.out hb HB5.out.size); have HX6 := Lib.hid (HX5.out.below hb (Nat.le_refl _)); clear hb)
          | (go_at_call 25; with_reducible refine (CI1.out _ w6 (HT.out.below HB6.out) HX6.out).mono ?_; rintro r w7 ⟨rfl, hb⟩; have HB7 := Lib.hid (below_from HB6.out hb HB6.out.size); have HX7 := Lib.hid (HX6.out.below hb (Nat.le_refl _)); clear hb)
          | (go_at_call 22; with_reducible refine (CHL.out w7).mono ?_; rintro r w8 ⟨rfl, hb⟩; have HB8 := Lib.hid (below_from HB7.out hb HB7.out.size); have HX8 := Lib.hid (HX7.out.below hb (Nat.le_refl _)); clear hb)
          | (go_at_call 25; with_reducible refine (CI2.out _ w8 (HT.out.below HB8.out) HX8.out).mono ?_; rintro r w9 ⟨rfl, hb⟩; have HB9 := Lib.hid (below_from HB8.out hb HB8.out.size); have HX9 := Lib.hid (HX8.out.below hb (Nat.le_refl _)); clear hb)
          | (go_at_call 22; with_reducible refine (CHL.out w9).mono ?_; rintro r w10 ⟨rfl, hb⟩; have HB10 := Lib.hid (below_from HB9.out hb HB9.out.size); have HX10 := Lib.hid (HX9.out.below hb (Nat.le_refl _)); clear hb)
          | (go_at_call 22; with_reducible refine (CHR.out w10).mono ?_; rintro r w11 ⟨rfl, hb⟩; have HB11 := Lib.hid (below_from HB10.out hb HB10.out.size); have HX11 := Lib.hid (HX10.out.below hb (Nat.le_refl _)); clear hb)
          | (go_at_call 25; with_reducible refine (CI3.out _ w11 (HT.out.below HB11.out) HX11.out).mono ?_; rintro r w12 ⟨rfl, hb⟩; have HB12 := Lib.hid (below_from HB11.out hb HB11.out.size); have HX12 := Lib.hid (HX11.out.below hb (Nat.le_refl _)); clear hb)
          | (go_at_call 22; with_reducible refine (CHR.out w12).mono ?_; rintro r w13 ⟨rfl, hb⟩; have HB13 := Lib.hid (below_from HB12.out hb HB12.out.size); have HX13 := Lib.hid (HX12.out.below hb (Nat.le_refl _)); clear hb))
        go_ret
        exact ⟨rfl, HB13.out⟩
    · rw [if_pos (fun h => hrr h.symm)] at ci2
      have CI2 := Lib.hid ci2
      have e1 : (root.toList == R.toList) = false := toList_ne hrr
      clear hrr ci2
      by_cases hh : HR = R
      · rw [if_neg (by simp [hh])] at ci3
        have CI3 := Lib.hid ci3
        have e2 : (HR.toList == R.toList) = true := by rw [hh]; exact toList_same _
        clear hh ci3
        go_enter Tryd.func6, Tryd.ntmps6
        go_wp2_with (first
          | (go_at_call 14; with_reducible refine (C1.out).mono ?_; rintro r w1 ⟨rfl, hb⟩; have HB1 := Lib.hid hb; clear hb)
          | (go_at_call 20; with_reducible refine (CP1.out w1).mono ?_; rintro r w1' ⟨rfl, hw⟩; rw [hw]; clear hw w1')
          | (go_at_call 20; with_reducible refine (CP2.out w1).mono ?_; rintro r w1' ⟨rfl, hw⟩; rw [hw]; clear hw w1')
          | (go_at_call 15; with_reducible refine (CL.out w1).mono ?_; rintro r w2 ⟨rfl, hb⟩; have HB2 := Lib.hid (below_from HB1.out hb HB1.out.size); clear hb)
          | (go_at_call 21; with_reducible refine (CH.out w2 (HV.out.below HB2.out (Nat.le_refl _))).mono ?_; rintro r w3 ⟨x, rfl, hown, hb⟩; have HB3 := Lib.hid (below_from HB2.out hb HB2.out.size); have HX3 := Lib.hid (txts_own hown HXL.out); clear hb hown)
          | (go_at_call 22; with_reducible refine (CHL.out w3).mono ?_; rintro r w4 ⟨rfl, hb⟩; have HB4 := Lib.hid (below_from HB3.out hb HB3.out.size); have HX4 := Lib.hid (HX3.out.below hb (Nat.le_refl _)); clear hb)
          | (go_at_call 24; with_reducible refine (CR.out _ w4 (HT.out.below HB4.out) HX4.out).mono ?_; rintro r w5 ⟨rfl, hb⟩; have HB5 := Lib.hid (below_from HB4.out hb HB4.out.size); have HX5 := Lib.hid (HX4.out.below hb (Nat.le_refl _)); clear hb)
          | (go_at_call 22; with_reducible refine (CHL.out w5).mono ?_; rintro r w6 ⟨rfl, hb⟩; have HB6 := Lib.hid (below_from HB5.out hb HB5.out.size); have HX6 := Lib.hid (HX5.out.below hb (Nat.le_refl _)); clear hb)
          | (go_at_call 25; with_reducible refine (CI1.out _ w6 (HT.out.below HB6.out) HX6.out).mono ?_; rintro r w7 ⟨rfl, hb⟩; have HB7 := Lib.hid (below_from HB6.out hb HB6.out.size); have HX7 := Lib.hid (HX6.out.below hb (Nat.le_refl _)); clear hb)
          | (go_at_call 22; with_reducible refine (CHL.out w7).mono ?_; rintro r w8 ⟨rfl, hb⟩; have HB8 := Lib.hid (below_from HB7.out hb HB7.out.size); have HX8 := Lib.hid (HX7.out.below hb (Nat.le_refl _)); clear hb)
          | (go_at_call 25; with_reducible refine (CI2.out _ w8 (HT.out.below HB8.out) HX8.out).mono ?_; rintro r w9 ⟨rfl, hb⟩; have HB9 := Lib.hid (below_from HB8.out hb HB8.out.size); have HX9 := Lib.hid (HX8.out.below hb (Nat.le_refl _)); clear hb)
          | (go_at_call 22; with_reducible refine (CHL.out w9).mono ?_; rintro r w10 ⟨rfl, hb⟩; have HB10 := Lib.hid (below_from HB9.out hb HB9.out.size); have HX10 := Lib.hid (HX9.out.below hb (Nat.le_refl _)); clear hb)
          | (go_at_call 22; with_reducible refine (CHR.out w10).mono ?_; rintro r w11 ⟨rfl, hb⟩; have HB11 := Lib.hid (below_from HB10.out hb HB10.out.size); have HX11 := Lib.hid (HX10.out.below hb (Nat.le_refl _)); clear hb)
          | (go_at_call 25; with_reducible refine (CI3.out _ w11 (HT.out.below HB11.out) HX11.out).mono ?_; rintro r w12 ⟨rfl, hb⟩; have HB12 := Lib.hid (below_from HB11.out hb HB11.out.size); have HX12 := Lib.hid (HX11.out.below hb (Nat.le_refl _)); clear hb)
          | (go_at_call 22; with_reducible refine (CHR.out w12).mono ?_; rintro r w13 ⟨rfl, hb⟩; have HB13 := Lib.hid (below_from HB12.out hb HB12.out.size); have HX13 := Lib.hid (HX12.out.below hb (Nat.le_refl _)); clear hb))
        go_ret
        exact ⟨rfl, HB13.out⟩
      · rw [if_pos (fun h => hh h.symm)] at ci3
        have CI3 := Lib.hid ci3
        have e2 : (HR.toList == R.toList) = false := toList_ne hh
        clear hh ci3
        go_enter Tryd.func6, Tryd.ntmps6
        go_wp2_with (first
          | (go_at_call 14; with_reducible refine (C1.out).mono ?_; rintro r w1 ⟨rfl, hb⟩; have HB1 := Lib.hid hb; clear hb)
          | (go_at_call 20; with_reducible refine (CP1.out w1).mono ?_; rintro r w1' ⟨rfl, hw⟩; rw [hw]; clear hw w1')
          | (go_at_call 20; with_reducible refine (CP2.out w1).mono ?_; rintro r w1' ⟨rfl, hw⟩; rw [hw]; clear hw w1')
          | (go_at_call 15; with_reducible refine (CL.out w1).mono ?_; rintro r w2 ⟨rfl, hb⟩; have HB2 := Lib.hid (below_from HB1.out hb HB1.out.size); clear hb)
          | (go_at_call 21; with_reducible refine (CH.out w2 (HV.out.below HB2.out (Nat.le_refl _))).mono ?_; rintro r w3 ⟨x, rfl, hown, hb⟩; have HB3 := Lib.hid (below_from HB2.out hb HB2.out.size); have HX3 := Lib.hid (txts_own hown HXL.out); clear hb hown)
          | (go_at_call 22; with_reducible refine (CHL.out w3).mono ?_; rintro r w4 ⟨rfl, hb⟩; have HB4 := Lib.hid (below_from HB3.out hb HB3.out.size); have HX4 := Lib.hid (HX3.out.below hb (Nat.le_refl _)); clear hb)
          | (go_at_call 24; with_reducible refine (CR.out _ w4 (HT.out.below HB4.out) HX4.out).mono ?_; rintro r w5 ⟨rfl, hb⟩; have HB5 := Lib.hid (below_from HB4.out hb HB4.out.size); have HX5 := Lib.hid (HX4.out.below hb (Nat.le_refl _)); clear hb)
          | (go_at_call 22; with_reducible refine (CHL.out w5).mono ?_; rintro r w6 ⟨rfl, hb⟩; have HB6 := Lib.hid (below_from HB5.out hb HB5.out.size); have HX6 := Lib.hid (HX5.out.below hb (Nat.le_refl _)); clear hb)
          | (go_at_call 25; with_reducible refine (CI1.out _ w6 (HT.out.below HB6.out) HX6.out).mono ?_; rintro r w7 ⟨rfl, hb⟩; have HB7 := Lib.hid (below_from HB6.out hb HB6.out.size); have HX7 := Lib.hid (HX6.out.below hb (Nat.le_refl _)); clear hb)
          | (go_at_call 22; with_reducible refine (CHL.out w7).mono ?_; rintro r w8 ⟨rfl, hb⟩; have HB8 := Lib.hid (below_from HB7.out hb HB7.out.size); have HX8 := Lib.hid (HX7.out.below hb (Nat.le_refl _)); clear hb)
          | (go_at_call 25; with_reducible refine (CI2.out _ w8 (HT.out.below HB8.out) HX8.out).mono ?_; rintro r w9 ⟨rfl, hb⟩; have HB9 := Lib.hid (below_from HB8.out hb HB8.out.size); have HX9 := Lib.hid (HX8.out.below hb (Nat.le_refl _)); clear hb)
          | (go_at_call 22; with_reducible refine (CHL.out w9).mono ?_; rintro r w10 ⟨rfl, hb⟩; have HB10 := Lib.hid (below_from HB9.out hb HB9.out.size); have HX10 := Lib.hid (HX9.out.below hb (Nat.le_refl _)); clear hb)
          | (go_at_call 22; with_reducible refine (CHR.out w10).mono ?_; rintro r w11 ⟨rfl, hb⟩; have HB11 := Lib.hid (below_from HB10.out hb HB10.out.size); have HX11 := Lib.hid (HX10.out.below hb (Nat.le_refl _)); clear hb)
          | (go_at_call 25; with_reducible refine (CI3.out _ w11 (HT.out.below HB11.out) HX11.out).mono ?_; rintro r w12 ⟨rfl, hb⟩; have HB12 := Lib.hid (below_from HB11.out hb HB11.out.size); have HX12 := Lib.hid (HX11.out.below hb (Nat.le_refl _)); clear hb)
          | (go_at_call 22; with_reducible refine (CHR.out w12).mono ?_; rintro r w13 ⟨rfl, hb⟩; have HB13 := Lib.hid (below_from HB12.out hb HB12.out.size); have HX13 := Lib.hid (HX12.out.below hb (Nat.le_refl _)); clear hb))
        go_ret
        exact ⟨rfl, HB13.out⟩
  · have h32i : ¬ ((root.size : Int) = 32) := by omega
    rw [if_pos h32] at ci2
    have CI2 := Lib.hid ci2
    have e1 : (root.toList == R.toList) = false := toList_ne (by intro h; apply h32; rw [h]; exact HRS.out)
    clear h32 ci2
    by_cases hh : HR = R
    · rw [if_neg (by simp [hh])] at ci3
      have CI3 := Lib.hid ci3
      have e2 : (HR.toList == R.toList) = true := by rw [hh]; exact toList_same _
      clear hh ci3
      go_enter Tryd.func6, Tryd.ntmps6
      go_wp2_with (first
        | (go_at_call 14; with_reducible refine (C1.out).mono ?_; rintro r w1 ⟨rfl, hb⟩; have HB1 := Lib.hid hb; clear hb)
        | (go_at_call 20; with_reducible refine (CP1.out w1).mono ?_; rintro r w1' ⟨rfl, hw⟩; rw [hw]; clear hw w1')
        | (go_at_call 20; with_reducible refine (CP2.out w1).mono ?_; rintro r w1' ⟨rfl, hw⟩; rw [hw]; clear hw w1')
        | (go_at_call 15; with_reducible refine (CL.out w1).mono ?_; rintro r w2 ⟨rfl, hb⟩; have HB2 := Lib.hid (below_from HB1.out hb HB1.out.size); clear hb)
        | (go_at_call 21; with_reducible refine (CH.out w2 (HV.out.below HB2.out (Nat.le_refl _))).mono ?_; rintro r w3 ⟨x, rfl, hown, hb⟩; have HB3 := Lib.hid (below_from HB2.out hb HB2.out.size); have HX3 := Lib.hid (txts_own hown HXL.out); clear hb hown)
        | (go_at_call 22; with_reducible refine (CHL.out w3).mono ?_; rintro r w4 ⟨rfl, hb⟩; have HB4 := Lib.hid (below_from HB3.out hb HB3.out.size); have HX4 := Lib.hid (HX3.out.below hb (Nat.le_refl _)); clear hb)
        | (go_at_call 24; with_reducible refine (CR.out _ w4 (HT.out.below HB4.out) HX4.out).mono ?_; rintro r w5 ⟨rfl, hb⟩; have HB5 := Lib.hid (below_from HB4.out hb HB4.out.size); have HX5 := Lib.hid (HX4.out.below hb (Nat.le_refl _)); clear hb)
        | (go_at_call 22; with_reducible refine (CHL.out w5).mono ?_; rintro r w6 ⟨rfl, hb⟩; have HB6 := Lib.hid (below_from HB5.out hb HB5.out.size); have HX6 := Lib.hid (HX5.out.below hb (Nat.le_refl _)); clear hb)
        | (go_at_call 25; with_reducible refine (CI1.out _ w6 (HT.out.below HB6.out) HX6.out).mono ?_; rintro r w7 ⟨rfl, hb⟩; have HB7 := Lib.hid (below_from HB6.out hb HB6.out.size); have HX7 := Lib.hid (HX6.out.below hb (Nat.le_refl _)); clear hb)
        | (go_at_call 22; with_reducible refine (CHL.out w7).mono ?_; rintro r w8 ⟨rfl, hb⟩; have HB8 := Lib.hid (below_from HB7.out hb HB7.out.size); have HX8 := Lib.hid (HX7.out.below hb (Nat.le_refl _)); clear hb)
        | (go_at_call 25; with_reducible refine (CI2.out _ w8 (HT.out.below HB8.out) HX8.out).mono ?_; rintro r w9 ⟨rfl, hb⟩; have HB9 := Lib.hid (below_from HB8.out hb HB8.out.size); have HX9 := Lib.hid (HX8.out.below hb (Nat.le_refl _)); clear hb)
        | (go_at_call 22; with_reducible refine (CHL.out w9).mono ?_; rintro r w10 ⟨rfl, hb⟩; have HB10 := Lib.hid (below_from HB9.out hb HB9.out.size); have HX10 := Lib.hid (HX9.out.below hb (Nat.le_refl _)); clear hb)
        | (go_at_call 22; with_reducible refine (CHR.out w10).mono ?_; rintro r w11 ⟨rfl, hb⟩; have HB11 := Lib.hid (below_from HB10.out hb HB10.out.size); have HX11 := Lib.hid (HX10.out.below hb (Nat.le_refl _)); clear hb)
        | (go_at_call 25; with_reducible refine (CI3.out _ w11 (HT.out.below HB11.out) HX11.out).mono ?_; rintro r w12 ⟨rfl, hb⟩; have HB12 := Lib.hid (below_from HB11.out hb HB11.out.size); have HX12 := Lib.hid (HX11.out.below hb (Nat.le_refl _)); clear hb)
        | (go_at_call 22; with_reducible refine (CHR.out w12).mono ?_; rintro r w13 ⟨rfl, hb⟩; have HB13 := Lib.hid (below_from HB12.out hb HB12.out.size); have HX13 := Lib.hid (HX12.out.below hb (Nat.le_refl _)); clear hb))
      go_ret
      exact ⟨rfl, HB13.out⟩
    · rw [if_pos (fun h => hh h.symm)] at ci3
      have CI3 := Lib.hid ci3
      have e2 : (HR.toList == R.toList) = false := toList_ne hh
      clear hh ci3
      go_enter Tryd.func6, Tryd.ntmps6
      go_wp2_with (first
        | (go_at_call 14; with_reducible refine (C1.out).mono ?_; rintro r w1 ⟨rfl, hb⟩; have HB1 := Lib.hid hb; clear hb)
        | (go_at_call 20; with_reducible refine (CP1.out w1).mono ?_; rintro r w1' ⟨rfl, hw⟩; rw [hw]; clear hw w1')
        | (go_at_call 20; with_reducible refine (CP2.out w1).mono ?_; rintro r w1' ⟨rfl, hw⟩; rw [hw]; clear hw w1')
        | (go_at_call 15; with_reducible refine (CL.out w1).mono ?_; rintro r w2 ⟨rfl, hb⟩; have HB2 := Lib.hid (below_from HB1.out hb HB1.out.size); clear hb)
        | (go_at_call 21; with_reducible refine (CH.out w2 (HV.out.below HB2.out (Nat.le_refl _))).mono ?_; rintro r w3 ⟨x, rfl, hown, hb⟩; have HB3 := Lib.hid (below_from HB2.out hb HB2.out.size); have HX3 := Lib.hid (txts_own hown HXL.out); clear hb hown)
        | (go_at_call 22; with_reducible refine (CHL.out w3).mono ?_; rintro r w4 ⟨rfl, hb⟩; have HB4 := Lib.hid (below_from HB3.out hb HB3.out.size); have HX4 := Lib.hid (HX3.out.below hb (Nat.le_refl _)); clear hb)
        | (go_at_call 24; with_reducible refine (CR.out _ w4 (HT.out.below HB4.out) HX4.out).mono ?_; rintro r w5 ⟨rfl, hb⟩; have HB5 := Lib.hid (below_from HB4.out hb HB4.out.size); have HX5 := Lib.hid (HX4.out.below hb (Nat.le_refl _)); clear hb)
        | (go_at_call 22; with_reducible refine (CHL.out w5).mono ?_; rintro r w6 ⟨rfl, hb⟩; have HB6 := Lib.hid (below_from HB5.out hb HB5.out.size); have HX6 := Lib.hid (HX5.out.below hb (Nat.le_refl _)); clear hb)
        | (go_at_call 25; with_reducible refine (CI1.out _ w6 (HT.out.below HB6.out) HX6.out).mono ?_; rintro r w7 ⟨rfl, hb⟩; have HB7 := Lib.hid (below_from HB6.out hb HB6.out.size); have HX7 := Lib.hid (HX6.out.below hb (Nat.le_refl _)); clear hb)
        | (go_at_call 22; with_reducible refine (CHL.out w7).mono ?_; rintro r w8 ⟨rfl, hb⟩; have HB8 := Lib.hid (below_from HB7.out hb HB7.out.size); have HX8 := Lib.hid (HX7.out.below hb (Nat.le_refl _)); clear hb)
        | (go_at_call 25; with_reducible refine (CI2.out _ w8 (HT.out.below HB8.out) HX8.out).mono ?_; rintro r w9 ⟨rfl, hb⟩; have HB9 := Lib.hid (below_from HB8.out hb HB8.out.size); have HX9 := Lib.hid (HX8.out.below hb (Nat.le_refl _)); clear hb)
        | (go_at_call 22; with_reducible refine (CHL.out w9).mono ?_; rintro r w10 ⟨rfl, hb⟩; have HB10 := Lib.hid (below_from HB9.out hb HB9.out.size); have HX10 := Lib.hid (HX9.out.below hb (Nat.le_refl _)); clear hb)
        | (go_at_call 22; with_reducible refine (CHR.out w10).mono ?_; rintro r w11 ⟨rfl, hb⟩; have HB11 := Lib.hid (below_from HB10.out hb HB10.out.size); have HX11 := Lib.hid (HX10.out.below hb (Nat.le_refl _)); clear hb)
        | (go_at_call 25; with_reducible refine (CI3.out _ w11 (HT.out.below HB11.out) HX11.out).mono ?_; rintro r w12 ⟨rfl, hb⟩; have HB12 := Lib.hid (below_from HB11.out hb HB11.out.size); have HX12 := Lib.hid (HX11.out.below hb (Nat.le_refl _)); clear hb)
        | (go_at_call 22; with_reducible refine (CHR.out w12).mono ?_; rintro r w13 ⟨rfl, hb⟩; have HB13 := Lib.hid (below_from HB12.out hb HB12.out.size); have HX13 := Lib.hid (HX12.out.below hb (Nat.le_refl _)); clear hb))
      go_ret
      exact ⟨rfl, HB13.out⟩
end Go.Proofs.YtmlekeegmdpjkaaDoor
