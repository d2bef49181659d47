/- VerifyPaths, walked. -/
import Derived.Test.YtmlekeegmdpjkaaDoorL4g
import Derived.Test.YtmlekeegmdpjkaaDoorL4d
import Derived.Deep.RegionHeld3
import Derived.IntWalk
namespace Go.Proofs.YtmlekeegmdpjkaaDoor
open Go.RowKit Go.Scr
set_option linter.unusedVariables false

theorem hsL_small (L : List ByteArray) (n : Nat) : ∀ s ∈ hsL L n, s.size ≤ 1048576 := by
  intro s hs
  obtain ⟨i, _, rfl⟩ := List.mem_map.mp hs
  rw [hashS_size]; decide
theorem set_small {X : List ByteArray} {k : Nat} {s : ByteArray} (h : ∀ t ∈ X, t.size ≤ 1048576) (hs : s.size ≤ 1048576) : ∀ t ∈ X.set k s, t.size ≤ 1048576 := by
  intro t ht
  rcases List.mem_or_eq_of_mem_set ht with h1 | rfl
  · exact h t h1
  · exact hs
theorem txts_cut {w : World} {p : Option Addr} {n m c : Nat} {L : List ByteArray} (h : Txts w (.slice p n c) L) (hm : m ≤ n) : Txts w (.slice p m c) (L.take m) := by
  obtain ⟨q, c', he, h1, h2, h3⟩ := h
  simp only [Value.slice.injEq] at he
  obtain ⟨rfl, hn, rfl⟩ := he
  refine ⟨p, c, by rw [List.length_take, Nat.min_eq_left (by omega)], by rw [List.length_take]; omega, by rw [List.length_take]; omega, fun j s hs => h3 j s ?_⟩
  rw [List.getElem?_take] at hs
  split at hs
  · exact hs
  · cases hs

set_option maxRecDepth 100000 in
set_option maxHeartbeats 4000000 in
theorem vpaths_any (z i : Int) (leaf : ByteArray) (v : Value) (L : List ByteArray) (root : ByteArray) (w : World) (ht : Tabs w) (hv : Txts w v L) (hl : L.length ≤ 1048576) (hz : -9223372036854775808 ≤ z ∧ z ≤ 9223372036854775807) (hi : -9223372036854775808 ≤ i ∧ i ≤ 9223372036854775807)
    (hs : ∀ s ∈ L, s.size ≤ 1048576) (hleaf : leaf.size ≤ 1048576) (hroot : root.size ≤ 1048576) :
    Calls Tryd.prog 4 #[.int .i64 z, .int .i64 i, .string leaf, v, .string root] w fun e w' => e = .returned (.bool true) ∧ Below w.heap.size w w' := by
  have HT := Lib.hid ht
  have HV := Lib.hid hv
  have cp1 : ∀ w', Calls Tryd.prog 20 #[.int .i64 z, .int .i64 1099511627776] w' fun e w'' => e = .returned (.int .i64 ((pickN z 1099511627776 : Nat) : Int)) ∧ w'' = w' := fun w' => pick4_any z 1099511627776 w' (by decide) (by decide) hz
  obtain ⟨n0, hn0⟩ : ∃ n, n = pickN z 1099511627776 := ⟨_, rfl⟩
  have hn0l : n0 < 1099511627776 := by rw [hn0]; exact pickN_lt z (by decide)
  rw [← hn0] at cp1
  obtain ⟨n, hn⟩ : ∃ n, n = n0 + 1 := ⟨_, rfl⟩
  have hni : 1 + (n0 : Int) = (n : Int) := by omega
  have cp2 := fun w' => pick4_any i n w' (by omega) (by omega) hi
  obtain ⟨k, hk⟩ : ∃ k, k = pickN i n := ⟨_, rfl⟩
  have hkn : k < n := by rw [hk]; exact pickN_lt i (by omega)
  rw [← hk] at cp2
  have cl := fun w' => pathlen4_any n k w'
  rw [(pathLenS_ok hkn (by omega)).1, (pathLenS_ok hkn (by omega)).2] at cl
  have hm40 : wayN n k ≤ 40 := wayN_le 40 n k (by omega) hkn
  obtain ⟨m, hm⟩ : ∃ m, m = wayN n k := ⟨_, rfl⟩
  rw [← hm] at cl hm40
  obtain ⟨m1, hm1⟩ : ∃ m1, m1 = m + 1 := ⟨_, rfl⟩
  have hm1i : (m : Int) + 1 = (m1 : Int) := by omega
  have ch1 := fun w' (h : Txts w' v L) => hashes4L_any v L m1 w' h (by omega) hs
  have chl := fun w' => hash4_any leaf w' (by omega)
  have chr := fun w' => hash4_any root w' (by omega)
  have hX0 := hsL_length L m
  have hX1 := hsL_length L m1
  have c0 := fun w' (ht : Tabs w') (h : Txts w' v L) => path4_any z i leaf v L root w' ht h hl hs
  have ca := fun x w' (ht : Tabs w') (h : Txts w' x (hsL L m)) => path4_any n k (hashS leaf) x (hsL L m) root w' ht h (by omega) (hsL_small L m)
  have cb := fun x w' (ht : Tabs w') (h : Txts w' x (hsL L m)) => path4_any n k leaf x (hsL L m) (hashS root) w' ht h (by omega) (hsL_small L m)
  have cc := fun x w' (ht : Tabs w') (h : Txts w' x (hsL L m1)) => path4_any n k (hashS leaf) x (hsL L m1) root w' ht h (by omega) (hsL_small L m1)
  have hmi : ((m : Nat) : Int) ≤ 40 := by omega
  have hmi0 : (0 : Int) ≤ (m : Int) := by omega
  have HYL := Lib.hid (show (hsL L m1).length ≤ 281474976710656 by omega)
  have HXL := Lib.hid (show (hsL L m).length ≤ 281474976710656 by omega)
  have C1 := Lib.hid (known4_any w ht)
  have CP1 := Lib.hid cp1
  have CP2 := Lib.hid cp2
  have CL := Lib.hid cl
  have CH1 := Lib.hid ch1
  have CHL := Lib.hid chl
  have CHR := Lib.hid chr
  have CQ := Lib.hid c0
  have CA := Lib.hid ca
  have CB := Lib.hid cb
  have CC := Lib.hid cc
  have hnb : n ≤ 1099511627776 := by omega
  have hkb : k ≤ 1099511627776 := by omega
  have hm1b : m1 ≤ 41 := by omega
  by_cases hm00 : m = 0
  · have CH := Lib.hid (fun w' (h : Txts w' v L) => hashes4L_any v L m w' h (by omega) hs)
    have hmz : (m : Int) = 0 := by omega
    have hmn : ¬ ((0 : Int) < (m : Int)) := by omega
    have hme : ((m : Int) == 0) = true := beq_iff_eq.2 hmz
    clear cp1 cp2 cl ch1 chl chr c0 ca cb cc hX0 hX1 hm40 hk hn hn0 hs hleaf hroot ht hv hz hi hn0l hm hl hmz hm1 hm00
    go_enter Tryd.func4, Tryd.ntmps4
    go_wp2_with (first
      | (go_at_call 14; with_reducible refine (C1.out).mono ?_; rintro r w1 ⟨rfl, hb⟩; have HB1 := Lib.hid hb; clear hb)
      | (go_at_call 19; with_reducible refine (CQ.out w1 (HT.out.below HB1.out) (HV.out.below HB1.out (Nat.le_refl _))).mono ?_; rintro r w2 ⟨rfl, hb⟩; have HB2 := Lib.hid (below_from HB1.out hb HB1.out.size); clear hb)
      | (go_at_call 20; with_reducible refine (CP1.out w2).mono ?_; rintro r w1' ⟨rfl, hw⟩; rw [hw]; clear hw w1')
      | (go_at_call 20; with_reducible refine (CP2.out w2).mono ?_; rintro r w1' ⟨rfl, hw⟩; rw [hw]; clear hw w1')
      | (go_at_call 16; with_reducible refine (CL.out w2).mono ?_; rintro r w1' ⟨rfl, hw⟩; rw [hw]; clear hw w1')
      | (go_at_call 21; with_reducible refine (CH.out w2 (HV.out.below HB2.out (Nat.le_refl _))).mono ?_; rintro r w3 ⟨x, rfl, hown, hb⟩; have HB3 := Lib.hid (below_from HB2.out hb HB2.out.size); have HO3 := Lib.hid hown; clear hb hown)
      | (go_at_call 22; with_reducible refine (CHL.out w3).mono ?_; rintro r w4 ⟨rfl, hb⟩; have HB4 := Lib.hid (below_from HB3.out hb HB3.out.size); have HO4 := Lib.hid (owns_below HO3.out hb (Nat.le_refl _)); clear hb)
      | (go_at_call 19; with_reducible refine (CA.out _ w4 (HT.out.below HB4.out) (txts_own HO4.out HXL.out)).mono ?_; rintro r w5 ⟨rfl, hb⟩; have HB5 := Lib.hid (below_from HB4.out hb HB4.out.size); have HO5 := Lib.hid (owns_below HO4.out hb (Nat.le_refl _)); clear hb)
      | (go_at_call 22; with_reducible refine (CHR.out w5).mono ?_; rintro r w6 ⟨rfl, hb⟩; have HB6 := Lib.hid (below_from HB5.out hb HB5.out.size); have HO6 := Lib.hid (owns_below HO5.out hb (Nat.le_refl _)); clear hb)
      | (go_at_call 19; with_reducible refine (CB.out _ w6 (HT.out.below HB6.out) (txts_own HO6.out HXL.out)).mono ?_; rintro r w7 ⟨rfl, hb⟩; have HB7 := Lib.hid (below_from HB6.out hb HB6.out.size); have HO7 := Lib.hid (owns_below HO6.out hb (Nat.le_refl _)); clear hb)
      | (go_at_call 22; with_reducible refine (CHL.out w7).mono ?_; rintro r w8 ⟨rfl, hb⟩; have HB8 := Lib.hid (below_from HB7.out hb HB7.out.size); have HO8 := Lib.hid (owns_below HO7.out hb (Nat.le_refl _)); clear hb)
      | (go_at_call 21; with_reducible refine (CH1.out w8 (HV.out.below HB8.out (Nat.le_refl _))).mono ?_; rintro r w9 ⟨y, rfl, hown, hb⟩; have HB9 := Lib.hid (below_from HB8.out hb HB8.out.size); have HO9 := Lib.hid (owns_below HO8.out hb (Nat.le_refl _)); have HY9 := Lib.hid (txts_own hown HYL.out); clear hb hown)
      | (go_at_call 19; with_reducible refine (CC.out _ w9 (HT.out.below HB9.out) HY9.out).mono ?_; rintro r w10 ⟨rfl, hb⟩; have HB10 := Lib.hid (below_from HB9.out hb HB9.out.size); have HO10 := Lib.hid (owns_below HO9.out hb (Nat.le_refl _)); clear hb))
    go_ret
    exact ⟨rfl, HB10.out⟩
  · have hm0 : 0 < m := by omega
    obtain ⟨M, hM⟩ : ∃ M, M = m - 1 := ⟨_, rfl⟩
    have hMi : (m : Int) - 1 = (M : Int) := by omega
    have hMm : M ≤ m := by omega
    have HCUT := Lib.hid (hsL_take L m M hMm)
    have ch := fun w' (h : Txts w' v L) => (hashes4L_any v L m w' h (by omega) hs).mono (R' := fun e w'' => ∃ gx cx, e = .returned (.slice (some ⟨gx, 0, none⟩) m cx) ∧ w''.ownsRow w'.heap.size 9 1 (.slice (some ⟨gx, 0, none⟩) m cx) m ((hsL L m).map Value.string) ∧ Below w'.heap.size w' w'') (fun e w'' h => by
      obtain ⟨x, rfl, hown, hb⟩ := h
      rcases hown.2 with ⟨_, h0⟩ | ⟨gx, cx, cur, hx, _⟩
      · omega
      · subst hx
        exact ⟨gx, cx, rfl, hown, hb⟩)
    have CH := Lib.hid ch
    have CP3 := Lib.hid (fun w' => pick4_any i m w' hm0 (by omega) hi)
    obtain ⟨kx, hkx⟩ : ∃ kx, kx = pickN i m := ⟨_, rfl⟩
    have hkxm : kx < m := by rw [hkx]; exact pickN_lt i hm0
    rw [← hkx] at CP3
    have cd := fun x w' (ht : Tabs w') (h : Txts w' x (hsL L M)) => path4_any n k (hashS leaf) x (hsL L M) root w' ht h (by rw [hsL_length]; omega) (hsL_small L M)
    have ce := fun x w' (ht : Tabs w') (h : Txts w' x ((hsL L m).set kx leaf)) => path4_any n k (hashS leaf) x ((hsL L m).set kx leaf) root w' ht h (by rw [List.length_set]; omega) (set_small (hsL_small L m) hleaf)
    have HSETL := Lib.hid (show ((hsL L m).set kx leaf).length ≤ 281474976710656 by rw [List.length_set]; omega)
    have HSETM := Lib.hid (show ((hsL L m).set kx leaf).map Value.string = ((hsL L m).map Value.string).set kx (.string leaf) by rw [List.map_set])
    obtain ⟨old, hold⟩ : ∃ o, (hsL L m)[kx]? = some o := ⟨(hsL L m)[kx]'(by omega), List.getElem?_eq_getElem _⟩
    have HOLD := Lib.hid (show ((hsL L m).map Value.string)[kx]? = some (.string old) by rw [List.getElem?_map, hold]; rfl)
    have CD := Lib.hid cd
    have CE := Lib.hid ce
    have HKXM := Lib.hid hkxm
    have hkxi : (kx : Int) < (m : Int) := by omega
    have hmp : (0 : Int) < (m : Int) := by omega
    have hMi0 : (0 : Int) ≤ (M : Int) := by omega
    have hMc : ∀ c : Nat, m ≤ c → (M : Int) ≤ (c : Int) := fun c h => by omega
    have HMC := Lib.hid hMc
    have hme : ((m : Int) == 0) = false := beq_eq_false_iff_ne.2 (by omega)
    have hmb : m ≤ 40 := by omega
    clear cp1 cp2 cl ch1 ch chl chr c0 ca cb cc cd ce hX0 hX1 hm40 hk hn hn0 hs hleaf hroot ht hv hz hi hn0l hm hl hm1 hm00 hm0 hM hMm hkx hkxm hold hMc
    go_enter Tryd.func4, Tryd.ntmps4
    go_upto_region 14 with (first
      | (go_at_call 14; with_reducible refine (C1.out).mono ?_; rintro r w1 ⟨rfl, hb⟩; have HB1 := Lib.hid hb; clear hb)
      | (go_at_call 19; with_reducible refine (CQ.out w1 (HT.out.below HB1.out) (HV.out.below HB1.out (Nat.le_refl _))).mono ?_; rintro r w2 ⟨rfl, hb⟩; have HB2 := Lib.hid (below_from HB1.out hb HB1.out.size); clear hb)
      | (go_at_call 20; with_reducible refine (CP1.out w2).mono ?_; rintro r w1' ⟨rfl, hw⟩; rw [hw]; clear hw w1')
      | (go_at_call 20; with_reducible refine (CP2.out w2).mono ?_; rintro r w1' ⟨rfl, hw⟩; rw [hw]; clear hw w1')
      | (go_at_call 16; with_reducible refine (CL.out w2).mono ?_; rintro r w1' ⟨rfl, hw⟩; rw [hw]; clear hw w1')
      | (go_at_call 21; with_reducible refine (CH.out w2 (HV.out.below HB2.out (Nat.le_refl _))).mono ?_; rintro r w3 ⟨gx, cx, rfl, hown, hb⟩; have HB3 := Lib.hid (below_from HB2.out hb HB2.out.size); have HO3 := Lib.hid hown; clear hb hown)
      | (go_at_call 22; with_reducible refine (CHL.out w3).mono ?_; rintro r w4 ⟨rfl, hb⟩; have HB4 := Lib.hid (below_from HB3.out hb HB3.out.size); have HO4 := Lib.hid (owns_below HO3.out hb (Nat.le_refl _)); clear hb)
      | (go_at_call 19; with_reducible refine (CA.out _ w4 (HT.out.below HB4.out) (txts_own HO4.out HXL.out)).mono ?_; rintro r w5 ⟨rfl, hb⟩; have HB5 := Lib.hid (below_from HB4.out hb HB4.out.size); have HO5 := Lib.hid (owns_below HO4.out hb (Nat.le_refl _)); clear hb)
      | (go_at_call 22; with_reducible refine (CHR.out w5).mono ?_; rintro r w6 ⟨rfl, hb⟩; have HB6 := Lib.hid (below_from HB5.out hb HB5.out.size); have HO6 := Lib.hid (owns_below HO5.out hb (Nat.le_refl _)); clear hb)
      | (go_at_call 19; with_reducible refine (CB.out _ w6 (HT.out.below HB6.out) (txts_own HO6.out HXL.out)).mono ?_; rintro r w7 ⟨rfl, hb⟩; have HB7 := Lib.hid (below_from HB6.out hb HB6.out.size); have HO7 := Lib.hid (owns_below HO6.out hb (Nat.le_refl _)); clear hb)
      | (go_at_call 22; with_reducible refine (CHL.out w7).mono ?_; rintro r w8 ⟨rfl, hb⟩; have HB8 := Lib.hid (below_from HB7.out hb HB7.out.size); have HO8 := Lib.hid (owns_below HO7.out hb (Nat.le_refl _)); clear hb)
      | (go_at_call 21; with_reducible refine (CH1.out w8 (HV.out.below HB8.out (Nat.le_refl _))).mono ?_; rintro r w9 ⟨y, rfl, hown, hb⟩; have HB9 := Lib.hid (below_from HB8.out hb HB8.out.size); have HO9 := Lib.hid (owns_below HO8.out hb (Nat.le_refl _)); have HY9 := Lib.hid (txts_own hown HYL.out); clear hb hown)
      | (go_at_call 19; with_reducible refine (CC.out _ w9 (HT.out.below HB9.out) HY9.out).mono ?_; rintro r w10 ⟨rfl, hb⟩; have HB10 := Lib.hid (below_from HB9.out hb HB9.out.size); have HO10 := Lib.hid (owns_below HO9.out hb (Nat.le_refl _)); clear hb))
    have hcx := (owns_blk HO10.out).2.2
    have hMcx : (M : Int) ≤ (cx : Int) := HMC.out cx hcx
    have HOd : Hid (w10.drew.ownsRow w2.heap.size 9 1 (.slice (some ⟨gx, 0, none⟩) m cx) m ((hsL L m).map Value.string)) := HO10
    have HBd : Hid (Below w.heap.size w w10.drew) := below_drew HB10.out
    have hw1 : IntKind.i64.wrap ((m : Int) - 1) = (M : Int) := by rw [hMi]; exact IntWalk.i64_in _ (by omega)
    have hw2 : IntKind.i64.wrap (M : Int) = (M : Int) := IntWalk.i64_in _ (by omega)
    go_region_held3 (fun w' => Below w.heap.size w w') (first | exact HB12.out | exact HB11.out | exact HBd.out) (first
      | (go_at_call 22; with_reducible refine (CHL.out _).mono ?_; rintro r w11 ⟨rfl, hb⟩; have HB11 := Lib.hid (below_from HBd.out hb HBd.out.size); have HO11 := Lib.hid (owns_below HOd.out hb (Nat.le_refl _)); clear hb)
      | (go_at_call 19; refine (CD.out _ w11 (HT.out.below HB11.out) (by have h := txts_cut (m := M) (txts_own HO11.out HXL.out) (by have := hMi; omega); rw [HCUT.out] at h; exact h)).mono ?_; rintro r w12 ⟨rfl, hb⟩; have HB12 := Lib.hid (below_from HB11.out hb HB11.out.size); have HO12 := Lib.hid (owns_below HO11.out hb (Nat.le_refl _)); clear hb))
    clear hw1 hw2
    have hold := owns_cell HO12.out HKXM.out
    rw [HOLD.out] at hold
    have hfz : w12.frozen? ⟨gx, kx, none⟩ = false := owns_slot HO12.out
    have HO13 := Lib.hid (owns_set (k := kx) HO12.out (.string leaf))
    rw [← HSETM.out] at HO13
    have HB13 := Lib.hid (HB12.out.trans (step_below (g := gx) (i := kx) (.string leaf) (Nat.le_trans HB2.out.size (owns_blk HO12.out).1) HB12.out.size))
    go_wp2_with (first
      | (go_at_call 20; with_reducible refine (CP3.out w12).mono ?_; rintro r w1' ⟨rfl, hw⟩; rw [hw]; clear hw w1')
      | (go_at_call 22; with_reducible refine (CHL.out _).mono ?_; rintro r w14 ⟨rfl, hb⟩; have HB14 := Lib.hid (below_from HB13.out hb HB13.out.size); have HO14 := Lib.hid (owns_below HO13.out hb (Nat.le_refl _)); clear hb)
      | (go_at_call 19; with_reducible refine (CE.out _ w14 (HT.out.below HB14.out) (txts_own HO14.out HSETL.out)).mono ?_; rintro r w15 ⟨rfl, hb⟩; have HB15 := Lib.hid (below_from HB14.out hb HB14.out.size); clear hb))
    go_ret
    exact ⟨rfl, HB15.out⟩
end Go.Proofs.YtmlekeegmdpjkaaDoor
