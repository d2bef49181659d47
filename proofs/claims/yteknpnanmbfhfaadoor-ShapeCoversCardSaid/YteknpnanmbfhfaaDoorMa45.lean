/- Law 8, walked: ShapeCovers. -/
import Derived.Test.YteknpnanmbfhfaaDoorMa43
import Derived.Test.YteknpnanmbfhfaaDoorMa33
import Derived.Deep.RegionHeld3
namespace Go.Proofs.YteknpnanmbfhfaaDoor
open Go.RowKit Go.Scr Go.Shelf Go.Proofs.YteknpnanmbfhfaaDoor.Bk8
set_option linter.unusedVariables false
set_option maxRecDepth 100000 in
set_option maxHeartbeats 8000000 in
theorem shapecovers_any (s0 s1 s2 s3 s4 : Int) (w : World) (ht : Tabs w) (hb3 : -9223372036854775808 ≤ s3 ∧ s3 ≤ 9223372036854775807) (hb4 : -9223372036854775808 ≤ s4 ∧ s4 ≤ 9223372036854775807) :
    Calls Tryd.prog 3 #[.int .i64 s0, .int .i64 s1, .int .i64 s2, .int .i64 s3, .int .i64 s4] w fun r w' => r = .returned (.bool true) ∧ Below w.heap.size w w' := by
  have CK := Lib.hid (known8_any w ht)
  obtain ⟨m, hm⟩ : ∃ m, m = pickN s3 1099511627776 := ⟨_, rfl⟩
  have hm2 : m < 1099511627776 := by rw [hm]; exact pickN_lt _ (by decide)
  have CP1 : Hid (∀ w', Calls Tryd.prog 11 #[.int .i64 s3, .int .i64 1099511627776] w' fun e w2 => e = .returned (.int .i64 (m : Int)) ∧ w2 = w') := Lib.hid (fun w' => by
    rw [hm]
    exact pick8_any s3 1099511627776 w' (by decide) (by decide) hb3)
  obtain ⟨q, hq⟩ : ∃ q, q = 1099511627776 - m := ⟨_, rfl⟩
  have hqi : 1099511627776 - (m : Int) = (q : Int) := by omega
  obtain ⟨q1, hq1⟩ : ∃ x, x = q + 1 := ⟨_, rfl⟩
  have hq1i : (q : Int) + 1 = (q1 : Int) := by omega
  obtain ⟨k, hk⟩ : ∃ k, k = pickN s4 q1 := ⟨_, rfl⟩
  have hkq : k < q1 := by rw [hk]; exact pickN_lt _ (by omega)
  have CP2 : Hid (∀ w', Calls Tryd.prog 11 #[.int .i64 s4, .int .i64 (q1 : Int)] w' fun e w2 => e = .returned (.int .i64 (k : Int)) ∧ w2 = w') := Lib.hid (fun w' => by
    rw [hk]
    exact pick8_any s4 q1 w' (by omega) (by omega) hb4)
  obtain ⟨F, hF⟩ : ∃ x, x = m + k := ⟨_, rfl⟩
  have hFi : (m : Int) + (k : Int) = (F : Int) := by omega
  have hqb : q ≤ 1099511627776 := by omega
  have hq1b : q1 ≤ 1099511627777 := by omega
  have hkb : k ≤ 1099511627776 := by omega
  have hFb : F ≤ 1099511627776 := by omega
  clear hm hq hq1 hk hF ht hb3 hb4 hkq
  go_enter Tryd.func3, Tryd.ntmps3
  go_upto_region 3 with (go_at_call 10; with_reducible refine CK.out.mono ?_; rintro r w2 ⟨rfl, hb2⟩; have HB2 := Lib.hid hb2; clear hb2)
  obtain ⟨b, hb⟩ : ∃ x, x = w2.heap.size := ⟨_, rfl⟩
  obtain ⟨w1, hw1⟩ : ∃ x, x = w2.alloc (.cells #[.slice none 0 0, .slice none 0 0, .slice none 0 0, .slice none 0 0, .slice none 0 0, .slice none 0 0] 27) := ⟨_, rfl⟩
  rw [← hw1, ← hb]
  obtain ⟨b1, hb1⟩ : ∃ x, x = w1.heap.size := ⟨_, rfl⟩
  have hbs := hb1.symm
  have HW1 := Lib.hid hw1
  have HBX := Lib.hid hb
  clear hw1 hb hb1
  go_upto_region 5 with (first
    | (go_at_call 11; with_reducible refine (CP1.out _).mono ?_; rintro r wx ⟨rfl, hwx⟩; rw [hwx]; clear hwx wx)
    | (go_at_call 11; with_reducible refine (CP2.out _).mono ?_; rintro r wx ⟨rfl, hwx⟩; rw [hwx]; clear hwx wx))
  obtain ⟨Z, hZ⟩ : ∃ Z : List (Int × Int), Z = [(s1, s2), ((m : Int), (F : Int)), (s1, s2)] := ⟨_, rfl⟩
  obtain ⟨wL, hwL⟩ : ∃ x, x = w1.alloc (.cells #[.int .i64 s1, .int .i64 s2, .int .i64 (m : Int), .int .i64 (F : Int), .int .i64 s1, .int .i64 s2] 29) := ⟨_, rfl⟩
  have hbl : Below w1.heap.size w1 wL := by rw [hwL]; exact (Below.refl _ _).alloc (Nat.le_refl _) _
  have hr1 : wL.heap[b1]? = some (.cells ((zprs Z).toArray) 29 (0, 0)) := by rw [hwL, hZ]; exact heap_alloc_at _ _ _ (by omega)
  rw [← hwL]
  have hbb : b < b1 := by
    have : w1.heap.size = w2.heap.size + 1 := by rw [HW1.out]; simp
    have := HBX.out
    omega
  have HROW : Hid (b < b1 ∧ wL.heap[b1]? = some (.cells ((zprs Z).toArray) 29 (0, 0)) ∧ Z.length = 3) := Lib.hid ⟨hbb, hr1, by rw [hZ]; rfl⟩
  obtain ⟨col0, V0, hL0⟩ := LpI.start HBX.out HW1.out hbl
  have HL0 := Lib.hid hL0
  clear hwL hbl hr1 hbb hL0 hbs hZ
  go_wp2_with fail
  go_loopw [15] (fun x wr => ∃ i : Nat, x = .int .i64 (i : Int) ∧ i ≤ 3 ∧ Hid (∃ col V hn wn, LpI w2 wL wr b col V [] [] hn wn ∧ hn.length = i ∧ wn.length = i)) (fun x _ => 3 - (intOf x).toNat)
  case atStart => exact ⟨0, rfl, by omega, Lib.hid ⟨col0, V0, [], [], HL0.out, rfl, rfl⟩⟩
  case round =>
    obtain ⟨i, rfl, hi, HI⟩ := hrel
    obtain ⟨col, V, hn, wn, hlp, hsl, hwl⟩ := HI.out
    have HLP : Hid (LpI w2 wL wr b col V [] [] hn wn ∧ hn.length = i ∧ wn.length = i) := Lib.hid ⟨hlp, hsl, hwl⟩
    clear HI hlp hsl hwl
    by_cases hlt : i < 3
    · have hi3 : (i : Int) < 3 := by omega
      have hi0 : (0 : Int) ≤ (i : Int) := by omega
      have HLT := Lib.hid hlt
      obtain ⟨⟨u, v⟩, hy⟩ : ∃ y, Z[i]? = some y := ⟨_, List.getElem?_eq_getElem (by have := HROW.out.2.2; omega)⟩
      have HCELL : Hid (∀ w', Below wr.heap.size wr w' → w'.cell? ⟨b1, i * 2, none⟩ = some (.int .i64 u) ∧ w'.cell? ⟨b1, i * 2 + 1, none⟩ = some (.int .i64 v)) := Lib.hid (fun w' hb => by
        have h := HLP.out.1.later hb
        obtain ⟨q, r1, _⟩ := HROW.out
        have r := (h.kp b1 q (row_lt r1)).1.trans r1
        have hg := zprs_get hy
        refine ⟨?_, ?_⟩
        · rw [cell_of_row w' b1 (i * 2) _ _ _ r, List.getElem?_toArray]; exact hg.1
        · rw [cell_of_row w' b1 (i * 2 + 1) _ _ _ r, List.getElem?_toArray]; exact hg.2)
      obtain ⟨L1, hL1⟩ : ∃ x, x = coverL u v := ⟨_, rfl⟩
      obtain ⟨n1, hn1⟩ : ∃ x, x = L1.length := ⟨_, rfl⟩
      obtain ⟨E1, hE1⟩ : ∃ x, x = coverE u v := ⟨_, rfl⟩
      obtain ⟨I, hI⟩ : ∃ x, x = insideZ s0 u v := ⟨_, rfl⟩
      have C8 : Hid (∀ w', Calls Tryd.prog 12 #[.agg #[.int .i64 u, .int .i64 v]] w' (OutQ w' 72 E1 L1 n1)) := Lib.hid (fun w' => by
        rw [hE1, hL1] at *
        exact (scover_any u v w').mono fun r w2 h => outQ hn1 h)
      have C9 : Hid (∀ w', Calls Tryd.prog 13 #[.agg #[.int .i64 u, .int .i64 v]] w' (OutQ w' 72 E1 L1 n1)) := Lib.hid (fun w' => by
        rw [hE1, hL1] at *
        exact (rcover_any u v w').mono fun r w2 h => outQ hn1 h)
      have CI1 : Hid (∀ w', Calls Tryd.prog 15 #[.int .i64 s0, .agg #[.int .i64 u, .int .i64 v]] w' fun r w2 => r = .returned (.bool I) ∧ Below w'.heap.size w' w2) := Lib.hid (fun w' => by
        rw [hI]
        exact inside_any s0 u v w')
      have CI2 : Hid (∀ w', Calls Tryd.prog 16 #[.int .i64 s0, .agg #[.int .i64 u, .int .i64 v]] w' fun r w2 => r = .returned (.bool I) ∧ Below w'.heap.size w' w2) := Lib.hid (fun w' => by
        rw [hI]
        exact rinside_any s0 u v w')
      have HLEN : Hid (n1 = L1.length ∧ L1.length ≤ 1099511627776) := Lib.hid ⟨hn1, by rw [hL1]; exact coverL_le u v⟩
      have he1 : (E1 != E1) = false := by simp
      have hI2 : (I != I) = false := by simp
      obtain ⟨d0, d1⟩ := HCELL.out wr (Below.refl _ _)
      have HY := Lib.hid hy
      clear hlt hy hL1 hn1 hE1 hI
      go_upto_region 10 with (first
        | (go_at_call 12; (with_reducible refine (C8.out _).mono ?_); rintro r w3 ⟨⟨pa, ca, rfl, hh, ho⟩, hb⟩; have HB3 := Lib.hid hb; have HO3 := Lib.hid (And.intro hh ho); obtain ⟨e0, e1⟩ := HCELL.out w3 hb; clear hb hh ho)
        | (go_at_call 13; (with_reducible refine (C9.out _).mono ?_); rintro r w4 ⟨⟨pb, cb, rfl, hh, ho⟩, hb⟩; have HB4 := Lib.hid hb; have HO4 := Lib.hid (And.intro hh ho); clear hb hh ho))
      obtain ⟨hlp, hsl, hwl⟩ := HLP.out
      obtain ⟨col2, k2, ca1, cb1, co2⟩ := hlp.two HB3.out HB4.out (v1 := .slice pa n1 ca) (v2 := .slice pb n1 cb) (1016 + hn.length) 8 (fun g hg => ⟨HO3.out.2 g hg, HO3.out.1.lt hg⟩) (fun g hg => ⟨HO4.out.2 g hg, HO4.out.1.lt hg⟩)
      have CH1 := Lib.hid (k2.holdN (by omega) (by omega) (p := pa) (q := pb) (n := n1) (c := ca) (d := cb) (A := L1) HLEN.out.1 HLEN.out.2 (HO3.out.1.below HB4.out) ca1 HO4.out.1 cb1)
      clear hlp hsl hwl k2 ca1 cb1 co2 d0 d1 e0 e1 HCELL
      go_upto_region 11 with (go_at_call 14; (with_reducible refine CH1.out.mono ?_); rintro r w7 ⟨rfl, hp⟩; have HP7 := Lib.hid hp; clear hp)
      obtain ⟨col8, V8, k8, _, _⟩ := HP7.out
      have HK8 : Hid (LpI w2 wL w7 b col8 V8 [] [] (hn ++ [(.slice pa n1 ca, L1)]) (wn ++ [.slice pb n1 cb])) := Lib.hid k8
      have HCELL : Hid (∀ w', Below w7.heap.size w7 w' → w'.cell? ⟨b1, i * 2, none⟩ = some (.int .i64 u) ∧ w'.cell? ⟨b1, i * 2 + 1, none⟩ = some (.int .i64 v)) := Lib.hid (fun w' hb => by
        have h := HK8.out.later hb
        obtain ⟨q, r1, _⟩ := HROW.out
        have r := (h.kp b1 q (row_lt r1)).1.trans r1
        have hg := zprs_get HY.out
        refine ⟨?_, ?_⟩
        · rw [cell_of_row w' b1 (i * 2) _ _ _ r, List.getElem?_toArray]; exact hg.1
        · rw [cell_of_row w' b1 (i * 2 + 1) _ _ _ r, List.getElem?_toArray]; exact hg.2)
      have HT3 := Lib.hid (HCELL.out w7.drew ((Below.refl w7.heap.size w7).drew))
      clear k8 HP7
      go_region_held3 (fun w' => w'.cell? ⟨b1, i * 2, none⟩ = some (.int .i64 u) ∧ w'.cell? ⟨b1, i * 2 + 1, none⟩ = some (.int .i64 v)) (first | exact HS9.out | exact HS8.out | exact HT3.out) (first
        | (go_at_call 15; (with_reducible refine (CI1.out _).mono ?_); rintro r w8 ⟨rfl, hb⟩; have HB8 := Lib.hid (below_onS ((Below.refl w7.heap.size w7).drew) hb (Nat.le_refl _)); have HS8 := Lib.hid (HCELL.out w8 HB8.out); clear hb)
        | (go_at_call 16; (with_reducible refine (CI2.out _).mono ?_); rintro r w9 ⟨rfl, hb⟩; have HB9 := Lib.hid (below_onS HB8.out hb HB8.out.size); have HS9 := Lib.hid (HCELL.out w9 HB9.out); clear hb))
      clear HT3 HS8 HS9
      go_wp2_with fail
      refine ⟨⟨i + 1, by simp, HLT.out, Lib.hid ⟨col8, V8, _, _, HK8.out.later HB9.out, by rw [List.length_append, HLP.out.2.1]; rfl, by rw [List.length_append, HLP.out.2.2]; rfl⟩⟩, ?_⟩
      show 3 - ((i : Int) + 1).toNat < 3 - ((i : Int)).toNat
      have := HLT.out
      omega
    · have hi3 : ¬ (i : Int) < 3 := by omega
      have CST := Lib.hid (HLP.out.1.still rfl (by have := HLP.out; omega) (by show (0 : Nat) ≤ 800; omega) (by have := HLP.out; omega))
      have HFB : Hid (∀ w', Below w2.heap.size w2 w' → Below w.heap.size w w') := Lib.hid (fun w' hb => below_onS HB2.out hb HB2.out.size)
      clear hlt
      go_wp2_with (go_at_call 17; (with_reducible refine CST.out.mono ?_); rintro r w9 ⟨rfl, hb⟩; have HB9 := Lib.hid hb; clear hb)
      go_ret
      exact ⟨rfl, HFB.out _ HB9.out⟩
end Go.Proofs.YteknpnanmbfhfaaDoor
