/- The law 4's helper proof, walked. -/
import Derived.Test.YtmlekeegmdpjkaaDoorL4g
namespace Go.Proofs.YtmlekeegmdpjkaaDoor
open Go.RowKit Go.Scr
set_option linter.unusedVariables false

set_option maxRecDepth 100000 in
set_option maxHeartbeats 4000000 in
theorem proof4_any (f s : Int) (old now : ByteArray) (v : Value) (L : List ByteArray) (w : World) (ht : Tabs w) (hv : Txts w v L) (hl : L.length ≤ 1048576) (hs : ∀ s ∈ L, s.size ≤ 1048576) :
    Calls Tryd.prog 23 #[.int .i64 f, .int .i64 s, .string old, .string now, v] w fun e w' => e = .returned (.bool true) ∧ Below w.heap.size w w' := by
  have HT := Lib.hid ht
  have HV := Lib.hid hv
  have clent := lent4_any v L w hv hl
  have ckept := fun g w' (h : Txts w' v L) (hr : SRow w' g (fill8 L 8)) => kept4_any v L g w' h hr hl
  have cturn := fun w' (h : Txts w' v L) => (turned4_any v L w' h hl hs).mono (R' := fun e w'' => ∃ px cx, e = .returned (.slice px L.length cx) ∧ Txts w'' (.slice px L.length cx) (turnL L) ∧ (∀ a, px = some a → w'.heap.size ≤ a.block) ∧ Below w'.heap.size w' w'') (fun e w'' h => by
    obtain ⟨x, rfl, hown, hb⟩ := h
    have htx := txts_own hown (by rw [turnL_length]; omega)
    obtain ⟨px, cx, hx, _⟩ := htx
    rw [turnL_length] at hx
    subst hx
    refine ⟨px, cx, rfl, txts_own hown (by rw [turnL_length]; omega), fun a ha => ?_, hb⟩
    subst ha
    rcases hown.2 with ⟨h0, _⟩ | ⟨g', cap, cur, he, hB, _⟩
    · cases h0
    · cases he; exact hB)
  obtain ⟨T, hT⟩ : ∃ T, T = turnL L := ⟨_, rfl⟩
  have hTl : T.length = L.length := by rw [hT, turnL_length]
  rw [← hT] at cturn
  have HSP := Lib.hid (fill8_splice L T hTl)
  have HTXL := Lib.hid (fun g w' (h : SRow w' g (fill8 L 8)) => fill8_txts h hl)
  have htxt := fun g w' (h : SRow w' g (fill8 T 8)) => fill8_txts h (by omega)
  rw [hTl] at htxt
  have HTXT := Lib.hid htxt
  have HNMIN := Lib.hid (show (T.map Value.string).length = Nat.min L.length L.length by rw [List.length_map, hTl]; exact (Nat.min_self _).symm)
  have HFIT := Lib.hid (show 0 + (T.map Value.string).length ≤ ((fill8 L 8).map Value.string).length by rw [List.length_map, List.length_map, fill8_length L 8 (Nat.le_refl _)]; omega)
  have c1 := fun x w' (ht : Tabs w') (h : Txts w' x L) => rootsof_any f s old x L w' ht h hl
  have c1r := fun x w' (h : Txts w' x L) => rootsof4_any f s old x L w' h hl
  have c2 := fun x w' (ht : Tabs w') (h : Txts w' x T) => rootsof_any f s old x T w' ht h (by omega)
  have c2r := fun x w' (h : Txts w' x T) => rootsof4_any f s old x T w' h (by omega)
  obtain ⟨R1, hR1⟩ : ∃ R, R = rootsOfS f s old L := ⟨_, rfl⟩
  obtain ⟨R2, hR2⟩ : ∃ R, R = rootsOfS f s old T := ⟨_, rfl⟩
  rw [← hR1] at c1 c1r
  rw [← hR2] at c2 c2r
  clear hR1 hR2
  obtain ⟨A1, B1⟩ := R1
  obtain ⟨A2, B2⟩ := R2
  have i1 := fun x w' (ht : Tabs w') (h : Txts w' x L) => consistency_any f s old now x L w' ht h hl
  have i1r := fun x w' (h : Txts w' x L) => consistency4_any f s old now x L w' h hl
  have i2 := fun x w' (ht : Tabs w') (h : Txts w' x L) => consistency_any f s A1 B1 x L w' ht h hl
  have i2r := fun x w' (h : Txts w' x L) => consistency4_any f s A1 B1 x L w' h hl
  have i3 := fun x w' (ht : Tabs w') (h : Txts w' x L) => consistency_any f s old B1 x L w' ht h hl
  have i3r := fun x w' (h : Txts w' x L) => consistency4_any f s old B1 x L w' h hl
  generalize rootsOfE f s old L = E1 at c1 c1r
  generalize rootsOfE f s old T = E2 at c2 c2r
  generalize consS f s old now L = V1 at i1 i1r
  generalize consS f s A1 B1 L = V2 at i2 i2r
  generalize consS f s old B1 L = V3 at i3 i3r
  obtain ⟨p, c, rfl, hv1, hv2, hv3⟩ := hv
  obtain ⟨n, hn⟩ : ∃ n, n = L.length := ⟨_, rfl⟩
  have HN := Lib.hid hn
  rw [← hn] at clent ckept cturn HTXL HTXT HNMIN HV hl
  rw [← hn]
  have CLENT := Lib.hid clent
  have CKEPT := Lib.hid ckept
  have CTURN := Lib.hid cturn
  have C1 := Lib.hid c1
  have C1R := Lib.hid c1r
  have C2 := Lib.hid c2
  have C2R := Lib.hid c2r
  have I1 := Lib.hid i1
  have I1R := Lib.hid i1r
  have I2 := Lib.hid i2
  have I2R := Lib.hid i2r
  have I3 := Lib.hid i3
  have I3R := Lib.hid i3r
  have hnb : n ≤ 1048576 := hl
  have hn8 : (n : Int) ≤ (n : Int) + 8 := by omega
  clear clent ckept cturn hT hTl htxt c1 c1r c2 c2r i1 i1r i2 i2r i3 i3r hv1 hv2 hv3 hs ht hn hl
  go_enter Tryd.func23, Tryd.ntmps23
  go_wp2_with (first
    | (go_at_call 62; with_reducible refine (CLENT.out).mono ?_; rintro r w1 ⟨g, rfl, hg, hr, hb⟩; have HB1 := Lib.hid hb; have HR1 := Lib.hid hr; have HG := Lib.hid hg; clear hb hr hg)
    | (go_at_call 29; with_reducible refine (C1.out _ w1 (HT.out.below HB1.out) (HTXL.out g w1 HR1.out)).mono ?_; rintro r w2 ⟨rfl, hb⟩; have HB2 := Lib.hid (below_from HB1.out hb HB1.out.size); have HR2 := Lib.hid (HR1.out.below hb HR1.out.lt); clear hb)
    | (go_at_call 68; with_reducible refine (C1R.out _ w2 (HV.out.below HB2.out (Nat.le_refl _))).mono ?_; rintro r w3 ⟨rfl, hb⟩; have HB3 := Lib.hid (below_from HB2.out hb HB2.out.size); have HR3 := Lib.hid (HR2.out.below hb HR2.out.lt); clear hb)
    | (go_at_call 30; with_reducible refine (I1.out _ w3 (HT.out.below HB3.out) (HTXL.out g w3 HR3.out)).mono ?_; rintro r w4 ⟨rfl, hb⟩; have HB4 := Lib.hid (below_from HB3.out hb HB3.out.size); have HR4 := Lib.hid (HR3.out.below hb HR3.out.lt); clear hb)
    | (go_at_call 69; with_reducible refine (I1R.out _ w4 (HV.out.below HB4.out (Nat.le_refl _))).mono ?_; rintro r w5 ⟨rfl, hb⟩; have HB5 := Lib.hid (below_from HB4.out hb HB4.out.size); have HR5 := Lib.hid (HR4.out.below hb HR4.out.lt); clear hb)
    | (go_at_call 30; with_reducible refine (I2.out _ w5 (HT.out.below HB5.out) (HTXL.out g w5 HR5.out)).mono ?_; rintro r w6 ⟨rfl, hb⟩; have HB6 := Lib.hid (below_from HB5.out hb HB5.out.size); have HR6 := Lib.hid (HR5.out.below hb HR5.out.lt); clear hb)
    | (go_at_call 69; with_reducible refine (I2R.out _ w6 (HV.out.below HB6.out (Nat.le_refl _))).mono ?_; rintro r w7 ⟨rfl, hb⟩; have HB7 := Lib.hid (below_from HB6.out hb HB6.out.size); have HR7 := Lib.hid (HR6.out.below hb HR6.out.lt); clear hb)
    | (go_at_call 30; with_reducible refine (I3.out _ w7 (HT.out.below HB7.out) (HTXL.out g w7 HR7.out)).mono ?_; rintro r w8 ⟨rfl, hb⟩; have HB8 := Lib.hid (below_from HB7.out hb HB7.out.size); have HR8 := Lib.hid (HR7.out.below hb HR7.out.lt); clear hb)
    | (go_at_call 69; with_reducible refine (I3R.out _ w8 (HV.out.below HB8.out (Nat.le_refl _))).mono ?_; rintro r w9 ⟨rfl, hb⟩; have HB9 := Lib.hid (below_from HB8.out hb HB8.out.size); have HR9 := Lib.hid (HR8.out.below hb HR8.out.lt); clear hb)
    | (go_at_call 65; with_reducible refine (CKEPT.out g w9 (HV.out.below HB9.out (Nat.le_refl _)) HR9.out).mono ?_; rintro r w10 ⟨rfl, hb⟩; have HB10 := Lib.hid (below_from HB9.out hb HB9.out.size); have HR10 := Lib.hid (HR9.out.below hb HR9.out.lt); clear hb)
    | (go_at_call 66; with_reducible refine (CTURN.out w10 (HV.out.below HB10.out (Nat.le_refl _))).mono ?_; rintro r w11 ⟨px, cx, rfl, hx, hxa, hb⟩; have HXA := Lib.hid (fun a ha => Nat.lt_of_lt_of_le HR10.out.lt (hxa a ha)); have HB11 := Lib.hid (below_from HB10.out hb HB10.out.size); have HR11 := Lib.hid (HR10.out.below hb HR10.out.lt); have HX11 := Lib.hid hx; clear hb hx hxa)
    | ((with_reducible refine wpList_copy_only (o := ⟨some 126, _, _, _, _, _⟩) rfl (.tmp 124) (.tmp 125) 27 27 rfl 9 Tryd.underlying27 hsz_str (some ⟨g, 0, none⟩) px n (n + 8) n cx ?_ ?_ g 0 ((fill8 L 8).map Value.string) 9 ?_ (T.map Value.string) HNMIN.out (copy_src (g := g) HX11.out (Below.refl w11.heap.size w11) (Nat.le_refl _)) HFIT.out (str_one _) ?_); rfl; rfl; exact HR11.out; intro w12 hrow10 hb10; rw [HSP.out] at hrow10; have HR12 : Hid (SRow w12 g (fill8 T 8)) := hrow10.out; have HB12 := Lib.hid (below_only HB11.out hb10 HB11.out.size HG.out); have HX12 := Lib.hid (HX11.out.only hb10 HXA.out); clear hrow10 hb10)
    | (go_at_call 29; with_reducible refine (C2.out _ w12 (HT.out.below HB12.out) (HTXT.out g w12 HR12.out)).mono ?_; rintro r w13 ⟨rfl, hb⟩; have HB13 := Lib.hid (below_from HB12.out hb HB12.out.size); have HR13 := Lib.hid (HR12.out.below hb HR12.out.lt); have HX13 := Lib.hid (HX12.out.below hb (Nat.le_refl _)); clear hb)
    | (go_at_call 68; with_reducible refine (C2R.out _ w13 (HX13.out)).mono ?_; rintro r w14 ⟨rfl, hb⟩; have HB14 := Lib.hid (below_from HB13.out hb HB13.out.size); have HR14 := Lib.hid (HR13.out.below hb HR13.out.lt); clear hb))
  go_ret
  exact ⟨rfl, HB14.out⟩
end Go.Proofs.YtmlekeegmdpjkaaDoor
