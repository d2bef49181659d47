/- rising, over Put's closure. -/
import Derived.Test.YthaccjjkbbkehaaCa8
namespace Go.Proofs.Ythaccjjkbbkehaa
open Go.RowKit Go.Scr Go.Maps
set_option linter.unusedVariables false

abbrev yieldV (bc bx bl : Nat) : Value := .func (.func 23) #[] #[bp bc, bp bx, bp bl]
set_option maxRecDepth 100000 in
set_option maxHeartbeats 2000000 in
theorem rising_any {w : World} {col : Nat → Nat} {κ cb ob mb bc bx bl : Nat} {c : Nat → Nat} {L : List Ent} {k v : ByteArray} {p : Nat} {lv : Value} (h : CB w col κ cb ob mb c L L) (hx : Bx w col κ bc bx bl cb k v p lv) (nk : (L.map Ent.key).Nodup)
    (hks : k.size ≤ 140737488355328) (hvs : v.size ≤ 140737488355328) (hL : ∀ e ∈ L, e.key.size ≤ 140737488355328 ∧ e.val.size ≤ 140737488355328) (h1 : c 1 = wts (but k L)) (h6 : c 6 = L.length) (hw : wts L ≤ 2305843009213693952) (hl6 : L.length ≤ 2305843009213693952)
    (h5 : c 5 ≤ 2305843009213693952) (hin : ∀ e ∈ L, e.key = k → lv = bp e.blk) (hout : lv = .pointer none ∨ ∃ f ∈ L, f.key = k ∧ lv = bp f.blk) :
    Calls Try.prog 22 #[bp ob, yieldV bc bx bl] w fun r w' => r = .returned (.tuple #[]) ∧ CB w' col κ cb ob mb (numC c k L (rest (c 0) (k.size + v.size) k L)) (rest (c 0) (k.size + v.size) k L) (rest (c 0) (k.size + v.size) k L) ∧ Only col (fun k => k = κ) w w' := by
  obtain ⟨R, hR⟩ : ∃ R, R = rest (c 0) (k.size + v.size) k L := ⟨_, rfl⟩
  have HNE : Hid (∀ (A Z : List Ent) (e : Ent), Rise (c 0) (k.size + v.size) k L A Z → e ∈ A ++ Z → e.key ≠ k → ∀ w' c', CB w' col κ cb ob mb c' (A ++ Z) (A ++ Z) → (binOp .neq 60 (bp e.blk) lv).run Try.prog w' = .ok (.bool true) w') := Lib.hid (fun A Z e hr he hek w' c' hC => by
    rcases hout with rfl | ⟨f, hf, hfk, rfl⟩
    · exact (run_neq_pointer_nil w' 60 (some ⟨e.blk, 0, none⟩) (by kernel_rfl))
    · have hfm := hr.has hf hfk
      refine neq_link_ne (hC.es e he).t (hC.es f hfm).t fun hb => hek ?_
      have nd := (List.nodup_cons.mp hC.nd).2
      have := inj_nodup nd he hfm hb
      rw [this, hfk])
  have HR := Lib.hid hR
  have HND : Hid ((ob :: blks L).Nodup) := Lib.hid h.nd
  have HNK := Lib.hid nk
  have HLS := Lib.hid hL
  have HIN := Lib.hid hin
  have HC0 : Hid (CB w col κ cb ob mb (numC c k L (L ++ [])) (L ++ []) (L ++ [])) := Lib.hid (by rw [List.append_nil, numC_refl h1 h6]; exact h)
  have HX0 := Lib.hid hx
  have HW := Lib.hid hw
  have HL6 := Lib.hid hl6
  have H5 := Lib.hid h5
  have HRS : Hid (Rise (c 0) (k.size + v.size) k L L []) := Lib.hid (Rise.start _ _ _ _)
  rw [← hR]
  have ho3 : ∃ X' q, ob :: blks (L.take L.length) = X' ++ [q] ∧ (ob :: blks L)[L.length]? = some q := nth_last (Nat.le_refl _)
  obtain ⟨X', q0, hq0, hq1⟩ := ho3
  have hob3 : w.cell? ⟨ob, 3, none⟩ = some (bp q0) := by
    obtain ⟨B', q', hB, hc⟩ := h.rg.last
    rw [List.take_length] at hq0
    rw [hq0] at hB
    have := List.append_inj' hB rfl
    rw [hc]
    simp at this
    rw [this.2]
  have HQ1 := Lib.hid hq1
  clear h hx nk hL hin hout h1 h6 hw hl6 h5 hR hq0 hq1
  go_enter Try.func22, Try.ntmps22
  go_wp2_with fail
  go_loopw [4, 5] (fun l _ wr => ∃ b : Nat, l = bp b ∧ Hid (∃ (a : Nat) (Z : List Ent), a ≤ L.length ∧ (ob :: blks L)[a]? = some b ∧ Rise (c 0) (k.size + v.size) k L (L.take a) Z ∧ CB wr col κ cb ob mb (numC c k L (L.take a ++ Z)) (L.take a ++ Z) (L.take a ++ Z) ∧ Only col (fun k => k = κ) w wr)) (fun l _ _ => (ob :: blks L).idxOf (blkOf l))
  case atStart => exact ⟨q0, rfl, Lib.hid ⟨L.length, [], Nat.le_refl _, HQ1.out, (by rw [List.take_length]; exact HRS.out), (by rw [List.take_length]; exact HC0.out), Only.refl _ _ _⟩⟩
  case round =>
    clear hob3
    obtain ⟨b, rfl, hinv⟩ := hrel
    obtain ⟨a, Z, ha, hb, hr, hC, hO⟩ := hinv.out
    clear hinv
    match a, ha with
    | 0, ha =>
      have hbo : b = ob := by simpa using hb.symm
      have hZ : Z = R := by rw [HR.out]; exact hr.end
      subst hbo
      have HF : Hid (CB wr col κ cb b mb (numC c k L R) R R ∧ Only col (fun k => k = κ) w wr) := Lib.hid (by rw [← hZ]; exact ⟨hC, hO⟩)
      have q1 := neq_link_same b wr
      clear hb hr hC hO hZ
      go_wp2_with fail
      go_end0
      exact ⟨rfl, HF.out.1, HF.out.2⟩
    | a + 1, ha =>
      have hal : a < L.length := ha
      obtain ⟨e, he⟩ : ∃ e, e = L[a] := ⟨_, rfl⟩
      have heL : e ∈ L := by rw [he]; exact List.getElem_mem hal
      have hbe : b = e.blk := by
        have h2 : (blks L)[a]? = some b := hb
        unfold blks at h2
        rw [List.getElem?_map, List.getElem?_eq_getElem hal, ← he] at h2
        simpa using h2.symm
      have htk : L.take (a + 1) = L.take a ++ [e] := by rw [List.take_succ_eq_append_getElem hal, ← he]
      have hcat : L.take (a + 1) ++ Z = L.take a ++ e :: Z := by rw [htk]; simp
      rw [htk] at hr
      rw [hcat] at hC
      obtain ⟨A, hA⟩ : ∃ A, A = L.take a := ⟨_, rfl⟩
      rw [← hA] at hr hC
      have hsub : (A ++ e :: Z).Sublist L := by have := hr.2; rwa [List.append_assoc, List.singleton_append] at this
      have hlen : (A ++ e :: Z).length ≤ L.length := hsub.length_le
      have hwle := wts_but_le k (A ++ e :: Z)
      have hwle2 := wts_sub hsub
      have hlw := HW.out
      have hll := HL6.out
      have h55 := H5.out
      obtain ⟨hes1, hes2⟩ := HLS.out e heL
      have nk2 : ((A ++ e :: Z).map Ent.key).Nodup := HNK.out.sublist (hsub.map _)
      obtain ⟨X', q, hq0, hq1⟩ := nth_last (ob := ob) (L := L) (a := a) (by omega)
      obtain ⟨X2, q2, hm0, hm1⟩ := Ring.mid (X := blks A) (Y := blks Z) (l := e.blk) (by have := hC.rg; rwa [blks_app] at this)
      have hqq : q2 = q := by
        rw [hA, hq0] at hm0
        have := List.append_inj' hm0 rfl
        simp at this
        exact this.2.symm
      rw [hqq] at hm1
      have hbn : b ≠ ob := by
        rintro rfl
        have := hC.nd
        rw [List.nodup_cons] at this
        exact this.1 (by rw [blks_app, hbe]; simp [blks])
      have q1 := neq_link_ne (hC.es e (by simp)).t hC.ot (by rw [← hbe]; exact hbn)
      rw [← hbe] at q1 hm1
      have hidx : (ob :: blks L).idxOf q < (ob :: blks L).idxOf b := by rw [idx_at HND.out hq1, idx_at HND.out hb]; omega
      have HIDX := Lib.hid hidx
      have c0e : numC c k L (A ++ e :: Z) 0 = c 0 := numC_o _ _ _ _ (by decide) (by decide) (by decide)
      have c1e : numC c k L (A ++ e :: Z) 1 = wts (but k (A ++ e :: Z)) := numC_1 _ _ _ _
      have hXr : Bx wr col κ bc bx bl cb k v p lv := HX0.out.only hO
      have hA2 : A = L.take a := hA
      by_cases hst : wts (but k (A ++ e :: Z)) + (k.size + v.size) ≤ c 0
      · have CS := Lib.hid (one_stop (e := e) hC hXr hks hvs (by rw [c1e]; omega) (by rw [c1e, c0e]; exact hst))
        have hfin := hr.stop hst
        rw [hbe]
        have hCC := hC
        rw [hfin, ← HR.out] at hCC
        have HCC := Lib.hid hCC
        have HOO := Lib.hid hO
        rw [hbe] at q1 hm1
        clear hst hb hr hC hO hsub hlen hwle hwle2 hlw hll h55 hes1 hes2 nk2 hq0 hq1 hm0 hqq hbn hidx HIDX c0e c1e hXr hA hA2 htk hcat hbe he heL hfin hCC
        go_wp2_with (go_at_call 23; with_reducible refine (CS.out).mono ?_; rintro r w2 ⟨rfl, hb2⟩; have HB2 := Lib.hid hb2; clear hb2)
        refine bodyPost_ret (results_none rfl _ _ _) rfl ?_
        exact ⟨rfl, HCC.out.below HB2.out, HOO.out.trans' (only_of_below' HB2.out)⟩
      · have hst' : ¬ numC c k L (A ++ e :: Z) 1 + (k.size + v.size) ≤ numC c k L (A ++ e :: Z) 0 := by rw [c1e, c0e]; exact hst
        have hb1 : numC c k L (A ++ e :: Z) 1 ≤ 4611686018427387904 := by rw [c1e]; omega
        by_cases hgo : e.pins = 0 ∧ e.key ≠ k
        · have hC2 := hr.out hst hgo.1 hgo.2
          have hwt : e.wt ≤ numC c k L (A ++ e :: Z) 1 := by rw [c1e, but_mid hgo.2]; omega
          have hmem : e ∈ (A ++ [e]) ++ Z := by simp
          have CS := Lib.hid (one_gone hC hXr hks hvs hb1 hst' hgo.1 (fun w' hC' => HNE.out (A ++ [e]) Z e hr hmem hgo.2 w' _ (by rw [List.append_assoc, List.singleton_append]; exact hC')) nk2 hes1 hes2 hwt (by rw [numC_6]; simp; omega) (by rw [numC_6]; omega) (by rw [numC_5]; omega))
          have HNC : Hid (outC (numC c k L (A ++ e :: Z)) e = numC c k L (A ++ Z)) := Lib.hid (numC_out hgo.2 hlen)
          have HR2 := Lib.hid hC2
          have HQ := Lib.hid hq1
          have HA := Lib.hid hA2
          have HO1 := Lib.hid hO
          have HAL : Hid (a ≤ L.length) := Lib.hid (by omega)
          rw [hbe] at q1 hm1 HIDX ⊢
          clear hst hb hr hC hO hsub hlen hwle hwle2 hlw hll h55 hes1 hes2 nk2 hq0 hq1 hm0 hqq hbn hidx c0e c1e hXr hA hA2 htk hcat hbe he heL ha hal hgo hC2 hwt hmem hst' hb1
          go_wp2_with (go_at_call 23; with_reducible refine (CS.out).mono ?_; rintro r w2 ⟨rfl, hC2, hO2⟩; have HC2 := Lib.hid hC2; have HO2 := Lib.hid hO2; clear hC2 hO2)
          exact ⟨⟨q, rfl, Lib.hid ⟨a, Z, HAL.out, HQ.out, (by rw [← HA.out]; exact HR2.out), (by rw [← HA.out, ← HNC.out]; exact HC2.out), HO1.out.trans' HO2.out⟩⟩, HIDX.out⟩
        · have hC2 := hr.keep hst hgo
          have CS : Hid (Calls Try.prog 23 #[bp e.blk, bp bc, bp bx, bp bl] wr fun r w' => r = .returned (.bool true) ∧ Below wr.heap.size wr w') := Lib.hid (by
            by_cases hp : e.pins = 0
            · have hk : e.key = k := Classical.byContradiction fun hk => hgo ⟨hp, hk⟩
              exact one_keepL hC hXr hks hvs hb1 hst' hp (HIN.out e heL hk)
            · exact one_keepP hC hXr hks hvs hb1 hst' hp)
          have HR2 := Lib.hid hC2
          have HQ := Lib.hid hq1
          have HA := Lib.hid hA2
          have HO1 := Lib.hid hO
          have HC1 := Lib.hid hC
          have HAL : Hid (a ≤ L.length) := Lib.hid (by omega)
          rw [hbe] at q1 hm1 HIDX ⊢
          clear hst hb hr hC hO hsub hlen hwle hwle2 hlw hll h55 hes1 hes2 nk2 hq0 hq1 hm0 hqq hbn hidx c0e c1e hXr hA hA2 htk hcat hbe he heL ha hal hgo hC2 hst' hb1
          go_wp2_with (go_at_call 23; with_reducible refine (CS.out).mono ?_; rintro r w2 ⟨rfl, hb2⟩; have HB2 := Lib.hid hb2; clear hb2)
          exact ⟨⟨q, rfl, Lib.hid ⟨a, e :: Z, HAL.out, HQ.out, (by rw [← HA.out]; exact HR2.out), (by rw [← HA.out]; exact HC1.out.below HB2.out), HO1.out.trans' (only_of_below' HB2.out)⟩⟩, HIDX.out⟩
end Go.Proofs.Ythaccjjkbbkehaa
