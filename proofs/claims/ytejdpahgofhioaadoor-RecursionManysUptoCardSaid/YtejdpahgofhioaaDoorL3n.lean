/- RecursionManys, walked. -/
import Derived.Test.YtejdpahgofhioaaDoorL3m
namespace Go.Proofs.YtejdpahgofhioaaDoor
open Go.RowKit Go.Scr
set_option linter.unusedVariables false

theorem ints_ownR {w : World} {B n : Nat} {v : Value} {Z : List Int} (h : w.ownsRow B 3 1 v n (Z.map (Value.int .i64))) (hc : Z.length ≤ 1048576) (hz : ∀ z ∈ Z, 0 ≤ z ∧ z ≤ 1048576) : ∃ p c, v = .slice p n c ∧ n = Z.length ∧ Ints w v Z := by
  have hl : n = Z.length := by have := h.1; simp at this; omega
  rcases h.2 with ⟨rfl, h0⟩ | ⟨g, cap, cur, rfl, _, hg, hnc, _, hcs, htake⟩
  · have : Z = [] := List.eq_nil_of_length_eq_zero (by omega)
    subst this
    exact ⟨none, 0, by rw [h0], hl, none, 0, rfl, Nat.le_refl _, by simp, by simp, fun j z h => by simp at h⟩
  · refine ⟨_, cap, rfl, hl, ⟨_, cap, by rw [← hl], by omega, by omega, fun z hm => by have := hz z hm; omega, fun j z hj => ⟨_, rfl, ?_⟩⟩⟩
    have hadd : (⟨g, 0, none⟩ : Addr).add j = ⟨g, j, none⟩ := by unfold Addr.add; split <;> simp_all
    rw [hadd, cell_of_row w g j _ _ _ hg, ← Array.getElem?_toList]
    have hk : (Z.map (Value.int .i64))[j]? = some (.int .i64 z) := by rw [List.getElem?_map, hj]; rfl
    rw [← htake, List.getElem?_take] at hk
    split at hk
    · exact hk
    · cases hk
theorem int_one (i : Nat) : ∀ u ∈ [Value.int .i64 (i : Int)], u.oneCell' = true := by
  intro u hu; simp only [List.mem_singleton] at hu; rw [hu]; rfl

set_option maxRecDepth 100000 in
set_option maxHeartbeats 4000000 in
theorem rmanys_any (v v2 : Value) (Z Z2 : List Int) (w : World) (ht : Tabs w) (hv : Ints w v Z) (hv2 : Ints w v2 Z2) (hz2l : Z2.length ≤ 1048576) :
    Calls Tryd.prog 8 #[v, v2] w fun e w' => e = .returned (.bool true) ∧ Below w.heap.size w w' := by
  have HT := Lib.hid ht
  have C1 := Lib.hid (known3_any w ht)
  obtain ⟨L, hLL⟩ : ∃ L, L = numL Z 200 := ⟨_, rfl⟩
  have hok : ok32 L = true := by rw [hLL]; exact numL_ok Z 200
  have hlen : L.length ≤ 200 := by rw [hLL, numL_length]; omega
  obtain ⟨n, hn⟩ : ∃ n, n = L.length := ⟨_, rfl⟩
  have cn : ∀ w', Below w.heap.size w w' → Calls Tryd.prog 36 #[v, .int .i64 200] w' fun e w'' => ∃ pl cl, e = .returned (.slice pl n cl) ∧ Txts w'' (.slice pl n cl) L ∧ Below w'.heap.size w' w'' := fun w' hb =>
    (numbered3_any v Z 200 w' (ints_below hv hb (Nat.le_refl _)) (by decide)).mono (fun e w'' h => by
      obtain ⟨x, rfl, hown, hb2⟩ := h
      rw [← hLL] at hown
      have htx := txts_ownR hown (by omega)
      obtain ⟨pl, cl, hx⟩ := slice_of htx hn
      subst hx
      exact ⟨pl, cl, rfl, htx, hb2⟩)
  have CN := Lib.hid cn
  obtain ⟨p0, c0, rfl, _⟩ := hv
  by_cases hn0 : n = 0
  · have hni : ((n : Int) == 0) = true := beq_iff_eq.2 (by omega)
    clear hok hlen hn cn hn0 hLL ht hv2
    go_enter Tryd.func8, Tryd.ntmps8
    go_wp2_with (first
      | (go_at_call 15; with_reducible refine (C1.out).mono ?_; rintro r w1 ⟨rfl, hb⟩; have HB1 := Lib.hid hb; clear hb)
      | (go_at_call 36; with_reducible refine (CN.out w1 HB1.out).mono ?_; rintro r w2 ⟨pl, cl, rfl, htx, hb⟩; have HB2 := Lib.hid (below_from HB1.out hb HB1.out.size); clear hb htx))
    go_ret
    exact ⟨rfl, HB2.out⟩
  · have hni : ((n : Int) == 0) = false := beq_eq_false_iff_ne.2 (by omega)
    have hre := refused_ok hok (by omega)
    obtain ⟨R, hR⟩ : ∃ R, R = rootR L := ⟨_, rfl⟩
    have crt := fun y w' (h : Tabs w') (htx : Txts w' y L) => Root_any y L w' h htx
    have hrt : rootT L = R := by unfold rootT; rw [if_pos hre, hR]
    rw [hrt, hre] at crt
    obtain ⟨p2, c2, rfl, hw1, hw2, hwb, hw3⟩ := hv2
    obtain ⟨m2, hm2⟩ : ∃ m, m = Z2.length := ⟨_, rfl⟩
    rw [← hm2] at hz2l ⊢
    have HM2 := Lib.hid hm2
    have HZ2 := Lib.hid hw3
    have HZB := Lib.hid hwb
    have hnb : n ≤ 200 := by omega
    have cpk := fun z (hz : -9223372036854775808 ≤ z ∧ z ≤ 9223372036854775807) w' => pick3_any z n w' (by omega) (by omega) hz
    have CPK := Lib.hid cpk
    have CRT := Lib.hid crt
    have HRE := Lib.hid hre
    have HR := Lib.hid hR
    have HN := Lib.hid hn
    have HN0 := Lib.hid hn0
    have hmk := fun w' => make_bools n (by omega) w'
    have HMK := Lib.hid hmk
    clear hok hlen hn cn hn0 hLL ht hre crt hrt hR hw1 hw2 hw3 hwb hm2 cpk
    go_enter Tryd.func8, Tryd.ntmps8
    go_upto_region 7 with (first
      | (go_at_call 15; with_reducible refine (C1.out).mono ?_; rintro r w1 ⟨rfl, hb⟩; have HB1 := Lib.hid hb; clear hb)
      | (go_at_call 36; with_reducible refine (CN.out w1 HB1.out).mono ?_; rintro r w2 ⟨pl, cl, rfl, htx, hb⟩; have HB2 := Lib.hid (below_from HB1.out hb HB1.out.size); have HX2 := Lib.hid htx; clear hb htx))
    clear hmk HMK
    obtain ⟨g, hg⟩ : ∃ g, g = w2.heap.size := ⟨_, rfl⟩
    obtain ⟨w3, hw3⟩ : ∃ w3, w3 = w2.alloc (.cells (Array.replicate n (Value.bool false)) 4) := ⟨_, rfl⟩
    have hrow3 : BRow w3 g (List.replicate n false) := by rw [hw3, hg]; exact brow_made w2 n
    have hb3 : Below g w2 w3 := by rw [hw3, hg]; exact (Below.refl _ _).alloc (Nat.le_refl _) _
    rw [← hw3, ← hg]
    have HG := Lib.hid hg
    have HROW3 := Lib.hid hrow3
    have HB3 := Lib.hid hb3
    clear hg hw3 hrow3 hb3
    go_wp2_with fail
    go_loopw [9] (fun q wr => ∃ (i : Nat) (B : List Bool), i ≤ m2 ∧ q = .int .i64 i ∧ Hid (B.length = n ∧ BRow wr g B ∧ Below g w2 wr)) (fun q _ => m2 - (intOf q).toNat)
    case atStart => exact ⟨0, List.replicate n false, by omega, rfl, Lib.hid ⟨by simp, HROW3.out, HB3.out⟩⟩
    case round =>
      clear HROW3 HB3
      obtain ⟨i, B, hi, rfl, hinv⟩ := hrel
      have HINV := Lib.hid hinv.out
      clear hinv
      by_cases hlt : i < m2
      · have hlti : (i : Int) < (m2 : Int) := by omega
        have hi0 : (0 : Int) ≤ (i : Int) := by omega
        have hib : i ≤ 1048576 := by omega
        obtain ⟨z, hz⟩ : ∃ z, Z2[i]? = some z := ⟨Z2[i]'(by have := HM2.out; omega), List.getElem?_eq_getElem _⟩
        obtain ⟨a, rfl, hc⟩ := HZ2.out i z hz
        have hc1 : wr.cell? (a.add i) = some (.int .i64 z) := ((below_from HB2.out (by rw [← HG.out]; exact HINV.out.2.2) HB2.out.size).cell (block_lt_of_cell hc)).trans hc
        have hpk := CPK.out z (HZB.out z (List.mem_of_getElem? hz))
        obtain ⟨c, hcc⟩ : ∃ c, c = pickN z n := ⟨_, rfl⟩
        have hcn : c < n := by rw [hcc]; exact pickN_lt z (by have := HN0.out; omega)
        rw [← hcc] at hpk
        have HPK := Lib.hid hpk
        have hcni : (c : Int) < (n : Int) := by omega
        have hc0 : (0 : Int) ≤ (c : Int) := by omega
        have hcb : c ≤ 200 := by omega
        obtain ⟨old, hold⟩ : ∃ d, B[c]? = some d := ⟨B[c]'(by have := HINV.out.1; omega), List.getElem?_eq_getElem _⟩
        have hcell := HINV.out.2.1.cell hold
        have hfz := HINV.out.2.1.frozen c
        have HSET := Lib.hid (HINV.out.2.1.set c true)
        have HBS := Lib.hid (HINV.out.2.2.setCell (p := ⟨g, c, none⟩) (Nat.le_refl g) (.bool true))
        have HLT := Lib.hid hlt
        clear hz hc hpk hcc hcn hold hlt
        go_wp2_with (go_at_call 23; with_reducible refine (HPK.out wr).mono ?_; rintro r wx ⟨rfl, hw⟩; rw [hw]; clear hw wx)
        exact ⟨⟨i + 1, B.set c true, by have := HLT.out; omega, rfl, Lib.hid ⟨by rw [List.length_set]; exact HINV.out.1, HSET.out, HBS.out⟩⟩, (by show m2 - ((i : Int) + 1).toNat < m2 - (i : Int).toNat; have := HLT.out; omega)⟩
      · have hlti : ¬ ((i : Int) < (m2 : Int)) := by omega
        clear hlt hi
        obtain ⟨w4, rfl⟩ : ∃ w4, w4 = wr := ⟨_, rfl⟩
        obtain ⟨F, hF⟩ : ∃ F, F = w4.heap.size := ⟨_, rfl⟩
        have HF := Lib.hid hF
        have HB4 := Lib.hid (below_from HB2.out (by rw [← HG.out]; exact HINV.out.2.2) HB2.out.size)
        have hgF : g < F := by rw [hF]; exact HINV.out.2.1.lt
        clear hF
        go_wp2_with fail
        go_loopw [10, 11] (fun iv q wq => ∃ j : Nat, j ≤ n ∧ q = .int .i64 j ∧ Hid (wq.ownsRow F 3 1 iv (plcB 0 (B.take j)).length ((plcB 0 (B.take j)).map (Value.int .i64)) ∧ Below F w4 wq)) (fun _ q _ => n - (intOf q).toNat)
        case atStart => exact ⟨0, by omega, rfl, Lib.hid ⟨by rw [List.take_zero]; exact World.ownsRow_nil _ _ _ _, Below.refl _ _⟩⟩
        case round =>
          obtain ⟨j, hj, rfl, hjv⟩ := hrel
          have HJV := Lib.hid hjv.out
          clear hjv
          by_cases hlt : j < n
          · have hlti2 : (j : Int) < (n : Int) := by omega
            have hj0 : (0 : Int) ≤ (j : Int) := by omega
            obtain ⟨d, hd⟩ : ∃ d, B[j]? = some d := ⟨B[j]'(by have := HINV.out.1; omega), List.getElem?_eq_getElem _⟩
            have hcell := (HINV.out.2.1.below HJV.out.2 hgF).cell hd
            have hsn : plcB 0 (B.take (j + 1)) = plcB 0 (B.take j) ++ (if d then [(j : Int)] else []) := by
              rw [take_snoc hd, plcB_snoc]
              congr 2
              rw [List.length_take, Nat.min_eq_left (by have := HINV.out.1; omega), Nat.zero_add]
            have hpl := plcB_len (B.take j) 0
            rw [List.length_take] at hpl
            obtain ⟨k, hk⟩ : ∃ k, k = (plcB 0 (B.take j)).length := ⟨_, rfl⟩
            have hkb : k ≤ 200 := by omega
            have HK := Lib.hid hk
            have HSN := Lib.hid hsn
            have HLT := Lib.hid hlt
            have hp1 : 0 < k + 1 := by omega
            have hp2 : (k + 1) * 8 ≤ 140737488355328 := by omega
            have hp3 : k + 1 ≤ 140737488355328 := by omega
            have HOWN := Lib.hid HJV.out.1
            have HBQ := Lib.hid HJV.out.2
            have HSZ := Lib.hid (show F ≤ _ from Nat.le_trans (Nat.le_of_eq HF.out) HJV.out.2.size)
            rw [← hk] at HOWN
            clear hd hsn hpl hk hlt
            cases d with
            | true =>
              go_wp2_with (at_builtin; refine wpList_appendV rfl _ _ rfl Tryd.underlying36 (.int .i64 0) 1 info_int rfl (by decide) [Value.int .i64 (j : Int)] 1 (k + 1) rfl rfl HOWN.out rfl rfl (int_one j) HBQ.out (Nat.le_refl _) HSZ.out rfl hp1 hp2 hp3 ?_; intro g' c' w5 hg' hown' hb' hsz' hgr'; have HOWN3 := Lib.hid hown'; have HBEL3 := Lib.hid hb'; clear hown' hb' hsz' hgr' hg')
              go_roundw
              case rel => exact ⟨j + 1, by have := HLT.out; omega, rfl, Lib.hid ⟨by rw [HSN.out, List.length_append, List.map_append, ← HK.out]; exact HOWN3.out, HBEL3.out⟩⟩
              case measure => show n - ((j : Int) + 1).toNat < n - (j : Int).toNat; have := HLT.out; omega
            | false =>
              go_wp2_with fail
              go_roundw
              case rel => exact ⟨j + 1, by have := HLT.out; omega, rfl, Lib.hid ⟨by rw [HSN.out, if_neg (by decide), List.append_nil]; exact HJV.out.1, HBQ.out⟩⟩
              case measure => show n - ((j : Int) + 1).toNat < n - (j : Int).toNat; have := HLT.out; omega
          · have hlti2 : ¬ ((j : Int) < (n : Int)) := by omega
            have hBt : B.take j = B := List.take_of_length_le (by have := HINV.out.1; omega)
            rw [hBt] at HJV
            have hpl := plcB_len B 0
            have hnZ : (plcB 0 B).length ≤ n := by have := HINV.out.1; omega
            obtain ⟨pi, ci, hiv, hnk, hints⟩ := ints_ownR HJV.out.1 (by omega) (fun z hz => by have := plcB_ge B 0 z hz; have := HINV.out.1; omega)
            obtain ⟨nk, hnk2⟩ : ∃ k, k = (plcB 0 B).length := ⟨_, rfl⟩
            rw [← hnk2] at hiv
            subst hiv
            have HIN := Lib.hid hints
            have HBW := Lib.hid (below_from HB4.out (by rw [← HF.out]; exact HJV.out.2) HB4.out.size)
            have HRQ := Lib.hid (HINV.out.2.1.below HJV.out.2 hgF)
            have HNK := Lib.hid hnk2
            have hnkn : nk ≤ n := by omega
            have hgr : g ≤ w4.heap.size := by have := HF.out; omega
            have HXQ := Lib.hid (HX2.out.below (below_from HINV.out.2.2 (by rw [← HF.out]; exact HJV.out.2) hgr) (Nat.le_of_eq HG.out.symm))
            have cm := Many_any _ _ L (plcB 0 B) _ (HT.out.below HBW.out) HXQ.out HIN.out (by omega)
            clear hBt hpl hnk hints hlt hj hnk2 hnZ
            by_cases hk0 : nk = 0
            · have hzn : plcB 0 B = [] := List.eq_nil_of_length_eq_zero (by rw [← HNK.out]; exact hk0)
              have hw : wrongZ L.length (plcB 0 B) = true := by rw [hzn]; rfl
              have hme : manyE L (plcB 0 B) = 30 := by unfold manyE; rw [if_neg (by simp [HRE.out]), if_pos hw]
              have hmt : manyT L (plcB 0 B) = [] := by unfold manyT; rw [hme]; rfl
              rw [hme, hmt] at cm
              have CM := Lib.hid cm
              have hki : ((nk : Int) == 0) = true := beq_iff_eq.2 (by omega)
              clear hzn hw hme hmt cm hk0
              go_wp2_with (go_at_call 29; with_reducible refine CM.out.mono ?_; rintro r w6 ⟨po, rfl, hox, hof, hb⟩; have HB6 := Lib.hid (below_from HBW.out hb HBW.out.size); clear hb hox hof)
              go_ret
              exact ⟨rfl, HB6.out⟩
            · have hw : wrongZ L.length (plcB 0 B) = false := by
                have := wrongZ_marks B (by rw [← HNK.out]; exact hk0) (by rw [← HNK.out]; omega)
                rwa [HINV.out.1, HN.out] at this
              have hme : manyE L (plcB 0 B) = 0 := by unfold manyE; rw [if_neg (by simp [HRE.out]), hw]; rfl
              have hmt : manyT L (plcB 0 B) = manyZ 0 L (plcB 0 B) := by unfold manyT; rw [hme]; rfl
              rw [hme, hmt] at cm
              obtain ⟨q, hq⟩ : ∃ q, q = (manyZ 0 L (plcB 0 B)).length := ⟨_, rfl⟩
              have hfit := manyZ_fits n 0 L (plcB 0 B) HN.out.symm (by have := HN0.out; omega) (plcB_rises B 0)
              have hcnt := cntZ_all (B := B)
              rw [HINV.out.1] at hcnt
              have hqn : q + nk ≤ n := by have := HNK.out; omega
              rw [← hq] at cm
              have ct := fun pp qq cp w' h1 h2 h3 h4 => told3_any B L n (some ⟨g, 0, none⟩) pl n cl HN.out.symm HINV.out.1 (by omega) n 0 n L [] pp qq cp w' (by omega) (by have := HN0.out; omega) (Nat.le_refl _) (by rw [List.drop_zero, HN.out, List.take_length]) h1 h2 h3 h4
              simp only [List.append_nil] at ct
              have hc0 : ((0 : Nat) : Int) = 0 := rfl
              rw [hc0] at ct
              rw [← HR.out] at ct
              have CM := Lib.hid cm
              have CT := Lib.hid ct
              have hki : ((nk : Int) == 0) = false := beq_eq_false_iff_ne.2 (by omega)
              have hle : (q : Int) ≤ (n : Int) - (nk : Int) := by omega
              have hqb : q ≤ 200 := by omega
              clear hw hme hmt cm hk0 hq hfit hcnt ct hqn hc0
              go_upto_region 22 with (first
                | (go_at_call 29; with_reducible refine CM.out.mono ?_; rintro r w6 ⟨po, rfl, hox, hof, hb⟩; have HB6 := Lib.hid (below_from HBW.out hb HBW.out.size); have HP6 := Lib.hid hox; have HX6 := Lib.hid (HXQ.out.below hb (Nat.le_refl _)); have HM6 := Lib.hid ((HRQ.out.marks).below hb); clear hb hox hof)
                | (go_at_call 19; with_reducible refine (CRT.out _ w6 (HT.out.below HB6.out) HX6.out).mono ?_; rintro r w7 ⟨rfl, hb⟩; have HB7 := Lib.hid (below_from HB6.out hb HB6.out.size); have HP7 := Lib.hid (HP6.out.below hb (Nat.le_refl _)); have HX7 := Lib.hid (HX6.out.below hb (Nat.le_refl _)); have HM7 := Lib.hid (HM6.out.below hb); clear hb)
                | (go_at_call 41; with_reducible refine (CT.out _ _ _ w7 HP7.out HX7.out HM7.out (HT.out.below HB7.out)).mono ?_; rintro r w8 ⟨p9, q9, c9, rfl, htx, hb⟩; have HB8 := Lib.hid (below_from HB7.out hb HB7.out.size); have HP8 := Lib.hid htx; clear hb htx))
              have hq9 : q9 = 0 := by
                obtain ⟨_, _, he, _⟩ := HP8.out
                simp only [Value.slice.injEq, List.length_nil] at he
                exact he.2.1
              subst hq9
              go_wp2_with fail
              go_ret
              exact ⟨rfl, HB8.out⟩
end Go.Proofs.YtejdpahgofhioaaDoor
