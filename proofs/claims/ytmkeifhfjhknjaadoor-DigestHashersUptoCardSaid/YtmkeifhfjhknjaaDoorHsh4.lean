/- DigestHashers, walked. -/
import Derived.Test.YtmkeifhfjhknjaaDoorHsh3
namespace Go.Proofs.YtmkeifhfjhknjaaDoor
open Go.RowKit Go.Scr
set_option linter.unusedVariables false

theorem ptr_oneH (h : Nat) : ∀ u ∈ [ptrV h], u.oneCell' = true := by
  intro u hu; simp only [List.mem_singleton] at hu; rw [hu]; rfl
theorem run_join {P : Program} {t s : ByteArray} (h : t.size + s.size ≤ 16777216) (w : World) : (Op.stringOp .add t s).run P w = .ok (.string (t ++ s)) w := by
  have e : ¬ (((t.size + s.size : Nat) : Int) > IntKind.i64.max) := by
    show ¬ (((t.size + s.size : Nat) : Int) > 9223372036854775807)
    omega
  simp only [Op.stringOp]
  rw [if_neg e]
  rfl
theorem str_oneH (s : ByteArray) : ∀ u ∈ [Value.string s], u.oneCell' = true := fun u hu => by rw [List.mem_singleton.mp hu]; rfl
theorem info_strH : (Tryd.prog.info? 9).map (fun i => (i.zero, i.size, i.bytes)) = some (some (.string ⟨#[]⟩), 1, 16) := by kernel_rfl
set_option maxRecDepth 100000 in
set_option maxHeartbeats 4000000 in
theorem dhashers_any (v : Value) (L : List (Int × Int × ByteArray)) (w : World) (ht : Tabs w) (hv : Ops w v L) (hb : L.length + opsW L ≤ 1048576) :
    Calls Tryd.prog 4 #[v] w fun e w' => e = .returned (.bool true) ∧ Below w.heap.size w w' := by
  have CW := Lib.hid (sweigh_any v L w hv hb)
  have HT := Lib.hid ht
  obtain ⟨p, c, rfl, hv1, hv2, hv3⟩ := hv
  obtain ⟨n, hn⟩ : ∃ n, n = L.length := ⟨_, rfl⟩
  obtain ⟨m, hm⟩ : ∃ m, m = L.length + opsW L := ⟨_, rfl⟩
  have HM := Lib.hid hm
  have HOW : Hid (opsW L ≤ 1048576) := Lib.hid (by omega)
  have hgt : ¬ (268435455 : Int) < (m : Int) := by omega
  have hnb : n ≤ 1048576 := by omega
  have hcw := CW.out
  rw [← hm, ← hn] at hcw
  have CW2 := Lib.hid hcw
  rw [← hn] at hv1
  have HN0 := Lib.hid hn
  have HV := Lib.hid hv3
  clear hv3 hv2 hn hm hb ht hcw CW
  rw [← HN0.out]
  go_enter Tryd.func4, Tryd.ntmps4
  go_upto_region 7 with (first
    | (go_at_call 8; with_reducible refine (CW2.out).mono ?_; rintro r w1 ⟨rfl, hb1⟩; have HB1 := Lib.hid hb1; have CK := Lib.hid (known1_any w1 (HT.out.below hb1)); clear hb1 CW2)
    | (go_at_call 9; with_reducible refine (CK.out).mono ?_; rintro r w2 ⟨rfl, hb2⟩; have HB2 := Lib.hid (below_from HB1.out hb2 HB1.out.size); have CN := Lib.hid (new_any w2 (HT.out.below HB2.out)); clear hb2 CK)
    | (go_at_call 10; with_reducible refine (CN.out).mono ?_; rintro r w3 ⟨h, rfl, hh, hm, hb3⟩; have HB3 := Lib.hid (below_from HB2.out hb3 HB2.out.size); have HH : Hid (w.heap.size ≤ h) := Lib.hid (Nat.le_trans HB2.out.size hh); have HHM := Lib.hid hm; clear hb3 CN hh hm))
  clear hgt HM
  go_upto_region 9 with fail
  obtain ⟨w4, hw4⟩ : ∃ x, x = (w3.alloc (.cells #[ptrV h] 30)).alloc (.cells #[.string ⟨#[]⟩] 9) := ⟨_, rfl⟩
  obtain ⟨g0, hg0⟩ : ∃ x, x = w3.heap.size := ⟨_, rfl⟩
  have HST : Hid (HN w w4 0 (.slice (some ⟨g0, 0, none⟩) 1 1) (.slice (some ⟨g0 + 1, 0, none⟩) 1 1) [h] [⟨#[]⟩]) := Lib.hid (by
    rw [hw4, hg0]
    exact ⟨_, HI.begin HB3.out HH.out HHM.out _ rfl, rfl, fun s hs => by rw [List.mem_singleton.mp hs]; exact Nat.le_refl _⟩)
  change Code.wp _ _ _ _ ((w3.alloc (.cells #[ptrV h] 30)).alloc (.cells #[.string ⟨#[]⟩] 9))
  rw [← hw4, ← hg0]
  clear hw4 hg0 HB1 HB2 HB3 HH HHM
  go_wp2_with fail
  go_loopw [5, 6, 7] (fun sh st q wr => ∃ (i k : Nat) (ph pt : Option Addr) (ch ct : Nat), i ≤ n ∧ 1 ≤ k ∧ k ≤ 8 ∧ q = .int .i64 i ∧ sh = .slice ph k ch ∧ st = .slice pt k ct ∧ Hid (∃ hl tl, HN w wr (opsW (L.take i)) (.slice ph k ch) (.slice pt k ct) hl tl)) (fun _ _ q _ => n - (intOf q).toNat)
  case atStart => exact ⟨0, 1, _, _, 1, 1, by omega, by omega, by omega, rfl, rfl, rfl, Lib.hid ⟨_, _, HST.out⟩⟩
  case round =>
    clear HST
    obtain ⟨i, k, ph, pt, ch, ct, hi, hk1, hk8, rfl, rfl, rfl, hinv⟩ := hrel
    obtain ⟨hl, tl, hst⟩ := hinv.out
    have HS := Lib.hid hst
    clear hinv hst
    by_cases hlt : i < n
    · obtain ⟨⟨kd, on, s⟩, hs⟩ : ∃ s, L[i]? = some s := ⟨L[i]'(by rw [← HN0.out]; exact hlt), List.getElem?_eq_getElem _⟩
      obtain ⟨hkd, hon, a, rfl, hc0, hc1, hc2⟩ := HV.out i kd on s hs
      rw [add3] at hc1 hc2
      have hbl : ∀ {a u}, w.cell? a = some u → wr.cell? a = some u := fun h => (HS.out.bl.cell (block_lt_of_cell h)).trans h
      have d0 := hbl hc0
      have d1 : wr.cell? ⟨(a.add (i * 3)).block, (a.add (i * 3)).off + 1, none⟩ = some (.int .i64 on) := hbl hc1
      have d2 : wr.cell? ⟨(a.add (i * 3)).block, (a.add (i * 3)).off + 2, none⟩ = some (.string s) := hbl hc2
      have hct : opsW (L.take (i + 1)) = opsW (L.take i) + s.size := opsW_take hs
      have HCT := Lib.hid hct
      have HSZ : Hid (s.size ≤ 1048576 ∧ opsW (L.take (i + 1)) ≤ 1048576) := Lib.hid (by have := opsW_le L (i + 1); have := HOW.out; omega)
      have hii : (i : Int) < (n : Int) := by omega
      have hi0 : (0 : Int) ≤ (i : Int) := by omega
      obtain ⟨j, hj⟩ : ∃ j, j = pickN on k := ⟨_, rfl⟩
      have hjk : j < k := by rw [hj]; exact pickN_lt _ (by omega)
      have CP : Hid (∀ w', Calls Tryd.prog 11 #[.int .i64 on, .int .i64 k] w' fun e w2 => e = .returned (.int .i64 (j : Int)) ∧ w2 = w') := Lib.hid (fun w' => by rw [hj]; exact pick1_any on k w' (by omega) (by omega) hon)
      have hlens := HS.out.lens
      obtain ⟨q, hq⟩ : ∃ q, hl[j]? = some q := ⟨hl[j]'(by omega), List.getElem?_eq_getElem _⟩
      obtain ⟨t, htj⟩ : ∃ t, tl[j]? = some t := ⟨tl[j]'(by omega), List.getElem?_eq_getElem _⟩
      have HQ := Lib.hid hq
      have HTJ := Lib.hid htj
      have HLEN := Lib.hid hlens
      have hch := hlens.2.2.1
      have hct2 := hlens.2.2.2
      clear hs hc0 hc1 hc2 hbl hct hj hq htj hkd hon hlens
      go_upto_region 13 with fail
      obtain ⟨R, hR⟩ : ∃ x, x = (#[.int .i64 kd, .int .i64 on, .string s] : Array Value) := ⟨_, rfl⟩
      have HR := Lib.hid hR
      obtain ⟨pb, hpb⟩ : ∃ x, x = wr.heap.size := ⟨_, rfl⟩
      obtain ⟨w5, hw5⟩ : ∃ x, x = wr.alloc (.cells R 34) := ⟨_, rfl⟩
      have HX5 : Hid (HX w w5 (opsW (L.take i)) (.slice ph k ch) (.slice pt k ct) hl tl pb R) := Lib.hid (by rw [hw5, hpb]; exact HS.out.box R)
      rw [← hR, ← hw5, ← hpb]
      clear hR hpb hw5 d0 d1 d2 HS
      have r0 : w5.cell? ⟨pb, 0, none⟩ = some (.int .i64 kd) := (HX5.out.cellR 0).trans (by rw [HR.out]; rfl)
      have r1 : w5.cell? ⟨pb, 1, none⟩ = some (.int .i64 on) := (HX5.out.cellR 1).trans (by rw [HR.out]; rfl)
      have r2 : w5.cell? ⟨pb, 2, none⟩ = some (.string s) := (HX5.out.cellR 2).trans (by rw [HR.out]; rfl)
      have hj0 : (0 : Int) ≤ (j : Int) := by omega
      have hjki : (j : Int) < (k : Int) := by omega
      obtain ⟨gh, rfl, hcq⟩ := HX5.out.hn.cellH HQ.out
      have hcq' : w5.cell? ⟨gh, j, none⟩ = some (.pointer (some ⟨q, 0, none⟩)) := hcq
      clear hcq
      go_upto_block 2 with (first
        | (go_at_call 11; with_reducible refine (CP.out _).mono ?_; rintro r wx ⟨rfl, hwx⟩; rw [hwx]; clear hwx wx))
      clear hcq' r0 r1
      have HLT : Hid (i < n) := Lib.hid hlt
      clear hlt hii hi0 hi
      go_cut [5, 6, 11, 12, 13, 14] from 53 to 130 (fun sh st ok _ _ _ wx => ∃ (k : Nat) (ph pt : Option Addr) (ch ct : Nat), 1 ≤ k ∧ k ≤ 8 ∧ sh = .slice ph k ch ∧ st = .slice pt k ct ∧ ok = .bool true ∧ Hid (∃ hl tl, HN w wx (opsW (L.take (i + 1))) (.slice ph k ch) (.slice pt k ct) hl tl))
      case first =>
        obtain ⟨gt, rfl, hctj, hcf, ho⟩ := HX5.out.hn.cellT HTJ.out
        have HO := Lib.hid ho
        have HSAME : Hid (HN w w5 (opsW (L.take (i + 1))) (.slice (some ⟨gh, 0, none⟩) k ch) (.slice (some ⟨gt, 0, none⟩) k ct) hl tl) := Lib.hid (HX5.out.more (by have := HCT.out; omega)).hn
        have HTS : Hid (t.size ≤ opsW (L.take i)) := Lib.hid (by obtain ⟨_, _, _, _, h⟩ := HX5.out; exact h t (List.mem_of_getElem? HTJ.out))
        clear ho
        by_cases hk1' : kd = 1
        · subst hk1'
          have CW := Lib.hid (hx_write HX5.out HT.out (s := s) HQ.out HTJ.out (by have := HSZ.out; have := HCT.out; omega) HSZ.out.1)
          clear hctj hcf
          go_upto_region 19 with (first
            | (go_at_call 12; with_reducible refine (CW.out).mono ?_; rintro r w6 ⟨rfl, hb⟩; have HW6 := Lib.hid hb; clear hb CW))
          obtain ⟨⟨g2, hg2, hc6, hf6, ho6⟩, hr6⟩ := HW6.out.cells HTJ.out
          have hgg : gt = g2 := by simpa using hg2
          subst hgg
          have r2 : w6.cell? ⟨pb, 2, none⟩ = some (.string s) := (hr6 2).trans (by rw [HR.out]; rfl)
          have HO6 := Lib.hid ho6
          clear hg2 hr6 ho6
          have hsum : t.size + s.size ≤ 16777216 := by have := HTS.out; have := HSZ.out; have := HCT.out; omega
          have hadd := fun w => run_join (P := Tryd.prog) hsum w
          clear hsum
          go_still_tail 10, (by kernel_rfl)
          change wpList _ _ _ _ _ w6.drew
          go_wp2_with fail
          have HF : Hid (HN w (w6.drew.setCell ⟨gt, j, none⟩ (.string (t ++ s))) (opsW (L.take (i + 1))) (.slice (some ⟨gh, 0, none⟩) k ch) (.slice (some ⟨gt, 0, none⟩) k ct) hl (tl.set j (t ++ s))) := Lib.hid (by
            have h := HW6.out.below (w' := w6.drew) (Below.refl _ _).drew
            rw [← Array.toList_append, ← ByteArray.data_append] at h
            exact (h.text HO6.out (by have := HCT.out; omega) (by rw [ByteArray.size_append]; have := HCT.out; have := HTS.out; omega)).hn)
          go_meet
          exact ⟨_, _, _, _, _, by omega, by omega, rfl, rfl, rfl, Lib.hid ⟨_, _, HF.out⟩⟩
        · have hb1' : (kd == 1) = false := by simpa using hk1'
          obtain ⟨hmq, hwq⟩ := HX5.out.hn.hash HQ.out HTJ.out
          have HMQ := Lib.hid hmq
          have hlen : t.data.toList.length = t.size := by simp
          have HLN := Lib.hid hlen
          have HTB := Lib.hid (HT.out.below HX5.out.hn.bl)
          have htb : t.size ≤ 1048576 := by have := HTS.out; have := HSZ.out; have := HCT.out; omega
          clear hmq hwq hlen hk1'
          by_cases hk2' : kd = 2
          · subst hk2'
            have CS : Hid (Calls Tryd.prog 13 #[.pointer (some ⟨q, 0, none⟩)] w5 fun e w' => e = .returned (.string ⟨(sha t.data.toList).toArray⟩) ∧ Below w5.heap.size w5 w') := Lib.hid (hsum_any q _ w5 HMQ.out HTB.out (by rw [HLN.out]; omega))
            obtain ⟨S, hS⟩ : ∃ S : ByteArray, S = ⟨(sha t.data.toList).toArray⟩ := ⟨_, rfl⟩
            have hcs := CS.out
            have hrs : ∀ w', Calls Tryd.prog 14 #[.string t] w' fun e w2 => e = .returned (.string S) ∧ Below w'.heap.size w' w2 := fun w' => by rw [hS]; exact rsum_any t w' (by omega)
            rw [← hS] at hcs
            have CS2 := Lib.hid hcs
            have CR := Lib.hid hrs
            clear hS hcs hrs CS
            go_upto_region 22 with (first
              | (go_at_call 13; with_reducible refine (CS2.out).mono ?_; rintro r w6 ⟨rfl, hb⟩; have HB6 := Lib.hid hb; clear hb CS2))
            have hc6 : w6.cell? ⟨gt, j, none⟩ = some (.string t) := (HB6.out.cell (block_lt_of_cell hctj)).trans hctj
            go_wp2_with (first
              | (go_at_call 14; with_reducible refine (CR.out _).mono ?_; rintro r w7 ⟨rfl, hb⟩; have HB7 := Lib.hid hb; clear hb CR))
            have HF := Lib.hid ((HSAME.out.below HB6.out).below HB7.out)
            go_meet
            exact ⟨_, _, _, _, _, by omega, by omega, rfl, rfl, rfl, Lib.hid ⟨_, _, HF.out⟩⟩
          · have hb2' : (kd == 2) = false := by simpa using hk2'
            clear hk2'
            by_cases hk3' : kd = 3
            · subst hk3'
              have CL : Hid (∀ w', w' = w5 ∨ True → Below w5.heap.size w5 w' → Calls Tryd.prog 15 #[.pointer (some ⟨q, 0, none⟩)] w' fun e w2 => e = .returned (.int .i64 (t.size : Int)) ∧ w2 = w') := Lib.hid (fun w' _ hb => by rw [← HLN.out]; exact hlen_any q _ w' (HMQ.out.below hb HMQ.out.lt))
              go_upto_region 24 with fail
              go_quiet ((go_at_call 15; exact Calls.quiet_of_same (CL.out _ (.inr trivial) (by first | exact Below.refl _ _ | exact (Below.refl _ _).drew | exact below_drewN (Below.refl _ _) _))))
              have HF : Hid (HN w (w5.drewN nq) (opsW (L.take (i + 1))) (.slice (some ⟨gh, 0, none⟩) k ch) (.slice (some ⟨gt, 0, none⟩) k ct) hl tl) := Lib.hid (HSAME.out.below (below_drewN (Below.refl _ _) nq))
              generalize w5.drewN nq = w9 at HF ⊢
              clear hctj hcf r2
              go_wp2_with fail
              go_meet
              exact ⟨_, _, _, _, _, by omega, by omega, rfl, rfl, rfl, Lib.hid ⟨_, _, HF.out⟩⟩
            · have hb3' : (kd == 3) = false := by simpa using hk3'
              clear hk3'
              by_cases hk4' : kd = 4
              · subst hk4'
                have CC := Lib.hid (hclone_any q _ w5 HMQ.out)
                by_cases hk7 : k < 8
                · have hk7i : (k : Int) < 8 := by omega
                  have HHELD : Hid (∀ w', Below w5.heap.size w5 w' → Held w' 30 1 (.slice (some ⟨gh, 0, none⟩) k ch) k (hl.map ptrV)) := Lib.hid (fun w' hb => by have := (HX5.out.below hb).held; rwa [HLEN.out.1] at this)
                  have hb1 : (k + 1) * 8 ≤ 140737488355328 := by omega
                  have hb2 : k + 1 ≤ 140737488355328 := by omega
                  have hb3 : (k + 1) * 16 ≤ 140737488355328 := by omega
                  have HO2 := Lib.hid (str_oneH t)
                  go_upto_region 30 with (first
                    | (go_at_call 16; with_reducible refine (CC.out).mono ?_; rintro r w6 ⟨cc, rfl, hcc, hm6, hb6⟩; have HB6 := Lib.hid hb6; have HM6 := Lib.hid hm6; have HCC := Lib.hid hcc; have HHE := Lib.hid (HHELD.out w6 hb6); have HO1 := Lib.hid (ptr_oneH cc); clear hb6 hm6 hcc CC)
                    | (at_builtin; refine wpList_grew (v := .slice (some ⟨gh, 0, none⟩) k ch) (l := hl.map ptrV) rfl _ _ rfl Tryd.underlying32 (.pointer none) 1 info_ptrH rfl (by decide) [ptrV cc] 1 (by simp [Act.eval]) (by simp [Act.eval]) HHE.out rfl rfl (by decide) HO1.out hb1 hb2 ?_; intro v7 w7 hg7; obtain ⟨p7, c7, rfl, _⟩ := hg7.held.cells; have HG7 := Lib.hid hg7; clear hg7))
                  have HP7 := Lib.hid (HX5.out.push HB6.out HCC.out HM6.out HLEN.out.1.symm HG7.out)
                  obtain ⟨hcs, hhd⟩ := HP7.out.cells
                  have HHD : Hid (Held w7 9 1 (.slice (some ⟨gt, 0, none⟩) k ct) k (tl.map Value.string)) := Lib.hid (by rwa [HLEN.out.2.1] at hhd)
                  obtain ⟨g2, hg2, hc7⟩ := hcs j t HTJ.out
                  have hgg : gt = g2 := by simpa using hg2
                  subst hgg
                  clear hg2 hcs hhd
                  go_wp2_with (first
                    | (at_builtin; refine wpList_grew (v := .slice (some ⟨gt, 0, none⟩) k ct) (l := tl.map Value.string) rfl _ _ rfl Tryd.underlying23 (.string ⟨#[]⟩) 1 info_strH rfl (by decide) [Value.string t] 1 (by simp [Act.eval]) (by simp [Act.eval]) HHD.out rfl rfl (by decide) HO2.out hb3 hb2 ?_; intro v8 w8 hg8; obtain ⟨p8, c8, rfl, _⟩ := hg8.held.cells; have HG8 := Lib.hid hg8; clear hg8))
                  have HF := Lib.hid (HP7.out.push (u := t) (c := opsW (L.take (i + 1))) HLEN.out.2.1.symm (by have := HCT.out; omega) (by have := HCT.out; have := HTS.out; omega) HG8.out).hn
                  go_meet
                  exact ⟨_, _, _, _, _, by omega, by omega, rfl, rfl, rfl, Lib.hid ⟨_, _, HF.out⟩⟩
                · have hk7i : ¬ ((k : Int) < 8) := by omega
                  go_wp2_with (first
                    | (go_at_call 16; with_reducible refine (CC.out).mono ?_; rintro r w6 ⟨cc, rfl, hcc, hm6, hb6⟩; have HB6 := Lib.hid hb6; clear hb6 hm6 hcc CC))
                  have HF := Lib.hid (HSAME.out.below HB6.out)
                  go_meet
                  exact ⟨_, _, _, _, _, by omega, by omega, rfl, rfl, rfl, Lib.hid ⟨_, _, HF.out⟩⟩
              · have hb4' : (kd == 4) = false := by simpa using hk4'
                clear hk4'
                by_cases hk5' : kd = 5
                · subst hk5'
                  have CC := Lib.hid (new_any w5 HTB.out)
                  clear hctj
                  by_cases hk7 : k < 8
                  · have hk7i : (k : Int) < 8 := by omega
                    have HHELD : Hid (∀ w', Below w5.heap.size w5 w' → Held w' 30 1 (.slice (some ⟨gh, 0, none⟩) k ch) k (hl.map ptrV)) := Lib.hid (fun w' hb => by have := (HX5.out.below hb).held; rwa [HLEN.out.1] at this)
                    have hb1 : (k + 1) * 8 ≤ 140737488355328 := by omega
                    have hb2 : k + 1 ≤ 140737488355328 := by omega
                    have hb3 : (k + 1) * 16 ≤ 140737488355328 := by omega
                    have HO2 := Lib.hid (str_oneH ⟨#[]⟩)
                    go_upto_region 36 with (first
                      | (go_at_call 10; with_reducible refine (CC.out).mono ?_; rintro r w6 ⟨cc, rfl, hcc, hm6, hb6⟩; have HB6 := Lib.hid hb6; have HM6 := Lib.hid hm6; have HCC := Lib.hid hcc; have HHE := Lib.hid (HHELD.out w6 hb6); have HO1 := Lib.hid (ptr_oneH cc); clear hb6 hm6 hcc CC)
                      | (at_builtin; refine wpList_grew (v := .slice (some ⟨gh, 0, none⟩) k ch) (l := hl.map ptrV) rfl _ _ rfl Tryd.underlying32 (.pointer none) 1 info_ptrH rfl (by decide) [ptrV cc] 1 (by simp [Act.eval]) (by simp [Act.eval]) HHE.out rfl rfl (by decide) HO1.out hb1 hb2 ?_; intro v7 w7 hg7; obtain ⟨p7, c7, rfl, _⟩ := hg7.held.cells; have HG7 := Lib.hid hg7; clear hg7))
                    have HP7 := Lib.hid (HX5.out.push HB6.out HCC.out HM6.out HLEN.out.1.symm HG7.out)
                    obtain ⟨hcs, hhd⟩ := HP7.out.cells
                    have HHD : Hid (Held w7 9 1 (.slice (some ⟨gt, 0, none⟩) k ct) k (tl.map Value.string)) := Lib.hid (by rwa [HLEN.out.2.1] at hhd)
                    obtain ⟨g2, hg2, hc7⟩ := hcs j t HTJ.out
                    have hgg : gt = g2 := by simpa using hg2
                    subst hgg
                    clear hg2 hcs hhd
                    go_wp2_with (first
                      | (at_builtin; refine wpList_grew (v := .slice (some ⟨gt, 0, none⟩) k ct) (l := tl.map Value.string) rfl _ _ rfl Tryd.underlying23 (.string ⟨#[]⟩) 1 info_strH rfl (by decide) [Value.string ⟨#[]⟩] 1 (by simp [Act.eval]) (by simp [Act.eval]) HHD.out rfl rfl (by decide) HO2.out hb3 hb2 ?_; intro v8 w8 hg8; obtain ⟨p8, c8, rfl, _⟩ := hg8.held.cells; have HG8 := Lib.hid hg8; clear hg8))
                    have HF := Lib.hid (HP7.out.push (u := ⟨#[]⟩) (c := opsW (L.take (i + 1))) HLEN.out.2.1.symm (by have := HCT.out; omega) (Nat.zero_le _) HG8.out).hn
                    go_meet
                    exact ⟨_, _, _, _, _, by omega, by omega, rfl, rfl, rfl, Lib.hid ⟨_, _, HF.out⟩⟩
                  · have hk7i : ¬ ((k : Int) < 8) := by omega
                    go_wp2_with (first
                      | (go_at_call 10; with_reducible refine (CC.out).mono ?_; rintro r w6 ⟨cc, rfl, hcc, hm6, hb6⟩; have HB6 := Lib.hid hb6; clear hb6 hm6 hcc CC))
                    have HF := Lib.hid (HSAME.out.below HB6.out)
                    go_meet
                    exact ⟨_, _, _, _, _, by omega, by omega, rfl, rfl, rfl, Lib.hid ⟨_, _, HF.out⟩⟩
                · have hb5' : (kd == 5) = false := by simpa using hk5'
                  clear hk5' hctj hcf r2
                  go_wp2_with fail
                  go_meet
                  exact ⟨_, _, _, _, _, by omega, by omega, rfl, rfl, rfl, Lib.hid ⟨_, _, HSAME.out⟩⟩
      case rest =>
        clear HX5 r2
        obtain ⟨k2, ph2, pt2, ch2, ct2, hk21, hk28, rfl, rfl, rfl, h5⟩ := hcut
        have HF := Lib.hid h5.out
        have hi1 : i ≤ 1048576 := by have := HLT.out; omega
        clear h5
        go_wp2_with fail
        have := HLT.out
        exact ⟨⟨i + 1, k2, ph2, pt2, ch2, ct2, by omega, hk21, hk28, rfl, rfl, rfl, Lib.hid HF.out⟩, (by show n - ((i : Int) + 1).toNat < n - (i : Int).toNat; omega)⟩
    · have hii : ¬ ((i : Int) < (n : Int)) := by omega
      have HBB : Hid (opsW (L.take i) ≤ 1048576) := Lib.hid (by have := opsW_le L i; have := HOW.out; omega)
      have HLEN := Lib.hid HS.out.lens
      clear hlt hi
      go_wp2_with fail
      go_loopw [15] (fun q wx => ∃ j : Nat, j ≤ k ∧ q = .int .i64 j ∧ Hid (HN w wx (opsW (L.take i)) (.slice ph k ch) (.slice pt k ct) hl tl)) (fun q _ => k - (intOf q).toNat)
      case atStart => exact ⟨0, by omega, rfl, Lib.hid HS.out⟩
      case round =>
        clear HS
        obtain ⟨j, hj, rfl, hinv⟩ := hrel
        have HS := Lib.hid hinv.out
        clear hinv
        by_cases hjk : j < k
        · have hji : (j : Int) < (k : Int) := by omega
          have hj0 : (0 : Int) ≤ (j : Int) := by omega
          obtain ⟨q, hq⟩ : ∃ q, hl[j]? = some q := ⟨hl[j]'(by have := HLEN.out; omega), List.getElem?_eq_getElem _⟩
          obtain ⟨t, htj⟩ : ∃ t, tl[j]? = some t := ⟨tl[j]'(by have := HLEN.out; omega), List.getElem?_eq_getElem _⟩
          have hch := HLEN.out.2.2.1
          have hct := HLEN.out.2.2.2
          obtain ⟨gh, rfl, hcq⟩ := HS.out.cellH hq
          obtain ⟨gt, rfl, hctj, _⟩ := HS.out.cellT htj
          obtain ⟨hmq, hwq⟩ := HS.out.hash hq htj
          have HMQ := Lib.hid hmq
          have hcq' : wr.cell? ⟨gh, j, none⟩ = some (.pointer (some ⟨q, 0, none⟩)) := hcq
          have HC1 := Lib.hid hcq'
          have HC2 := Lib.hid hctj
          have htb : t.size ≤ 1048576 := by
            obtain ⟨_, _, _, h⟩ := HS.out
            have := h t (List.mem_of_getElem? htj)
            have := HBB.out
            omega
          have hlen : t.data.toList.length = t.size := by simp
          have HLN := Lib.hid hlen
          have HTB := Lib.hid (HT.out.below HS.out.bl)
          obtain ⟨S, hS⟩ : ∃ S : ByteArray, S = ⟨(sha t.data.toList).toArray⟩ := ⟨_, rfl⟩
          have hcs : ∀ w', Below wr.heap.size wr w' → Calls Tryd.prog 13 #[.pointer (some ⟨q, 0, none⟩)] w' fun e w2 => e = .returned (.string S) ∧ Below w'.heap.size w' w2 := fun w' hb => by rw [hS]; exact hsum_any q _ w' (HMQ.out.below hb HMQ.out.lt) (HTB.out.below hb) (by rw [HLN.out]; omega)
          have hrs : ∀ w', Calls Tryd.prog 14 #[.string t] w' fun e w2 => e = .returned (.string S) ∧ Below w'.heap.size w' w2 := fun w' => by rw [hS]; exact rsum_any t w' (by omega)
          have hln : ∀ w', Below wr.heap.size wr w' → Calls Tryd.prog 15 #[.pointer (some ⟨q, 0, none⟩)] w' fun e w2 => e = .returned (.int .i64 (t.size : Int)) ∧ w2 = w' := fun w' hb => by rw [← HLN.out]; exact hlen_any q _ w' (HMQ.out.below hb HMQ.out.lt)
          have CS := Lib.hid hcs
          have CR := Lib.hid hrs
          have CL := Lib.hid hln
          clear hS hcs hrs hln hlen hmq hwq hcq hq htj
          go_upto_region 43 with (first
            | (go_at_call 13; with_reducible refine (CS.out _ (Below.refl _ _)).mono ?_; rintro r w6 ⟨rfl, hb⟩; have HB6 := Lib.hid hb; clear hb))
          have hcq6 : w6.cell? ⟨gh, j, none⟩ = some (.pointer (some ⟨q, 0, none⟩)) := (HB6.out.cell (block_lt_of_cell HC1.out)).trans HC1.out
          clear hcq' hctj
          go_upto_region 44 with (first
            | (go_at_call 13; with_reducible refine (CS.out _ HB6.out).mono ?_; rintro r w7 ⟨rfl, hb⟩; have HB7 := Lib.hid (below_from HB6.out hb HB6.out.size); clear hb))
          clear hcq6
          have HR7 : Hid (∀ w', Below w7.drew.heap.size w7.drew w' → w'.cell? ⟨gh, j, none⟩ = some (.pointer (some ⟨q, 0, none⟩)) ∧ w'.cell? ⟨gt, j, none⟩ = some (.string t) ∧ Below wr.heap.size wr w') := Lib.hid (fun w' hb => by
            have hb2 : Below wr.heap.size wr w' := below_from HB7.out.drew hb HB7.out.size
            exact ⟨(hb2.cell (block_lt_of_cell HC1.out)).trans HC1.out, (hb2.cell (block_lt_of_cell HC2.out)).trans HC2.out, hb2⟩)
          have HS1 := Lib.hid (HR7.out _ (Below.refl _ _))
          go_region_held3 (fun w' => w'.cell? ⟨gh, j, none⟩ = some (.pointer (some ⟨q, 0, none⟩)) ∧ w'.cell? ⟨gt, j, none⟩ = some (.string t) ∧ Below wr.heap.size wr w') (first | exact HS2.out | exact HS1.out) (first
            | (go_at_call 14; with_reducible refine (CR.out _).mono ?_; rintro r w8 ⟨rfl, hb⟩; have HS2 := Lib.hid (HR7.out w8 hb); clear hb)
            | (go_at_call 15; with_reducible refine (CL.out _ (HS2.out).2.2).mono ?_; rintro r wx ⟨rfl, hwx⟩; rw [hwx]; clear hwx wx))
          have HF := Lib.hid (HS.out.below HS2.out.2.2)
          go_wp2_with fail
          exact ⟨⟨j + 1, by omega, rfl, Lib.hid HF.out⟩, (by show k - ((j : Int) + 1).toNat < k - (j : Int).toNat; omega)⟩
        · have hji : ¬ ((j : Int) < (k : Int)) := by omega
          have HBE := Lib.hid HS.out.bl
          clear hjk HS
          go_wp2_with fail
          go_ret
          exact ⟨rfl, HBE.out⟩
end Go.Proofs.YtmkeifhfjhknjaaDoor
