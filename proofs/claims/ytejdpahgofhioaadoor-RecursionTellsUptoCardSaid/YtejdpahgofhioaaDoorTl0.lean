/- Law 3's turned and sameInts, walked. -/
import Derived.Test.YtejdpahgofhioaaDoorMr2
import Derived.Test.YtejdpahgofhioaaDoorBk3b
import Derived.Test.YtejdpahgofhioaaDoorL3e
import Derived.Deep.CutBlock
namespace Go.Proofs.YtejdpahgofhioaaDoor
open Go.RowKit Go.Scr
set_option linter.unusedVariables false

theorem row_held {w : World} {g : Nat} {M : List ByteArray} (h : SRow w g (fillS M 8)) (hl : M.length ≤ 1048576) : Held w 9 1 (.slice (some ⟨g, 0, none⟩) M.length (M.length + 8)) M.length (M.map Value.string) := by
  refine ⟨by simp, .inr ⟨g, M.length + 8, _, rfl, h, by omega, by simp only [maxLen]; omega, ?_, ?_⟩⟩
  · simp only [List.size_toArray, List.length_map]
    rw [fillS_length M 8 (by omega)]
    omega
  · show ((fillS M 8).map Value.string).take (M.length * 1) = _
    rw [Nat.mul_one, ← List.map_take, fillS_take]
theorem held_txts' {w : World} {T n : Nat} {v : Value} {L : List ByteArray} (h : Held w T 1 v n (L.map Value.string)) (hl : L.length ≤ 4194304) : n = L.length ∧ Txts w v L := by
  have hn : n = L.length := by have := h.1; simpa using this.symm
  subst hn
  obtain ⟨p, c, h1, h2, h3⟩ := txts_held h rfl
  exact ⟨rfl, p, c, h1, h2, by omega, h3⟩
theorem held_ints {w : World} {T n : Nat} {v : Value} {Z : List Int} (h : Held w T 1 v n (Z.map (Value.int .i64))) (hl : Z.length ≤ 1048576) (hb : ∀ z ∈ Z, -9223372036854775808 ≤ z ∧ z ≤ 9223372036854775807) : n = Z.length ∧ Ints w v Z := by
  have hn : n = Z.length := by have := h.1; simpa using this.symm
  subst hn
  obtain ⟨p, c, h1, h2, _, h3⟩ := h.cells
  refine ⟨rfl, p, c, h1, h2, by omega, hb, fun j z hz => ?_⟩
  obtain ⟨a, ha, _, hc⟩ := h3 j (.int .i64 z) (by rw [List.getElem?_map, hz]; rfl)
  exact ⟨a, ha, hc⟩
theorem grown_trans {a b c : World} {r : Option Nat} (h : a.grownBy b r) (k : Below b.heap.size b c) : a.grownBy c r :=
  ⟨k.os.trans h.os, k.tape.trans h.tape, k.output.trans h.output, Nat.le_trans h.size k.size, fun i hi hne => (k.block i (Nat.lt_of_lt_of_le hi h.size)).trans (h.block i hi hne)⟩
theorem pathT_len (L : List ByteArray) (z : Int) : (pathT L z).length ≤ L.length := by
  unfold pathT
  split
  · exact pathR_len _ _
  · simp
theorem proofT_len (L : List ByteArray) (z : Int) : (proofT L z).length ≤ L.length := by
  unfold proofT
  split
  · rename_i h
    unfold proofE at h
    split at h
    · contradiction
    · split at h
      · cases h
      · exact proofR_len _ (by omega) (by omega)
  · simp
theorem manyT_len (L : List ByteArray) (Z : List Int) : (manyT L Z).length ≤ L.length := by
  unfold manyT
  split
  · rename_i h
    unfold manyE at h
    split at h
    · contradiction
    · split at h
      · cases h
      · rename_i hw
        have hw : wrongZ L.length Z = false := by simpa using hw
        unfold wrongZ at hw
        simp only [Bool.or_eq_false_iff, Bool.not_eq_false', decide_eq_false_iff_not] at hw
        obtain ⟨z, hzz⟩ : ∃ z, Z[0]? = some z := ⟨Z[0]'(by have := hw.2.1; omega), List.getElem?_eq_getElem _⟩
        have := okZ_bound Z _ hw.1 z (List.mem_of_getElem? hzz)
        exact manyZ_len L.length 0 L Z rfl (by omega)
  · simp

set_option maxRecDepth 100000 in
set_option maxHeartbeats 4000000 in
theorem turned3_any (W0 w : World) (hT : Tabs W0) (hW : Below W0.heap.size W0 w) (g gz nz cz : Nat) (hg : W0.heap.size ≤ g) (hne : g ≠ gz) (M0 : List ByteArray) (n : Nat) (hM : M0.length = n) (hn : n ≤ 1048576) (hrow : SRow w g (fillS M0 8))
    (Z : List Int) (hz : Held w 3 1 (.slice (some ⟨gz, 0, none⟩) nz cz) nz (Z.map (Value.int .i64))) (hzb : ∀ z ∈ Z, -9223372036854775808 ≤ z ∧ z ≤ 9223372036854775807) (hzl : Z.length ≤ 1048576) (z1 z2 : Int) :
    Calls Tryd.prog 34 #[.slice (some ⟨g, 0, none⟩) (n + 8) (n + 8), .slice (some ⟨gz, 0, none⟩) nz cz, .int .i64 n, .int .i64 z1, .int .i64 z2] w fun e w' => e = .returned (.bool true) ∧ w.grownBy w' (some g) := by
  have HT := Lib.hid hT
  have HW := Lib.hid hW
  have HROW := Lib.hid hrow
  have HZ := Lib.hid hz
  have HZB := Lib.hid hzb
  have HM := Lib.hid hM
  have HG := Lib.hid hg
  have HNE := Lib.hid hne
  obtain ⟨n8, hn8⟩ : ∃ x, x = n + 8 := ⟨_, rfl⟩
  rw [← hn8]
  have HN8 := Lib.hid hn8
  have hnn8 : (n : Int) ≤ (n8 : Int) := by omega
  have hn0 : (0 : Int) ≤ (n : Int) := by omega
  have hn8b : n8 ≤ 1048584 := by omega
  clear hT hW hrow hz hzb hM hg hne hn8
  go_enter Tryd.func34, Tryd.ntmps34
  go_wp2_with fail
  go_loopw [11, 12, 13, 14, 15, 16, 17, 18, 19] (fun x1 x2 x3 x4 x5 x6 x7 x8 x9 wr => ∃ c : Nat, c ≤ 3 ∧ x1 = .int .i64 c ∧ Hid (∃ M : List ByteArray, M.length = n ∧ SRow wr g (fillS M 8) ∧ w.grownBy wr (some g))) (fun x1 _ _ _ _ _ _ _ _ _ => 3 - (intOf x1).toNat)
  case atStart => exact ⟨0, by omega, rfl, Lib.hid ⟨M0, HM.out, HROW.out, only_refl _ _⟩⟩
  case round =>
    clear HROW HM
    obtain ⟨c, hc, rfl, hinv⟩ := hrel
    have HI := Lib.hid hinv.out
    clear hinv
    by_cases hc3 : c < 3
    · have hci : (c : Int) < 3 := by omega
      obtain ⟨w1, rfl⟩ : ∃ w1, w1 = wr := ⟨_, rfl⟩
      go_wp2_with fail
      go_loopw [12, 13, 14, 15, 16, 17, 18, 19] (fun x2 x3 x4 x5 x6 x7 x8 x9 wr => ∃ t : Nat, t ≤ 2 ∧ x2 = .int .i64 t ∧ Hid (∃ M : List ByteArray, M.length = n ∧ SRow wr g (fillS M 8) ∧ w.grownBy wr (some g))) (fun x2 _ _ _ _ _ _ _ _ => 2 - (intOf x2).toNat)
      case atStart => exact ⟨0, by omega, rfl, Lib.hid HI.out⟩
      case round =>
        clear HI
        obtain ⟨t, ht, rfl, hinv⟩ := hrel
        obtain ⟨M, hM, hrow, hgr⟩ := hinv.out
        have HM := Lib.hid hM
        have HROW := Lib.hid hrow
        have HGR := Lib.hid hgr
        clear hinv
        by_cases ht2 : t < 2
        · have hti : (t : Int) < 2 := by omega
          have HS : Hid (Held wr 9 1 (.slice (some ⟨g, 0, none⟩) n n8) n (M.map Value.string)) := Lib.hid (by
            have h := row_held hrow (by omega)
            rw [hM, ← HN8.out] at h
            exact h)
          have hb1 : n * 16 ≤ 140737488355328 := by omega
          have hb2 : n ≤ 140737488355328 := by omega
          have HGW : Hid (Below W0.heap.size W0 wr) := Lib.hid (HW.out.grown hgr HW.out.size (fun k e => by cases e; exact HG.out))
          have hgl := hrow.lt
          have HGL := Lib.hid hgl
          clear hM hrow hgr hgl
          go_upto_region 8 with (at_builtin; refine wpList_copied' (u := .slice (some ⟨g, 0, none⟩) n n8) rfl _ _ rfl Tryd.underlying25 (.string ⟨#[]⟩) 1 info_str rfl (by decide) (M.map Value.string) (by simp [Act.eval]) (by simp [Act.eval]) HS.out (str_one _) hb1 hb2 ?_; intro v2 w2 h2 hg2 hat2; obtain ⟨pl, cl, rfl, _⟩ := h2.cells; have H2 := Lib.hid h2; have HB2 := Lib.hid (Bk3.below_none hg2); have HAT2 := Lib.hid hat2; clear h2 hg2 hat2)
          have ht1 : Txts w2 (.slice pl n cl) M := (held_txts' H2.out (by rw [HM.out]; omega)).2
          have ht2' : Txts w2 (.slice (some ⟨g, 0, none⟩) n n8) M := (held_txts' (HS.out.below HB2.out) (by rw [HM.out]; omega)).2
          have HT1 := Lib.hid ht1
          have HT2 := Lib.hid ht2'
          have HTB : Hid (Tabs w2) := Lib.hid (HT.out.below (below_from HGW.out HB2.out HGW.out.size))
          have HZ2 : Hid (nz = Z.length ∧ Ints w2 (.slice (some ⟨gz, 0, none⟩) nz cz) Z) := Lib.hid (held_ints ((HZ.out.keep fun g' hg' => HGR.out.block g' (HZ.out.lt hg') (by cases hg'; intro e; cases e; exact HNE.out rfl)).below HB2.out) hzl HZB.out)
          clear ht1 ht2'
          go_upto_block 4 with fail
          go_cut [14, 15, 16, 17] from 33 to 78 (fun a b e f wx => ∃ (pa pb : Option Addr) (k ca cb : Nat) (E : Int), a = .slice pa k ca ∧ b = .slice pb k cb ∧ e = .int .i64 E ∧ f = .int .i64 E ∧ Hid (∃ R : List ByteArray, R.length = k ∧ R.length ≤ 1048576 ∧ Txts wx (.slice pa k ca) R ∧ Txts wx (.slice pb k cb) R ∧ Below w2.heap.size w2 wx))
          case first =>
            rcases (show c = 0 ∨ c = 1 ∨ c = 2 by omega) with rfl | rfl | rfl
            · have C1 := Lib.hid (Pathr_any (.slice pl n cl) M z1 w2 HT1.out)
              have C2 := Lib.hid (fun w' (h : Below w2.heap.size w2 w') => Path_any (.slice (some ⟨g, 0, none⟩) n n8) M z1 w' (HTB.out.below h) (HT2.out.below h (Nat.le_refl _)))
              obtain ⟨R, hR⟩ : ∃ R, R = pathT M z1 := ⟨_, rfl⟩
              obtain ⟨E, hE⟩ : ∃ E, E = pathE M z1 := ⟨_, rfl⟩
              have hRl := pathT_len M z1
              rw [← hR] at hRl
              rw [← hR, ← hE] at C1 C2
              clear hR hE
              go_wp2_with (first
                | (go_at_call 26; with_reducible refine (C1.out).mono ?_; rintro r w3 ⟨x, rfl, ho, hb⟩; have HB3 := Lib.hid hb; have HO3 := Lib.hid (held_of_owns ho); obtain ⟨p3, c3, rfl, _⟩ := HO3.out.cells; clear hb ho)
                | (go_at_call 25; with_reducible refine (C2.out w3 HB3.out).mono ?_; rintro r w4 ⟨x, rfl, ho, hb⟩; have HB4 := Lib.hid hb; have HO4 := Lib.hid (held_of_owns ho); obtain ⟨p4, c4, rfl, _⟩ := HO4.out.cells; clear hb ho))
              go_meet
              exact ⟨p4, p3, R.length, c4, c3, E, rfl, rfl, rfl, rfl, Lib.hid ⟨R, rfl, by have := HM.out; omega, (held_txts' HO4.out (by have := HM.out; omega)).2, (held_txts' (HO3.out.below HB4.out) (by have := HM.out; omega)).2, below_from HB3.out HB4.out HB3.out.size⟩⟩
            · have C1 := Lib.hid (Proofr_any (.slice pl n cl) M z2 w2 HT1.out)
              have C2 := Lib.hid (fun w' (h : Below w2.heap.size w2 w') => Proof_any (.slice (some ⟨g, 0, none⟩) n n8) M z2 w' (HTB.out.below h) (HT2.out.below h (Nat.le_refl _)))
              obtain ⟨R, hR⟩ : ∃ R, R = proofT M z2 := ⟨_, rfl⟩
              obtain ⟨E, hE⟩ : ∃ E, E = proofE M z2 := ⟨_, rfl⟩
              have hRl := proofT_len M z2
              rw [← hR] at hRl
              rw [← hR, ← hE] at C1 C2
              clear hR hE
              go_wp2_with (first
                | (go_at_call 28; with_reducible refine (C1.out).mono ?_; rintro r w3 ⟨x, rfl, ho, hb⟩; have HB3 := Lib.hid hb; have HO3 := Lib.hid (held_of_owns ho); obtain ⟨p3, c3, rfl, _⟩ := HO3.out.cells; clear hb ho)
                | (go_at_call 27; with_reducible refine (C2.out w3 HB3.out).mono ?_; rintro r w4 ⟨x, rfl, ho, hb⟩; have HB4 := Lib.hid hb; have HO4 := Lib.hid (held_of_owns ho); obtain ⟨p4, c4, rfl, _⟩ := HO4.out.cells; clear hb ho))
              go_meet
              exact ⟨p4, p3, R.length, c4, c3, E, rfl, rfl, rfl, rfl, Lib.hid ⟨R, rfl, by have := HM.out; omega, (held_txts' HO4.out (by have := HM.out; omega)).2, (held_txts' (HO3.out.below HB4.out) (by have := HM.out; omega)).2, below_from HB3.out HB4.out HB3.out.size⟩⟩
            · have C1 := Lib.hid (Manyr_any (.slice pl n cl) (.slice (some ⟨gz, 0, none⟩) nz cz) M Z w2 HT1.out HZ2.out.2 hzl)
              have C2 := Lib.hid (fun w' (h : Below w2.heap.size w2 w') => Many_own (.slice (some ⟨g, 0, none⟩) n n8) (.slice (some ⟨gz, 0, none⟩) nz cz) M Z w' (HTB.out.below h) (HT2.out.below h (Nat.le_refl _)) (ints_below HZ2.out.2 h (Nat.le_refl _)) hzl)
              obtain ⟨R, hR⟩ : ∃ R, R = manyT M Z := ⟨_, rfl⟩
              obtain ⟨E, hE⟩ : ∃ E, E = manyE M Z := ⟨_, rfl⟩
              have hRl := manyT_len M Z
              rw [← hR] at hRl
              rw [← hR, ← hE] at C1 C2
              clear hR hE
              go_wp2_with (first
                | (go_at_call 30; with_reducible refine (C1.out).mono ?_; rintro r w3 ⟨x, rfl, ho, hb⟩; have HB3 := Lib.hid hb; have HO3 := Lib.hid (held_of_owns ho); obtain ⟨p3, c3, rfl, _⟩ := HO3.out.cells; clear hb ho)
                | (go_at_call 29; with_reducible refine (C2.out w3 HB3.out).mono ?_; rintro r w4 ⟨p4, rfl, htx, hfr, hb, _⟩; have HB4 := Lib.hid hb; have HO4 := Lib.hid htx; clear hb htx hfr))
              go_meet
              exact ⟨p4, p3, R.length, R.length, c3, E, rfl, rfl, rfl, rfl, Lib.hid ⟨R, rfl, by have := HM.out; omega, HO4.out, (held_txts' (HO3.out.below HB4.out) (by have := HM.out; omega)).2, below_from HB3.out HB4.out HB3.out.size⟩⟩
          case rest =>
            obtain ⟨pa, pb, k, ca, cb, E, rfl, rfl, rfl, rfl, hx⟩ := hcut
            obtain ⟨R, hR1, hR2, hR3, hR4, hR5⟩ := hx.out
            have cs := same3_any _ _ R R wc hR3 hR4 (by omega) (by omega)
            rw [decide_eq_true (rfl : R = R)] at cs
            have CS := Lib.hid cs
            have HB5 := Lib.hid hR5
            clear hx hR1 hR2 hR3 hR4 hR5 cs
            obtain ⟨w7, rfl⟩ : ∃ w7, w7 = wc := ⟨_, rfl⟩
            go_wp2_with (go_at_call 31; with_reducible refine (CS.out).mono ?_; rintro r w8 ⟨rfl, hb⟩; have HB8 := Lib.hid (below_from HB5.out hb HB5.out.size); clear hb)
            have HL8 : Hid (Held w8 9 1 (.slice pl n cl) n (M.map Value.string)) := Lib.hid (H2.out.below HB8.out)
            have HR8 : Hid (SRow w8 g (fillS M 8)) := Lib.hid ((HROW.out.below HB2.out HGL.out).below HB8.out (Nat.lt_of_lt_of_le HGL.out HB2.out.size))
            have HG8 : Hid (w.grownBy w8 (some g)) := Lib.hid (grown_trans (grown_trans HGR.out HB2.out) HB8.out)
            have HFAR : Hid (∀ g', (Value.slice pl n cl).ownBlock = some g' → g' ≠ g) := Lib.hid (fun g' hg' e => by
              rcases HAT2.out with h | h
              · rw [h] at hg'; cases hg'
              · rw [h] at hg'; cases hg'; have := HGL.out; omega)
            clear HB8 CS HB5 HT1 HT2 HTB HZ2 HB2 HAT2 H2 HS HGL
            go_loopw [19] (fun x wr => ∃ i : Nat, i ≤ n ∧ x = .int .i64 i ∧ Hid (Held wr 9 1 (.slice pl n cl) n (M.map Value.string) ∧ w.grownBy wr (some g) ∧ ∃ M2 : List ByteArray, M2.length = n ∧ SRow wr g (fillS M2 8))) (fun x _ => n - (intOf x).toNat)
            case atStart => exact ⟨0, by omega, rfl, Lib.hid ⟨HL8.out, HG8.out, M, HM.out, HR8.out⟩⟩
            case round =>
              clear HL8 HR8 HG8
              obtain ⟨i, hi, rfl, hinv⟩ := hrel
              obtain ⟨hl, hg5, M2, hm2, hr2⟩ := hinv.out
              have HL := Lib.hid hl
              have HG5 := Lib.hid hg5
              have HM2 := Lib.hid hm2
              have HR2 := Lib.hid hr2
              clear hinv hl hg5 hm2 hr2
              by_cases hlt : i < n
              · have hlti : (i : Int) < (n : Int) := by omega
                have hi0 : (0 : Int) ≤ (i : Int) := by omega
                have hi8 : (i : Int) < (n8 : Int) := by omega
                obtain ⟨n1, hn1⟩ : ∃ x, x = n - 1 := ⟨_, rfl⟩
                obtain ⟨j, hj⟩ : ∃ x, x = n1 - i := ⟨_, rfl⟩
                have e1 : (n : Int) - 1 = (n1 : Int) := by omega
                have e2 : (n1 : Int) - (i : Int) = (j : Int) := by omega
                have hjn : (j : Int) < (n : Int) := by omega
                have hj0 : (0 : Int) ≤ (j : Int) := by omega
                have hjb : j ≤ 1048576 := by omega
                have hn1b : n1 ≤ 1048576 := by omega
                obtain ⟨s, hs⟩ : ∃ s, M[j]? = some s := ⟨M[j]'(by have := HM.out; omega), List.getElem?_eq_getElem _⟩
                obtain ⟨q, cq, hq, _, _, hcells⟩ := HL.out.cells
                simp only [Value.slice.injEq] at hq
                obtain ⟨rfl, _, rfl⟩ := hq
                obtain ⟨a, rfl, _, hca⟩ := hcells j (.string s) (by rw [List.getElem?_map, hs]; rfl)
                obtain ⟨old, hold⟩ : ∃ o, (fillS M2 8)[i]? = some o := ⟨(fillS M2 8)[i]'(by rw [fillS_length M2 8 (by omega)]; have := HM2.out; omega), List.getElem?_eq_getElem _⟩
                have hco := HR2.out.cell hold
                have hfo := HR2.out.frozen i
                have HSET : Hid (SRow (wr.setCell ⟨g, i, none⟩ (.string s)) g (fillS (M2.set i s) 8)) := Lib.hid (by
                  have h := HR2.out.set i s
                  rw [fillS_put M2 i s (by have := HM2.out; omega)] at h
                  exact h)
                have HG6 := Lib.hid (only_setCell HG5.out (p := ⟨g, i, none⟩) (.inl rfl) (.string s))
                have HL6 : Hid (Held (wr.setCell ⟨g, i, none⟩ (.string s)) 9 1 (.slice (some a) n cl) n (M.map Value.string)) := Lib.hid (HL.out.keep fun g' hg' => Below.heap_setCell wr ⟨g, i, none⟩ _ g' (HFAR.out g' hg'))
                have HLT := Lib.hid hlt
                clear hs hold hcells hlt hj hn1
                go_wp2_with fail
                exact ⟨⟨i + 1, by have := HLT.out; omega, rfl, Lib.hid ⟨HL6.out, HG6.out, M2.set i s, by rw [List.length_set]; exact HM2.out, HSET.out⟩⟩, (by show n - ((i : Int) + 1).toNat < n - (i : Int).toNat; have := HLT.out; omega)⟩
              · have hlti : ¬ ((i : Int) < (n : Int)) := by omega
                go_wp2_with fail
                exact ⟨⟨t + 1, by omega, rfl, Lib.hid ⟨M2, HM2.out, HR2.out, HG5.out⟩⟩, (by show 2 - ((t : Int) + 1).toNat < 2 - (t : Int).toNat; omega)⟩
        · have hti : ¬ (t : Int) < 2 := by omega
          go_wp2_with fail
          exact ⟨⟨c + 1, by omega, rfl, Lib.hid ⟨M, HM.out, HROW.out, HGR.out⟩⟩, (by show 3 - ((c : Int) + 1).toNat < 3 - (c : Int).toNat; omega)⟩
    · have hci : ¬ (c : Int) < 3 := by omega
      go_wp2_with fail
      go_ret
      obtain ⟨M, _, _, hgr⟩ := HI.out
      exact ⟨rfl, hgr⟩
end Go.Proofs.YtejdpahgofhioaaDoor
