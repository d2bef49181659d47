/- Law 7: TileRoots, walked. -/
import Derived.Test.YtblacbfkaamdgaaDoorMa42
import Derived.Test.YtblacbfkaamdgaaDoorMa38
namespace Go.Proofs.YtblacbfkaamdgaaDoor
open Go.RowKit Go.Scr Go.ChangeMaps Go.MapKept
set_option linter.unusedVariables false
set_option maxRecDepth 100000 in
set_option maxHeartbeats 8000000 in
theorem tileroots_any {W : World} {s0 : Int} {v1 v2 : Value} {Z Y : List Int} (hB : Bas W W.heap.size) (hz : Ints W v1 Z) (hy : Ints W v2 Y) (h0 : -9223372036854775808 ≤ s0 ∧ s0 ≤ 9223372036854775807) :
    Calls Tryd.prog 6 #[.int .i64 s0, v1, v2] W fun o w' => o = .returned (.bool true) ∧ Below W.heap.size W w' := by
  have CK := Lib.hid (knownT_any hB)
  obtain ⟨M, hM⟩ : ∃ M, M = min Z.length 300 := ⟨_, rfl⟩
  have hM1 : M ≤ 300 := by omega
  obtain ⟨L, hL⟩ : ∃ L, L = (Z.take M).map leafSU := ⟨_, rfl⟩
  have hLM : L.length = M := by rw [hL, List.length_map, List.length_take]; omega
  have CF : Hid (∀ w2, Below W.heap.size W w2 → Calls Tryd.prog 10 #[.int .i64 s0, v1, .int .i64 300] w2 fun o w' => ∃ ta, o = .returned (bpT ta) ∧ TrU w2 w' W.heap.size ta (1 + pickN s0 8) L) := Lib.hid (fun w2 hb2 => (filledU_any (mx := 300) (by decide) (hB.below hb2) (ints_belowHK hz hb2 (Nat.le_refl _)) h0).mono (by
    rintro o w' ⟨tb, rfl, hf⟩
    refine ⟨tb, rfl, ?_⟩
    rw [← hM] at hf
    rw [hL]
    exact ⟨hf.b, hf.t⟩))
  have HLM : Hid (L.length = M ∧ M = min Z.length 300 ∧ ∀ i z, Z[i]? = some z → i < M → L[i]? = some (leafSU z)) := Lib.hid ⟨hLM, hM, fun i z hz hi => by rw [hL, List.getElem?_map, List.getElem?_take_of_lt hi, hz]; rfl⟩
  have HB := Lib.hid hB
  have HZ := Lib.hid hz
  have HY := Lib.hid hy
  obtain ⟨pz, cz, rfl, hz1, hz2, _, _⟩ := hz
  obtain ⟨py, cy, rfl, hy1, hy2, _, _⟩ := hy
  obtain ⟨nz, hnz⟩ : ∃ n, n = Z.length := ⟨_, rfl⟩
  obtain ⟨ny, hny⟩ : ∃ n, n = Y.length := ⟨_, rfl⟩
  rw [← hnz] at HZ CF hz1 hz2 ⊢
  rw [← hny] at HY hy1 hy2 ⊢
  have HNN : Hid (nz = Z.length ∧ ny = Y.length) := Lib.hid ⟨hnz, hny⟩
  clear hB h0 hM hL hLM hz1 hy1 hnz hny
  go_enter Tryd.func6, Tryd.ntmps6
  go_upto_region 4 with (first
    | (go_at_call 9; with_reducible refine CK.out.mono ?_; rintro o w0 ⟨rfl, h⟩; have HW0 := Lib.hid h; clear h)
    | (go_at_call 10; with_reducible refine (CF.out _ HW0.out).mono ?_; rintro o w1 ⟨ta, rfl, h⟩; have HA1 := Lib.hid h; have HW1 : Hid (Below W.heap.size W w1) := Lib.hid (HW0.out.trans (h.b.mono HW0.out.size)); clear h)
    | (go_at_call 28; with_reducible refine (fnew_any (Below.refl _ w1)).mono ?_; rintro o w2 ⟨eb, rfl, h⟩; have HE2 := Lib.hid h; clear h))
  obtain ⟨h, hh⟩ : ∃ h, h = 1 + pickN s0 8 := ⟨_, rfl⟩
  rw [← hh] at HA1
  clear hh
  have HB1 : Hid (Bas w1 w1.heap.size) := Lib.hid (by
    have hb := HB.out.below HW1.out
    exact ⟨hb.tabs, hb.tz, ⟨Nat.lt_of_lt_of_le hb.lt.1 hb.le, Nat.lt_of_lt_of_le hb.lt.2.1 hb.le, Nat.lt_of_lt_of_le hb.lt.2.2 hb.le⟩, Nat.le_refl _⟩)
  have CRT : Hid (∀ w3 (i : Nat), Below w1.heap.size w1 w3 → i ≤ M → Calls Tryd.prog 21 #[bpT ta, .int .i64 (i : Int)] w3 fun o w' => o = .returned (.tuple #[.string (partL L 0 i), .int .i64 0]) ∧ Below w3.heap.size w3 w') := Lib.hid (fun w3 i hb3 hi => (HA1.out.below hb3).root (HB.out.below HW0.out) (by rw [HLM.out.1]; exact hi))
  have CSZ : Hid (∀ w3, Below w1.heap.size w1 w3 → Calls Tryd.prog 12 #[bpT ta] w3 fun o w' => o = .returned (.int .i64 (M : Int)) ∧ w' = w3) := Lib.hid (fun w3 hb3 => by have := (HA1.out.below hb3).size; rwa [HLM.out.1] at this)
  have CPT : Hid (∀ w3 (b e : Nat), Below w1.heap.size w1 w3 → b ≤ e → e ≤ M → Calls Tryd.prog 22 #[bpT ta, .agg #[.int .i64 (b : Int), .int .i64 (e : Int)]] w3 fun o w' => o = .returned (.tuple #[.string (partL L b e), .int .i64 0]) ∧ Below w3.heap.size w3 w') := Lib.hid (fun w3 b e hb3 hbe he => by
    obtain ⟨hb, col, t, hl⟩ := HA1.out.below hb3
    exact tpart_any t ((HB.out.below HW0.out).below (hb.mono HW0.out.size)) hbe (by rw [HLM.out.1]; exact he))
  have CLV : Hid (∀ w3 (b e : Nat), Below w1.heap.size w1 w3 → b ≤ e → e ≤ M → Calls Tryd.prog 33 #[bpT ta, .agg #[.int .i64 (b : Int), .int .i64 (e : Int)]] w3 fun o w' => ∃ v, o = .returned (.tuple #[v, .int .i64 0]) ∧ LfI w3 w' v (e - b) ((L.drop b).take (e - b))) := Lib.hid (fun w3 b e hb3 hbe he => by
    obtain ⟨hb, col, t, hl⟩ := HA1.out.below hb3
    exact leaves_any t hbe (by rw [HLM.out.1]; exact he))
  have HI0 : Hid (RtI w1 w2 eb (L.take 0) (.slice none 0 0) 0 (L.take 0) (.slice none 0 0) 0 (rtsV L 0)) := Lib.hid (by
    obtain ⟨v, hv⟩ := HE2.out
    rw [List.take_zero]
    exact ⟨⟨v, hv, (fun g hg => nomatch hg), fun g hg => nomatch hg⟩, ⟨hv.b, ⟨rfl, .inl ⟨rfl, rfl⟩⟩, fun g hg => nomatch hg⟩, ⟨hv.b, ⟨rfl, .inl ⟨rfl, rfl⟩⟩, fun g hg => nomatch hg⟩, fun g hg => nomatch hg⟩)
  clear CK CF HE2
  go_wp2_with fail
  go_loopw [10, 11, 12] (fun l r k wr => ∃ (i : Nat) (pl : Option Addr) (cl : Nat) (pr : Option Addr) (cr : Nat), k = .int .i64 (i : Int) ∧ l = .slice pl i cl ∧ r = .slice pr i cr ∧ i ≤ M ∧ Hid (RtI w1 wr eb (L.take i) (.slice pl i cl) i (L.take i) (.slice pr i cr) i (rtsV L i))) (fun _ _ k _ => M - (intOf k).toNat)
  case atStart => exact ⟨0, none, 0, none, 0, rfl, rfl, rfl, Nat.zero_le _, HI0⟩
  case round =>
    clear HI0
    obtain ⟨i, pl, cl, pr, cr, rfl, rfl, rfl, hi, HI⟩ := hrel
    have HTL : Hid ((L.take i).length = i ∧ partL (L.take i) 0 (L.take i).length = partL L 0 i) := Lib.hid ⟨by rw [List.length_take]; have := HLM.out; omega, partL_take (by have := HLM.out; omega)⟩
    obtain ⟨ro, hro⟩ : ∃ s, s = partL L 0 i := ⟨_, rfl⟩
    have CRO : Hid (∀ w3, Below wr.heap.size wr w3 → Calls Tryd.prog 29 #[rowP eb] w3 fun o w' => o = .returned (.string ro) ∧ Below w3.heap.size w3 w') := Lib.hid (fun w3 hb3 => by
      have := (HI.out.below hb3).root HB1.out
      rwa [HTL.out.2, ← hro] at this)
    have HRN : Hid (rtsV L (i + 1) = rtsV L i ++ [ro]) := Lib.hid (by rw [hro]; exact rtsV_next L i)
    have HONR : Hid (∀ u ∈ [Value.string ro], u.oneCell' = true) := Lib.hid (fun u hu => by rw [List.mem_singleton.1 hu]; rfl)
    have HX0 : Hid (Below wr.heap.size wr wr) := Lib.hid (Below.refl _ _)
    have hl1 : (i + 1) * 16 ≤ 140737488355328 := by omega
    have hl2 : i + 1 ≤ 140737488355328 := by omega
    clear hro
    by_cases hlt : i < M
    · have hlz : (i : Int) < (nz : Int) := by have := HLM.out; have := HNN.out; omega
      have hl3 : (i : Int) < 300 := by omega
      have hi0 : (0 : Int) ≤ (i : Int) := by omega
      obtain ⟨z, hzi⟩ : ∃ z, Z[i]? = some z := ⟨Z[i]'(by have := HLM.out; omega), List.getElem?_eq_getElem _⟩
      obtain ⟨a, rfl, hac⟩ := ints_cellV HZ.out hzi
      have HAC := Lib.hid (fun w3 (h3 : Below w1.heap.size w1 w3) => hac w3 (HW1.out.trans (h3.mono HW1.out.size)))
      have HXI : Hid (L[i]? = some (leafSU z)) := Lib.hid (HLM.out.2.2 i z hzi hlt)
      obtain ⟨s, hs⟩ : ∃ s, s = leafSU z := ⟨_, rfl⟩
      have CL : Hid (∀ w3, Calls Tryd.prog 25 #[.int .i64 z] w3 fun e w' => e = .returned (.string s) ∧ Below w3.heap.size w3 w') := Lib.hid (fun w3 => by rw [hs]; exact leafU_any z w3)
      have HS32 : Hid (s.size = 32) := Lib.hid (by rw [hs]; exact leafSU_size z)
      rw [← hs] at HXI
      have HTK : Hid (L.take (i + 1) = L.take i ++ [s]) := Lib.hid (by rw [List.take_add_one, HXI.out]; rfl)
      have HONE : Hid (∀ u ∈ [Value.string s], u.oneCell' = true) := Lib.hid (fun u hu => by rw [List.mem_singleton.1 hu]; rfl)
      have CAD : Hid (∀ w3 l nl P r nr R, RtI w1 w3 eb (L.take i) l nl P r nr R → Calls Tryd.prog 30 #[.pointer (some ⟨eb, 0, none⟩), .string s] w3 fun o w' => o = .returned (.int .i64 0) ∧ RtI w1 w' eb (L.take (i + 1)) l nl P r nr R) := Lib.hid (fun w3 l nl P r nr R H => by
        rw [HTK.out]
        exact H.add HB1.out HS32.out (by rw [HTL.out.1]; omega))
      have HLT := Lib.hid hlt
      clear hlt hs hzi hac
      go_upto_region 12 with (first
        | (go_at_call 29; with_reducible refine (CRO.out _ HX0.out).mono ?_; rintro o w4 ⟨rfl, hb4⟩; have HI4 := Lib.hid (HI.out.below hb4); have HHD := Lib.hid HI4.out.hr.h; clear hb4)
        | (at_builtin; refine wpList_grew (v := .slice pr i cr) rfl _ _ rfl Tryd.underlying33 (.string ⟨#[]⟩) 1 info_strT rfl (by decide) [.string ro] 1 (by simp [Act.eval]) (by simp [Act.eval]) HHD.out rfl rfl (by decide) HONR.out hl1 hl2 ?_; intro v5 w5 hg5; obtain ⟨p5, c5, rfl, _⟩ := hg5.held.cells; have HI5 := Lib.hid (HI4.out.pushR hg5); clear hg5))
      have hcell5 := HAC.out w5 HI5.out.hl.b
      go_upto_region 13 with (first
        | (go_at_call 25; with_reducible refine (CL.out _).mono ?_; rintro o w6 ⟨rfl, hb6⟩; have HI6 := Lib.hid (HI5.out.below hb6); have HHE := Lib.hid HI6.out.hl.h; clear hb6 hcell5)
        | (at_builtin; refine wpList_grew (v := .slice pl i cl) rfl _ _ rfl Tryd.underlying33 (.string ⟨#[]⟩) 1 info_strT rfl (by decide) [.string s] 1 (by simp [Act.eval]) (by simp [Act.eval]) HHE.out rfl rfl (by decide) HONE.out hl1 hl2 ?_; intro v7 w7 hg7; obtain ⟨p7, c7, rfl, _⟩ := hg7.held.cells; have HI7 := Lib.hid (HI6.out.pushL hg7); clear hg7))
      have hcell7 := HAC.out w7 HI7.out.hl.b
      go_wp2_with (first
        | (go_at_call 25; with_reducible refine (CL.out _).mono ?_; rintro o w8 ⟨rfl, hb8⟩; have HI8 := Lib.hid (HI7.out.below hb8); clear hb8 hcell7)
        | (go_at_call 30; with_reducible refine (CAD.out _ _ _ _ _ _ _ HI8.out).mono ?_; rintro o w9 ⟨rfl, h9⟩; have HI9 := Lib.hid h9; clear h9))
      exact ⟨⟨i + 1, p7, c7, p5, c5, by simp, rfl, rfl, HLT.out, Lib.hid (by have h9 := HI9.out; rw [HRN.out]; rwa [← HTK.out] at h9)⟩, by show M - ((i : Int) + 1).toNat < M - (i : Int).toNat; have := HLT.out; omega⟩
    · obtain rfl : i = M := by omega
      have HTA : Hid (L.take i = L) := Lib.hid (List.take_of_length_le (by have := HLM.out; omega))
      go_upto_region 9 with fail
      go_cut [48] from 41 to 48 (fun b wx => b = .bool false ∧ wx = wr)
      case first =>
        by_cases hzz : i < nz
        · have hzi : (i : Int) < (nz : Int) := by omega
          have hz3 : ¬ (i : Int) < 300 := by have := HLM.out; have := HNN.out; omega
          clear hzz
          go_wp2_with fail
          go_meet
          exact ⟨rfl, rfl⟩
        · have hzi : ¬ (i : Int) < (nz : Int) := by omega
          clear hzz
          go_wp2_with fail
          go_meet
          exact ⟨rfl, rfl⟩
      case rest =>
        obtain ⟨rfl, hww⟩ := hcut
        subst hww
        rw [HTA.out] at HI
        clear hlt hi
        go_upto_region 17 with (first
          | (go_at_call 29; with_reducible refine (CRO.out _ HX0.out).mono ?_; rintro o w4 ⟨rfl, hb4⟩; have HI4 := Lib.hid (HI.out.below hb4); have HHD := Lib.hid HI4.out.hr.h; clear hb4)
          | (at_builtin; refine wpList_grew (v := .slice pr i cr) rfl _ _ rfl Tryd.underlying33 (.string ⟨#[]⟩) 1 info_strT rfl (by decide) [.string ro] 1 (by simp [Act.eval]) (by simp [Act.eval]) HHD.out rfl rfl (by decide) HONR.out hl1 hl2 ?_; intro v5 w5 hg5; obtain ⟨p5, c5, rfl, _⟩ := hg5.held.cells; have HI5 := Lib.hid (HI4.out.pushR hg5); clear hg5))
        obtain ⟨m1, hm1⟩ : ∃ m, m = i + 1 := ⟨_, rfl⟩
        have HLL : Hid (LfI w1 w5 (.slice pl i cl) i L) := Lib.hid HI5.out.hl
        have HRR : Hid (LfI w1 w5 (.slice p5 (i + 1) c5) (i + 1) (rtsV L (i + 1))) := Lib.hid (by rw [HRN.out]; exact HI5.out.hr)
        rw [← hm1] at HRR ⊢
        obtain ⟨g5, rfl, _⟩ := held_cellK HRR.out.h (by omega)
        have hm1b : m1 ≤ 301 := by omega
        have HM1 := Lib.hid hm1
        have hmI : (i : Int) + 1 = (m1 : Int) := by omega
        clear HI HI4 HHD HI5 CRO HX0 hl1 hl2 hm1
        have HIZ : Hid (L.length = i) := Lib.hid HLM.out.1
        have HIN : Hid (i ≤ 300 ∧ m1 = i + 1) := Lib.hid ⟨hM1, HM1.out⟩
        have HB5 : Hid (Below w1.heap.size w1 w5) := Lib.hid HLL.out.b
        have HCL : Hid (∀ w3, Below w5.heap.size w5 w3 → ∀ j, j < m1 → w3.cell? ⟨g5, j, none⟩ = some (.string (partL L 0 j))) := Lib.hid (fun w3 hb3 j hj => by
          obtain ⟨g, hg, hc⟩ := held_cellK (HRR.out.below hb3).h (by omega)
          obtain rfl : g5 = g := by cases hg; rfl
          exact hc j _ (by rw [List.getElem?_map, rtsV_at hj]; rfl))
        clear hmI hz2
        go_wp2_with fail
        go_loopw [14] (fun k wr => ∃ j : Nat, k = .int .i64 (j : Int) ∧ j ≤ m1 ∧ Hid (Below w5.heap.size w5 wr)) (fun k _ => m1 - (intOf k).toNat)
        case atStart => exact ⟨0, rfl, Nat.zero_le _, Lib.hid (Below.refl _ _)⟩
        case round =>
          obtain ⟨j, rfl, hj, HI⟩ := hrel
          by_cases hlt : j < m1
          · have hji : (j : Int) < (m1 : Int) := by omega
            have hj0 : (0 : Int) ≤ (j : Int) := by omega
            obtain ⟨s, hs⟩ : ∃ s, s = partL L 0 j := ⟨_, rfl⟩
            have CR : Hid (Calls Tryd.prog 21 #[bpT ta, .int .i64 (j : Int)] wr fun o w' => o = .returned (.tuple #[.string s, .int .i64 0]) ∧ Below wr.heap.size wr w') := Lib.hid (by rw [hs]; exact CRT.out wr j (HB5.out.trans (HI.out.mono HB5.out.size)) (by have := HIN.out; omega))
            have HCJ : Hid (∀ w3, Below wr.heap.size wr w3 → w3.cell? ⟨g5, j, none⟩ = some (.string s)) := Lib.hid (fun w3 hb3 => by rw [hs]; exact HCL.out w3 (HI.out.trans (hb3.mono HI.out.size)) j hlt)
            have HLT := Lib.hid hlt
            clear hs hlt
            go_wp2_with (go_at_call 21; with_reducible refine CR.out.mono ?_; rintro o w6 ⟨rfl, hb6⟩; have HI6 : Hid (Below w5.heap.size w5 w6) := Lib.hid (HI.out.trans (hb6.mono HI.out.size)); have hcj := HCJ.out w6 hb6; clear hb6)
            exact ⟨⟨j + 1, by simp, HLT.out, HI6⟩, by show m1 - ((j : Int) + 1).toNat < m1 - (j : Int).toNat; have := HLT.out; omega⟩
          · obtain rfl : j = m1 := by omega
            have hji : ¬ (j : Int) < (j : Int) := by omega
            clear hlt
            go_wp2_with fail
            clear hji
            have HIX := HI
            go_loopw [17] (fun k wr => ∃ j : Nat, k = .int .i64 (j : Int) ∧ j ≤ 22 ∧ Hid (Below w5.heap.size w5 wr)) (fun k _ => 24 - (intOf k).toNat)
            case atStart => exact ⟨0, rfl, Nat.zero_le _, HIX⟩
            case round =>
              clear HI HIX
              obtain ⟨q, rfl, hq, HI⟩ := hrel
              have HB5r : Hid (Below w1.heap.size w1 wr) := Lib.hid (HB5.out.trans (HI.out.mono HB5.out.size))
              by_cases hlt : q + 1 < ny ∧ q < 20
              · obtain ⟨q1, hq1⟩ : ∃ x, x = q + 1 := ⟨_, rfl⟩
                have hqI : (q : Int) + 1 = (q1 : Int) := by omega
                have hqn : (q1 : Int) < (ny : Int) := by omega
                have hqn0 : (q : Int) < (ny : Int) := by omega
                have hq20 : (q : Int) < 20 := by omega
                have hq00 : (0 : Int) ≤ (q : Int) := by omega
                have hq10 : (0 : Int) ≤ (q1 : Int) := by omega
                have hqw : IntKind.i64.wrap (q : Int) = (q : Int) := IntWalk.i64_in _ (by omega)
                have hq1w : IntKind.i64.wrap (q1 : Int) = (q1 : Int) := IntWalk.i64_in _ (by omega)
                obtain ⟨y, hyq⟩ : ∃ z, Y[q]? = some z := ⟨Y[q]'(by have := HNN.out; omega), List.getElem?_eq_getElem _⟩
                obtain ⟨z, hzq⟩ : ∃ z, Y[q1]? = some z := ⟨Y[q1]'(by have := HNN.out; omega), List.getElem?_eq_getElem _⟩
                obtain ⟨a, rfl, hac⟩ := ints_cellV HY.out hyq
                obtain ⟨a', ha', hbc⟩ := ints_cellV HY.out hzq
                obtain rfl : a = a' := by cases ha'; rfl
                obtain ⟨_, _, _, _, _, hyb, _⟩ := HY.out
                have CSP : Hid (∀ w3, Calls Tryd.prog 31 #[.int .i64 y, .int .i64 z, .int .i64 (i : Int)] w3 fun o w' => o = .returned (.agg #[.int .i64 (spB y i : Int), .int .i64 (spE y z i : Int)]) ∧ Below w3.heap.size w3 w') := Lib.hid (fun w3 => spanV_any y z i w3 (by omega) (hyb y (List.mem_of_getElem? hyq)) (hyb z (List.mem_of_getElem? hzq)))
                obtain ⟨hbe, hei⟩ := spE_le y z i
                obtain ⟨b, hb⟩ : ∃ b, b = spB y i := ⟨_, rfl⟩
                obtain ⟨e, he⟩ : ∃ e, e = spE y z i := ⟨_, rfl⟩
                rw [← hb, ← he] at CSP hbe
                rw [← he] at hei
                have HCS : Hid (∀ w3, Below wr.heap.size wr w3 → w3.cell? (a.add q) = some (.int .i64 y) ∧ w3.cell? (a.add q1) = some (.int .i64 z)) := Lib.hid (fun w3 hb3 => by
                  have h9 := HW1.out.trans ((HB5r.out.trans (hb3.mono HB5r.out.size)).mono HW1.out.size)
                  exact ⟨hac w3 h9, hbc w3 h9⟩)
                have HQ : Hid (q < 20 ∧ q1 = q + 1) := Lib.hid ⟨hlt.2, hq1⟩
                clear hlt hq1 hyq hzq hac hbc ha' hyb hb he hq
                go_upto_region 26 with fail
                have HBA : Hid (Below wr.heap.size wr wr.drew) := Lib.hid (Below.refl _ _).drew
                have HBC : Hid (∀ o, Below wr.heap.size wr (wr.alloc o).drew) := Lib.hid (fun o => ((Below.refl _ _).alloc (Nat.le_refl _) _).drew)
                have HBD : Hid (∀ o, Below wr.heap.size wr (wr.drew.alloc o)) := Lib.hid (fun o => ((Below.refl _ _).drew.alloc (Nat.le_refl _) _))
                go_cut [18] from 115 to 126 (fun x wx => ∃ sb, x = .pointer (some ⟨sb, 0, none⟩) ∧ Hid (wx.heap[sb]? = some (.cells #[.int .i64 (b : Int), .int .i64 (e : Int)] 56 (0, 0)) ∧ Below wr.heap.size wr wx))
                case first =>
                  obtain ⟨d0, d1⟩ := HCS.out _ HBA.out
                  have d2 : ∀ o, (wr.alloc o).cell? (a.add q) = some (.int .i64 y) := fun o => (HCS.out _ ((Below.refl _ _).alloc (Nat.le_refl _) o)).1
                  have d3 : ∀ o, (wr.alloc o).cell? (a.add q1) = some (.int .i64 z) := fun o => (HCS.out _ ((Below.refl _ _).alloc (Nat.le_refl _) o)).2
                  go_region_law (first
                    | (go_simp; go_at_call 31; (with_reducible refine (CSP.out _).mono ?_); rintro o w3 ⟨rfl, hb3⟩; first
                      | (have HB3 : Hid (Below wr.heap.size wr w3) := Lib.hid (HBA.out.trans (hb3.mono HBA.out.size)); clear hb3)
                      | (have hx3 : w3.heap[wr.heap.size]? = some (.cells #[.int .i64 0, .int .i64 0] 56 (0, 0)) := (hb3.block _ (by simp)).trans (heap_alloc_new wr _); have e0 : w3.cell? ⟨wr.heap.size, 0, none⟩ = some (.int .i64 0) := cellB hx3 rfl; have e1 : w3.cell? ⟨wr.heap.size, 1, none⟩ = some (.int .i64 0) := cellB hx3 rfl; have e2 : w3.frozen? ⟨wr.heap.size, 0, none⟩ = false := frozB hx3; have e3 : w3.frozen? ⟨wr.heap.size, 1, none⟩ = false := frozB hx3; have HX3 := Lib.hid hx3; have HB3 : Hid (Below wr.heap.size wr w3) := Lib.hid ((HBC.out _).trans (hb3.mono (HBC.out _).size)); clear hb3 hx3))
                    | fail)
                  all_goals
                    go_wp2_with fail
                    go_meet
                    first
                      | exact ⟨_, rfl, Lib.hid ⟨heap_alloc_new w3 _, HB3.out.alloc HB3.out.size _⟩⟩
                      | exact ⟨_, rfl, Lib.hid ⟨blk_set (blk_set HX3.out 0 _) 1 _, (HB3.out.setCell (p := ⟨wr.heap.size, 0, none⟩) (Nat.le_refl _) _).setCell (p := ⟨wr.heap.size, 1, none⟩) (Nat.le_refl _) _⟩⟩
                case rest =>
                  obtain ⟨sb, rfl, HX6⟩ := hcut
                  have k0 : wc.cell? ⟨sb, 0, none⟩ = some (.int .i64 (b : Int)) := cellB HX6.out.1 rfl
                  have k1 : wc.cell? ⟨sb, 1, none⟩ = some (.int .i64 (e : Int)) := cellB HX6.out.1 rfl
                  have HX1 : Hid (∀ w3, Below wr.heap.size wr w3 → Below w1.heap.size w1 w3) := Lib.hid (fun w3 hb3 => HB5r.out.trans (hb3.mono HB5r.out.size))
                  have HTX : Hid (∀ w3, Below wr.heap.size wr w3 → Txts w3 (.slice pl i cl) L) := Lib.hid (fun w3 hb3 => held_txtsV (HLL.out.below (HI.out.trans (hb3.mono HI.out.size))).h (by have := HIZ.out; have := HIN.out; omega))
                  obtain ⟨hp, hhp⟩ : ∃ s, s = partL L b e := ⟨_, rfl⟩
                  obtain ⟨K, hK9⟩ : ∃ K, K = (L.drop b).take (e - b) := ⟨_, rfl⟩
                  have C1 : Hid (∀ w3, Below wr.heap.size wr w3 → Calls Tryd.prog 22 #[bpT ta, .agg #[.int .i64 (b : Int), .int .i64 (e : Int)]] w3 fun o w' => o = .returned (.tuple #[.string hp, .int .i64 0]) ∧ Below w3.heap.size w3 w') := Lib.hid (fun w3 hb3 => by rw [hhp]; exact CPT.out w3 b e (HX1.out w3 hb3) hbe hei)
                  have C2 : Hid (∀ w3, Below wr.heap.size wr w3 → Calls Tryd.prog 32 #[.slice pl i cl, .agg #[.int .i64 (b : Int), .int .i64 (e : Int)]] w3 fun o w' => o = .returned (.tuple #[.string hp, .int .i64 0]) ∧ Below w3.heap.size w3 w') := Lib.hid (fun w3 hb3 => by
                    have h1 := Part_any _ L (b : Int) (e : Int) w3 (HB1.out.below (HX1.out w3 hb3)).tabs (HTX.out w3 hb3)
                    obtain ⟨p1, p2⟩ := part_there (L := L) (b := b) (e := e) (by obtain ⟨_, _, t, _⟩ := HA1.out; exact t.z) (by have := HIZ.out; have := HIN.out; omega) hbe (by rw [HIZ.out]; exact hei)
                    rwa [p1, p2, ← hhp] at h1)
                  have C3 : Hid (∀ w3, Below wr.heap.size wr w3 → Calls Tryd.prog 33 #[bpT ta, .agg #[.int .i64 (b : Int), .int .i64 (e : Int)]] w3 fun o w' => ∃ v, o = .returned (.tuple #[v, .int .i64 0]) ∧ LfI w3 w' v (e - b) K) := Lib.hid (fun w3 hb3 => by rw [hK9]; exact CLV.out w3 b e (HX1.out w3 hb3) hbe hei)
                  have HKL : Hid (K.length ≤ 300) := Lib.hid (by rw [hK9, List.length_take, List.length_drop]; have := HIZ.out; have := HIN.out; omega)
                  have hicl : i ≤ cl := by
                    obtain ⟨p', c', hpe, h1, _⟩ := HLL.out.h.cells
                    injection hpe with e1 e2 e3
                    omega
                  have hb0I : (0 : Int) ≤ (b : Int) := by omega
                  have hbeI : (b : Int) ≤ (e : Int) := by omega
                  have heI : (e : Int) ≤ (cl : Int) := by omega
                  have HK : Hid (K = (L.drop b).take (e - b) ∧ L.length = i ∧ b ≤ e ∧ e ≤ i) := Lib.hid ⟨hK9, HIZ.out, hbe, hei⟩
                  have HX60 : Hid (Below wr.heap.size wr wc) := Lib.hid HX6.out.2
                  clear hhp hK9 CSP hqn hqn0 hy2 hq20 hq00 hq10 hqw hq1w hqI
                  go_upto_region 30 with (first
                    | (go_at_call 22; with_reducible refine (C1.out _ HX60.out).mono ?_; rintro o x7 ⟨rfl, hb⟩; have HX7 : Hid (Below wr.heap.size wr x7) := Lib.hid (HX60.out.trans (hb.mono HX60.out.size)); have HS7 := Lib.hid (blk_below HX6.out.1 hb (blk_lt HX6.out.1)); have k0 : x7.cell? ⟨sb, 0, none⟩ = some (.int .i64 (b : Int)) := cellB HS7.out rfl; have k1 : x7.cell? ⟨sb, 1, none⟩ = some (.int .i64 (e : Int)) := cellB HS7.out rfl; clear hb)
                    | (go_at_call 32; with_reducible refine (C2.out _ HX7.out).mono ?_; rintro o x8 ⟨rfl, hb⟩; have HX8 : Hid (Below wr.heap.size wr x8) := Lib.hid (HX7.out.trans (hb.mono HX7.out.size)); have HS8 := Lib.hid (blk_below HS7.out hb (blk_lt HS7.out)); have k0 : x8.cell? ⟨sb, 0, none⟩ = some (.int .i64 (b : Int)) := cellB HS8.out rfl; have k1 : x8.cell? ⟨sb, 1, none⟩ = some (.int .i64 (e : Int)) := cellB HS8.out rfl; clear hb)
                    | (go_at_call 33; with_reducible refine (C3.out _ HX8.out).mono ?_; rintro o x9 ⟨v9, rfl, hb⟩; have HX9 : Hid (Below wr.heap.size wr x9) := Lib.hid (HX8.out.trans (hb.b.mono HX8.out.size)); have HL9 := Lib.hid hb; have HS9 := Lib.hid (blk_below HS8.out hb.b (blk_lt HS8.out)); have k0 : x9.cell? ⟨sb, 0, none⟩ = some (.int .i64 (b : Int)) := cellB HS9.out rfl; have k1 : x9.cell? ⟨sb, 1, none⟩ = some (.int .i64 (e : Int)) := cellB HS9.out rfl; clear hb))
                  have CSM : Hid (∀ u, Txts x9 u K → Calls Tryd.prog 34 #[v9, u] x9 fun o w' => o = .returned (.bool true) ∧ Below x9.heap.size x9 w') := Lib.hid (fun u hu => by
                    have h1 := sameW_any v9 u K K x9 (held_txtsV HL9.out.h (by have := HKL.out; omega)) hu (by have := HKL.out; omega) (by have := HKL.out; omega)
                    rwa [show decide (K = K) = true from decide_eq_true rfl] at h1)
                  clear C1 C2 C3 hbe hei hicl
                  go_cut [25] from 145 to 152 (fun x wx => x = .bool true ∧ Hid (Below wr.heap.size wr wx))
                  case first =>
                    by_cases hci : cl - b = 0
                    · have HU : Hid (Txts x9 (.slice pl (e - b) 0) K) := Lib.hid (by
                        have h1 := HK.out
                        have hji : e - b = 0 := by
                          have h2 : (e : Int) ≤ (cl : Int) := heI
                          omega
                        rw [h1.1, hji]
                        exact ⟨pl, 0, by simp, by simp, by simp, fun j s h => by simp at h⟩)
                      go_wp2_with (go_at_call 34; with_reducible refine (CSM.out _ HU.out).mono ?_; rintro o x10 ⟨rfl, hb⟩; have HX10 : Hid (Below wr.heap.size wr x10) := Lib.hid (HX9.out.trans (hb.mono HX9.out.size)); clear hb)
                      go_meet
                      exact ⟨rfl, HX10⟩
                    · have HU : Hid (Txts x9 (.slice (pl.map (·.add b)) (e - b) (cl - b)) K) := Lib.hid (by
                        have h1 := HK.out
                        rw [h1.1]
                        exact ((HTX.out _ HX9.out).rightC (k := b) (by omega)).cutC (k := e - b) (by omega))
                      go_wp2_with (go_at_call 34; with_reducible refine (CSM.out _ HU.out).mono ?_; rintro o x10 ⟨rfl, hb⟩; have HX10 : Hid (Below wr.heap.size wr x10) := Lib.hid (HX9.out.trans (hb.mono HX9.out.size)); clear hb)
                      go_meet
                      exact ⟨rfl, HX10⟩
                  case rest =>
                    obtain ⟨rfl, HX10⟩ := hcut
                    clear CSM k0 k1
                    have hq20 : q < 20 := HQ.out.1
                    go_wp2_with fail
                    exact ⟨⟨q + 2, by simp, by have := HQ.out; omega, Lib.hid (HI.out.trans (HX10.out.mono HI.out.size))⟩, by show 24 - ((q : Int) + 2).toNat < 24 - (q : Int).toNat; have := HQ.out; omega⟩
              · go_upto_region 24 with fail
                go_cut [112] from 104 to 112 (fun x wx => x = .bool false ∧ wx = wr)
                case first =>
                  by_cases hqn : q + 1 < ny
                  · have hqI : (q : Int) + 1 < (ny : Int) := by omega
                    have hq20 : ¬ (q : Int) < 20 := by omega
                    clear hlt hqn
                    go_wp2_with fail
                    go_meet
                    exact ⟨rfl, rfl⟩
                  · have hqI : ¬ (q : Int) + 1 < (ny : Int) := by omega
                    clear hlt hqn
                    go_wp2_with fail
                    go_meet
                    exact ⟨rfl, rfl⟩
                case rest =>
                  obtain ⟨rfl, hww⟩ := hcut
                  subst hww
                  clear hlt
                  have CSS := Lib.hid (CSZ.out _ HB5r.out)
                  go_wp2_with (go_at_call 12; with_reducible refine CSS.out.mono ?_; rintro o w' ⟨rfl, hww⟩; replace hww := hww.symm; subst hww)
                  go_ret
                  exact ⟨by simp, HW1.out.trans (HB5r.out.mono HW1.out.size)⟩
end Go.Proofs.YtblacbfkaamdgaaDoor
