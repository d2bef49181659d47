/- Law 11: SingleAccepted, walked. -/
import Derived.Test.YtblacbfkaamdgabDoorMa38
import Derived.Deep.CutBlock
namespace Go.Proofs.YtblacbfkaamdgabDoor
open Go.RowKit Go.Scr Go.ChangeMaps Go.MapKept
set_option linter.unusedVariables false
theorem AlI.txts {w w' : World} {L : List ByteArray} {C : List (Nat × Nat)} {v : Value} (h : AlI w w' L C C.length v) (hC : C.length ≤ 4194304) : Txts w' v (partsL L C) := by
  have := h.hd
  rw [List.take_length] at this
  exact (held_txtsU this (by unfold partsL; rw [List.length_map]; exact hC)).2
theorem txts_sl {w : World} {v : Value} {L : List ByteArray} {n : Nat} (h : Txts w v L) (hn : n = L.length) : ∃ p c, v = .slice p n c ∧ Txts w (.slice p n c) L := by
  obtain ⟨p, c, rfl, h2⟩ := h
  rw [hn]
  exact ⟨p, c, rfl, p, c, rfl, h2⟩
set_option maxRecDepth 100000 in
set_option maxHeartbeats 8000000 in
theorem singleaccepted_any {W : World} {s0 : Int} {v1 v2 : Value} {Z Y : List Int} (hB : Bas W W.heap.size) (hz : Ints W v1 Z) (hy : Ints W v2 Y) (h0 : -9223372036854775808 ≤ s0 ∧ s0 ≤ 9223372036854775807) (hY : ∀ z ∈ Y, -9223372036854775808 ≤ z ∧ z ≤ 9223372036854775807) :
    Calls Tryd.prog 3 #[.int .i64 s0, v1, v2] W fun o w' => o = .returned (.bool true) ∧ Below W.heap.size W w' := by
  have CK := Lib.hid (knownU_any hB)
  have CF : Hid (∀ w2, Below W.heap.size W w2 → Calls Tryd.prog 5 #[.int .i64 s0, v1] w2 fun o w' => ∃ tb, o = .returned (bpT tb) ∧ FiI w2 w' W.heap.size tb (1 + pickN s0 8) Z (min Z.length 300)) := Lib.hid (fun w2 hb2 => filledU_any (hB.below hb2) (ints_belowHK hz hb2 (Nat.le_refl _)) h0)
  obtain ⟨M, hM⟩ : ∃ M, M = min Z.length 300 := ⟨_, rfl⟩
  rw [← hM] at CF
  have hM3 : M ≤ 300 := by omega
  obtain ⟨L, hL⟩ : ∃ L, L = (Z.take M).map leafSU := ⟨_, rfl⟩
  have hLM : L.length = M := by rw [hL, List.length_map, List.length_take]; omega
  have HLM : Hid (L = (Z.take M).map leafSU ∧ L.length = M ∧ M ≤ Z.length ∧ ∀ i z, Z[i]? = some z → i < M → L[i]? = some (leafSU z)) := Lib.hid ⟨hL, hLM, by omega, fun i z hz hi => by rw [hL, List.getElem?_map, List.getElem?_take_of_lt hi, hz]; rfl⟩
  have H32 : Hid (∀ s ∈ L, s.size = 32) := Lib.hid (fun s hs => by rw [hL] at hs; obtain ⟨z, _, rfl⟩ := List.mem_map.1 hs; exact leafSU_size z)
  have HBW := Lib.hid hB
  have HZ := Lib.hid hz
  have HY := Lib.hid hy
  have HYB := Lib.hid hY
  obtain ⟨pz, cz, rfl, hz1, hz2, hz3, hz4⟩ := hz
  obtain ⟨py, cy, rfl, hy1, hy2, hy3, hy4⟩ := hy
  obtain ⟨nz, hnz⟩ : ∃ n, n = Z.length := ⟨_, rfl⟩
  obtain ⟨ny, hny⟩ : ∃ n, n = Y.length := ⟨_, rfl⟩
  rw [← hnz] at HZ CF hz1 hz2 ⊢
  rw [← hny] at HY hy1 hy2 ⊢
  have HNN : Hid (nz = Z.length ∧ ny = Y.length ∧ M = min Z.length 300) := Lib.hid ⟨hnz, hny, hM⟩
  clear hB h0 hM hL hLM hY hz1 hz3 hz4 hy1 hy3 hy4 hnz hny
  go_enter Tryd.func3, Tryd.ntmps3
  go_upto_region 5 with (first
    | (go_at_call 4; with_reducible refine CK.out.mono ?_; rintro o w0 ⟨rfl, hb0⟩; have HB0 := Lib.hid hb0; clear hb0)
    | (go_at_call 5; with_reducible refine (CF.out _ HB0.out).mono ?_; rintro o w1 ⟨tb, rfl, hf⟩; have HF := Lib.hid hf; clear hf))
  have HB1 : Hid (Below W.heap.size W w1) := Lib.hid (HB0.out.trans (HF.out.b.mono HB0.out.size))
  have HTU : Hid (TrU w0 w1 W.heap.size tb (1 + pickN s0 8) L) := Lib.hid (by rw [HLM.out.1]; exact fiI_trU HF.out)
  have HI0 : Hid (NuI w1 w1 L 0 (.slice none 0 0)) := Lib.hid ⟨Below.refl _ _, ⟨rfl, .inl ⟨rfl, rfl⟩⟩, fun g hg => nomatch hg⟩
  clear CK CF
  go_wp2_with fail
  go_loopw [9, 10] (fun v k wr => ∃ i : Nat, k = .int .i64 (i : Int) ∧ i ≤ M ∧ Hid (NuI w1 wr L i v)) (fun _ k _ => M - (intOf k).toNat)
  case atStart => exact ⟨0, rfl, Nat.zero_le _, HI0⟩
  case round =>
    clear HI0
    obtain ⟨i, rfl, hi, HI⟩ := hrel
    obtain ⟨vp, vc, rfl, hvic, _⟩ := HI.out.hd.cells
    have HVC := Lib.hid hvic
    clear hvic
    by_cases hlt : i < M
    · have hli : (i : Int) < (nz : Int) := by have := HNN.out; omega
      have hl3 : (i : Int) < 300 := by omega
      have hi0 : (0 : Int) ≤ (i : Int) := by omega
      obtain ⟨z, hzi⟩ : ∃ z, Z[i]? = some z := ⟨Z[i]'(by have := HNN.out; omega), List.getElem?_eq_getElem _⟩
      obtain ⟨p', c', hpe, _, _, _, hq⟩ := ints_belowHK HZ.out (HB1.out.trans (HI.out.b.mono HB1.out.size)) (Nat.le_refl _)
      obtain rfl : p' = pz := by cases hpe; rfl
      clear hpe
      obtain ⟨a, rfl, hcell⟩ := hq i z hzi
      have HX : Hid (L[i]? = some (leafSU z)) := Lib.hid (HLM.out.2.2.2 i z hzi hlt)
      obtain ⟨s, hs⟩ : ∃ s, s = leafSU z := ⟨_, rfl⟩
      have CL : Hid (∀ w3, Calls Tryd.prog 6 #[.int .i64 z] w3 fun e w' => e = .returned (.string s) ∧ Below w3.heap.size w3 w') := Lib.hid (fun w3 => by rw [hs]; exact leafU_any z w3)
      rw [← hs] at HX
      have HONE : Hid (∀ u ∈ [Value.string s], u.oneCell' = true) := Lib.hid (fun u hu => by rw [List.mem_singleton.1 hu]; rfl)
      have hl1 : (i + 1) * 16 ≤ 140737488355328 := by omega
      have hl2 : i + 1 ≤ 140737488355328 := by omega
      have HLT := Lib.hid hlt
      clear hlt hs hzi hq
      go_wp2_with (first
        | (go_at_call 6; with_reducible refine (CL.out _).mono ?_; rintro o w3 ⟨rfl, hb3⟩; have HB3 : Hid (Below w1.heap.size w1 w3) := Lib.hid (HI.out.b.trans (hb3.mono HI.out.b.size)); have HHD : Hid (Held w3 9 1 (.slice vp i vc) i ((L.take i).map Value.string)) := Lib.hid (HI.out.hd.below hb3); clear hb3)
        | (at_builtin; refine wpList_grew (v := .slice vp i vc) rfl _ _ rfl Tryd.underlying26 (.string ⟨#[]⟩) 1 info_strT rfl (by decide) [.string s] 1 (by simp [Act.eval]) (by simp [Act.eval]) HHD.out rfl rfl (by decide) HONE.out hl1 hl2 ?_; intro v5 w5 hg5; have HG5 := Lib.hid (NuI.push HB3.out HI.out.ow HX.out hg5); clear hg5))
      exact ⟨⟨i + 1, by simp, HLT.out, HG5⟩, by show M - ((i : Int) + 1).toNat < M - (i : Int).toNat; have := HLT.out; omega⟩
    · obtain rfl : i = M := by omega
      have hNcl : (i : Int) ≤ (vc : Int) := by have := HVC.out; omega
      obtain ⟨wl, hwl⟩ : ∃ x, x = wr := ⟨_, rfl⟩
      rw [← hwl] at HI ⊢
      clear hwl hlt
      have HTW : Hid (∀ w3, Below wl.heap.size wl w3 → TrU w0 w3 W.heap.size tb (1 + pickN s0 8) L) := Lib.hid (fun w3 hb3 => HTU.out.below (HI.out.b.trans (hb3.mono HI.out.b.size)))
      have HBL : Hid (∀ w3, Below wl.heap.size wl w3 → Below W.heap.size W w3) := Lib.hid (fun w3 hb3 => by
        have e1 := HB1.out.trans (HI.out.b.mono HB1.out.size)
        exact e1.trans (hb3.mono e1.size))
      have HTX : Hid (∀ w3, Below wl.heap.size wl w3 → Txts w3 (.slice vp i vc) L) := Lib.hid (fun w3 hb3 => by
        have := HI.out.hd
        rw [List.take_of_length_le (by have := HLM.out; omega)] at this
        exact ((held_txtsU this (by have := HLM.out; omega)).2).below hb3 (Nat.le_refl _))
      have HI1 := HI
      clear HI
      have hex : (¬ (i : Int) < (nz : Int)) ∨ ((i : Int) < (nz : Int) ∧ ¬ (i : Int) < 300) := by have := HNN.out; omega
      rcases hex with hex1 | ⟨hex1, hex2⟩
      all_goals
        go_wp2_with fail
        go_loopw [11] (fun k wr => ∃ j : Nat, k = .int .i64 (j : Int) ∧ j ≤ 13 ∧ Hid (Below wl.heap.size wl wr)) (fun k _ => 14 - (intOf k).toNat)
        case atStart => exact ⟨0, rfl, Nat.zero_le _, Lib.hid (Below.refl _ _)⟩
        case round =>
          obtain ⟨j, rfl, hj, HBr⟩ := hrel
          obtain ⟨j1, hj1⟩ : ∃ x, x = j + 1 := ⟨_, rfl⟩
          have hj1I : (j : Int) + 1 = (j1 : Int) := by omega
          by_cases hA : j1 < ny
          · have hAi : (j1 : Int) < (ny : Int) := by omega
            by_cases hB : j < 12
            · have hBi : (j : Int) < 12 := by omega
              by_cases hC : i = 0
              · have hCi : ¬ (0 : Int) < (i : Int) := by omega
                clear hA hB hC hj1
                go_wp2_with fail
                all_goals (go_ret; exact ⟨rfl, HBL.out _ HBr.out⟩)
              · have hCi : (0 : Int) < (i : Int) := by omega
                have hji : (j : Int) < (ny : Int) := by omega
                have hj0 : (0 : Int) ≤ (j : Int) := by omega
                have hj10 : (0 : Int) ≤ (j1 : Int) := by omega
                obtain ⟨y, hy⟩ : ∃ z, Y[j]? = some z := ⟨Y[j]'(by have := HNN.out; omega), List.getElem?_eq_getElem _⟩
                obtain ⟨x, hx⟩ : ∃ z, Y[j1]? = some z := ⟨Y[j1]'(by have := HNN.out; omega), List.getElem?_eq_getElem _⟩
                obtain ⟨p', c', hpe, _, _, _, hq⟩ := ints_belowHK HY.out (HBL.out _ HBr.out) (Nat.le_refl _)
                obtain rfl : p' = py := by cases hpe; rfl
                clear hpe
                obtain ⟨a, rfl, hcell⟩ := hq j y hy
                obtain ⟨a', hae, hcell1⟩ := hq j1 x hx
                cases hae
                have hyb := HYB.out y (List.mem_of_getElem? hy)
                have hxb := HYB.out x (List.mem_of_getElem? hx)
                obtain ⟨n0, hn0⟩ : ∃ a, a = pickN y i := ⟨_, rfl⟩
                have hn0M : n0 < i := by rw [hn0]; unfold pickN; split <;> exact Nat.mod_lt _ (by omega)
                have C1 := Lib.hid (pickU_any y i wr (by omega) (by omega) hyb)
                rw [← hn0] at C1
                obtain ⟨N, hN⟩ : ∃ N, N = 1 + n0 := ⟨_, rfl⟩
                have hNi : (1 : Int) + (n0 : Int) = (N : Int) := by omega
                obtain ⟨m, hm⟩ : ∃ m, m = pickN x N := ⟨_, rfl⟩
                have hmN : m < N := by rw [hm]; unfold pickN; split <;> exact Nat.mod_lt _ (by omega)
                have C2 := Lib.hid (pickU_any x N wr (by omega) (by omega) hxb)
                rw [← hm] at C2
                obtain ⟨q, hq2⟩ : ∃ q, q = m + 1 := ⟨_, rfl⟩
                have hqi : (m : Int) + 1 = (q : Int) := by omega
                have hN3 : N ≤ 300 := by omega
                have hm3 : m ≤ 300 := by omega
                have hq3 : q ≤ 300 := by omega
                have hNL : N ≤ L.length := by have := HLM.out; omega
                have hL4 : L.length ≤ 4096 := by have := HLM.out; omega
                have hNv : (N : Int) ≤ (vc : Int) := by omega
                have hN0 : (0 : Int) ≤ (N : Int) := by omega
                have hm0 : (0 : Int) ≤ (m : Int) := by omega
                have hmi : (m : Int) < (i : Int) := by omega
                obtain ⟨leaf, hleaf⟩ : ∃ s, L[m]? = some s := ⟨L[m]'(by omega), List.getElem?_eq_getElem _⟩
                obtain ⟨e1, e2, e3⟩ := path_taken H32.out hmN hNL (by omega) hleaf
                obtain ⟨f1, f2, f3⟩ := proof_taken H32.out (m := q) (n := N) (by omega) (by omega) hNL (by omega)
                have hpl : (Go.Scr.pathT 0 N m).reverse.length ≤ 4096 := by rw [List.length_reverse]; have := pathT_leK N 0 m; omega
                have hql : (Go.Scr.proofT 0 N q).reverse.length ≤ 4096 := by rw [List.length_reverse]; have := proofT_leK N 0 q (by omega) (by omega); omega
                obtain ⟨PL, hPL⟩ : ∃ P, P = partsL L (Go.Scr.pathT 0 N m).reverse := ⟨_, rfl⟩
                obtain ⟨QL, hQL⟩ : ∃ P, P = partsL L (Go.Scr.proofT 0 N q).reverse := ⟨_, rfl⟩
                have hPl : PL.length ≤ 4096 := by rw [hPL]; unfold partsL; rw [List.length_map]; exact hpl
                have hQl : QL.length ≤ 4096 := by rw [hQL]; unfold partsL; rw [List.length_map]; exact hql
                obtain ⟨np, hnp⟩ : ∃ n, n = PL.length := ⟨_, rfl⟩
                obtain ⟨nq, hnq⟩ : ∃ n, n = QL.length := ⟨_, rfl⟩
                have CI : Hid (∀ w3, Below wl.heap.size wl w3 → Calls Tryd.prog 8 #[bpT tb, .int .i64 (N : Int), .int .i64 (m : Int)] w3 fun r w' => ∃ p c, r = .returned (.tuple #[.slice p np c, .int .i64 0]) ∧ Txts w' (.slice p np c) PL ∧ Below w3.heap.size w3 w') := Lib.hid (fun w3 hb3 => by
                  obtain ⟨_, col, t, _⟩ := HTW.out w3 hb3
                  refine (incl_at t (HBW.out.below (HBL.out w3 hb3)) hmN hNL hL4).mono ?_
                  rintro r w' ⟨v, rfl, hal⟩
                  have htx := hal.txts (by omega)
                  rw [← hPL] at htx
                  obtain ⟨p, c, rfl, htx⟩ := txts_sl htx hnp
                  exact ⟨p, c, rfl, htx, hal.b⟩)
                have CC : Hid (∀ w3, Below wl.heap.size wl w3 → Calls Tryd.prog 10 #[bpT tb, .int .i64 (q : Int), .int .i64 (N : Int)] w3 fun r w' => ∃ p c, r = .returned (.tuple #[.slice p nq c, .int .i64 0]) ∧ Txts w' (.slice p nq c) QL ∧ Below w3.heap.size w3 w') := Lib.hid (fun w3 hb3 => by
                  obtain ⟨_, col, t, _⟩ := HTW.out w3 hb3
                  refine (cons_at t (HBW.out.below (HBL.out w3 hb3)) (by omega) (by omega) hNL hL4).mono ?_
                  rintro r w' ⟨v, rfl, hal⟩
                  have htx := hal.txts (by omega)
                  rw [← hQL] at htx
                  obtain ⟨p, c, rfl, htx⟩ := txts_sl htx hnq
                  exact ⟨p, c, rfl, htx, hal.b⟩)
                rw [← hPL] at e1 e3
                rw [← hQL] at f1 f3
                have HNi : Hid (N ≤ i) := Lib.hid (by omega)
                have CP : Hid (∀ w3, Below wl.heap.size wl w3 → Calls Tryd.prog 9 #[.slice vp N vc, .int .i64 (m : Int)] w3 fun r w' => ∃ p c, r = .returned (.tuple #[.slice p np c, .int .i64 0]) ∧ Txts w' (.slice p np c) PL ∧ Below w3.heap.size w3 w') := Lib.hid (fun w3 hb3 => by
                  have := Path_any _ (L.take N) m w3 (HBW.out.below (HBL.out w3 hb3)).tabs (txts_cutU (HTX.out w3 hb3) HNi.out)
                  rw [e1, e2] at this
                  refine this.mono ?_
                  rintro r w' ⟨v, rfl, hown, hb⟩
                  obtain ⟨p, c, rfl, htx⟩ := txts_sl (txts_rowU hown (by omega)) hnp
                  exact ⟨p, c, rfl, htx, hb⟩)
                have CQ : Hid (∀ w3, Below wl.heap.size wl w3 → Calls Tryd.prog 11 #[.slice vp N vc, .int .i64 (q : Int)] w3 fun r w' => ∃ p c, r = .returned (.tuple #[.slice p nq c, .int .i64 0]) ∧ Txts w' (.slice p nq c) QL ∧ Below w3.heap.size w3 w') := Lib.hid (fun w3 hb3 => by
                  have := Proof_any _ (L.take N) q w3 (HBW.out.below (HBL.out w3 hb3)).tabs (txts_cutU (HTX.out w3 hb3) HNi.out)
                  rw [f1, f2] at this
                  refine this.mono ?_
                  rintro r w' ⟨v, rfl, hown, hb⟩
                  obtain ⟨p, c, rfl, htx⟩ := txts_sl (txts_rowU hown (by omega)) hnq
                  exact ⟨p, c, rfl, htx, hb⟩)
                have CS : Hid (∀ (u v : Value) (K : List ByteArray) (w3 : World), Txts w3 u K → Txts w3 v K → K.length ≤ 4096 → Calls Tryd.prog 12 #[u, v] w3 fun e w' => e = .returned (.bool true) ∧ Below w3.heap.size w3 w') := Lib.hid (fun u v K w3 h1 h2 hk => by
                  have := sameU_any u v K K w3 h1 h2 (by omega) (by omega)
                  rwa [decide_eq_true rfl] at this)
                have HPN := Lib.hid hPl
                have HQN := Lib.hid hQl
                obtain ⟨rn, hrn⟩ : ∃ s, s = partL L 0 N := ⟨_, rfl⟩
                obtain ⟨ro, hro⟩ : ∃ s, s = partL L 0 q := ⟨_, rfl⟩
                have CRn : Hid (∀ w3, Below wl.heap.size wl w3 → Calls Tryd.prog 13 #[bpT tb, .int .i64 (N : Int)] w3 fun o w' => o = .returned (.tuple #[.string rn, .int .i64 0]) ∧ Below w3.heap.size w3 w') := Lib.hid (fun w3 hb3 => by rw [hrn]; exact (HTW.out w3 hb3).root (HBW.out.below HB0.out) hNL)
                have CRo : Hid (∀ w3, Below wl.heap.size wl w3 → Calls Tryd.prog 13 #[bpT tb, .int .i64 (q : Int)] w3 fun o w' => o = .returned (.tuple #[.string ro, .int .i64 0]) ∧ Below w3.heap.size w3 w') := Lib.hid (fun w3 hb3 => by rw [hro]; exact (HTW.out w3 hb3).root (HBW.out.below HB0.out) (by omega))
                rw [← hrn] at e3 f3
                rw [← hro] at f3
                have CVI : Hid (∀ (v : Value) w3, Below wl.heap.size wl w3 → Txts w3 v PL → Calls Tryd.prog 14 #[.int .i64 (N : Int), .int .i64 (m : Int), .string leaf, v, .string rn] w3 fun e w' => e = .returned (.int .i64 0) ∧ Below w3.heap.size w3 w') := Lib.hid (fun v w3 hb3 ht => by
                  have := inclusion_any N m leaf v PL rn w3 (HBW.out.below (HBL.out w3 hb3)).tabs ht (by omega)
                  rwa [e3] at this)
                have CVC : Hid (∀ (v : Value) w3, Below wl.heap.size wl w3 → Txts w3 v QL → Calls Tryd.prog 15 #[.int .i64 (q : Int), .int .i64 (N : Int), .string ro, .string rn, v] w3 fun e w' => e = .returned (.int .i64 0) ∧ Below w3.heap.size w3 w') := Lib.hid (fun v w3 hb3 ht => by
                  have := consistency_any q N ro rn v QL w3 (HBW.out.below (HBL.out w3 hb3)).tabs ht (by omega)
                  rwa [f3] at this)
                obtain ⟨a0, ha0, _⟩ : ∃ a, vp = some a ∧ wl.cell? (a.add m) = some (.string leaf) := by
                  obtain ⟨_, _, hpe2, _, _, h4⟩ := HTX.out wl (Below.refl _ _)
                  cases hpe2
                  exact h4 m leaf hleaf
                subst ha0
                have HCELL : Hid (∀ w3, Below wl.heap.size wl w3 → w3.cell? (a0.add m) = some (.string leaf)) := Lib.hid (fun w3 hb3 => by
                  obtain ⟨_, _, hpe2, _, _, h4⟩ := HTX.out w3 hb3
                  cases hpe2
                  obtain ⟨a9, e9, h9⟩ := h4 m leaf hleaf
                  cases e9
                  exact h9)
                have HBD := Lib.hid hB
                clear hA hB hC hj1 hy hx hq hyb hxb hn0 hn0M hN hm hmN hq2 hNL hL4 hleaf e1 e2 e3 f1 f2 f3 hpl hql hPL hQL hPl hQl hnp hnq hrn hro
                go_wp2_with (first
              | (go_at_call 7; with_reducible refine C1.out.mono ?_; rintro o w' ⟨rfl, hww⟩; replace hww := hww.symm; subst hww)
              | (go_at_call 7; with_reducible refine C2.out.mono ?_; rintro o w' ⟨rfl, hww⟩; replace hww := hww.symm; subst hww)
              | (go_at_call 8; with_reducible refine (CI.out _ HBr.out).mono ?_; rintro o x1 ⟨pa, ca, rfl, htx, hb⟩; have HBx1 : Hid (Below wl.heap.size wl x1) := Lib.hid (HBr.out.trans (hb.mono HBr.out.size)); have HPx1 := Lib.hid htx; clear hb htx)
              | (go_at_call 9; with_reducible refine (CP.out _ HBx1.out).mono ?_; rintro o x2 ⟨pb, cb, rfl, htx, hb⟩; have HBx2 : Hid (Below wl.heap.size wl x2) := Lib.hid (HBx1.out.trans (hb.mono HBx1.out.size)); have HPx2 := Lib.hid (HPx1.out.below hb (Nat.le_refl _)); have HQx2 := Lib.hid htx; clear hb htx)
              | (go_at_call 10; with_reducible refine (CC.out _ HBx2.out).mono ?_; rintro o x3 ⟨pc, cc, rfl, htx, hb⟩; have HBx3 : Hid (Below wl.heap.size wl x3) := Lib.hid (HBx2.out.trans (hb.mono HBx2.out.size)); have HPx3 := Lib.hid (HPx2.out.below hb (Nat.le_refl _)); have HQx3 := Lib.hid (HQx2.out.below hb (Nat.le_refl _)); have HUx3 := Lib.hid htx; clear hb htx)
              | (go_at_call 11; with_reducible refine (CQ.out _ HBx3.out).mono ?_; rintro o x4 ⟨pd, cd, rfl, htx, hb⟩; have HBx4 : Hid (Below wl.heap.size wl x4) := Lib.hid (HBx3.out.trans (hb.mono HBx3.out.size)); have HPx4 := Lib.hid (HPx3.out.below hb (Nat.le_refl _)); have HQx4 := Lib.hid (HQx3.out.below hb (Nat.le_refl _)); have HUx4 := Lib.hid (HUx3.out.below hb (Nat.le_refl _)); have HVx4 := Lib.hid htx; clear hb htx)
              | (go_at_call 12; with_reducible refine (CS.out _ _ _ _ HPx4.out HQx4.out HPN.out).mono ?_; rintro o x5 ⟨rfl, hb⟩; have HBx5 : Hid (Below wl.heap.size wl x5) := Lib.hid (HBx4.out.trans (hb.mono HBx4.out.size)); have HPx5 := Lib.hid (HPx4.out.below hb (Nat.le_refl _)); have HUx5 := Lib.hid (HUx4.out.below hb (Nat.le_refl _)); have HVx5 := Lib.hid (HVx4.out.below hb (Nat.le_refl _)); clear hb)
              | (go_at_call 12; with_reducible refine (CS.out _ _ _ _ HUx5.out HVx5.out HQN.out).mono ?_; rintro o x6 ⟨rfl, hb⟩; have HBx6 : Hid (Below wl.heap.size wl x6) := Lib.hid (HBx5.out.trans (hb.mono HBx5.out.size)); have HPx6 := Lib.hid (HPx5.out.below hb (Nat.le_refl _)); have HUx6 := Lib.hid (HUx5.out.below hb (Nat.le_refl _)); clear hb)
              | (go_at_call 13; with_reducible refine (CRn.out _ HBx6.out).mono ?_; rintro o x7 ⟨rfl, hb⟩; have HBx7 : Hid (Below wl.heap.size wl x7) := Lib.hid (HBx6.out.trans (hb.mono HBx6.out.size)); have HPx7 := Lib.hid (HPx6.out.below hb (Nat.le_refl _)); have HUx7 := Lib.hid (HUx6.out.below hb (Nat.le_refl _)); clear hb)
              | (go_at_call 13; with_reducible refine (CRo.out _ HBx7.out).mono ?_; rintro o x8 ⟨rfl, hb⟩; have HBx8 : Hid (Below wl.heap.size wl x8) := Lib.hid (HBx7.out.trans (hb.mono HBx7.out.size)); have HPx8 := Lib.hid (HPx7.out.below hb (Nat.le_refl _)); have HUx8 := Lib.hid (HUx7.out.below hb (Nat.le_refl _)); have kc := HCELL.out x8 HBx8.out; clear hb)
              | (go_at_call 14; with_reducible refine (CVI.out _ _ HBx8.out HPx8.out).mono ?_; rintro o x9 ⟨rfl, hb⟩; have HBx9 : Hid (Below wl.heap.size wl x9) := Lib.hid (HBx8.out.trans (hb.mono HBx8.out.size)); have HUx9 := Lib.hid (HUx8.out.below hb (Nat.le_refl _)); clear hb)
              | (go_at_call 15; with_reducible refine (CVC.out _ _ HBx9.out HUx9.out).mono ?_; rintro o xa ⟨rfl, hb⟩; have HBxa : Hid (Below wl.heap.size wl xa) := Lib.hid (HBx9.out.trans (hb.mono HBx9.out.size)); clear hb))
                exact ⟨⟨j + 2, by simp, by have := HBD.out; omega, HBxa⟩, by show 14 - ((j : Int) + 2).toNat < 14 - (j : Int).toNat; have := HBD.out; omega⟩
            · have hBi : ¬ (j : Int) < 12 := by omega
              clear hA hB hj1
              go_wp2_with fail
              go_ret
              exact ⟨rfl, HBL.out _ HBr.out⟩
          · have hAi : ¬ (j1 : Int) < (ny : Int) := by omega
            clear hA hj1
            go_wp2_with fail
            go_ret
            exact ⟨rfl, HBL.out _ HBr.out⟩
end Go.Proofs.YtblacbfkaamdgabDoor
