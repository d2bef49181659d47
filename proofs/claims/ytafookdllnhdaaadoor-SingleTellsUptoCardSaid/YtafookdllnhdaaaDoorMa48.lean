/- Law 11: SingleTells, walked. -/
import Derived.Test.YtafookdllnhdaaaDoorMa47
namespace Go.Proofs.YtafookdllnhdaaaDoor
open Go.RowKit Go.Scr Go.ChangeMaps Go.MapKept
set_option linter.unusedVariables false
theorem SSx.incl {W w : World} {B tb h xb ab n np : Nat} {A : List Int} {L M P : List ByteArray} {lv wv : Value} {ls ms : List (Value × List ByteArray)} {E : Int} (H : SSx W w B tb h xb ab n A L M lv wv ls ms) (z i : Int) (hE : E = (inS M z i).1) (hP : P = (inS M z i).2) (hn : np = P.length) (w' : World) (hb : Below w.heap.size w w') :
    Calls Tryd.prog 20 #[.pointer (some ⟨xb, 0, none⟩), .int .i64 z, .int .i64 i] w' fun o w2 => ∃ p c, o = .returned (.tuple #[.slice p np c, .int .i64 E]) ∧ LfI w' w2 (.slice p np c) np P := by
  obtain ⟨ca, oc, v7, a, _⟩ := (H.below hb).e.ex
  rw [hn, hE, hP]
  exact incl11_any a.x z i
theorem SSx.cons {W w : World} {B tb h xb ab n np : Nat} {A : List Int} {L M P : List ByteArray} {lv wv : Value} {ls ms : List (Value × List ByteArray)} {E : Int} (H : SSx W w B tb h xb ab n A L M lv wv ls ms) (z i : Int) (hE : E = (coS M z i).1) (hP : P = (coS M z i).2) (hn : np = P.length) (w' : World) (hb : Below w.heap.size w w') :
    Calls Tryd.prog 21 #[.pointer (some ⟨xb, 0, none⟩), .int .i64 z, .int .i64 i] w' fun o w2 => ∃ p c, o = .returned (.tuple #[.slice p np c, .int .i64 E]) ∧ LfI w' w2 (.slice p np c) np P := by
  obtain ⟨ca, oc, v7, a, _⟩ := (H.below hb).e.ex
  rw [hn, hE, hP]
  exact cons11_any a.x z i
theorem SSx.sincl {W w : World} {B tb h xb ab n np : Nat} {A : List Int} {L M P : List ByteArray} {lv wv : Value} {ls ms : List (Value × List ByteArray)} {E : Int} (H : SSx W w B tb h xb ab n A L M lv wv ls ms) (hB : ∀ w', Below w.heap.size w w' → Bas w' B) (hL : L.length ≤ 4096) (z i : Int) (hE : E = (inS L z i).1) (hP : P = (inS L z i).2) (hn : np = P.length) (w' : World) (hb : Below w.heap.size w w') :
    Calls Tryd.prog 22 #[bpT tb, .int .i64 z, .int .i64 i] w' fun o w2 => ∃ p c, o = .returned (.tuple #[.slice p np c, .int .i64 E]) ∧ LfI w' w2 (.slice p np c) np P := by
  obtain ⟨ca, oc, v7, a, _⟩ := (H.below hb).e.ex
  rw [hn, hE, hP]
  exact sincl_any a.t (hB w' hb) hL z i
theorem SSx.scons {W w : World} {B tb h xb ab n np : Nat} {A : List Int} {L M P : List ByteArray} {lv wv : Value} {ls ms : List (Value × List ByteArray)} {E : Int} (H : SSx W w B tb h xb ab n A L M lv wv ls ms) (hB : ∀ w', Below w.heap.size w w' → Bas w' B) (hL : L.length ≤ 4096) (z i : Int) (hE : E = (coS L z i).1) (hP : P = (coS L z i).2) (hn : np = P.length) (w' : World) (hb : Below w.heap.size w w') :
    Calls Tryd.prog 23 #[bpT tb, .int .i64 z, .int .i64 i] w' fun o w2 => ∃ p c, o = .returned (.tuple #[.slice p np c, .int .i64 E]) ∧ LfI w' w2 (.slice p np c) np P := by
  obtain ⟨ca, oc, v7, a, _⟩ := (H.below hb).e.ex
  rw [hn, hE, hP]
  exact scons_any a.t (hB w' hb) hL z i
theorem one_two (p q : Option Addr) (n m c d : Nat) : ∀ u ∈ [Value.slice p n c, Value.slice q m d], u.oneCell' = true := fun u hu => by
  rcases List.mem_cons.1 hu with rfl | hu
  · rfl
  · rw [List.mem_singleton.1 hu]; rfl
/-- the state at the head of the second loop -/
structure St2 (W w : World) (tb h xb ab n j : Nat) (A : List Int) (lv wv : Value) (cl cw : Nat) : Prop where
  ex : ∃ L ls ms, SSx W w W.heap.size tb h xb ab n A L L lv wv ls ms ∧ L.length ≤ 301 ∧ (j ≤ 4 → L.length ≤ 300) ∧ (5 ≤ j → 0 < L.length)
  c1 : n ≤ cl
  c2 : n ≤ cw
set_option maxRecDepth 100000 in
set_option maxHeartbeats 8000000 in
theorem singletells_any {W : World} {s0 x1 x2 x3 x4 : Int} {v1 : Value} {Z : List Int} (hB : Bas W W.heap.size) (hz : Ints W v1 Z) (h0 : -9223372036854775808 ≤ s0 ∧ s0 ≤ 9223372036854775807) :
    Calls Tryd.prog 4 #[.int .i64 s0, v1, .int .i64 x1, .int .i64 x2, .int .i64 x3, .int .i64 x4] W fun o w' => o = .returned (.bool true) ∧ Below W.heap.size W w' := by
  have CK := Lib.hid (knownU_any hB)
  obtain ⟨ht, hht⟩ : ∃ x, x = 1 + pickN s0 8 := ⟨_, rfl⟩
  have CF : Hid (∀ w2, Below W.heap.size W w2 → Calls Tryd.prog 16 #[.int .i64 s0, v1] w2 fun o w' => ∃ tb, o = .returned (bpT tb) ∧ FiI w2 w' W.heap.size tb ht Z (min Z.length 300)) := Lib.hid (fun w2 hb2 => by rw [hht]; exact filledU_any (hB.below hb2) (ints_belowHK hz hb2 (Nat.le_refl _)) h0)
  obtain ⟨M, hM⟩ : ∃ M, M = min Z.length 300 := ⟨_, rfl⟩
  rw [← hM] at CF
  have hM3 : M ≤ 300 := by omega
  obtain ⟨L, hL⟩ : ∃ L, L = (Z.take M).map leafSU := ⟨_, rfl⟩
  have hLM : L.length = M := by rw [hL, List.length_map, List.length_take]; omega
  have HLM : Hid (L = (Z.take M).map leafSU ∧ L.length = M ∧ M ≤ Z.length ∧ ∀ i z, Z[i]? = some z → i < M → L[i]? = some (leafSU z)) := Lib.hid ⟨hL, hLM, by omega, fun i z hz hi => by rw [hL, List.getElem?_map, List.getElem?_take_of_lt hi, hz]; rfl⟩
  have HBW := Lib.hid hB
  have HZ := Lib.hid hz
  obtain ⟨pz, cz, rfl, hz1, hz2, hz3, hz4⟩ := hz
  obtain ⟨nz, hnz⟩ : ∃ n, n = Z.length := ⟨_, rfl⟩
  rw [← hnz] at HZ CF hz1 hz2 ⊢
  have HNN : Hid (nz = Z.length ∧ M = min Z.length 300) := Lib.hid ⟨hnz, hM⟩
  clear hB h0 hM hL hLM hz1 hz3 hz4 hnz hht
  go_enter Tryd.func4, Tryd.ntmps4
  go_upto_region 4 with (first
    | (go_at_call 15; with_reducible refine CK.out.mono ?_; rintro o w0 ⟨rfl, hb0⟩; have HB0 := Lib.hid hb0; clear hb0)
    | (go_at_call 16; with_reducible refine (CF.out _ HB0.out).mono ?_; rintro o w1 ⟨tb, rfl, hf⟩; have HF := Lib.hid hf; clear hf)
    | (go_at_call 8; with_reducible refine (new7_any _).mono ?_; rintro o w2 ⟨xb, v7, rfl, hx7, hxl, hb2⟩; have HX7 := Lib.hid hx7; have HXL := Lib.hid hxl; have HB2 := Lib.hid hb2; clear hx7 hxl hb2))
  have HI0 : Hid (St1 W w2 tb ht xb L (L.take 0)) := Lib.hid (by
    obtain ⟨ca, t, tl⟩ := HF.out.t
    rw [← HLM.out.1] at t
    have hW : Below W.heap.size W w1 := HB0.out.trans (HF.out.b.mono HB0.out.size)
    obtain ⟨oc, a⟩ := seI_first hW t (fun g hg => Nat.le_trans HB0.out.size (tl g hg)) HB2.out HX7.out HXL.out
    exact ⟨ca, oc, v7, a⟩)
  clear CK CF HF HX7 HXL HB2
  go_wp2_with fail
  go_loopw [17] (fun k wr => ∃ i : Nat, k = .int .i64 (i : Int) ∧ i ≤ M ∧ Hid (St1 W wr tb ht xb L (L.take i))) (fun k _ => M - (intOf k).toNat)
  case atStart => exact ⟨0, rfl, Nat.zero_le _, HI0⟩
  case round =>
    clear HI0
    obtain ⟨i, rfl, hi, HI⟩ := hrel
    by_cases hlt : i < M
    · have hli : (i : Int) < (nz : Int) := by have := HNN.out; omega
      have hl3 : (i : Int) < 300 := by omega
      have hi0 : (0 : Int) ≤ (i : Int) := by omega
      obtain ⟨z, hzi⟩ : ∃ z, Z[i]? = some z := ⟨Z[i]'(by have := HNN.out; omega), List.getElem?_eq_getElem _⟩
      obtain ⟨p', c', hpe, _, _, _, hq⟩ := ints_belowHK HZ.out HI.out.bl (Nat.le_refl _)
      obtain rfl : p' = pz := by cases hpe; rfl
      clear hpe
      obtain ⟨a, rfl, hcell⟩ := hq i z hzi
      have HX : Hid (L[i]? = some (leafSU z)) := Lib.hid (HLM.out.2.2.2 i z hzi hlt)
      obtain ⟨s, hs⟩ : ∃ s, s = leafSU z := ⟨_, rfl⟩
      have CL : Hid (∀ w3, Calls Tryd.prog 18 #[.int .i64 z] w3 fun e w' => e = .returned (.string s) ∧ Below w3.heap.size w3 w') := Lib.hid (fun w3 => by rw [hs]; exact leafU_any z w3)
      have HSZ : Hid (s.size = 32) := Lib.hid (by rw [hs]; exact leafSU_size z)
      rw [← hs] at HX
      have HLT := Lib.hid hlt
      have HL5 : Hid (L.length ≤ 4095) := Lib.hid (by have := HLM.out; omega)
      clear hlt hs hzi hq
      go_wp2_with (first
        | (go_at_call 18; with_reducible refine (CL.out _).mono ?_; rintro o w3 ⟨rfl, hb3⟩; have HS3 := Lib.hid (HI.out.below hb3); clear hb3)
        | (go_at_call 17; with_reducible refine (HS3.out.add HX.out HSZ.out HL5.out).mono ?_; rintro o w4 ⟨rfl, hs4⟩; have HS4 := Lib.hid hs4; clear hs4))
      exact ⟨⟨i + 1, by simp, HLT.out, HS4⟩, by show M - ((i : Int) + 1).toNat < M - (i : Int).toNat; have := HLT.out; omega⟩
    · obtain rfl : i = M := by omega
      obtain ⟨wl, hwl⟩ : ∃ x, x = wr := ⟨_, rfl⟩
      rw [← hwl] at HI ⊢
      clear hwl hlt
      have HS : Hid (St1 W wl tb ht xb L L) := Lib.hid (by
        have := HI.out
        rwa [List.take_of_length_le (by have := HLM.out; omega)] at this)
      obtain ⟨A, hA⟩ : ∃ A : List Int, A = [x2, x2, x3, x2, x2] := ⟨_, rfl⟩
      have HA := Lib.hid hA
      have hAL : A.length = 5 := by rw [hA]; rfl
      have hex : (¬ (i : Int) < (nz : Int)) ∨ ((i : Int) < (nz : Int) ∧ ¬ (i : Int) < 300) := by have := HNN.out; omega
      clear HI hA
      rcases hex with hex1 | ⟨hex1, hex2⟩
      all_goals
        go_upto_region 11 with fail
        have HSX0 : Hid (SSx W (wl.alloc (.cells #[.int .i64 x2, .int .i64 x2, .int .i64 x3, .int .i64 x2, .int .i64 x2] 3)) W.heap.size tb ht xb wl.heap.size 0 A L L (.slice none 0 0) (.slice none 0 0) [] []) := Lib.hid (by
          have := HS.out.ask [x2, x2, x3, x2, x2]
          rw [← HA.out] at this
          rw [HA.out] at this ⊢
          exact this)
        obtain ⟨wa, hwa⟩ : ∃ y, y = wl.alloc (.cells #[.int .i64 x2, .int .i64 x2, .int .i64 x3, .int .i64 x2, .int .i64 x2] 3) := ⟨_, rfl⟩
        obtain ⟨ab, hab⟩ : ∃ y, y = wl.heap.size := ⟨_, rfl⟩
        rw [← hwa, ← hab] at HSX0
        rw [← hwa, ← hab]
        clear hwa hab
        have HI2 : Hid (St2 W wa tb ht xb ab 0 0 A (.slice none 0 0) (.slice none 0 0) 0 0) := Lib.hid ⟨⟨L, [], [], HSX0.out, by have := HLM.out; omega, fun _ => by have := HLM.out; omega, fun h => by omega⟩, Nat.le_refl _, Nat.le_refl _⟩
        go_wp2_with fail
        go_loopw [19, 20, 21] (fun lv wv k wr => ∃ (j n : Nat) (pl pw : Option Addr) (cl cw : Nat), k = .int .i64 (j : Int) ∧ lv = .slice pl n cl ∧ wv = .slice pw n cw ∧ n = 2 * j ∧ j ≤ 5 ∧ Hid (St2 W wr tb ht xb ab n j A (.slice pl n cl) (.slice pw n cw) cl cw)) (fun _ _ k _ => 5 - (intOf k).toNat)
        case atStart => exact ⟨0, 0, none, none, 0, 0, rfl, rfl, rfl, rfl, Nat.zero_le _, HI2⟩
        case round =>
          clear HI2 HSX0
          obtain ⟨j, n, pl, pw, cl, cw, rfl, rfl, rfl, hn2, hj5, HI⟩ := hrel
          obtain ⟨⟨Lj, ls, ms, hsx, hl0, hl4, hl5⟩, hc1, hc2⟩ := HI.out
          have HX := Lib.hid hsx
          have HBR : Hid (Below W.heap.size W wr) := Lib.hid hsx.bl
          clear hsx HI
          by_cases hlt : j < 5
          · have hl4' := hl4 (by omega)
            obtain ⟨y, hy⟩ : ∃ y, A[j]? = some y := ⟨A[j]'(by omega), List.getElem?_eq_getElem _⟩
            have hl1 : (n + 2) * 24 ≤ 140737488355328 := by omega
            have hl2 : n + 2 ≤ 140737488355328 := by omega
            have HJ : Hid (n = 2 * j ∧ j < 5) := Lib.hid ⟨hn2, hlt⟩
            have hji : (j : Int) < 5 := by omega
            have hj0 : (0 : Int) ≤ (j : Int) := by omega
            by_cases h4 : j = 4
            · subst h4
              obtain ⟨s, hs⟩ : ∃ s, s = leafSU x4 := ⟨_, rfl⟩
              have CL : Hid (∀ w3, Calls Tryd.prog 18 #[.int .i64 x4] w3 fun e w' => e = .returned (.string s) ∧ Below w3.heap.size w3 w') := Lib.hid (fun w3 => by rw [hs]; exact leafU_any x4 w3)
              have HSZ : Hid (s.size = 32) := Lib.hid (by rw [hs]; exact leafSU_size x4)
              obtain ⟨L5, hL5⟩ : ∃ l, l = Lj ++ [s] := ⟨_, rfl⟩
              have hL5n : L5.length = Lj.length + 1 := by rw [hL5]; simp
              have HL5 : Hid (L5 = Lj ++ [s] ∧ Lj.length ≤ 300) := Lib.hid ⟨hL5, hl4'⟩
              clear hs hL5
              obtain ⟨E1, hE1⟩ : ∃ e, e = (inS L5 x1 y).1 := ⟨_, rfl⟩
              obtain ⟨P, hP⟩ : ∃ e, e = (inS L5 x1 y).2 := ⟨_, rfl⟩
              obtain ⟨E2, hE2⟩ : ∃ e, e = (coS L5 x1 y).1 := ⟨_, rfl⟩
              obtain ⟨Q, hQ⟩ : ∃ e, e = (coS L5 x1 y).2 := ⟨_, rfl⟩
              obtain ⟨np, hnp⟩ : ∃ e, e = P.length := ⟨_, rfl⟩
              obtain ⟨nq, hnq⟩ : ∃ e, e = Q.length := ⟨_, rfl⟩
              have HPQ : Hid (E1 = (inS L5 x1 y).1 ∧ P = (inS L5 x1 y).2 ∧ np = P.length ∧ E2 = (coS L5 x1 y).1 ∧ Q = (coS L5 x1 y).2 ∧ nq = Q.length ∧ P.length ≤ 4096 ∧ Q.length ≤ 4096 ∧ L5.length ≤ 301 ∧ 0 < L5.length + (4 - 4)) := Lib.hid ⟨hE1, hP, hnp, hE2, hQ, hnq, by rw [hP]; exact inS_len (by omega) x1 y, by rw [hQ]; exact coS_len (by omega) x1 y, by omega, by omega⟩
              have he1 : (E1 != E1) = false := by simp
              have he2 : (E2 != E2) = false := by simp
              have HY := Lib.hid hy
              clear hE1 hP hE2 hQ hnp hnq hy hl0 hl4 hl5 hn2 hlt
              clear hL5n hl4'
              go_upto_region 25 with (first
                | (go_at_call 18; with_reducible refine (CL.out _).mono ?_; rintro o z1 ⟨rfl, hb⟩; have HT1 := Lib.hid (HX.out.below hb); have HU1 : Hid (Below W.heap.size W z1) := Lib.hid HT1.out.bl; clear HX hb)
                | (go_at_call 19; with_reducible refine (HT1.out.addT (HBW.out.below HU1.out) HSZ.out (by have := HL5.out; omega)).mono ?_; rintro o z2 ⟨rfl, hs2⟩; have HT2 := Lib.hid hs2; clear hs2)
                | (go_at_call 18; with_reducible refine (CL.out _).mono ?_; rintro o z3 ⟨rfl, hb⟩; have HT3 := Lib.hid (HT2.out.below hb); clear HT2 hb)
                | (go_at_call 17; with_reducible refine (HT3.out.addX HSZ.out (by have := HL5.out; omega)).mono ?_; rintro o z4 ⟨rfl, hs4⟩; rw [← HL5.out.1] at hs4; have HT4 := Lib.hid hs4; have k0 := hs4.ask HY.out; have HBS : Hid (∀ w', Below z4.heap.size z4 w' → Bas w' W.heap.size) := Lib.hid (fun w' hb => HBW.out.below (hs4.bl.trans (hb.mono hs4.bl.size))); clear hs4)
                | (go_at_call 20; with_reducible refine (SSx.incl HT4.out x1 y HPQ.out.1 HPQ.out.2.1 HPQ.out.2.2.1 _ (Below.refl _ _)).mono ?_; rintro o y1 ⟨pp, cp, rfl, hf⟩; have HBx1 : Hid (Below z4.heap.size z4 y1) := Lib.hid hf.b; have F1 := Lib.hid hf; have k1 := HT4.out.below HBx1.out |>.ask HY.out; clear hf)
                | (go_at_call 21; with_reducible refine (SSx.cons HT4.out x1 y HPQ.out.2.2.2.1 HPQ.out.2.2.2.2.1 HPQ.out.2.2.2.2.2.1 _ HBx1.out).mono ?_; rintro o y2 ⟨pq, cq, rfl, hf⟩; have HBx2 : Hid (Below z4.heap.size z4 y2) := Lib.hid (HBx1.out.trans (hf.b.mono HBx1.out.size)); have F2 := Lib.hid hf; have k2 := HT4.out.below HBx2.out |>.ask HY.out; clear hf)
                | (go_at_call 22; with_reducible refine (SSx.sincl HT4.out HBS.out (by have := HPQ.out.2.2.2.2.2.2.2.2.1; omega) x1 y HPQ.out.1 HPQ.out.2.1 HPQ.out.2.2.1 _ HBx2.out).mono ?_; rintro o y3 ⟨pa, ca, rfl, hf⟩; have HBx3 : Hid (Below z4.heap.size z4 y3) := Lib.hid (HBx2.out.trans (hf.b.mono HBx2.out.size)); have F3 := Lib.hid hf; have k3 := HT4.out.below HBx3.out |>.ask HY.out; clear hf)
                | (go_at_call 23; with_reducible refine (SSx.scons HT4.out HBS.out (by have := HPQ.out.2.2.2.2.2.2.2.2.1; omega) x1 y HPQ.out.2.2.2.1 HPQ.out.2.2.2.2.1 HPQ.out.2.2.2.2.2.1 _ HBx3.out).mono ?_; rintro o y4 ⟨pb, cb, rfl, hf⟩; have HBx4 : Hid (Below z4.heap.size z4 y4) := Lib.hid (HBx3.out.trans (hf.b.mono HBx3.out.size)); have F4 := Lib.hid hf; clear hf))
              have HRD : Hid (Rd W y4 W.heap.size tb ht xb ab n A L5 (.slice pl n cl) (.slice pw n cw) (.slice pp np cp) (.slice pq nq cq) (.slice pa np ca) (.slice pb nq cb) P Q ls ms) := Lib.hid (Rd.mk' HT4.out F1.out F2.out F3.out F4.out HPQ.out.2.2.1 HPQ.out.2.2.2.2.2.1 HPQ.out.2.2.2.2.2.2.1 HPQ.out.2.2.2.2.2.2.2.1)
              have HLR := Lib.hid HRD.out.lr
              go_upto_region 27 with (first
                | (at_builtin; refine wpList_grew (v := .slice pl n cl) (l := ls.map (·.1)) rfl _ _ rfl Tryd.underlying35 (.slice none 0 0) 1 info_listO rfl (by decide) [.slice pa np ca, .slice pb nq cb] 2 (by simp [Act.eval]) (by simp [Act.eval]) HLR.out rfl rfl (by decide) (one_two _ _ _ _ _ _) hl1 hl2 ?_; intro v5 w5 hg5; obtain ⟨p5, c5, rfl, hk5, _⟩ := hg5.held.cells; have HG5 := Lib.hid hg5; have HWR := Lib.hid (HRD.out.wr hg5); have HK5 := Lib.hid hk5; clear hg5 hk5)
                | (at_builtin; refine wpList_grew (v := .slice pw n cw) (l := ms.map (·.1)) rfl _ _ rfl Tryd.underlying35 (.slice none 0 0) 1 info_listO rfl (by decide) [.slice pp np cp, .slice pq nq cq] 2 (by simp [Act.eval]) (by simp [Act.eval]) HWR.out rfl rfl (by decide) (one_two _ _ _ _ _ _) hl1 hl2 ?_; intro v6 w6 hg6; obtain ⟨p6, c6, rfl, hk6, _⟩ := hg6.held.cells; have HG6 := Lib.hid hg6; have HK6 := Lib.hid hk6; clear hg6 hk6))
              have HE : Hid (SSx W w6 W.heap.size tb ht xb ab (n + 2) A L5 L5 (.slice p5 (n + 2) c5) (.slice p6 (n + 2) c6) (ls ++ [(.slice pa np ca, P), (.slice pb nq cb, Q)]) (ms ++ [(.slice pp np cp, P), (.slice pq nq cq, Q)])) := Lib.hid (HRD.out.fin HG5.out HG6.out)
              clear HRD HLR HG5 HG6 HWR F1 F2 F3 F4
              go_wp2_with fail
              exact ⟨⟨4 + 1, n + 2, p5, p6, c5, c6, by simp, rfl, rfl, by have := HJ.out; omega, by have := HJ.out; omega, Lib.hid ⟨⟨L5, _, _, HE.out, HPQ.out.2.2.2.2.2.2.2.2.1, fun h => by omega, fun h => by have := HPQ.out.2.2.2.2.2.2.2.2.2; omega⟩, HK5.out, HK6.out⟩⟩, by show 5 - (((4 : Nat) : Int) + 1).toNat < 5 - ((4 : Nat) : Int).toNat; have := HJ.out; omega⟩
            · have hne : ¬ (j : Int) = 4 := by omega
              have HJ4 : Hid (j < 4) := Lib.hid (by omega)
              have HL4 := Lib.hid hl4'
              clear h4
              obtain ⟨E1, hE1⟩ : ∃ e, e = (inS Lj x1 y).1 := ⟨_, rfl⟩
              obtain ⟨P, hP⟩ : ∃ e, e = (inS Lj x1 y).2 := ⟨_, rfl⟩
              obtain ⟨E2, hE2⟩ : ∃ e, e = (coS Lj x1 y).1 := ⟨_, rfl⟩
              obtain ⟨Q, hQ⟩ : ∃ e, e = (coS Lj x1 y).2 := ⟨_, rfl⟩
              obtain ⟨np, hnp⟩ : ∃ e, e = P.length := ⟨_, rfl⟩
              obtain ⟨nq, hnq⟩ : ∃ e, e = Q.length := ⟨_, rfl⟩
              have HPQ : Hid (E1 = (inS Lj x1 y).1 ∧ P = (inS Lj x1 y).2 ∧ np = P.length ∧ E2 = (coS Lj x1 y).1 ∧ Q = (coS Lj x1 y).2 ∧ nq = Q.length ∧ P.length ≤ 4096 ∧ Q.length ≤ 4096 ∧ Lj.length ≤ 301 ∧ 0 < Lj.length + (5 - j)) := Lib.hid ⟨hE1, hP, hnp, hE2, hQ, hnq, by rw [hP]; exact inS_len (by omega) x1 y, by rw [hQ]; exact coS_len (by omega) x1 y, by omega, by omega⟩
              have he1 : (E1 != E1) = false := by simp
              have he2 : (E2 != E2) = false := by simp
              have HY := Lib.hid hy
              clear hE1 hP hE2 hQ hnp hnq hy hl0 hl4 hl5 hn2 hlt
              clear hl4'
              have k0 := HX.out.ask HY.out
              have HBS : Hid (∀ w', Below wr.heap.size wr w' → Bas w' W.heap.size) := Lib.hid (fun w' hb => HBW.out.below (HBR.out.trans (hb.mono HBR.out.size)))
              go_upto_region 25 with (first
                | (go_at_call 20; with_reducible refine (SSx.incl HX.out x1 y HPQ.out.1 HPQ.out.2.1 HPQ.out.2.2.1 _ (Below.refl _ _)).mono ?_; rintro o y1 ⟨pp, cp, rfl, hf⟩; have HBx1 : Hid (Below wr.heap.size wr y1) := Lib.hid hf.b; have F1 := Lib.hid hf; have k1 := HX.out.below HBx1.out |>.ask HY.out; clear hf)
                | (go_at_call 21; with_reducible refine (SSx.cons HX.out x1 y HPQ.out.2.2.2.1 HPQ.out.2.2.2.2.1 HPQ.out.2.2.2.2.2.1 _ HBx1.out).mono ?_; rintro o y2 ⟨pq, cq, rfl, hf⟩; have HBx2 : Hid (Below wr.heap.size wr y2) := Lib.hid (HBx1.out.trans (hf.b.mono HBx1.out.size)); have F2 := Lib.hid hf; have k2 := HX.out.below HBx2.out |>.ask HY.out; clear hf)
                | (go_at_call 22; with_reducible refine (SSx.sincl HX.out HBS.out (by have := HPQ.out.2.2.2.2.2.2.2.2.1; omega) x1 y HPQ.out.1 HPQ.out.2.1 HPQ.out.2.2.1 _ HBx2.out).mono ?_; rintro o y3 ⟨pa, ca, rfl, hf⟩; have HBx3 : Hid (Below wr.heap.size wr y3) := Lib.hid (HBx2.out.trans (hf.b.mono HBx2.out.size)); have F3 := Lib.hid hf; have k3 := HX.out.below HBx3.out |>.ask HY.out; clear hf)
                | (go_at_call 23; with_reducible refine (SSx.scons HX.out HBS.out (by have := HPQ.out.2.2.2.2.2.2.2.2.1; omega) x1 y HPQ.out.2.2.2.1 HPQ.out.2.2.2.2.1 HPQ.out.2.2.2.2.2.1 _ HBx3.out).mono ?_; rintro o y4 ⟨pb, cb, rfl, hf⟩; have HBx4 : Hid (Below wr.heap.size wr y4) := Lib.hid (HBx3.out.trans (hf.b.mono HBx3.out.size)); have F4 := Lib.hid hf; clear hf))
              have HRD : Hid (Rd W y4 W.heap.size tb ht xb ab n A Lj (.slice pl n cl) (.slice pw n cw) (.slice pp np cp) (.slice pq nq cq) (.slice pa np ca) (.slice pb nq cb) P Q ls ms) := Lib.hid (Rd.mk' HX.out F1.out F2.out F3.out F4.out HPQ.out.2.2.1 HPQ.out.2.2.2.2.2.1 HPQ.out.2.2.2.2.2.2.1 HPQ.out.2.2.2.2.2.2.2.1)
              have HLR := Lib.hid HRD.out.lr
              go_upto_region 27 with (first
                | (at_builtin; refine wpList_grew (v := .slice pl n cl) (l := ls.map (·.1)) rfl _ _ rfl Tryd.underlying35 (.slice none 0 0) 1 info_listO rfl (by decide) [.slice pa np ca, .slice pb nq cb] 2 (by simp [Act.eval]) (by simp [Act.eval]) HLR.out rfl rfl (by decide) (one_two _ _ _ _ _ _) hl1 hl2 ?_; intro v5 w5 hg5; obtain ⟨p5, c5, rfl, hk5, _⟩ := hg5.held.cells; have HG5 := Lib.hid hg5; have HWR := Lib.hid (HRD.out.wr hg5); have HK5 := Lib.hid hk5; clear hg5 hk5)
                | (at_builtin; refine wpList_grew (v := .slice pw n cw) (l := ms.map (·.1)) rfl _ _ rfl Tryd.underlying35 (.slice none 0 0) 1 info_listO rfl (by decide) [.slice pp np cp, .slice pq nq cq] 2 (by simp [Act.eval]) (by simp [Act.eval]) HWR.out rfl rfl (by decide) (one_two _ _ _ _ _ _) hl1 hl2 ?_; intro v6 w6 hg6; obtain ⟨p6, c6, rfl, hk6, _⟩ := hg6.held.cells; have HG6 := Lib.hid hg6; have HK6 := Lib.hid hk6; clear hg6 hk6))
              have HE : Hid (SSx W w6 W.heap.size tb ht xb ab (n + 2) A Lj Lj (.slice p5 (n + 2) c5) (.slice p6 (n + 2) c6) (ls ++ [(.slice pa np ca, P), (.slice pb nq cb, Q)]) (ms ++ [(.slice pp np cp, P), (.slice pq nq cq, Q)])) := Lib.hid (HRD.out.fin HG5.out HG6.out)
              clear HRD HLR HG5 HG6 HWR F1 F2 F3 F4
              go_wp2_with fail
              exact ⟨⟨j + 1, n + 2, p5, p6, c5, c6, by simp, rfl, rfl, by have := HJ.out; omega, by have := HJ.out; omega, Lib.hid ⟨⟨Lj, _, _, HE.out, HPQ.out.2.2.2.2.2.2.2.2.1, fun h => HL4.out, fun h => by have := HJ4.out; omega⟩, HK5.out, HK6.out⟩⟩, by show 5 - (((j : Nat) : Int) + 1).toNat < 5 - ((j : Nat) : Int).toNat; have := HJ.out; omega⟩
          · have hj5e : 5 ≤ j := by omega
            have hji : ¬ (j : Int) < 5 := by omega
            obtain rfl : n = 10 := by omega
            obtain ⟨wm, hwm⟩ : ∃ x, x = wr := ⟨_, rfl⟩
            rw [← hwm] at HX HBR ⊢
            have HLJ : Hid (0 < Lj.length ∧ Lj.length ≤ 301) := Lib.hid ⟨hl5 hj5e, hl0⟩
            have hc1' : (10 : Nat) ≤ cl := hc1
            clear hwm hlt hn2 hj5 hl0 hl4 hl5 hj5e
            go_wp2_with fail
            go_loopw [32] (fun k wr => ∃ i : Nat, k = .int .i64 (i : Int) ∧ i ≤ 10 ∧ Hid (Below wm.heap.size wm wr)) (fun k _ => 10 - (intOf k).toNat)
            case atStart => exact ⟨0, rfl, Nat.zero_le _, Lib.hid (Below.refl _ _)⟩
            case round =>
              obtain ⟨i, rfl, hi10, HBr⟩ := hrel
              by_cases hlt : i < 10
              · have hli : (i : Int) < 10 := by omega
                have hi0 : (0 : Int) ≤ (i : Int) := by omega
                obtain ⟨p', c', q', d', xa, ya, va, vb, P, e1, _, e2, _, e3, e4, kc1, kc2, ht1, ht2, hP⟩ := (HX.out.below HBr.out).at hlt
                obtain rfl : pl = p' := by cases e1; rfl
                obtain rfl : pw = q' := by cases e2; rfl
                subst e3 e4
                clear e1 e2
                have CS : Hid (∀ w3, Below wr.heap.size wr w3 → Calls Tryd.prog 24 #[va, vb] w3 fun e w' => e = .returned (.bool true) ∧ Below w3.heap.size w3 w') := Lib.hid (fun w3 hb => by
                  have := sameU_any va vb P P w3 (ht1.below hb (Nat.le_refl _)) (ht2.below hb (Nat.le_refl _)) (by omega) (by omega)
                  rwa [decide_eq_true rfl] at this)
                have HCELL : Hid (∀ w', Below wr.heap.size wr w' → w'.cell? (xa.add i) = some va ∧ w'.cell? (ya.add i) = some vb) := Lib.hid (fun w' hb => ⟨(hb.cell (block_lt_of_cell kc1)).trans kc1, (hb.cell (block_lt_of_cell kc2)).trans kc2⟩)
                have HLT := Lib.hid hlt
                obtain ⟨pa, ca, hva, _⟩ := ht1
                obtain ⟨pb, cb, hvb, _⟩ := ht2
                obtain ⟨np, hnp⟩ : ∃ e, e = P.length := ⟨_, rfl⟩
                rw [← hnp] at hva hvb
                subst hva hvb
                clear hlt hP kc1 kc2 hnp
                have HT3 := Lib.hid (HCELL.out wr.drew ((Below.refl wr.heap.size wr).drew))
                go_upto_region 32 with fail
                go_region_held3 (fun w' => w'.cell? (xa.add i) = some (.slice pa np ca) ∧ w'.cell? (ya.add i) = some (.slice pb np cb)) (first | exact HS3.out | exact HT3.out) (first
                  | (go_at_call 24; (with_reducible refine (CS.out _ ((Below.refl wr.heap.size wr).drew)).mono ?_); rintro o w3 ⟨rfl, hb⟩; have HB3 : Hid (Below wr.heap.size wr w3) := Lib.hid (((Below.refl wr.heap.size wr).drew).trans hb); have HS3 := Lib.hid (HCELL.out w3 HB3.out); clear hb))
                go_wp2_with fail
                exact ⟨⟨i + 1, by simp, HLT.out, Lib.hid (HBr.out.trans (HB3.out.mono HBr.out.size))⟩, by show 10 - ((i : Int) + 1).toNat < 10 - (i : Int).toNat; have := HLT.out; omega⟩
              · have hli : ¬ (i : Int) < 10 := by omega
                have CO := Lib.hid ((HX.out.below HBr.out).own (by omega))
                obtain ⟨m5, hm5⟩ : ∃ e, e = Lj.length := ⟨_, rfl⟩
                obtain ⟨rr, hrr⟩ : ∃ e, e = partL Lj 0 m5 := ⟨_, rfl⟩
                have HM5 : Hid (m5 = Lj.length ∧ rr = partL Lj 0 m5) := Lib.hid ⟨hm5, hrr⟩
                have C1 : Hid (∀ w' co, TreeU w' W.heap.size tb ht Lj co → Calls Tryd.prog 11 #[bpT tb] w' fun o w2 => o = .returned (.int .i64 (m5 : Int)) ∧ w2 = w') := Lib.hid (fun w' co t => by rw [hm5]; exact size_any t.t)
                have C2 : Hid (∀ w' co, TreeU w' W.heap.size tb ht Lj co → Below W.heap.size W w' → Calls Tryd.prog 12 #[bpT tb, .int .i64 (m5 : Int)] w' fun o w2 => o = .returned (.tuple #[.string rr, .int .i64 0]) ∧ Below w'.heap.size w' w2) := Lib.hid (fun w' co t hb => by rw [hrr]; exact troot_any t (HBW.out.below hb) (by omega))
                have C3 : Hid (∀ w' v, D7I w' xb 1 Lj v → Calls Tryd.prog 27 #[.pointer (some ⟨xb, 0, none⟩)] w' fun o w2 => o = .returned (.int .i64 (m5 : Int)) ∧ w2 = w') := Lib.hid (fun w' v t => by rw [hm5]; exact size7_any t)
                have C4 : Hid (∀ w' v, D7I w' xb 1 Lj v → Calls Tryd.prog 26 #[.pointer (some ⟨xb, 0, none⟩), .int .i64 (m5 : Int)] w' fun o w2 => o = .returned (.tuple #[.string rr, .int .i64 0]) ∧ Below w'.heap.size w' w2) := Lib.hid (fun w' v t => by rw [hrr]; exact root7_any t (by have := HLJ.out; omega) (by omega))
                have hrs : (rr.toList == rr.toList) = true := textU_same rr
                clear hlt hm5 hrr
                go_wp2_with (first
                  | (go_at_call 25; with_reducible refine CO.out.mono ?_; rintro o z1 ⟨rfl, hb, ⟨co, ht⟩, v7, hx⟩; have HB1 := Lib.hid hb; have HT1 := Lib.hid ht; have HX1 := Lib.hid hx; clear hb ht hx)
                  | (go_at_call 11; with_reducible refine (C1.out _ _ HT1.out).mono ?_; rintro o w' ⟨rfl, hww⟩; replace hww := hww.symm; subst hww)
                  | (go_at_call 12; with_reducible refine (C2.out _ _ HT1.out HB1.out).mono ?_; rintro o z2 ⟨rfl, hb⟩; have HB2 : Hid (Below W.heap.size W z2) := Lib.hid (HB1.out.trans (hb.mono HB1.out.size)); have HX2 := Lib.hid (HX1.out.below hb); clear hb)
                  | (go_at_call 27; with_reducible refine (C3.out _ _ HX2.out).mono ?_; rintro o w' ⟨rfl, hww⟩; replace hww := hww.symm; subst hww)
                  | (go_at_call 26; with_reducible refine (C4.out _ _ HX2.out).mono ?_; rintro o z3 ⟨rfl, hb⟩; have HB3 : Hid (Below W.heap.size W z3) := Lib.hid (HB2.out.trans (hb.mono HB2.out.size)); clear hb))
                go_ret
                exact ⟨rfl, HB3.out⟩
end Go.Proofs.YtafookdllnhdaaaDoor
