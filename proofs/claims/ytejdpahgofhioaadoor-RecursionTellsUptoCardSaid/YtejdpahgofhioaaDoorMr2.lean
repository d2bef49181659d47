/- The document's Many, walked. -/
import Derived.Test.YtejdpahgofhioaaDoorMr1
import Derived.Test.YtejdpahgofhioaaDoorHel0
namespace Go.Proofs.YtejdpahgofhioaaDoor
open Go.RowKit Go.Scr
set_option linter.unusedVariables false

theorem manyr_zero (n : Nat) (L : List ByteArray) (p : Option Addr) (c : Nat) (v : Value) (Z : List Int) (w : World) (h1 : Txts w (.slice p n c) L) (h2 : L.length = n) (h3 : 1 ≤ n) (h4 : n ≤ 1048576) (h5 : Ints w v Z) (h6 : Z.length ≤ 1048576) :
    Calls Tryd.prog 81 #[.int .i64 0, .slice p n c, v] w fun e w' => ∃ x, e = .returned x ∧ w'.ownsRow w.heap.size 9 1 x (manyZ 0 L Z).length ((manyZ 0 L Z).map Value.string) ∧ Below w.heap.size w w' :=
  manyr_any n 0 L p c v Z w h1 h2 h3 (by omega) h5 h6

set_option maxRecDepth 100000 in
set_option maxHeartbeats 2000000 in
theorem Manyr_any (v zv : Value) (L : List ByteArray) (Z : List Int) (w : World) (hv : Txts w v L) (hz : Ints w zv Z) (hzl : Z.length ≤ 1048576) :
    Calls Tryd.prog 30 #[v, zv] w fun e w' => ∃ x, e = .returned (.tuple #[x, .int .i64 (manyE L Z)]) ∧ w'.ownsRow w.heap.size 9 1 x (manyT L Z).length ((manyT L Z).map Value.string) ∧ Below w.heap.size w w' := by
  have HV := Lib.hid hv
  have HZ := Lib.hid hz
  have HR := Lib.hid (wrongr_any v L w hv)
  obtain ⟨p, c, rfl, hv1, hv2, hv3⟩ := hv
  obtain ⟨q, cq, rfl, hz1, hz2, hzb, hz3⟩ := hz
  obtain ⟨n, hn⟩ : ∃ n, n = L.length := ⟨_, rfl⟩
  obtain ⟨m, hm⟩ : ∃ m, m = Z.length := ⟨_, rfl⟩
  rw [← hn] at HV HR hv1 hv2 ⊢
  rw [← hm] at HZ hz1 hzl ⊢
  have HN := Lib.hid hn
  have HM := Lib.hid hm
  have HZ3 := Lib.hid hz3
  have HZB := Lib.hid hzb
  obtain ⟨E, hE⟩ : ∃ E, E = refusedE L := ⟨_, rfl⟩
  rw [← hE] at HR
  by_cases h0 : E = 0
  · have hlen : n ≤ 4096 := by
      rcases Nat.lt_or_ge 4096 n with h | h
      · exfalso
        have : refusedE L = 31 := by unfold refusedE; rw [if_pos (by omega)]
        omega
      · exact h
    have HBAD : Hid (wrongZ n Z = true → manyE L Z = 30 ∧ manyT L Z = []) := Lib.hid (fun hB => by
      have hme : manyE L Z = 30 := by unfold manyE; rw [← hE, if_neg (by omega), ← hn, hB]; rfl
      exact ⟨hme, by unfold manyT; rw [hme]; rfl⟩)
    have HGOOD : Hid (wrongZ n Z = false → manyE L Z = 0 ∧ manyT L Z = manyZ 0 L Z) := Lib.hid (fun hB => by
      have hme : manyE L Z = 0 := by unfold manyE; rw [← hE, if_neg (by omega), ← hn, hB]; rfl
      exact ⟨hme, by unfold manyT; rw [hme]; rfl⟩)
    subst h0
    clear hE hn hm hv1 hv2 hv3 hz1 hz2 hzb hz3
    by_cases hm0 : m = 0
    · have hmi : ((m : Int) == 0) = true := beq_iff_eq.2 (by omega)
      have HB := Lib.hid (HBAD.out (by unfold wrongZ; rw [decide_eq_true (show Z.length = 0 by have := HM.out; omega)]; simp))
      clear hm0
      go_enter Tryd.func30, Tryd.ntmps30
      go_wp2_with (go_at_call 70; with_reducible refine (HR.out).mono ?_; rintro e wx ⟨rfl, hw⟩; rw [hw]; clear hw wx)
      go_ret2
      exact ⟨_, by rw [HB.out.1]; rfl, by rw [HB.out.2]; exact World.ownsRow_nil _ _ _ _, Below.refl _ _⟩
    have hmi : ((m : Int) == 0) = false := beq_eq_false_iff_ne.2 (by omega)
    by_cases hm256 : 256 < m
    · have hmb : (256 : Int) < (m : Int) := by omega
      have HB := Lib.hid (HBAD.out (by unfold wrongZ; rw [decide_eq_true (show 256 < Z.length by have := HM.out; omega)]; simp))
      clear hm256
      go_enter Tryd.func30, Tryd.ntmps30
      go_wp2_with (go_at_call 70; with_reducible refine (HR.out).mono ?_; rintro e wx ⟨rfl, hw⟩; rw [hw]; clear hw wx)
      go_ret2
      exact ⟨_, by rw [HB.out.1]; rfl, by rw [HB.out.2]; exact World.ownsRow_nil _ _ _ _, Below.refl _ _⟩
    have hmb : ¬ (256 : Int) < (m : Int) := by omega
    have HOKB : Hid (okZ n (-1) Z = false → wrongZ n Z = true) := Lib.hid (fun h => by unfold wrongZ; rw [h]; rfl)
    have HOKG : Hid (okZ n (-1) Z = true → wrongZ n Z = false) := Lib.hid (fun h => by
      unfold wrongZ
      rw [h, decide_eq_false (show ¬ Z.length = 0 by have := HM.out; omega), decide_eq_false (show ¬ 256 < Z.length by have := HM.out; omega)]
      rfl)
    have HM0 := Lib.hid hm0
    clear hm0 hm256
    go_enter Tryd.func30, Tryd.ntmps30
    go_wp2_with (go_at_call 70; with_reducible refine (HR.out).mono ?_; rintro e wx ⟨rfl, hw⟩; rw [hw]; clear hw wx)
    go_loopw [7] (fun y wr => ∃ i : Nat, i ≤ m ∧ y = .int .i64 i ∧ Hid (Below w.heap.size w wr ∧ ∃ last : Int, okZ n (-1) Z = okZ n last (Z.drop i) ∧ -1 ≤ last ∧ (i = 0 → last = -1) ∧ ∀ j, i = j + 1 → Z[j]? = some last)) (fun y _ => m - (intOf y).toNat)
    case atStart => exact ⟨0, by omega, rfl, Lib.hid ⟨Below.refl _ _, -1, by rw [List.drop_zero], by omega, fun _ => rfl, fun j h => by omega⟩⟩
    case round =>
      obtain ⟨i, hi, rfl, hinv⟩ := hrel
      obtain ⟨hbl, last, g1, g2, g3, g4⟩ := hinv.out
      have HBL := Lib.hid hbl
      have G1 := Lib.hid g1
      have G3 := Lib.hid g3
      have G4 := Lib.hid g4
      clear hinv hbl g1 g3 g4
      by_cases hlt : i < m
      · have hlti : (i : Int) < (m : Int) := by omega
        have hi0 : (0 : Int) ≤ (i : Int) := by omega
        obtain ⟨z, hz⟩ : ∃ z, Z[i]? = some z := ⟨Z[i]'(by have := HM.out; omega), List.getElem?_eq_getElem _⟩
        obtain ⟨a, rfl, hc0⟩ := HZ3.out i z hz
        have hc : wr.cell? (a.add i) = some (.int .i64 z) := (HBL.out.cell (block_lt_of_cell hc0)).trans hc0
        have hst := G1.out.trans (okZ_step hz)
        have HST := Lib.hid hst
        have HLT := Lib.hid hlt
        have HZI := Lib.hid hz
        have HBD := Lib.hid (below_drew (Below.refl wr.drew.heap.size wr.drew))
        have hib : i ≤ 1048576 := by omega
        clear hz hst hlt hc0
        by_cases h1 : z < 0
        · have HB := Lib.hid (HBAD.out (HOKB.out (by rw [HST.out, decide_eq_false (show ¬ last < z by omega)]; rfl)))
          go_upto_region 9 with fail
          go_quiet (fail)
          go_wp2
          go_ret2
          exact ⟨_, by rw [HB.out.1]; rfl, by rw [HB.out.2]; exact World.ownsRow_nil _ _ _ _, below_drewN HBL.out _⟩
        by_cases h2 : (n : Int) ≤ z
        · have HB := Lib.hid (HBAD.out (HOKB.out (by rw [HST.out, decide_eq_false (show ¬ z < (n : Int) by omega), Bool.and_false]; rfl)))
          go_upto_region 9 with fail
          go_quiet (fail)
          go_wp2
          go_ret2
          exact ⟨_, by rw [HB.out.1]; rfl, by rw [HB.out.2]; exact World.ownsRow_nil _ _ _ _, below_drewN HBL.out _⟩
        by_cases h3 : 0 < i
        · have h3i : (0 : Int) < (i : Int) := by omega
          obtain ⟨j, hj⟩ : ∃ j, i = j + 1 := ⟨i - 1, by omega⟩
          obtain ⟨a', ha', hcj0⟩ := HZ3.out j last (G4.out j hj)
          cases ha'
          have hcj : wr.cell? (a.add j) = some (.int .i64 last) := (HBL.out.cell (block_lt_of_cell hcj0)).trans hcj0
          have hij : (i : Int) - 1 = (j : Int) := by omega
          have hj0 : (0 : Int) ≤ (j : Int) := by omega
          have hjm : (j : Int) < (m : Int) := by omega
          clear hcj0 hj
          by_cases h4 : z ≤ last
          · have HB := Lib.hid (HBAD.out (HOKB.out (by rw [HST.out, decide_eq_false (show ¬ last < z by omega)]; rfl)))
            go_upto_region 9 with fail
            go_quiet (fail)
            go_wp2
            go_ret2
            exact ⟨_, by rw [HB.out.1]; rfl, by rw [HB.out.2]; exact World.ownsRow_nil _ _ _ _, below_drewN HBL.out _⟩
          · go_upto_region 9 with fail
            go_quiet (fail)
            go_wp2
            exact ⟨⟨i + 1, by have := HLT.out; omega, rfl, Lib.hid ⟨below_drewN HBL.out _, z, by rw [HST.out, decide_eq_true (show last < z by omega), decide_eq_true (show z < (n : Int) by omega)]; rfl, by omega, fun h => by omega, fun j h => by have e : j = i := (by omega); rw [e]; exact HZI.out⟩⟩, (by show m - ((i : Int) + 1).toNat < m - (i : Int).toNat; have := HLT.out; omega)⟩
        · have h3i : ¬ (0 : Int) < (i : Int) := by omega
          have hlast := G3.out (by omega)
          go_upto_region 9 with fail
          go_quiet (fail)
          go_wp2
          exact ⟨⟨i + 1, by have := HLT.out; omega, rfl, Lib.hid ⟨below_drewN HBL.out _, z, by rw [HST.out, decide_eq_true (show last < z by omega), decide_eq_true (show z < (n : Int) by omega)]; rfl, by omega, fun h => by omega, fun j h => by have e : j = i := (by omega); rw [e]; exact HZI.out⟩⟩, (by show m - ((i : Int) + 1).toNat < m - (i : Int).toNat; have := HLT.out; omega)⟩
      · have hlti : ¬ ((i : Int) < (m : Int)) := by omega
        have hok : okZ n (-1) Z = true := by
          rw [G1.out, List.drop_eq_nil_of_le (by have := HM.out; omega)]
          rfl
        have HG := Lib.hid (HGOOD.out (HOKG.out hok))
        have hn1 : 1 ≤ n := by
          obtain ⟨z, hzz⟩ : ∃ z, Z[0]? = some z := ⟨Z[0]'(by have := HM.out; have := HM0.out; omega), List.getElem?_eq_getElem _⟩
          have := okZ_bound Z _ hok z (List.mem_of_getElem? hzz)
          omega
        have HC := Lib.hid (manyr_zero n L p c (.slice q m cq) Z wr (HV.out.below HBL.out (Nat.le_refl _)) HN.out.symm hn1 (by omega) (ints_below HZ.out HBL.out (Nat.le_refl _)) (by rw [← HM.out]; exact hzl))
        clear hlt hok hn1
        go_wp2_with (go_at_call 81; with_reducible refine (HC.out).mono ?_; rintro e w4 ⟨x, rfl, hown, hb⟩; have HB4 := Lib.hid hb; have HO4 := Lib.hid hown; clear hb hown)
        go_ret2
        exact ⟨_, by rw [HG.out.1]; rfl, by rw [HG.out.2]; exact owns_le HO4.out HBL.out.size, below_from HBL.out HB4.out HBL.out.size⟩
  · have hme : manyE L Z = E := by unfold manyE; rw [← hE, if_pos h0]
    have hmt : manyT L Z = [] := by unfold manyT; rw [hme, if_neg h0]
    have HME := Lib.hid hme
    have HMT := Lib.hid hmt
    clear hE hn hm hv1 hv2 hv3 hz1 hz2 hzb hz3 hme hmt
    go_enter Tryd.func30, Tryd.ntmps30
    go_wp2_with (go_at_call 70; with_reducible refine (HR.out).mono ?_; rintro e wx ⟨rfl, hw⟩; rw [hw]; clear hw wx)
    go_ret2
    exact ⟨_, by rw [HME.out]; rfl, by rw [HMT.out]; exact World.ownsRow_nil _ _ _ _, Below.refl _ _⟩
/-- a clipped answer, as one that lies at the beginning of its block -/
theorem held_clip {w : World} {B T n cl : Nat} {pl : Option Addr} {xs : List Value} (h : w.ownsRow B T 1 (.slice pl n cl) n xs) : Held w T 1 (.slice pl n n) n xs ∧ ∀ g, (Value.slice pl n n).ownBlock = some g → B ≤ g := by
  obtain ⟨h1, h2⟩ := h
  rcases h2 with ⟨he, h0⟩ | ⟨g, cap, cur, he, hB, hg, h3, h4, h5, h6⟩
  · simp only [Value.slice.injEq] at he
    obtain ⟨rfl, rfl, _⟩ := he
    exact ⟨⟨h1, .inl ⟨rfl, rfl⟩⟩, fun g hg => by cases hg⟩
  · simp only [Value.slice.injEq] at he
    obtain ⟨rfl, _, _⟩ := he
    exact ⟨⟨h1, .inr ⟨g, n, cur, rfl, hg, Nat.le_refl _, by omega, by omega, h6⟩⟩, fun g' hg' => by cases hg'; exact hB⟩
end Go.Proofs.YtejdpahgofhioaaDoor
