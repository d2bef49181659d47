/- Layer 3, walked: Split of both, parts. -/
import Derived.Test.YtdbghgpohdijfaaDoorMa12
import Derived.Test.YtdbghgpohdijfaaDoorMa3
import Derived.Test.YtdbghgpohdijfaaDoorMa11
import Derived.Deep.RegionHeld3
import Derived.IntWalk
namespace Go.Proofs.YtdbghgpohdijfaaDoor
open Go.RowKit Go.Scr
set_option linter.unusedVariables false

def splitS (n : Int) : Int := if n < 2 then 0 else ((spl n.toNat : Nat) : Int)
theorem splitS_nat {n : Nat} (h : 2 ≤ n) : splitS n = ((spl n : Nat) : Int) := by unfold splitS; rw [if_neg (by omega), Int.toNat_natCast]

set_option maxRecDepth 100000 in
set_option maxHeartbeats 400000 in
theorem split_any (z : Int) (w : World) (hz : z ≤ 9223372036854775807) :
    Calls Tryd.prog 118 #[.int .i64 z] w fun e w' => e = .returned (.int .i64 (splitS z)) ∧ w' = w := by
  by_cases h2 : z < 2
  · have e1 : splitS z = 0 := if_pos h2
    rw [e1]
    clear e1
    go_enter Tryd.func118, Tryd.ntmps118
    go_wp2
    go_ret
    exact ⟨rfl, rfl⟩
  · obtain ⟨n, rfl⟩ : ∃ n : Nat, z = n := ⟨z.toNat, by omega⟩
    rw [splitS_nat (by omega)]
    obtain ⟨R, hR⟩ : ∃ R, R = spl n := ⟨_, rfl⟩
    rw [← hR]
    have HR := Lib.hid (show splF 1 n = R from hR.symm)
    have hn : n ≤ 9223372036854775807 := by omega
    clear hR hz
    go_enter Tryd.func118, Tryd.ntmps118
    go_wp2
    go_loop [3] (fun v => ∃ k : Nat, 0 < k ∧ k < n ∧ v = .int .i64 k ∧ Hid (splF k n = R)) (fun v => 9223372036854775807 - (intOf v).toNat)
    case atStart => exact ⟨1, by decide, by omega, rfl, HR⟩
    case round =>
      obtain ⟨k, hk0, hkn, rfl, HS⟩ := hrel
      have hnk : (0 : Int) ≤ (n : Int) - (k : Int) := by omega
      by_cases hlt : 2 * k < n
      · have h1 : (k : Int) < (n : Int) - (k : Int) := by omega
        have HS2 := Lib.hid ((splF_spl hk0 hlt).trans HS.out)
        obtain ⟨k2, hk2⟩ : ∃ k2, k2 = 2 * k := ⟨_, rfl⟩
        have hk2i : (k : Int) * 2 = (k2 : Int) := by omega
        have hk2b : k2 ≤ 9223372036854775807 := by omega
        have hk2n : k2 < n := by omega
        rw [← hk2] at HS2
        have hkk : k < k2 := by omega
        clear hlt hk2
        go_wp2
        exact ⟨⟨k2, by omega, hk2n, rfl, HS2⟩, (by show 9223372036854775807 - (k2 : Int).toNat < 9223372036854775807 - (k : Int).toNat; omega)⟩
      · have h1 : ¬ ((k : Int) < (n : Int) - (k : Int)) := by omega
        have HS2 := Lib.hid ((splF_end hlt).symm.trans HS.out)
        clear hlt
        go_wp2
        go_ret
        exact ⟨by rw [HS2.out]; rfl, rfl⟩
set_option maxRecDepth 100000 in
set_option maxHeartbeats 400000 in
theorem splitr_any (z : Int) (w : World) (hz : z ≤ 9223372036854775807) :
    Calls Tryd.prog 125 #[.int .i64 z] w fun e w' => e = .returned (.int .i64 (splitS z)) ∧ w' = w := by
  by_cases h2 : z < 2
  · have e1 : splitS z = 0 := if_pos h2
    rw [e1]
    clear e1
    go_enter Tryd.func125, Tryd.ntmps125
    go_wp2
    go_ret
    exact ⟨rfl, rfl⟩
  · obtain ⟨n, rfl⟩ : ∃ n : Nat, z = n := ⟨z.toNat, by omega⟩
    rw [splitS_nat (by omega)]
    obtain ⟨R, hR⟩ : ∃ R, R = spl n := ⟨_, rfl⟩
    rw [← hR]
    have HR := Lib.hid (show splF 1 n = R from hR.symm)
    have hn : n ≤ 9223372036854775807 := by omega
    clear hR hz
    go_enter Tryd.func125, Tryd.ntmps125
    go_wp2
    go_loop [3] (fun v => ∃ k : Nat, 0 < k ∧ k < n ∧ v = .int .i64 k ∧ Hid (splF k n = R)) (fun v => 9223372036854775807 - (intOf v).toNat)
    case atStart => exact ⟨1, by decide, by omega, rfl, HR⟩
    case round =>
      obtain ⟨k, hk0, hkn, rfl, HS⟩ := hrel
      have hnk : (0 : Int) ≤ (n : Int) - (k : Int) := by omega
      by_cases hlt : 2 * k < n
      · have h1 : (k : Int) < (n : Int) - (k : Int) := by omega
        have HS2 := Lib.hid ((splF_spl hk0 hlt).trans HS.out)
        obtain ⟨k2, hk2⟩ : ∃ k2, k2 = 2 * k := ⟨_, rfl⟩
        have hk2i : 2 * (k : Int) = (k2 : Int) := by omega
        have hk2b : k2 ≤ 9223372036854775807 := by omega
        have hk2n : k2 < n := by omega
        rw [← hk2] at HS2
        have hkk : k < k2 := by omega
        clear hlt hk2
        go_wp2
        exact ⟨⟨k2, by omega, hk2n, rfl, HS2⟩, (by show 9223372036854775807 - (k2 : Int).toNat < 9223372036854775807 - (k : Int).toNat; omega)⟩
      · have h1 : ¬ ((k : Int) < (n : Int) - (k : Int)) := by omega
        have HS2 := Lib.hid ((splF_end hlt).symm.trans HS.out)
        clear hlt
        go_wp2
        go_ret
        exact ⟨by rw [HS2.out]; rfl, rfl⟩

set_option maxRecDepth 100000 in
set_option maxHeartbeats 400000 in
theorem parts_any (p : Option Addr) (n c : Nat) (w : World) (hn : 2 ≤ n) (hc : n ≤ c) (hb : n ≤ 281474976710656) :
    Calls Tryd.prog 98 #[.slice p n c] w fun e w' => e = .returned (.tuple #[.slice p (spl n) (spl n), .slice (p.map (·.add (spl n))) (n - spl n) (n - spl n)]) ∧ Below w.heap.size w w' := by
  have hs := split_any n
  rw [splitS_nat hn] at hs
  have hsp := spl_lt hn
  obtain ⟨k, hk⟩ : ∃ k, k = spl n := ⟨_, rfl⟩
  rw [← hk] at hs hsp ⊢
  obtain ⟨m, hm⟩ : ∃ m, m = n - k := ⟨_, rfl⟩
  rw [← hm]
  have HS := Lib.hid hs
  have h1 : (0 : Int) ≤ (k : Int) := by omega
  have h2 : (k : Int) ≤ (c : Int) := by omega
  have h3 : (k : Int) ≤ (n : Int) := by omega
  have h4 : (n : Int) ≤ (c : Int) := by omega
  have HM := Lib.hid hm
  have hn8 : (n : Int) ≤ 9223372036854775807 := by omega
  clear hk hm hs
  go_enter Tryd.func98, Tryd.ntmps98
  go_upto_region 2 with (go_at_call 118; with_reducible refine (HS.out w hn8).mono ?_; rintro e w2 ⟨rfl, hw⟩; rw [hw]; clear hw w2)
  go_quiet (fail)
  go_wp2
  go_ret2
  exact ⟨by rw [HM.out]; rfl, below_drewN (Below.refl _ _) _⟩
end Go.Proofs.YtdbghgpohdijfaaDoor
/- Layer 3, walked: root. -/
namespace Go.Proofs.YtdbghgpohdijfaaDoor
open Go.RowKit Go.Scr
set_option linter.unusedVariables false

theorem keepR {w w2 w3 : World} {B : Nat} {x : Addr} {v : Value} (h : w2.cell? x = some v ∧ Below B w w2) (hb : Below w2.heap.size w2 w3) (hB : B ≤ w2.heap.size) : w3.cell? x = some v ∧ Below B w w3 :=
  ⟨(hb.cell (block_lt_of_cell h.1)).trans h.1, below_from h.2 hb hB⟩
theorem Txts.left {w : World} {p : Option Addr} {n c k : Nat} {L : List ByteArray} (h : Txts w (.slice p n c) L) (hk : k ≤ n) : Txts w (.slice p k k) (L.take k) := by
  obtain ⟨q, c', he, h1, h2, h3⟩ := h
  simp only [Value.slice.injEq] at he
  obtain ⟨rfl, hn, rfl⟩ := he
  refine ⟨p, k, by rw [List.length_take, Nat.min_eq_left (by omega)], by rw [List.length_take]; omega, by rw [List.length_take]; omega, fun j s hs => h3 j s ?_⟩
  rw [List.getElem?_take] at hs
  split at hs
  · exact hs
  · cases hs
theorem Txts.right {w : World} {p : Option Addr} {n c k : Nat} {L : List ByteArray} (h : Txts w (.slice p n c) L) (hk : k ≤ n) : Txts w (.slice (p.map (·.add k)) (n - k) (n - k)) (L.drop k) := by
  obtain ⟨q, c', he, h1, h2, h3⟩ := h
  simp only [Value.slice.injEq] at he
  obtain ⟨rfl, hn, rfl⟩ := he
  refine ⟨_, n - k, by rw [List.length_drop, hn], by rw [List.length_drop]; omega, by rw [List.length_drop]; omega, fun j s hs => ?_⟩
  rw [List.getElem?_drop] at hs
  obtain ⟨a, ha, hc⟩ := h3 (k + j) s hs
  exact ⟨a.add k, by rw [ha]; rfl, by rw [Addr.add_add]; exact hc⟩
/-- a box of a function that holds itself -/
def BoxF (w : World) (r F : Nat) : Prop := ∃ T, w.heap[r]? = some (.cells #[.func (.func F) #[] #[.pointer (some ⟨r, 0, none⟩)]] T (0, 0))
theorem BoxF.c {w : World} {r F : Nat} (h : BoxF w r F) : w.cell? ⟨r, 0, none⟩ = some (.func (.func F) #[] #[.pointer (some ⟨r, 0, none⟩)]) := by
  obtain ⟨T, h⟩ := h
  exact cell_of_one h
theorem BoxF.lt {w : World} {r F : Nat} (h : BoxF w r F) : r < w.heap.size := by
  obtain ⟨T, h⟩ := h
  exact blk_lt h
theorem BoxF.below {w w' : World} {r F B : Nat} (h : BoxF w r F) (hb : Below B w w') (hB : w.heap.size ≤ B) : BoxF w' r F := by
  obtain ⟨T, h⟩ := h
  exact ⟨T, blk_below h hb (Nat.lt_of_lt_of_le (blk_lt h) hB)⟩
def rootR (L : List ByteArray) : ByteArray := rootL nodeS hempty L
theorem rootR_split {L : List ByteArray} (h : 2 ≤ L.length) : rootR L = nodeS (rootR (L.take (spl L.length))) (rootR (L.drop (spl L.length))) := rootL_split nodeS hempty h

set_option maxRecDepth 100000 in
set_option maxHeartbeats 2000000 in
theorem rootc_any (n : Nat) : ∀ (L : List ByteArray) (p : Option Addr) (c r : Nat) (w : World), Txts w (.slice p n c) L → L.length = n → n ≤ 1048576 → BoxF w r 114 → Tabs w →
    Calls Tryd.prog 114 #[.slice p n c, .pointer (some ⟨r, 0, none⟩)] w fun e w' => e = .returned (.string (rootR L)) ∧ Below w.heap.size w w' := by
  induction n using Nat.strongRecOn with
  | ind n ih =>
    intro L p c r w hv hL hn hbox ht
    have IH := Lib.hid ih
    have HT := Lib.hid ht
    have HV := Lib.hid hv
    have HBOX := Lib.hid hbox
    obtain ⟨p', c', he, hv1, hv2, hv3⟩ := hv
    simp only [Value.slice.injEq] at he
    obtain ⟨rfl, hnl, rfl⟩ := he
    clear ih ht hnl
    rcases Nat.lt_trichotomy n 1 with h0 | h1 | h2
    · have hn0 : n = 0 := by omega
      have hL0 : L = [] := List.eq_nil_of_length_eq_zero (by omega)
      have hr0 : rootR L = hempty := by rw [hL0]; exact rootL_nil _ _
      rw [hr0]
      have hni : (n : Int) = 0 := by omega
      have hni2 : ((n : Int) == 0) = true := beq_iff_eq.2 hni
      have HE := Lib.hid (fun w' h => dempty_any w' h)
      clear hv1 hv2 hv3 hL0 hr0 hn0 h0 hL hbox hni
      go_enter Tryd.func114, Tryd.ntmps114
      go_wp2_with (go_at_call 81; with_reducible refine (HE.out _ HT.out).mono ?_; rintro e w2 ⟨rfl, hb⟩; have HB := Lib.hid hb; clear hb)
      go_ret
      exact ⟨rfl, HB.out⟩
    · obtain ⟨x, rfl⟩ : ∃ x, L = [x] := by
        cases L with
        | nil => simp at hL; omega
        | cons x t => cases t with
          | nil => exact ⟨x, rfl⟩
          | cons y t => simp at hL; omega
      have hr1 : rootR [x] = x := rootL_one _ _ _
      rw [hr1]
      obtain ⟨a, rfl, hc⟩ := hv3 0 x rfl
      rw [Addr.add_zero'] at hc
      have hni : ((n : Int) == 0) = false := beq_eq_false_iff_ne.2 (by omega)
      have hni1 : ((n : Int) == 1) = true := beq_iff_eq.2 (by omega)
      have hnp : (0 : Int) < (n : Int) := by omega
      clear hv1 hv2 hv3 hr1 hL h1 hbox
      go_enter Tryd.func114, Tryd.ntmps114
      go_wp2
      go_ret
      exact ⟨rfl, Below.refl _ _⟩
    · have hni : ((n : Int) == 0) = false := beq_eq_false_iff_ne.2 (by omega)
      have hni1 : ((n : Int) == 1) = false := beq_eq_false_iff_ne.2 (by omega)
      have hlen : L.length ≤ c := hv1
      have HP := Lib.hid (fun w' => parts_any p n c w' (by omega) (by omega) (by omega))
      have hsp := spl_lt (show 2 ≤ n by omega)
      have hR := rootR_split (L := L) (by omega)
      rw [hL] at hR
      obtain ⟨k, hk⟩ : ∃ k, k = spl n := ⟨_, rfl⟩
      rw [← hk] at HP hsp hR
      obtain ⟨m, hm⟩ : ∃ m, m = n - k := ⟨_, rfl⟩
      rw [← hm] at HP
      obtain ⟨X1, hX1⟩ : ∃ X, X = rootR (L.take k) := ⟨_, rfl⟩
      obtain ⟨X2, hX2⟩ : ∃ X, X = rootR (L.drop k) := ⟨_, rfl⟩
      rw [← hX1, ← hX2] at hR
      rw [hR]
      have IHA := Lib.hid (fun w' (h : w'.cell? ⟨r, 0, none⟩ = some (.func (.func 114) #[] #[.pointer (some ⟨r, 0, none⟩)]) ∧ Below w.heap.size w w') => IH.out k hsp.2.1 (L.take k) p k r w' ((HV.out.left (by omega)).below h.2 (Nat.le_refl _)) (by rw [List.length_take]; omega) (by omega) (HBOX.out.below h.2 (Nat.le_refl _)) (HT.out.below h.2))
      have IHB := Lib.hid (fun w' (h : w'.cell? ⟨r, 0, none⟩ = some (.func (.func 114) #[] #[.pointer (some ⟨r, 0, none⟩)]) ∧ Below w.heap.size w w') => IH.out m (by omega) (L.drop k) (p.map (·.add k)) m r w' (by have := (HV.out.right (k := k) (by omega)).below h.2 (Nat.le_refl _); rw [← hm] at this; exact this) (by rw [List.length_drop]; omega) (by omega) (HBOX.out.below h.2 (Nat.le_refl _)) (HT.out.below h.2))
      rw [← hX1] at IHA
      rw [← hX2] at IHB
      have HND := Lib.hid (fun w' h => dnode_any X1 X2 w' h)
      have HC := Lib.hid hbox.c
      clear hv1 hv2 hv3 hL hR hX1 hX2 hk hm hbox hlen
      go_enter Tryd.func114, Tryd.ntmps114
      go_upto_region 7 with (go_at_call 98; (with_reducible refine (HP.out w).mono ?_; rintro e w2 ⟨rfl, hb⟩; have HB2 := Lib.hid hb; have hc2 := (hb.cell (block_lt_of_cell HC.out)).trans HC.out; clear hb))
      have HS1 := Lib.hid (show w2.drew.cell? ⟨r, 0, none⟩ = some (.func (.func 114) #[] #[.pointer (some ⟨r, 0, none⟩)]) ∧ Below w.heap.size w w2.drew from ⟨hc2, HB2.out.drew⟩)
      go_region_held3 (fun w' => w'.cell? ⟨r, 0, none⟩ = some (.func (.func 114) #[] #[.pointer (some ⟨r, 0, none⟩)]) ∧ Below w.heap.size w w') (first | exact HS2.out | exact HS1.out) (first
        | (go_at_call 114; with_reducible refine (IHA.out _ (by first | exact HS2.out | exact HS1.out)).mono ?_; rintro e w3 ⟨rfl, hb⟩; have HS2 := Lib.hid (keepR (by first | exact HS2.out | exact HS1.out) hb (by first | exact HS2.out.2.size | exact HS1.out.2.size)); clear hb)
        | (go_at_call 114; with_reducible refine (IHB.out _ (by first | exact HS2.out | exact HS1.out)).mono ?_; rintro e w3 ⟨rfl, hb⟩; have HS2 := Lib.hid (keepR (by first | exact HS2.out | exact HS1.out) hb (by first | exact HS2.out.2.size | exact HS1.out.2.size)); clear hb)
        | (go_at_call 70; with_reducible refine (HND.out _ (HT.out.below HS2.out.2)).mono ?_; rintro e w3 ⟨rfl, hb⟩; have HS2 := Lib.hid (keepR HS2.out hb HS2.out.2.size); clear hb))
      all_goals
        go_wp2_with fail
        go_ret
        exact ⟨rfl, HS2.out.2⟩
end Go.Proofs.YtdbghgpohdijfaaDoor
