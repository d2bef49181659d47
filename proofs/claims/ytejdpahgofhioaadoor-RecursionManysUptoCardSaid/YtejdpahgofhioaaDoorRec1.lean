/- Layer 3, walked: Split of both, parts. -/
import Derived.Test.YtejdpahgofhioaaDoorStr
import Derived.Test.YtejdpahgofhioaaDoorRec0
namespace Go.Proofs.YtejdpahgofhioaaDoor
open Go.RowKit Go.Scr
set_option linter.unusedVariables false

def splitS (n : Int) : Int := if n < 2 then 0 else ((spl n.toNat : Nat) : Int)
theorem splitS_nat {n : Nat} (h : 2 ≤ n) : splitS n = ((spl n : Nat) : Int) := by unfold splitS; rw [if_neg (by omega), Int.toNat_natCast]

set_option maxRecDepth 100000 in
set_option maxHeartbeats 400000 in
theorem split_any (z : Int) (w : World) (hz : z ≤ 9223372036854775807) :
    Calls Tryd.prog 16 #[.int .i64 z] w fun e w' => e = .returned (.int .i64 (splitS z)) ∧ w' = w := by
  by_cases h2 : z < 2
  · have e1 : splitS z = 0 := if_pos h2
    rw [e1]
    clear e1
    go_enter Tryd.func16, Tryd.ntmps16
    go_wp2
    go_ret
    exact ⟨rfl, rfl⟩
  · obtain ⟨n, rfl⟩ : ∃ n : Nat, z = n := ⟨z.toNat, by omega⟩
    rw [splitS_nat (by omega)]
    obtain ⟨R, hR⟩ : ∃ R, R = spl n := ⟨_, rfl⟩
    rw [← hR]
    have HR := Lib.hid (show splF 1 n = R from hR.symm)
    have hn : n ≤ 9223372036854775807 := by omega
    clear hR hz
    go_enter Tryd.func16, Tryd.ntmps16
    go_wp2
    go_loop [3] (fun v => ∃ k : Nat, 0 < k ∧ k < n ∧ v = .int .i64 k ∧ Hid (splF k n = R)) (fun v => 9223372036854775807 - (intOf v).toNat)
    case atStart => exact ⟨1, by decide, by omega, rfl, HR⟩
    case round =>
      obtain ⟨k, hk0, hkn, rfl, HS⟩ := hrel
      have hnk : (0 : Int) ≤ (n : Int) - (k : Int) := by omega
      by_cases hlt : 2 * k < n
      · have h1 : (k : Int) < (n : Int) - (k : Int) := by omega
        have HS2 := Lib.hid ((splF_spl hk0 hlt).trans HS.out)
        obtain ⟨k2, hk2⟩ : ∃ k2, k2 = 2 * k := ⟨_, rfl⟩
        have hk2i : (k : Int) * 2 = (k2 : Int) := by omega
        have hk2b : k2 ≤ 9223372036854775807 := by omega
        have hk2n : k2 < n := by omega
        rw [← hk2] at HS2
        have hkk : k < k2 := by omega
        clear hlt hk2
        go_wp2
        exact ⟨⟨k2, by omega, hk2n, rfl, HS2⟩, (by show 9223372036854775807 - (k2 : Int).toNat < 9223372036854775807 - (k : Int).toNat; omega)⟩
      · have h1 : ¬ ((k : Int) < (n : Int) - (k : Int)) := by omega
        have HS2 := Lib.hid ((splF_end hlt).symm.trans HS.out)
        clear hlt
        go_wp2
        go_ret
        exact ⟨by rw [HS2.out]; rfl, rfl⟩
set_option maxRecDepth 100000 in
set_option maxHeartbeats 400000 in
theorem splitr_any (z : Int) (w : World) (hz : z ≤ 9223372036854775807) :
    Calls Tryd.prog 17 #[.int .i64 z] w fun e w' => e = .returned (.int .i64 (splitS z)) ∧ w' = w := by
  by_cases h2 : z < 2
  · have e1 : splitS z = 0 := if_pos h2
    rw [e1]
    clear e1
    go_enter Tryd.func17, Tryd.ntmps17
    go_wp2
    go_ret
    exact ⟨rfl, rfl⟩
  · obtain ⟨n, rfl⟩ : ∃ n : Nat, z = n := ⟨z.toNat, by omega⟩
    rw [splitS_nat (by omega)]
    obtain ⟨R, hR⟩ : ∃ R, R = spl n := ⟨_, rfl⟩
    rw [← hR]
    have HR := Lib.hid (show splF 1 n = R from hR.symm)
    have hn : n ≤ 9223372036854775807 := by omega
    clear hR hz
    go_enter Tryd.func17, Tryd.ntmps17
    go_wp2
    go_loop [3] (fun v => ∃ k : Nat, 0 < k ∧ k < n ∧ v = .int .i64 k ∧ Hid (splF k n = R)) (fun v => 9223372036854775807 - (intOf v).toNat)
    case atStart => exact ⟨1, by decide, by omega, rfl, HR⟩
    case round =>
      obtain ⟨k, hk0, hkn, rfl, HS⟩ := hrel
      have hnk : (0 : Int) ≤ (n : Int) - (k : Int) := by omega
      by_cases hlt : 2 * k < n
      · have h1 : (k : Int) < (n : Int) - (k : Int) := by omega
        have HS2 := Lib.hid ((splF_spl hk0 hlt).trans HS.out)
        obtain ⟨k2, hk2⟩ : ∃ k2, k2 = 2 * k := ⟨_, rfl⟩
        have hk2i : 2 * (k : Int) = (k2 : Int) := by omega
        have hk2b : k2 ≤ 9223372036854775807 := by omega
        have hk2n : k2 < n := by omega
        rw [← hk2] at HS2
        have hkk : k < k2 := by omega
        clear hlt hk2
        go_wp2
        exact ⟨⟨k2, by omega, hk2n, rfl, HS2⟩, (by show 9223372036854775807 - (k2 : Int).toNat < 9223372036854775807 - (k : Int).toNat; omega)⟩
      · have h1 : ¬ ((k : Int) < (n : Int) - (k : Int)) := by omega
        have HS2 := Lib.hid ((splF_end hlt).symm.trans HS.out)
        clear hlt
        go_wp2
        go_ret
        exact ⟨by rw [HS2.out]; rfl, rfl⟩

set_option maxRecDepth 100000 in
set_option maxHeartbeats 400000 in
theorem parts_any (p : Option Addr) (n c : Nat) (w : World) (hn : 2 ≤ n) (hc : n ≤ c) (hb : n ≤ 281474976710656) :
    Calls Tryd.prog 73 #[.slice p n c] w fun e w' => e = .returned (.tuple #[.slice p (spl n) (spl n), .slice (p.map (·.add (spl n))) (n - spl n) (n - spl n)]) ∧ Below w.heap.size w w' := by
  have hs := split_any n
  rw [splitS_nat hn] at hs
  have hsp := spl_lt hn
  obtain ⟨k, hk⟩ : ∃ k, k = spl n := ⟨_, rfl⟩
  rw [← hk] at hs hsp ⊢
  obtain ⟨m, hm⟩ : ∃ m, m = n - k := ⟨_, rfl⟩
  rw [← hm]
  have HS := Lib.hid hs
  have h1 : (0 : Int) ≤ (k : Int) := by omega
  have h2 : (k : Int) ≤ (c : Int) := by omega
  have h3 : (k : Int) ≤ (n : Int) := by omega
  have h4 : (n : Int) ≤ (c : Int) := by omega
  have HM := Lib.hid hm
  have hn8 : (n : Int) ≤ 9223372036854775807 := by omega
  clear hk hm hs
  go_enter Tryd.func73, Tryd.ntmps73
  go_upto_region 2 with (go_at_call 16; with_reducible refine (HS.out w hn8).mono ?_; rintro e w2 ⟨rfl, hw⟩; rw [hw]; clear hw w2)
  go_quiet (fail)
  go_wp2
  go_ret2
  exact ⟨by rw [HM.out]; rfl, below_drewN (Below.refl _ _) _⟩
end Go.Proofs.YtejdpahgofhioaaDoor
