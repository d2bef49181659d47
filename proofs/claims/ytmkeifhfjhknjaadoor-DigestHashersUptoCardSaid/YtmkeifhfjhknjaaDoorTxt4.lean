/- FromBase64 of the program, walked. -/
import Derived.Test.YtmkeifhfjhknjaaDoorTxt3
namespace Go.Proofs.YtmkeifhfjhknjaaDoor
open Go.RowKit Go.Scr
set_option linter.unusedVariables false

def sixN (c : UInt8) : Nat :=
  if 65 ≤ c.toNat ∧ c.toNat ≤ 90 then c.toNat - 65 else if 97 ≤ c.toNat ∧ c.toNat ≤ 122 then c.toNat - 71 else if 48 ≤ c.toNat ∧ c.toNat ≤ 57 then c.toNat + 4
  else if c.toNat = 43 then 62 else if c.toNat = 47 then 63 else 64
theorem six_sgn (n : Nat) (h : n < 64) : sixN (sgn n) = n := by
  have hall : ∀ i : Fin 64, sixN (sgn i.val) = i.val := by decide +kernel
  exact hall ⟨n, h⟩
theorem six_pad : sixN 61 = 64 := by decide +kernel
theorem sgn_pad (n : Nat) (h : n < 64) : sgn n ≠ 61 := by
  have hall : ∀ i : Fin 64, sgn i.val ≠ 61 := by decide +kernel
  exact hall ⟨n, h⟩
set_option maxRecDepth 100000 in
set_option maxHeartbeats 1000000 in
theorem dsix_any (c : UInt8) (w : World) :
    Calls Tryd.prog 31 #[.int .u8 (c.toNat : Int)] w fun e w' => e = .returned (.tuple #[.int .i64 ((if sixN c < 64 then sixN c else 0 : Nat) : Int), .bool (decide (sixN c < 64))]) ∧ w' = w := by
  obtain ⟨n, hn⟩ : ∃ n, n = c.toNat := ⟨_, rfl⟩
  have hnb : n < 256 := by rw [hn]; exact c.toNat_lt
  have hsx : sixN c = if 65 ≤ n ∧ n ≤ 90 then n - 65 else if 97 ≤ n ∧ n ≤ 122 then n - 71 else if 48 ≤ n ∧ n ≤ 57 then n + 4 else if n = 43 then 62 else if n = 47 then 63 else 64 := by rw [hn]; rfl
  rw [← hn]
  clear hn
  have hall : (0 ≤ n ∧ n ≤ 42) ∨ (43 ≤ n ∧ n ≤ 43) ∨ (44 ≤ n ∧ n ≤ 46) ∨ (47 ≤ n ∧ n ≤ 47) ∨ (48 ≤ n ∧ n ≤ 57) ∨ (58 ≤ n ∧ n ≤ 64) ∨ (65 ≤ n ∧ n ≤ 90) ∨ (91 ≤ n ∧ n ≤ 96) ∨ (97 ≤ n ∧ n ≤ 122) ∨ (123 ≤ n ∧ n ≤ 255) := by omega
  rcases hall with ⟨h1, h2⟩ | ⟨h1, h2⟩ | ⟨h1, h2⟩ | ⟨h1, h2⟩ | ⟨h1, h2⟩ | ⟨h1, h2⟩ | ⟨h1, h2⟩ | ⟨h1, h2⟩ | ⟨h1, h2⟩ | ⟨h1, h2⟩
  · have hv : sixN c = 64 := by rw [hsx, if_neg (by omega), if_neg (by omega), if_neg (by omega), if_neg (by omega), if_neg (by omega)]
    rw [hv]
    clear hsx hv
    rw [if_neg (by omega), decide_eq_false (by omega)]
    have a1 : ¬ ((65 : Int) ≤ (n : Int)) := by omega
    have a2 : (n : Int) ≤ 90 := by omega
    have a3 : ¬ ((97 : Int) ≤ (n : Int)) := by omega
    have a4 : (n : Int) ≤ 122 := by omega
    have a5 : ¬ ((48 : Int) ≤ (n : Int)) := by omega
    have a6 : (n : Int) ≤ 57 := by omega
    have a7 : ¬ ((n : Int) = 43) := by omega
    have a8 : ¬ ((n : Int) = 47) := by omega
    go_enter Tryd.func31, Tryd.ntmps31
    go_wp2
    go_ret2
    exact ⟨rfl, rfl⟩
  · have hv : sixN c = 62 := by rw [hsx, if_neg (by omega), if_neg (by omega), if_neg (by omega), if_pos (by omega)]
    rw [hv]
    clear hsx hv
    rw [if_pos (by omega), decide_eq_true (by omega)]
    have a1 : ¬ ((65 : Int) ≤ (n : Int)) := by omega
    have a2 : (n : Int) ≤ 90 := by omega
    have a3 : ¬ ((97 : Int) ≤ (n : Int)) := by omega
    have a4 : (n : Int) ≤ 122 := by omega
    have a5 : ¬ ((48 : Int) ≤ (n : Int)) := by omega
    have a6 : (n : Int) ≤ 57 := by omega
    have a7 : (n : Int) = 43 := by omega
    have a8 : ¬ ((n : Int) = 47) := by omega
    go_enter Tryd.func31, Tryd.ntmps31
    go_wp2
    go_ret2
    exact ⟨rfl, rfl⟩
  · have hv : sixN c = 64 := by rw [hsx, if_neg (by omega), if_neg (by omega), if_neg (by omega), if_neg (by omega), if_neg (by omega)]
    rw [hv]
    clear hsx hv
    rw [if_neg (by omega), decide_eq_false (by omega)]
    have a1 : ¬ ((65 : Int) ≤ (n : Int)) := by omega
    have a2 : (n : Int) ≤ 90 := by omega
    have a3 : ¬ ((97 : Int) ≤ (n : Int)) := by omega
    have a4 : (n : Int) ≤ 122 := by omega
    have a5 : ¬ ((48 : Int) ≤ (n : Int)) := by omega
    have a6 : (n : Int) ≤ 57 := by omega
    have a7 : ¬ ((n : Int) = 43) := by omega
    have a8 : ¬ ((n : Int) = 47) := by omega
    go_enter Tryd.func31, Tryd.ntmps31
    go_wp2
    go_ret2
    exact ⟨rfl, rfl⟩
  · have hv : sixN c = 63 := by rw [hsx, if_neg (by omega), if_neg (by omega), if_neg (by omega), if_neg (by omega), if_pos (by omega)]
    rw [hv]
    clear hsx hv
    rw [if_pos (by omega), decide_eq_true (by omega)]
    have a1 : ¬ ((65 : Int) ≤ (n : Int)) := by omega
    have a2 : (n : Int) ≤ 90 := by omega
    have a3 : ¬ ((97 : Int) ≤ (n : Int)) := by omega
    have a4 : (n : Int) ≤ 122 := by omega
    have a5 : ¬ ((48 : Int) ≤ (n : Int)) := by omega
    have a6 : (n : Int) ≤ 57 := by omega
    have a7 : ¬ ((n : Int) = 43) := by omega
    have a8 : (n : Int) = 47 := by omega
    go_enter Tryd.func31, Tryd.ntmps31
    go_wp2
    go_ret2
    exact ⟨rfl, rfl⟩
  · have hv : sixN c = n + 4 := by rw [hsx, if_neg (by omega), if_neg (by omega), if_pos (by omega)]
    rw [hv]
    clear hsx hv
    rw [if_pos (by omega), decide_eq_true (by omega)]
    rw [show ((n + 4 : Nat) : Int) = (n : Int) - 48 + 52 by omega]
    have a1 : ¬ ((65 : Int) ≤ (n : Int)) := by omega
    have a2 : (n : Int) ≤ 90 := by omega
    have a3 : ¬ ((97 : Int) ≤ (n : Int)) := by omega
    have a4 : (n : Int) ≤ 122 := by omega
    have a5 : (48 : Int) ≤ (n : Int) := by omega
    have a6 : (n : Int) ≤ 57 := by omega
    have a7 : ¬ ((n : Int) = 43) := by omega
    have a8 : ¬ ((n : Int) = 47) := by omega
    go_enter Tryd.func31, Tryd.ntmps31
    go_wp2
    go_ret2
    exact ⟨rfl, rfl⟩
  · have hv : sixN c = 64 := by rw [hsx, if_neg (by omega), if_neg (by omega), if_neg (by omega), if_neg (by omega), if_neg (by omega)]
    rw [hv]
    clear hsx hv
    rw [if_neg (by omega), decide_eq_false (by omega)]
    have a1 : ¬ ((65 : Int) ≤ (n : Int)) := by omega
    have a2 : (n : Int) ≤ 90 := by omega
    have a3 : ¬ ((97 : Int) ≤ (n : Int)) := by omega
    have a4 : (n : Int) ≤ 122 := by omega
    have a5 : (48 : Int) ≤ (n : Int) := by omega
    have a6 : ¬ ((n : Int) ≤ 57) := by omega
    have a7 : ¬ ((n : Int) = 43) := by omega
    have a8 : ¬ ((n : Int) = 47) := by omega
    go_enter Tryd.func31, Tryd.ntmps31
    go_wp2
    go_ret2
    exact ⟨rfl, rfl⟩
  · have hv : sixN c = n - 65 := by rw [hsx, if_pos (by omega)]
    rw [hv]
    clear hsx hv
    rw [if_pos (by omega), decide_eq_true (by omega)]
    rw [show ((n - 65 : Nat) : Int) = (n : Int) - 65 by omega]
    have a1 : (65 : Int) ≤ (n : Int) := by omega
    have a2 : (n : Int) ≤ 90 := by omega
    have a3 : ¬ ((97 : Int) ≤ (n : Int)) := by omega
    have a4 : (n : Int) ≤ 122 := by omega
    have a5 : (48 : Int) ≤ (n : Int) := by omega
    have a6 : ¬ ((n : Int) ≤ 57) := by omega
    have a7 : ¬ ((n : Int) = 43) := by omega
    have a8 : ¬ ((n : Int) = 47) := by omega
    go_enter Tryd.func31, Tryd.ntmps31
    go_wp2
    go_ret2
    exact ⟨rfl, rfl⟩
  · have hv : sixN c = 64 := by rw [hsx, if_neg (by omega), if_neg (by omega), if_neg (by omega), if_neg (by omega), if_neg (by omega)]
    rw [hv]
    clear hsx hv
    rw [if_neg (by omega), decide_eq_false (by omega)]
    have a1 : (65 : Int) ≤ (n : Int) := by omega
    have a2 : ¬ ((n : Int) ≤ 90) := by omega
    have a3 : ¬ ((97 : Int) ≤ (n : Int)) := by omega
    have a4 : (n : Int) ≤ 122 := by omega
    have a5 : (48 : Int) ≤ (n : Int) := by omega
    have a6 : ¬ ((n : Int) ≤ 57) := by omega
    have a7 : ¬ ((n : Int) = 43) := by omega
    have a8 : ¬ ((n : Int) = 47) := by omega
    go_enter Tryd.func31, Tryd.ntmps31
    go_wp2
    go_ret2
    exact ⟨rfl, rfl⟩
  · have hv : sixN c = n - 71 := by rw [hsx, if_neg (by omega), if_pos (by omega)]
    rw [hv]
    clear hsx hv
    rw [if_pos (by omega), decide_eq_true (by omega)]
    rw [show ((n - 71 : Nat) : Int) = (n : Int) - 97 + 26 by omega]
    have a1 : (65 : Int) ≤ (n : Int) := by omega
    have a2 : ¬ ((n : Int) ≤ 90) := by omega
    have a3 : (97 : Int) ≤ (n : Int) := by omega
    have a4 : (n : Int) ≤ 122 := by omega
    have a5 : (48 : Int) ≤ (n : Int) := by omega
    have a6 : ¬ ((n : Int) ≤ 57) := by omega
    have a7 : ¬ ((n : Int) = 43) := by omega
    have a8 : ¬ ((n : Int) = 47) := by omega
    go_enter Tryd.func31, Tryd.ntmps31
    go_wp2
    go_ret2
    exact ⟨rfl, rfl⟩
  · have hv : sixN c = 64 := by rw [hsx, if_neg (by omega), if_neg (by omega), if_neg (by omega), if_neg (by omega), if_neg (by omega)]
    rw [hv]
    clear hsx hv
    rw [if_neg (by omega), decide_eq_false (by omega)]
    have a1 : (65 : Int) ≤ (n : Int) := by omega
    have a2 : ¬ ((n : Int) ≤ 90) := by omega
    have a3 : (97 : Int) ≤ (n : Int) := by omega
    have a4 : ¬ ((n : Int) ≤ 122) := by omega
    have a5 : (48 : Int) ≤ (n : Int) := by omega
    have a6 : ¬ ((n : Int) ≤ 57) := by omega
    have a7 : ¬ ((n : Int) = 43) := by omega
    have a8 : ¬ ((n : Int) = 47) := by omega
    go_enter Tryd.func31, Tryd.ntmps31
    go_wp2
    go_ret2
    exact ⟨rfl, rfl⟩
end Go.Proofs.YtmkeifhfjhknjaaDoor
