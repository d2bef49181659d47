/- Roots of the past by the bits of the size: plain. -/
import Derived.Test.YtdbghgpohdijfaaDoorMa23
namespace Go.Proofs.YtdbghgpohdijfaaDoor
open Go.RowKit Go.Scr Go.ChangeMaps Go.MapKept
set_option linter.unusedVariables false
/-- the root of the last (n mod 2^l) of n leaves; nothing where there are none -/
def tailL (L : List ByteArray) (n l : Nat) : ByteArray := if n % 2 ^ l = 0 then ⟨#[]⟩ else partL L (n - n % 2 ^ l) n
theorem mod_up (n l : Nat) : n % 2 ^ (l + 1) = n % 2 ^ l + 2 ^ l * (n / 2 ^ l % 2) := by rw [Nat.pow_succ]; exact Nat.mod_mul
theorem tailL_even {L : List ByteArray} {n l : Nat} (h : n / 2 ^ l % 2 = 0) : tailL L n (l + 1) = tailL L n l := by
  unfold tailL
  rw [mod_up, h, Nat.mul_zero, Nat.add_zero]
theorem bit_parts {n l : Nat} (h : n / 2 ^ l % 2 = 1) : n = (n / 2 ^ l - 1) * 2 ^ l + 2 ^ l + n % 2 ^ l ∧ n % 2 ^ l < 2 ^ l := by
  have hp := two_pos l
  have hb := idx_back n l
  have hm := Nat.mod_lt n hp
  have hq : 1 ≤ n / 2 ^ l := by
    generalize n / 2 ^ l = q at h
    omega
  have e : n / 2 ^ l * 2 ^ l = (n / 2 ^ l - 1) * 2 ^ l + 2 ^ l := by rw [← Nat.succ_mul]; congr 1; generalize n / 2 ^ l = q at hq; omega
  rw [e] at hb
  exact ⟨hb.symm, hm⟩
theorem tailL_odd {L : List ByteArray} {n l : Nat} (h : n / 2 ^ l % 2 = 1) (h0 : n % 2 ^ l = 0) : tailL L n (l + 1) = valL L l (n / 2 ^ l - 1) := by
  obtain ⟨h1, h2⟩ := bit_parts h
  have hp := two_pos l
  unfold tailL
  rw [mod_up, h, h0, Nat.mul_one, Nat.zero_add, if_neg (by generalize 2 ^ l = p at hp; omega)]
  unfold partL valL
  rw [h0] at h1
  generalize (n / 2 ^ l - 1) * 2 ^ l = x at *
  generalize 2 ^ l = p at *
  rw [show n - p = x by omega, show n - x = p by omega]
theorem tailL_both {L : List ByteArray} {n l : Nat} (h : n / 2 ^ l % 2 = 1) (h0 : n % 2 ^ l ≠ 0) (hn : n ≤ L.length) : tailL L n (l + 1) = nodeS (valL L l (n / 2 ^ l - 1)) (tailL L n l) := by
  obtain ⟨h1, h2⟩ := bit_parts h
  have hp := two_pos l
  unfold tailL
  rw [mod_up, h, Nat.mul_one, if_neg (by generalize 2 ^ l = p at hp; omega), if_neg h0]
  have hs : spl (n - (n / 2 ^ l - 1) * 2 ^ l) = 2 ^ l := spl_of (by
    generalize (n / 2 ^ l - 1) * 2 ^ l = x at *
    generalize n % 2 ^ l = r at *
    generalize 2 ^ l = p at *
    omega) (by
    rw [Nat.pow_succ]
    generalize (n / 2 ^ l - 1) * 2 ^ l = x at *
    generalize n % 2 ^ l = r at *
    generalize 2 ^ l = p at *
    omega)
  unfold valL
  generalize (n / 2 ^ l - 1) * 2 ^ l = x at *
  generalize n % 2 ^ l = r at *
  generalize 2 ^ l = p at *
  rw [show n - (r + p) = x by omega, show n - r = x + p by omega, partL_two (m := p) (by omega) hn hs.symm]
  congr 1
  unfold partL
  rw [show x + p - x = p by omega]
theorem tailL_all {L : List ByteArray} {n l : Nat} (h : n < 2 ^ l) (h1 : 1 ≤ n) : tailL L n l = partL L 0 n := by
  unfold tailL
  rw [Nat.mod_eq_of_lt h, if_neg (by omega), Nat.sub_self]
theorem partL_size {L : List ByteArray} {b e : Nat} (hbe : b < e) (he : e ≤ L.length) (h32 : ∀ s ∈ L, s.size = 32) : (partL L b e).size = 32 :=
  rootR_size (e - b) _ (by rw [List.length_take, List.length_drop]; omega) (by omega) (fun s hs => h32 s (List.mem_of_mem_drop (List.mem_of_mem_take hs)))
theorem tailL_size {L : List ByteArray} {n l : Nat} (h0 : n % 2 ^ l ≠ 0) (hn : n ≤ L.length) (h32 : ∀ s ∈ L, s.size = 32) : (tailL L n l).size = 32 := by
  unfold tailL
  rw [if_neg h0]
  have := Nat.mod_le n (2 ^ l)
  exact partL_size (by omega) hn h32
theorem tailL_zero {L : List ByteArray} {n l : Nat} (h0 : n % 2 ^ l = 0) : tailL L n l = ⟨#[]⟩ := if_pos h0
theorem cL_bit {n m l : Nat} (h : n / 2 ^ l % 2 = 1) (hn : n ≤ m) : n / 2 ^ l - 1 < cL m l := by
  rw [cL_lt, Nat.succ_mul]
  obtain ⟨h1, h2⟩ := bit_parts h
  generalize (n / 2 ^ l - 1) * 2 ^ l = x at *
  generalize n % 2 ^ l = r at *
  generalize 2 ^ l = p at *
  omega
end Go.Proofs.YtdbghgpohdijfaaDoor
