/- Layer 3, plain: the proof of one leaf by Many has the path's hashes, in the order of their places. -/
import Derived.Test.YtejdpahgofhioaaDoorRee
namespace Go.Proofs.YtejdpahgofhioaaDoor
open Go.RowKit Go.Scr
set_option linter.unusedVariables false

theorem dnl {n m : Nat} (h : 1 < n) (h2 : m < spl n) : dn n m = dn (spl n) m ++ [false] := by rw [dn, dif_neg (by omega), if_pos h2]
theorem dnr {n m : Nat} (h : 1 < n) (h2 : ¬ m < spl n) : dn n m = dn (n - spl n) (m - spl n) ++ [true] := by rw [dn, dif_neg (by omega), if_neg h2]
theorem dn1 {n : Nat} (m : Nat) (h : n ≤ 1) : dn n m = [] := by rw [dn, dif_pos h]
theorem dn_two (n : Nat) : ∀ m d, n ≤ 2 ^ d → (dn n m).length ≤ d := by
  induction n using Nat.strongRecOn with
  | ind n ih =>
    intro m d hd
    rcases Nat.lt_or_ge n 2 with h | h
    · rw [dn1 m (by omega)]; simp
    · obtain ⟨i, h1, h2, h3⟩ := spl_pow h
      have hi : i < d := (Nat.pow_lt_pow_iff_right (by omega : 1 < 2)).mp (Nat.lt_of_lt_of_le h2 hd)
      have hs := spl_lt h
      have hle : spl n ≤ 2 ^ (d - 1) := by rw [h1]; exact Nat.pow_le_pow_right (by omega) (by omega)
      by_cases hm : m < spl n
      · rw [dnl (by omega) hm, List.length_append]
        have := ih (spl n) hs.2.1 m (d - 1) hle
        simp only [List.length_singleton]; omega
      · rw [dnr (by omega) hm, List.length_append]
        have := ih (n - spl n) (by omega) (m - spl n) (d - 1) (by omega)
        simp only [List.length_singleton]; omega

/-- of the hashes beside a way: those to the right, from below; those to the left, from above -/
def sdR (D : List Bool) (P : List ByteArray) : List ByteArray := ((D.zip P).filter (fun x => !x.1)).map (·.2)
def sdL (D : List Bool) (P : List ByteArray) : List ByteArray := (((D.zip P).filter (fun x => x.1)).map (·.2)).reverse
theorem sdR_snoc {D : List Bool} {P : List ByteArray} (h : D.length = P.length) (d : Bool) (x : ByteArray) : sdR (D ++ [d]) (P ++ [x]) = if d then sdR D P else sdR D P ++ [x] := by
  unfold sdR
  rw [List.zip_append h]
  cases d <;> simp
theorem sdL_snoc {D : List Bool} {P : List ByteArray} (h : D.length = P.length) (d : Bool) (x : ByteArray) : sdL (D ++ [d]) (P ++ [x]) = if d then x :: sdL D P else sdL D P := by
  unfold sdL
  rw [List.zip_append h]
  cases d <;> simp
theorem inZ_yes {b n : Nat} {z : Int} (h1 : (b : Int) ≤ z) (h2 : z < (b : Int) + n) : inZ b n [z] = true := by
  unfold inZ; simp; omega
theorem inZ_no {b n : Nat} {z : Int} (h : z < (b : Int) ∨ (b : Int) + n ≤ z) : inZ b n [z] = false := by
  unfold inZ; simp; omega
theorem manyZ_side (n : Nat) : ∀ (b m : Nat) (L : List ByteArray), L.length = n → m < n → manyZ b L [((b + m : Nat) : Int)] = sdL (dn n m) (pathR m L) ++ sdR (dn n m) (pathR m L) := by
  induction n using Nat.strongRecOn with
  | ind n ih =>
    intro b m L hL hm
    have hin : inZ b L.length [((b + m : Nat) : Int)] = true := inZ_yes (by omega) (by omega)
    rcases Nat.lt_or_ge n 2 with h | h
    · rw [manyZ_one hin (by omega), dn1 m (by omega)]; rfl
    · obtain ⟨k, hk⟩ : ∃ k, k = spl n := ⟨_, rfl⟩
      have hs := spl_lt h
      rw [← hk] at hs
      have hlt : (L.take k).length = k := by rw [List.length_take]; omega
      have hld : (L.drop k).length = n - k := by rw [List.length_drop]; omega
      rw [manyZ_two (k := k) (by rw [hL, hk]) hin (by omega)]
      by_cases hmk : m < k
      · have hlen : (dn k m).length = (pathR m (L.take k)).length := by unfold pathR; rw [pathL_length nodeS hempty k m (L.take k) hlt]
        have e1 := ih k hs.2.1 b m (L.take k) hlt hmk
        have e2 := manyZ_out (b := b + k) (L := L.drop k) (Z := [((b + m : Nat) : Int)]) (inZ_no (Or.inl (by omega)))
        have e3 := pathR_left (L := L) (m := m) (k := k) (by rw [hL, hk]) (by omega) hmk
        have e4 := dnl (n := n) (m := m) (by omega) (by rw [← hk]; exact hmk)
        rw [← hk] at e4
        rw [e1, e2, e3, e4, sdL_snoc hlen, sdR_snoc hlen]
        simp
      · have hlen : (dn (n - k) (m - k)).length = (pathR (m - k) (L.drop k)).length := by unfold pathR; rw [pathL_length nodeS hempty (n - k) (m - k) (L.drop k) hld]
        have e : ((b + m : Nat) : Int) = ((b + k + (m - k) : Nat) : Int) := by omega
        have e1 := ih (n - k) (by omega) (b + k) (m - k) (L.drop k) hld (by omega)
        rw [← e] at e1
        have e2 := manyZ_out (b := b) (L := L.take k) (Z := [((b + m : Nat) : Int)]) (inZ_no (Or.inr (by rw [hlt]; omega)))
        have e3 := pathR_right (L := L) (m := m) (k := k) (by rw [hL, hk]) (by omega) hmk
        have e4 := dnr (n := n) (m := m) (by omega) (by rw [← hk]; exact hmk)
        rw [← hk] at e4
        rw [e1, e2, e3, e4, sdL_snoc hlen, sdR_snoc hlen]
        simp
theorem side_len {D : List Bool} : ∀ {P : List ByteArray}, D.length = P.length → (sdL D P).length + (sdR D P).length = P.length := by
  induction D with
  | nil => intro P h; cases P with
    | nil => rfl
    | cons x P => simp at h
  | cons d D ih =>
    intro P h
    cases P with
    | nil => simp at h
    | cons x P =>
      have := ih (P := P) (by simpa using h)
      unfold sdL sdR at *
      cases d <;> simp at * <;> omega
end Go.Proofs.YtejdpahgofhioaaDoor
