/- Layer 3, walked: paths of both. -/
import Derived.Test.YtafookdllnhdaaaDoorMa29
namespace Go.Proofs.YtafookdllnhdaaaDoor
open Go.RowKit Go.Scr
set_option linter.unusedVariables false

theorem owns_le {w : World} {base base' size n : Nat} {e : TypeId} {v : Value} {xs : List Value} (h : w.ownsRow base e size v n xs) (hb : base' ≤ base) : w.ownsRow base' e size v n xs := by
  obtain ⟨h1, h2⟩ := h
  refine ⟨h1, ?_⟩
  rcases h2 with h2 | ⟨g, cap, cur, h3, h4, h5⟩
  · exact .inl h2
  · exact .inr ⟨g, cap, cur, h3, by omega, h5⟩
theorem dn_len (n : Nat) : ∀ m, (dn n m).length ≤ n := by
  induction n using Nat.strongRecOn with
  | ind n ih =>
    intro m
    rw [dn]
    split
    · simp
    · have := spl_lt (show 2 ≤ n by omega)
      split
      · have := ih (spl n) (by omega) m
        simp; omega
      · have := ih (n - spl n) (by omega) (m - spl n)
        simp; omega
def pathR (m : Nat) (L : List ByteArray) : List ByteArray := pathL nodeS hempty m L
theorem pathR_len (m : Nat) (L : List ByteArray) : (pathR m L).length ≤ L.length := by
  unfold pathR
  rw [pathL_length nodeS hempty L.length m L rfl]
  exact dn_len _ _
theorem pathR_one {L : List ByteArray} (m : Nat) (h : L.length ≤ 1) : pathR m L = [] := by unfold pathR; rw [pathL, dif_pos h]
theorem pathR_left {L : List ByteArray} {m k : Nat} (hk : k = spl L.length) (h : 2 ≤ L.length) (hm : m < k) : pathR m L = pathR m (L.take k) ++ [rootR (L.drop k)] := by
  subst hk
  unfold pathR rootR
  rw [pathL, dif_neg (by omega), if_pos hm]
theorem pathR_right {L : List ByteArray} {m k : Nat} (hk : k = spl L.length) (h : 2 ≤ L.length) (hm : ¬ m < k) : pathR m L = pathR (m - k) (L.drop k) ++ [rootR (L.take k)] := by
  subst hk
  unfold pathR rootR
  rw [pathL, dif_neg (by omega), if_neg hm]

end Go.Proofs.YtafookdllnhdaaaDoor
