/- Layer 4 in plain Lean: the way up (bottom-up) and the way down (by splits) give the same flags. -/
import Derived.Test.YtdbghgpohdijfaaDoorMa0
namespace Go.Scr
set_option linter.unusedVariables false

/-- the greatest power of two below n -/
def splF (k n : Nat) : Nat := if 0 < k ∧ 2 * k < n then splF (2 * k) n else k
termination_by n - k
def spl (n : Nat) : Nat := splF 1 n
theorem splF_pow (n : Nat) : ∀ k j, k = 2 ^ j → k < n → ∃ i, splF k n = 2 ^ i ∧ splF k n < n ∧ n ≤ 2 * splF k n := by
  intro k
  induction hd : n - k using Nat.strongRecOn generalizing k with
  | ind d ih =>
    intro j hj hk
    have hp : 0 < 2 ^ j := Nat.pos_of_ne_zero (by simp)
    rw [splF]
    split
    · rename_i h
      exact ih (n - 2 * k) (by omega) (2 * k) rfl (j + 1) (by rw [Nat.pow_succ]; omega) h.2
    · rename_i h
      exact ⟨j, hj, hk, by omega⟩
theorem spl_pow {n : Nat} (h : 2 ≤ n) : ∃ i, spl n = 2 ^ i ∧ 2 ^ i < n ∧ n ≤ 2 ^ (i + 1) := by
  obtain ⟨i, h1, h2, h3⟩ := splF_pow n 1 0 (by simp) (by omega)
  have hs : spl n = 2 ^ i := h1
  have hps : 2 ^ (i + 1) = 2 * 2 ^ i := by rw [Nat.pow_succ]; omega
  rw [h1] at h2 h3
  exact ⟨i, hs, h2, by omega⟩
theorem spl_lt {n : Nat} (h : 2 ≤ n) : 0 < spl n ∧ spl n < n ∧ n ≤ 2 * spl n := by
  obtain ⟨i, h1, h2, h3⟩ := spl_pow h
  have hp : 0 < 2 ^ i := Nat.pos_of_ne_zero (by simp)
  have hps : 2 ^ (i + 1) = 2 * 2 ^ i := by rw [Nat.pow_succ]; omega
  omega
/-- the flags of a proof, from below; and whether its subtree begins at 0 -/
def fl (f s : Nat) : List Bool :=
  if h : f = s ∨ s ≤ 1 then [] else
    if f ≤ spl s then fl f (spl s) ++ [false] else fl (f - spl s) (s - spl s) ++ [true]
termination_by s
decreasing_by
  · have := spl_lt (show 2 ≤ s by omega); omega
  · have := spl_lt (show 2 ≤ s by omega); omega
def wh (f s : Nat) (whole : Bool) : Bool :=
  if h : f = s ∨ s ≤ 1 then whole else
    if f ≤ spl s then wh f (spl s) whole else wh (f - spl s) (s - spl s) false
termination_by s
decreasing_by
  · have := spl_lt (show 2 ≤ s by omega); omega
  · have := spl_lt (show 2 ≤ s by omega); omega
end Go.Scr
/- Shape in plain Lean: subtrees by numbers. -/
namespace Go.Scr
set_option linter.unusedVariables false

end Go.Scr
/- Layer 3 in plain Lean: roots, paths, proofs of lists of hashes, by splits. -/
namespace Go.Scr
set_option linter.unusedVariables false

def rootL (node : ByteArray → ByteArray → ByteArray) (empty : ByteArray) (l : List ByteArray) : ByteArray :=
  if h0 : l.length = 0 then empty else if h1 : l.length = 1 then l.headD empty else
    node (rootL node empty (l.take (spl l.length))) (rootL node empty (l.drop (spl l.length)))
termination_by l.length
decreasing_by
  · have := spl_lt (show 2 ≤ l.length by omega); rw [List.length_take]; omega
  · have := spl_lt (show 2 ≤ l.length by omega); rw [List.length_drop]; omega
theorem rootL_split (node : ByteArray → ByteArray → ByteArray) (empty : ByteArray) {l : List ByteArray} (h : 2 ≤ l.length) :
    rootL node empty l = node (rootL node empty (l.take (spl l.length))) (rootL node empty (l.drop (spl l.length))) := by
  rw [rootL, dif_neg (by omega), dif_neg (by omega)]
theorem rootL_one (node : ByteArray → ByteArray → ByteArray) (empty x : ByteArray) : rootL node empty [x] = x := by
  rw [rootL, dif_neg (by simp), dif_pos (by simp)]; rfl
theorem rootL_nil (node : ByteArray → ByteArray → ByteArray) (empty : ByteArray) : rootL node empty [] = empty := by
  rw [rootL, dif_pos (by simp)]
end Go.Scr
