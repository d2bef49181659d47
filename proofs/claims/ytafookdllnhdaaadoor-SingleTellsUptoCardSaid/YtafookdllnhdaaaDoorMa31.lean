/- Layer 3, walked: proofs of both. -/
import Derived.Test.YtafookdllnhdaaaDoorMa30
namespace Go.Proofs.YtafookdllnhdaaaDoor
open Go.RowKit Go.Scr
set_option linter.unusedVariables false

theorem toldR_le (s : Nat) : ∀ f whole, 1 ≤ f → f ≤ s → toldN f s whole ≤ s := by
  induction s using Nat.strongRecOn with
  | ind s ih =>
    intro f whole h1 h2
    by_cases h : f = s
    · subst h; rw [toldN_same]; split <;> omega
    · have hs := spl_lt (show 2 ≤ s by omega)
      by_cases hle : f ≤ spl s
      · rw [toldN_left whole h (by omega) hle]
        have := ih (spl s) hs.2.1 f whole h1 hle
        omega
      · rw [toldN_right whole h (by omega) hle]
        have := ih (s - spl s) (by omega) (f - spl s) false (by omega) (by omega)
        omega
def proofR (m : Nat) (L : List ByteArray) (b : Bool) : List ByteArray := proofL nodeS hempty m L b
theorem proofR_len {m : Nat} {L : List ByteArray} (b : Bool) (h1 : 1 ≤ m) (h2 : m ≤ L.length) : (proofR m L b).length ≤ L.length := by
  unfold proofR
  rw [proofL_length nodeS hempty L.length m L b rfl]
  exact toldR_le _ _ _ h1 h2
theorem proofR_same {L : List ByteArray} {m : Nat} (h : m = L.length) (b : Bool) : proofR m L b = if b then [] else [rootR L] := by
  unfold proofR rootR
  rw [proofL, dif_pos (Or.inl h)]
theorem proofR_left {L : List ByteArray} {m k : Nat} (b : Bool) (hk : k = spl L.length) (h : 2 ≤ L.length) (hne : m ≠ L.length) (hm : m ≤ k) : proofR m L b = proofR m (L.take k) b ++ [rootR (L.drop k)] := by
  subst hk
  unfold proofR rootR
  rw [proofL, dif_neg (by omega), if_pos hm]
theorem proofR_right {L : List ByteArray} {m k : Nat} (b : Bool) (hk : k = spl L.length) (h : 2 ≤ L.length) (hne : m ≠ L.length) (hm : ¬ m ≤ k) : proofR m L b = proofR (m - k) (L.drop k) false ++ [rootR (L.take k)] := by
  subst hk
  unfold proofR rootR
  rw [proofL, dif_neg (by omega), if_neg hm]
theorem owns_one {w : World} {T : Nat} {X : ByteArray} {B : Nat} (hB : B ≤ w.heap.size) : (w.alloc (.cells #[.string X] T)).ownsRow B T 1 (.slice (some ⟨w.heap.size, 0, none⟩) 1 1) 1 ([X].map Value.string) :=
  ⟨rfl, Or.inr ⟨w.heap.size, 1, #[.string X], rfl, hB, heap_alloc_new w _, Nat.le_refl _, by unfold maxLen; decide, rfl, rfl⟩⟩

end Go.Proofs.YtafookdllnhdaaaDoor
/- Layer 3, walked: Path, Proof of both. -/
namespace Go.Proofs.YtafookdllnhdaaaDoor
open Go.RowKit Go.Scr
set_option linter.unusedVariables false

def pathE (L : List ByteArray) (z : Int) : Int := if refusedE L ≠ 0 then refusedE L else if z < 0 ∨ (L.length : Int) ≤ z then 30 else 0
def pathT (L : List ByteArray) (z : Int) : List ByteArray := if pathE L z = 0 then pathR z.toNat L else []
def proofE (L : List ByteArray) (z : Int) : Int := if refusedE L ≠ 0 then refusedE L else if z < 1 ∨ (L.length : Int) < z then 31 else 0
def proofT (L : List ByteArray) (z : Int) : List ByteArray := if proofE L z = 0 then proofR z.toNat L true else []
theorem refused_len {L : List ByteArray} (h : refusedE L = 0) : L.length ≤ 4096 := by
  rcases Nat.lt_or_ge 4096 L.length with h1 | h1
  · exfalso
    have : refusedE L = 31 := by unfold refusedE; rw [if_pos h1]
    omega
  · exact h1

end Go.Proofs.YtafookdllnhdaaaDoor
