/- The law 8's book: a list is held, in a loop; bounds. -/
import Derived.Test.YteknpnanmbfhfaaDoorMa41
import Derived.Test.YteknpnanmbfhfaaDoorMa42
namespace Go.Proofs.YteknpnanmbfhfaaDoor.Bk8
open Go.RowKit Go.Scr
set_option linter.unusedVariables false
theorem lit_cell {w : World} {g T : Nat} {Z : List Int} (h : w.heap[g]? = some (.cells ((Z.map (Value.int .i64)).toArray) T (0, 0))) {i : Nat} {y : Int} (hy : Z[i]? = some y) : w.cell? ⟨g, i, none⟩ = some (.int .i64 y) := by
  rw [cell_of_row w g i _ _ _ h]
  simp [hy]
theorem wayL_le (n i : Int) : (wayL n i).length ≤ 40 := by
  unfold wayL
  split
  · simp
  · split
    · simp
    · rename_i h1 h2
      rw [List.length_reverse, path_length n.toNat 0 i.toNat (by omega)]
      exact wayN_log 40 n.toNat i.toNat (by omega) (by omega)
theorem coverT_le (k : Nat) : ∀ b e, e - b ≤ k → (coverT b e).length ≤ k := by
  induction k with
  | zero =>
    intro b e h
    rw [coverT_end (by omega)]
    simp
  | succ k ih =>
    intro b e h
    by_cases hb : b < e
    · rw [coverT_more hb, List.length_cons]
      have hp : 0 < 2 ^ lvlF 0 b e := Nat.pos_of_ne_zero (by simp)
      have := ih (b + 2 ^ lvlF 0 b e) e (by omega)
      omega
    · rw [coverT_end hb]
      simp
theorem coverL_le (b e : Int) : (coverL b e).length ≤ 1099511627776 := by
  unfold coverL
  split
  · simp
  · exact coverT_le 1099511627776 _ _ (by omega)
theorem prfL_le (f s : Int) : (prfL f s).length ≤ 41 := by
  unfold prfL
  split
  · simp
  · rename_i h1
    rw [List.length_reverse]
    exact proofT_log 40 0 s.toNat f.toNat (by omega) (by omega) (by omega)
/-- the book behind a call, in a loop -/
def LpP (W0 wL w : World) (b : Nat) (col : Nat → Nat) (hs : List (Value × List (Nat × Nat))) (ws : List Value) (hn : List (Value × List (Nat × Nat))) (wn : List Value) (w' : World) : Prop :=
  ∃ col' V', LpI W0 wL w' b col' V' hs ws hn wn ∧ w.heap.size ≤ w'.heap.size ∧ ∀ g, g < w.heap.size → col' g = col g ∧ ((col g = 0 ∨ 8 ≤ col g) → w'.heap[g]? = w.heap[g]?)
theorem LpI.holdS {W0 wL w : World} {b : Nat} {col : Nat → Nat} {V : Nat → Value} {hs hn : List (Value × List (Nat × Nat))} {ws wn : List Value} (h : LpI W0 wL w b col V hs ws hn wn) (hws : ws.length = hs.length) (hl : hs.length ≤ 700) {p q : Option Addr} {n c d : Nat} {A : List (Nat × Nat)} (hA0 : n = A.length) (hA : A.length ≤ 1099511627776)
    (hx : Held w 29 2 (.slice p n c) n (prsV A)) (hcx : ∀ g, (Value.slice p n c).ownBlock = some g → col g = 16 + hs.length) (hy : Held w 29 2 (.slice q n d) n (prsV A)) (hcy : ∀ g, (Value.slice q n d).ownBlock = some g → col g = 8) :
    Calls Tryd.prog 23 #[.pointer (some ⟨b, 0, none⟩), .slice p n c, .slice q n d] w fun r w' => r = .returned (.tuple #[]) ∧ LpP W0 wL w b col (hs ++ [(.slice p n c, A)]) (ws ++ [.slice q n d]) hn wn w' := by
  refine (holdsS_any h.bk hws (by omega) hA0 hA hx hcx hy hcy).mono ?_
  rintro r w' ⟨h1, h2⟩
  have hs2 : w.heap.size ≤ w'.heap.size := by obtain ⟨_, _, _, q, _⟩ := h2; exact q
  obtain ⟨col', V', k1, k2⟩ := h.held h2
  exact ⟨h1, col', V', k1, hs2, k2⟩
theorem LpI.holdN {W0 wL w : World} {b : Nat} {col : Nat → Nat} {V : Nat → Value} {hs hn : List (Value × List (Nat × Nat))} {ws wn : List Value} (h : LpI W0 wL w b col V hs ws hn wn) (hwn : wn.length = hn.length) (hl : hn.length ≤ 700) {p q : Option Addr} {n c d : Nat} {A : List (Nat × Nat)} (hA0 : n = A.length) (hA : A.length ≤ 1099511627776)
    (hx : Held w 72 2 (.slice p n c) n (prsV A)) (hcx : ∀ g, (Value.slice p n c).ownBlock = some g → col g = 1016 + hn.length) (hy : Held w 72 2 (.slice q n d) n (prsV A)) (hcy : ∀ g, (Value.slice q n d).ownBlock = some g → col g = 8) :
    Calls Tryd.prog 14 #[.pointer (some ⟨b, 0, none⟩), .slice p n c, .slice q n d] w fun r w' => r = .returned (.tuple #[]) ∧ LpP W0 wL w b col hs ws (hn ++ [(.slice p n c, A)]) (wn ++ [.slice q n d]) w' := by
  refine (holdsN_any h.bk hwn (by omega) hA0 hA hx hcx hy hcy).mono ?_
  rintro r w' ⟨h1, h2⟩
  have hs2 : w.heap.size ≤ w'.heap.size := by obtain ⟨_, _, _, q, _⟩ := h2; exact q
  obtain ⟨col', V', k1, k2⟩ := h.held h2
  exact ⟨h1, col', V', k1, hs2, k2⟩
theorem LpI.still {W0 wL w : World} {b : Nat} {col : Nat → Nat} {V : Nat → Value} {hs hn : List (Value × List (Nat × Nat))} {ws wn : List Value} (h : LpI W0 wL w b col V hs ws hn wn) (hws : ws.length = hs.length) (hwn : wn.length = hn.length) (hl : hs.length ≤ 800) (hl2 : hn.length ≤ 800) :
    Calls Tryd.prog 17 #[.pointer (some ⟨b, 0, none⟩)] w fun r w' => r = .returned (.bool true) ∧ Below W0.heap.size W0 w' := still_any h.bk hws hwn hl hl2
end Go.Proofs.YteknpnanmbfhfaaDoor.Bk8
