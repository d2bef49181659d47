/- Lists in blocks of their colours are written over, element by element, and become lists of marks. -/
import Derived.Test.YtmkeifhfjhknjaaDoorRcd0
namespace Go.Scr
open Go.RowKit
set_option linter.unusedVariables false

theorem Held.block {w : World} {T n : Nat} {v : Value} {xs : List Value} (h : Held w T 1 v n xs) (hn : 0 < n) : ∃ g cap cur, v = .slice (some ⟨g, 0, none⟩) n cap ∧ w.heap[g]? = some (.cells cur T (0, 0)) ∧ n ≤ cap ∧ cap ≤ cur.size ∧ cur.toList.take n = xs := by
  rcases h.2 with ⟨_, h0⟩ | ⟨g, cap, cur, rfl, hg, h1, _, h3, h4⟩
  · omega
  · exact ⟨g, cap, cur, rfl, hg, h1, by omega, by rw [← h4, Nat.mul_one]⟩
theorem Held.set {w : World} {T n : Nat} {v : Value} {xs : List Value} (h : Held w T 1 v n xs) {g : Nat} (hg : v.ownBlock = some g) (k : Nat) (u : Value) : Held (w.setCell ⟨g, k, none⟩ u) T 1 v n (xs.set k u) := by
  refine ⟨by rw [List.length_set]; exact h.1, ?_⟩
  rcases h.2 with ⟨rfl, _⟩ | ⟨g', cap, cur, rfl, hg', h1, h2, h3, h4⟩
  · cases hg
  · cases hg
    refine .inr ⟨g', cap, cur.setIfInBounds k u, rfl, blk_set hg' k u, h1, h2, by rw [Array.size_setIfInBounds]; exact h3, ?_⟩
    rw [← h4]
    apply List.ext_getElem?
    intro j
    simp only [List.getElem?_take, List.getElem?_set, Array.getElem?_toList, Array.getElem?_setIfInBounds, List.length_take, Array.length_toList]
    by_cases hj : j < n * 1
    · rw [if_pos hj]
      by_cases hkj : k = j
      · subst hkj
        rw [if_pos rfl, if_pos rfl]
        by_cases hs : k < cur.size
        · rw [if_pos hs, if_pos (by omega)]
        · rw [if_neg hs, if_neg (by omega)]
      · rw [if_neg hkj, if_neg hkj, if_pos hj]
    · rw [if_neg hj]
      by_cases hkj : k = j
      · subst hkj
        rw [if_pos rfl, if_neg (by omega)]
      · rw [if_neg hkj, if_neg hj]
/-- one element of the i-th list is written -/
theorem Items.mark {α : Type} {enc : α → Value} {w : World} {col : Nat → Nat} {T K : Nat} {l : List (Value × List α)} (h : Items enc w col T K l) {i g : Nat} {p : Value × List α} (hp : l[i]? = some p) (hg : p.1.ownBlock = some g) (k : Nat) (s : α) :
    Items enc (w.setCell ⟨g, k, none⟩ (enc s)) col T K (l.set i (p.1, p.2.set k s)) ∧ Only col (fun c => c = K + i) w (w.setCell ⟨g, k, none⟩ (enc s)) := by
  refine ⟨fun j q hq => ?_, only_setCell' ((h i p hp).2.2 g hg) _⟩
  obtain ⟨h1, h2, h3⟩ := h i p hp
  have hil : i < l.length := (List.getElem?_eq_some_iff.mp hp).1
  rw [List.getElem?_set] at hq
  by_cases hij : i = j
  · subst hij
    rw [if_pos rfl, if_pos hil] at hq
    cases hq
    refine ⟨?_, by rw [List.length_set]; exact h2, h3⟩
    rw [List.length_set, List.map_set]
    exact h1.set hg k _
  · rw [if_neg hij] at hq
    obtain ⟨a, b, c⟩ := h j q hq
    refine ⟨a.keep fun g' hg' => Below.heap_setCell w ⟨g, k, none⟩ _ g' (fun e => ?_), b, c⟩
    have e1 := c g' hg'
    have e2 := h3 g hg
    rw [show g' = g from e] at e1
    omega
theorem map_set_fst {α β : Type} (l : List (α × β)) (i : Nat) (p q : α × β) (hp : l[i]? = some p) (hq : q.1 = p.1) : (l.set i q).map (·.1) = l.map (·.1) := by
  apply List.ext_getElem?
  intro j
  simp only [List.getElem?_map, List.getElem?_set]
  by_cases hij : i = j
  · subst hij
    have hil : i < l.length := (List.getElem?_eq_some_iff.mp hp).1
    rw [if_pos rfl, if_pos hil, hp]
    simp [hq]
  · rw [if_neg hij]
/-- a list of the mark, as one of colours -/
theorem items_col {α : Type} {enc : α → Value} {w : World} {col : Nat → Nat} {T K : Nat} {l : List (Value × List α)} (h : Items enc w col T K l) {i : Nat} {p : Value × List α} (hp : l[i]? = some p) {s : α} (hs : p.2 = List.replicate p.2.length s) :
    Held w T 1 p.1 p.2.length (marks [enc s] p.2.length) ∧ ∀ g, p.1.ownBlock = some g → col g = K + i := by
  obtain ⟨h1, _, h3⟩ := h i p hp
  refine ⟨?_, h3⟩
  have e : p.2.map enc = marks [enc s] p.2.length := by
    unfold marks
    rw [hs, List.length_replicate, List.map_replicate]
    generalize p.2.length = n
    induction n with
    | zero => rfl
    | succ n ih => rw [List.replicate_succ, List.replicate_succ, List.flatten_cons, ← ih]; rfl
  rw [← e]
  exact h1
end Go.Scr
