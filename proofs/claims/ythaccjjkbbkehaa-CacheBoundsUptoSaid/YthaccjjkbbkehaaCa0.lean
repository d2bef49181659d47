/- The cache in plain Lean: what is there, the one used last first; what is put out. -/
import Derived.Test.YthaccjjkbbkehaaMem
namespace Go.Proofs.Ythaccjjkbbkehaa
set_option linter.unusedVariables false

structure Ent where
  blk : Nat
  key : ByteArray
  val : ByteArray
  pins : Nat
def Ent.wt (e : Ent) : Nat := e.key.size + e.val.size
def wts (L : List Ent) : Nat := (L.map Ent.wt).sum
def pinw (L : List Ent) : Nat := ((L.filter fun e => decide (0 < e.pins)).map Ent.wt).sum
/-- all but a key's -/
def but (k : ByteArray) (L : List Ent) : List Ent := L.filter fun e => decide (e.key ≠ k)
/-- what stays (the one used least lately first); b: what all count with the new one -/
def evr (n : Nat) (k : ByteArray) : Nat → List Ent → List Ent
  | _, [] => []
  | b, e :: R => if b ≤ n then e :: R else if e.pins = 0 ∧ e.key ≠ k then evr n k (b - e.wt) R else e :: evr n k b R
def pinsOf (k : ByteArray) (L : List Ent) : Nat := ((L.find? fun e => decide (e.key = k)).map Ent.pins).getD 0
/-- what stays of L if x more bytes come for the key k -/
def rest (n x : Nat) (k : ByteArray) (L : List Ent) : List Ent := (evr n k (wts (but k L) + x) L.reverse).reverse
def lput (n lb : Nat) (k v : ByteArray) (L : List Ent) : List Ent := ⟨lb, k, v, pinsOf k L⟩ :: but k (rest n (k.size + v.size) k L)

theorem wts_nil : wts [] = 0 := rfl
theorem wts_cons (e : Ent) (L : List Ent) : wts (e :: L) = e.wt + wts L := by simp [wts]
theorem wts_append (A B : List Ent) : wts (A ++ B) = wts A + wts B := by simp [wts]
theorem wts_reverse (A : List Ent) : wts A.reverse = wts A := by
  induction A with
  | nil => rfl
  | cons a A ih => rw [List.reverse_cons, wts_append, ih, wts_cons, wts_cons, wts_nil]; omega
theorem pinw_nil : pinw [] = 0 := rfl
theorem pinw_cons (e : Ent) (L : List Ent) : pinw (e :: L) = (if 0 < e.pins then e.wt else 0) + pinw L := by
  unfold pinw
  by_cases h : 0 < e.pins
  · simp [h]
  · simp [h]
theorem pinw_append (A B : List Ent) : pinw (A ++ B) = pinw A + pinw B := by simp [pinw]
theorem pinw_le (L : List Ent) : pinw L ≤ wts L := by
  induction L with
  | nil => exact Nat.le_refl _
  | cons e L ih => rw [pinw_cons, wts_cons]; split <;> omega
theorem but_nil (k : ByteArray) : but k [] = [] := rfl
theorem but_cons (k : ByteArray) (e : Ent) (L : List Ent) : but k (e :: L) = if e.key = k then but k L else e :: but k L := by
  unfold but
  by_cases h : e.key = k
  · simp [h]
  · simp [h]
theorem but_append (k : ByteArray) (A B : List Ent) : but k (A ++ B) = but k A ++ but k B := by simp [but]
theorem but_none {k : ByteArray} {L : List Ent} (h : ∀ e ∈ L, e.key ≠ k) : but k L = L := by
  unfold but
  exact List.filter_eq_self.mpr fun e he => by simpa using h e he
theorem but_mem {k : ByteArray} {L : List Ent} {e : Ent} : e ∈ but k L ↔ e ∈ L ∧ e.key ≠ k := by simp [but]
theorem but_sub (k : ByteArray) (L : List Ent) : (but k L).Sublist L := List.filter_sublist
/-- with keys that are unlike, L is one's left, itself, its right -/
theorem split_at {k : ByteArray} {L : List Ent} {e : Ent} (he : e ∈ L) (hk : e.key = k) (nk : (L.map Ent.key).Nodup) : ∃ X Y, L = X ++ e :: Y ∧ (∀ x ∈ X, x.key ≠ k) ∧ (∀ y ∈ Y, y.key ≠ k) := by
  obtain ⟨X, Y, rfl⟩ := List.append_of_mem he
  refine ⟨X, Y, rfl, fun x hx hxk => ?_, fun y hy hyk => ?_⟩
  · rw [List.map_append, List.map_cons, List.nodup_append] at nk
    exact nk.2.2 _ (List.mem_map_of_mem hx) _ (List.mem_cons_self ..) (hxk.trans hk.symm)
  · rw [List.map_append, List.map_cons, List.nodup_append, List.nodup_cons] at nk
    exact nk.2.1.1 (by rw [hk, ← hyk]; exact List.mem_map_of_mem hy)
theorem but_split {k : ByteArray} {X Y : List Ent} {e : Ent} (hk : e.key = k) (hX : ∀ x ∈ X, x.key ≠ k) (hY : ∀ y ∈ Y, y.key ≠ k) : but k (X ++ e :: Y) = X ++ Y := by
  rw [but_append, but_cons, if_pos hk, but_none hX, but_none hY]
theorem evr_sub (n : Nat) (k : ByteArray) : ∀ (b : Nat) (R : List Ent), (evr n k b R).Sublist R
  | _, [] => List.Sublist.slnil
  | b, e :: R => by
    unfold evr
    split
    · exact List.Sublist.refl _
    · split
      · exact (evr_sub n k _ R).trans (List.sublist_cons_self ..)
      · exact (evr_sub n k _ R).cons_cons e
theorem rest_sub (n x : Nat) (k : ByteArray) (L : List Ent) : (rest n x k L).Sublist L := by
  unfold rest
  have := (evr_sub n k (wts (but k L) + x) L.reverse).reverse
  rwa [List.reverse_reverse] at this
/-- what is pinned, and the key's own one, stays -/
theorem evr_mem {n : Nat} {k : ByteArray} {e : Ent} (h : 0 < e.pins ∨ e.key = k) : ∀ (b : Nat) (R : List Ent), e ∈ R → e ∈ evr n k b R
  | _, [], hm => hm
  | b, a :: R, hm => by
    unfold evr
    split
    · exact hm
    · rcases List.mem_cons.mp hm with rfl | hm
      · rw [if_neg (fun hc => h.elim (fun h => by have := hc.1; omega) hc.2)]
        exact List.mem_cons_self ..
      · split
        · exact evr_mem h _ R hm
        · exact List.mem_cons_of_mem _ (evr_mem h _ R hm)
theorem rest_mem {n x : Nat} {k : ByteArray} {L : List Ent} {e : Ent} (h : 0 < e.pins ∨ e.key = k) (hm : e ∈ L) : e ∈ rest n x k L := by
  unfold rest
  exact List.mem_reverse.mpr (evr_mem h _ _ (List.mem_reverse.mpr hm))
/-- what is left fits, if what is pinned does -/
theorem evr_fits {n : Nat} {k : ByteArray} : ∀ (R : List Ent) (b c : Nat), b = wts (but k R) + c → pinw (but k R) + c ≤ n → wts (but k (evr n k b R)) + c ≤ n
  | [], b, c, hb, hn => by unfold evr; rw [but_nil, wts_nil]; omega
  | e :: R, b, c, hb, hn => by
    unfold evr
    split
    · omega
    · rw [but_cons] at hb hn
      by_cases hk : e.key = k
      · rw [if_pos hk] at hb hn
        rw [if_neg (fun h => h.2 hk), but_cons, if_pos hk]
        exact evr_fits R b c hb hn
      · rw [if_neg hk] at hb hn
        rw [wts_cons] at hb
        rw [pinw_cons] at hn
        by_cases hp : e.pins = 0
        · rw [if_pos ⟨hp, hk⟩]
          rw [if_neg (by omega)] at hn
          exact evr_fits R _ c (by omega) (by omega)
        · rw [if_neg (fun h => hp h.1), but_cons, if_neg hk, wts_cons]
          rw [if_pos (by omega)] at hn
          have h1 : b = wts (but k R) + (e.wt + c) := by omega
          have := evr_fits (n := n) (k := k) R b (e.wt + c) h1 (by omega)
          omega
theorem but_reverse (k : ByteArray) (L : List Ent) : but k L.reverse = (but k L).reverse := by simp [but]
theorem pinw_reverse (A : List Ent) : pinw A.reverse = pinw A := by
  induction A with
  | nil => rfl
  | cons a A ih => rw [List.reverse_cons, pinw_append, ih, pinw_cons, pinw_cons, pinw_nil]; omega
theorem rest_fits {n x : Nat} {k : ByteArray} {L : List Ent} (h : pinw (but k L) + x ≤ n) : wts (but k (rest n x k L)) + x ≤ n := by
  unfold rest
  rw [but_reverse, wts_reverse]
  refine evr_fits L.reverse _ x (by rw [but_reverse, wts_reverse]) ?_
  rw [but_reverse, pinw_reverse]
  exact h
/-- what is pinned of the others stays what it was -/
theorem evr_pinw (n : Nat) (k : ByteArray) : ∀ (b : Nat) (R : List Ent), pinw (but k (evr n k b R)) = pinw (but k R)
  | _, [] => rfl
  | b, e :: R => by
    unfold evr
    split
    · rfl
    · split
      · next h => rw [evr_pinw n k _ R, but_cons, if_neg h.2, pinw_cons, if_neg (by omega)]; omega
      · rw [but_cons, but_cons]
        split
        · exact evr_pinw n k b R
        · rw [pinw_cons, pinw_cons, evr_pinw n k b R]
theorem rest_pinw (n x : Nat) (k : ByteArray) (L : List Ent) : pinw (but k (rest n x k L)) = pinw (but k L) := by
  unfold rest
  rw [but_reverse, pinw_reverse, evr_pinw, but_reverse, pinw_reverse]
end Go.Proofs.Ythaccjjkbbkehaa
