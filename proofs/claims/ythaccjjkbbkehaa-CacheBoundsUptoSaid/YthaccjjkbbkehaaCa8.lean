/- What is put out, walked: from the last one on. -/
import Derived.Test.YthaccjjkbbkehaaCa7
namespace Go.Proofs.Ythaccjjkbbkehaa
open Go.RowKit Go.Scr Go.Maps
set_option linter.unusedVariables false

def numC (c : Nat → Nat) (k : ByteArray) (L L' : List Ent) : Nat → Nat := put1 (put1 (put1 c 1 (wts (but k L'))) 5 (c 5 + (L.length - L'.length))) 6 L'.length
theorem numC_refl {c : Nat → Nat} {k : ByteArray} {L : List Ent} (h1 : c 1 = wts (but k L)) (h6 : c 6 = L.length) : numC c k L L = c := by
  funext i
  unfold numC put1
  by_cases e6 : i = 6
  · rw [if_pos e6, e6, h6]
  · rw [if_neg e6]
    by_cases e5 : i = 5
    · rw [if_pos e5, e5]; omega
    · rw [if_neg e5]
      by_cases e1 : i = 1
      · rw [if_pos e1, e1, h1]
      · rw [if_neg e1]
theorem numC_1 (c : Nat → Nat) (k : ByteArray) (L L' : List Ent) : numC c k L L' 1 = wts (but k L') := by
  unfold numC; rw [put1_ne (by decide), put1_ne (by decide), put1_at]
theorem numC_5 (c : Nat → Nat) (k : ByteArray) (L L' : List Ent) : numC c k L L' 5 = c 5 + (L.length - L'.length) := by
  unfold numC; rw [put1_ne (by decide), put1_at]
theorem numC_6 (c : Nat → Nat) (k : ByteArray) (L L' : List Ent) : numC c k L L' 6 = L'.length := by
  unfold numC; rw [put1_at]
theorem numC_o (c : Nat → Nat) (k : ByteArray) (L L' : List Ent) {i : Nat} (h1 : i ≠ 1) (h5 : i ≠ 5) (h6 : i ≠ 6) : numC c k L L' i = c i := by
  unfold numC; rw [put1_ne h6, put1_ne h5, put1_ne h1]
theorem but_mid {k : ByteArray} {A Z : List Ent} {e : Ent} (hk : e.key ≠ k) : wts (but k (A ++ e :: Z)) = e.wt + wts (but k (A ++ Z)) := by
  rw [but_append, but_append, but_cons, if_neg hk, wts_append, wts_append, wts_cons]; omega
theorem numC_out {c : Nat → Nat} {k : ByteArray} {L A Z : List Ent} {e : Ent} (hk : e.key ≠ k) (hl : (A ++ e :: Z).length ≤ L.length) : outC (numC c k L (A ++ e :: Z)) e = numC c k L (A ++ Z) := by
  have e2 : (A ++ e :: Z).length = (A ++ Z).length + 1 := by simp; omega
  funext i
  by_cases e5 : i = 5
  · subst e5
    unfold outC
    rw [put1_at, numC_5, numC_5]; omega
  · unfold outC
    rw [put1_ne e5]
    unfold goneC
    by_cases e6 : i = 6
    · subst e6
      rw [put1_at, numC_6, numC_6]; omega
    · rw [put1_ne e6]
      by_cases e1 : i = 1
      · subst e1
        rw [put1_at, numC_1, numC_1, but_mid hk]; omega
      · rw [put1_ne e1, numC_o _ _ _ _ e1 e5 e6, numC_o _ _ _ _ e1 e5 e6]
def blkOf : Value → Nat
  | .pointer (some a) => a.block
  | _ => 0
theorem idx_at {N : List Nat} {a b : Nat} (nd : N.Nodup) (h : N[a]? = some b) : N.idxOf b = a := by
  obtain ⟨hl, rfl⟩ := List.getElem?_eq_some_iff.mp h
  exact nd.idxOf_getElem a hl
/-- what stands between the rounds: A is to come, Z stays -/
def Rise (n x : Nat) (k : ByteArray) (L A Z : List Ent) : Prop := (evr n k (wts (but k (A ++ Z)) + x) A.reverse).reverse ++ Z = rest n x k L ∧ (A ++ Z).Sublist L
theorem Rise.start (n x : Nat) (k : ByteArray) (L : List Ent) : Rise n x k L L [] := ⟨by simp [rest], by simp⟩
theorem Rise.end {n x : Nat} {k : ByteArray} {L Z : List Ent} (h : Rise n x k L [] Z) : Z = rest n x k L := by simpa [evr] using h.1
theorem Rise.stop {n x : Nat} {k : ByteArray} {L A Z : List Ent} {e : Ent} (h : Rise n x k L (A ++ [e]) Z) (hb : wts (but k (A ++ e :: Z)) + x ≤ n) : A ++ e :: Z = rest n x k L := by
  have h1 := h.1
  rw [List.reverse_append] at h1
  have e1 : (A ++ [e]) ++ Z = A ++ e :: Z := by simp
  rw [e1] at h1
  simp only [List.reverse_cons, List.reverse_nil, List.nil_append, List.singleton_append] at h1
  unfold evr at h1
  rw [if_pos hb] at h1
  simpa using h1
theorem Rise.keep {n x : Nat} {k : ByteArray} {L A Z : List Ent} {e : Ent} (h : Rise n x k L (A ++ [e]) Z) (hb : ¬ wts (but k (A ++ e :: Z)) + x ≤ n) (hs : ¬ (e.pins = 0 ∧ e.key ≠ k)) : Rise n x k L A (e :: Z) := by
  have h1 := h.1
  rw [List.reverse_append] at h1
  have e1 : (A ++ [e]) ++ Z = A ++ e :: Z := by simp
  rw [e1] at h1
  simp only [List.reverse_cons, List.reverse_nil, List.nil_append, List.singleton_append] at h1
  unfold evr at h1
  rw [if_neg hb, if_neg hs] at h1
  exact ⟨by simpa using h1, by rw [← e1]; exact h.2⟩
theorem Rise.out {n x : Nat} {k : ByteArray} {L A Z : List Ent} {e : Ent} (h : Rise n x k L (A ++ [e]) Z) (hb : ¬ wts (but k (A ++ e :: Z)) + x ≤ n) (hp : e.pins = 0) (hk : e.key ≠ k) : Rise n x k L A Z := by
  have h1 := h.1
  rw [List.reverse_append] at h1
  have e1 : (A ++ [e]) ++ Z = A ++ e :: Z := by simp
  rw [e1] at h1
  simp only [List.reverse_cons, List.reverse_nil, List.nil_append, List.singleton_append] at h1
  unfold evr at h1
  rw [if_neg hb, if_pos ⟨hp, hk⟩] at h1
  refine ⟨?_, ?_⟩
  · rw [but_mid hk, show e.wt + wts (but k (A ++ Z)) + x - e.wt = wts (but k (A ++ Z)) + x by omega] at h1
    exact h1
  · have h2 := h.2
    rw [e1] at h2
    exact ((List.Sublist.refl A).append (List.sublist_cons_self e Z)).trans h2
theorem Rise.has {n x : Nat} {k : ByteArray} {L A Z : List Ent} {f : Ent} (h : Rise n x k L A Z) (hf : f ∈ L) (hk : f.key = k) : f ∈ A ++ Z := by
  have h1 : f ∈ rest n x k L := rest_mem (.inr hk) hf
  rw [← h.1] at h1
  rcases List.mem_append.mp h1 with h1 | h1
  · exact List.mem_append.mpr (.inl (List.mem_reverse.mp ((evr_sub _ _ _ _).subset (List.mem_reverse.mp h1))))
  · exact List.mem_append.mpr (.inr h1)
theorem wts_but_le (k : ByteArray) (L : List Ent) : wts (but k L) ≤ wts L := by
  induction L with
  | nil => exact Nat.le_refl _
  | cons e L ih =>
    rw [but_cons, wts_cons]
    split
    · omega
    · rw [wts_cons]; omega
theorem wts_sub {A B : List Ent} (h : A.Sublist B) : wts A ≤ wts B := by
  induction h with
  | slnil => exact Nat.le_refl _
  | cons e _ ih => rw [wts_cons]; omega
  | cons_cons e _ ih => rw [wts_cons, wts_cons]; omega
theorem inj_nodup {α β : Type} {f : α → β} : ∀ {L : List α}, (L.map f).Nodup → ∀ {x y : α}, x ∈ L → y ∈ L → f x = f y → x = y
  | [], _, _, _, hx, _, _ => by cases hx
  | a :: L, h, x, y, hx, hy, he => by
    rw [List.map_cons, List.nodup_cons] at h
    rcases List.mem_cons.mp hx with hx1 | hx1
    · rcases List.mem_cons.mp hy with hy1 | hy1
      · rw [hx1, hy1]
      · exact absurd (by rw [← hx1, he]; exact List.mem_map_of_mem hy1) h.1
    · rcases List.mem_cons.mp hy with hy1 | hy1
      · exact absurd (by rw [← hy1, ← he]; exact List.mem_map_of_mem hx1) h.1
      · exact inj_nodup h.2 hx1 hy1 he
theorem nth_last {ob : Nat} {L : List Ent} {a : Nat} (ha : a ≤ L.length) : ∃ X' q, ob :: blks (L.take a) = X' ++ [q] ∧ (ob :: blks L)[a]? = some q := by
  match a, ha with
  | 0, _ => exact ⟨[], ob, by simp [blks], rfl⟩
  | a + 1, ha =>
    refine ⟨ob :: blks (L.take a), L[a].blk, ?_, ?_⟩
    · rw [List.take_succ_eq_append_getElem (by omega), blks_app]; rfl
    · show (blks L)[a]? = _
      unfold blks
      rw [List.getElem?_map, List.getElem?_eq_getElem (by omega)]
      rfl
end Go.Proofs.Ythaccjjkbbkehaa
