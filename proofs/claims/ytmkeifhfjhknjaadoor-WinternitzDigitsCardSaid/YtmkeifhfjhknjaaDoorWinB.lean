/- The plain part of XWinA (never beside XWinA). -/
import Derived.Test.YtmkeifhfjhknjaaDoorWin3
import Derived.BigQuiet
namespace Go.Proofs.YtmkeifhfjhknjaaDoor
open Go.RowKit Go.Scr
set_option linter.unusedVariables false

theorem nibs_get : ∀ (d : List UInt8) (i : Nat), (nibs d).getD (2 * i) 0 = (d.getD i 0).toNat / 16 ∧ (nibs d).getD (2 * i + 1) 0 = (d.getD i 0).toNat % 16
  | [], i => by simp [nibs]
  | c :: d, 0 => by simp [nibs]
  | c :: d, i + 1 => by
    have h := nibs_get d i
    have e : nibs (c :: d) = c.toNat / 16 :: c.toNat % 16 :: nibs d := rfl
    rw [e, show 2 * (i + 1) = 2 * i + 1 + 1 by omega, List.getD_cons_succ, List.getD_cons_succ, List.getD_cons_succ, List.getD_cons_succ, List.getD_cons_succ]
    exact h
theorem nibs_inj {d e : List UInt8} (hl : d.length = e.length) (h : nibs d = nibs e) : d = e := by
  apply List.ext_getElem hl
  intro i h1 h2
  have ha := nibs_get d i
  have hb := nibs_get e i
  rw [h] at ha
  have e1 : d.getD i 0 = d[i] := by rw [List.getD_eq_getElem?_getD, List.getElem?_eq_getElem h1]; rfl
  have e2 : e.getD i 0 = e[i] := by rw [List.getD_eq_getElem?_getD, List.getElem?_eq_getElem h2]; rfl
  rw [← e1, ← e2]
  apply UInt8.toNat_inj.mp
  omega
theorem short_mono : ∀ (l m : List Nat), l.length = m.length → (∀ j, l.getD j 0 ≤ m.getD j 0) → (∀ x ∈ m, x < 16) → short m ≤ short l ∧ (short m = short l → l = m)
  | [], [], _, _, _ => by simp
  | [], _ :: _, h, _, _ => by simp at h
  | _ :: _, [], h, _, _ => by simp at h
  | a :: l, b :: m, hl, hj, hm => by
    have h0 : a ≤ b := by simpa using hj 0
    have ih := short_mono l m (by simpa using hl) (fun j => by simpa using hj (j + 1)) (fun x hx => hm x (List.mem_cons_of_mem _ hx))
    have hb := hm b List.mem_cons_self
    have e1 : short (a :: l) = (15 - a) + short l := by simp [short]
    have e2 : short (b :: m) = (15 - b) + short m := by simp [short]
    refine ⟨by omega, fun h => ?_⟩
    have : a = b := by omega
    subst this
    rw [ih.2 (by omega)]
theorem digs_low {d : List UInt8} (hd : d.length = 32) {j : Nat} (hj : j < 64) : (digs d).getD j 0 = (nibs d).getD j 0 := by
  unfold digs
  rw [List.getD_eq_getElem?_getD, List.getElem?_append_left (by rw [nibs_length]; omega), ← List.getD_eq_getElem?_getD]
theorem digs_high {d : List UInt8} (hd : d.length = 32) : (digs d).getD 64 0 = short (nibs d) / 256 ∧ (digs d).getD 65 0 = short (nibs d) / 16 % 16 ∧ (digs d).getD 66 0 = short (nibs d) % 16 := by
  have hl : (nibs d).length = 64 := by rw [nibs_length]; omega
  unfold digs
  refine ⟨?_, ?_, ?_⟩ <;> rw [List.getD_eq_getElem?_getD, List.getElem?_append_right (by omega), hl] <;> rfl
theorem digs_take {d : List UInt8} (hd : d.length = 32) : (digs d).take 64 = nibs d := by
  unfold digs
  rw [List.take_append_of_le_length (by rw [nibs_length]; omega), List.take_of_length_le (by rw [nibs_length]; omega)]
theorem nibs_short {d : List UInt8} (hd : d.length = 32) : short (nibs d) ≤ 960 := by
  have := short_le (nibs d)
  rw [nibs_length] at this
  omega
theorem digs_lt {d : List UInt8} (hd : d.length = 32) : ∀ x ∈ digs d, x < 16 := by
  intro x hx
  have hs := nibs_short hd
  unfold digs at hx
  rcases List.mem_append.mp hx with h | h
  · exact nibs_lt d x h
  · simp only [List.mem_cons, List.not_mem_nil, or_false] at h
    omega
/-- of two digests that are not the same each has a digit above the other one's -/
theorem above {d e : List UInt8} (hd : d.length = 32) (he : e.length = 32) (hne : d ≠ e) : ∃ j, j < 67 ∧ (digs e).getD j 0 < (digs d).getD j 0 := by
  apply Classical.byContradiction
  intro hall
  have hle : ∀ j, j < 67 → (digs d).getD j 0 ≤ (digs e).getD j 0 := fun j hj => Nat.le_of_not_lt fun h => hall ⟨j, hj, h⟩
  have hn : ∀ j, (nibs d).getD j 0 ≤ (nibs e).getD j 0 := fun j => by
    by_cases hj : j < 64
    · have := hle j (by omega)
      rwa [digs_low hd hj, digs_low he hj] at this
    · rw [List.getD_eq_getElem?_getD, List.getElem?_eq_none (by rw [nibs_length]; omega)]
      exact Nat.zero_le _
  obtain ⟨h1, h2⟩ := short_mono (nibs d) (nibs e) (by rw [nibs_length, nibs_length, hd, he]) hn (nibs_lt e)
  obtain ⟨d1, d2, d3⟩ := digs_high hd
  obtain ⟨e1, e2, e3⟩ := digs_high he
  have i1 := hle 64 (by omega)
  have i2 := hle 65 (by omega)
  have i3 := hle 66 (by omega)
  have s1 := nibs_short hd
  have s2 := nibs_short he
  exact hne (nibs_inj (by rw [hd, he]) (h2 (by omega)))
/-- some digit of the first k is above the other one's -/
def upTo (a b : List Nat) (k : Nat) : Bool := (List.range k).any fun j => decide (b.getD j 0 < a.getD j 0)
theorem upTo_succ (a b : List Nat) (k : Nat) : upTo a b (k + 1) = (upTo a b k || decide (b.getD k 0 < a.getD k 0)) := by
  unfold upTo
  rw [List.range_succ, List.any_append]
  simp
theorem upTo_above {d e : List UInt8} (hd : d.length = 32) (he : e.length = 32) (hne : d ≠ e) : upTo (digs d) (digs e) 67 = true := by
  obtain ⟨j, hj, h⟩ := above hd he hne
  unfold upTo
  rw [List.any_eq_true]
  exact ⟨j, List.mem_range.mpr hj, by simpa using h⟩
theorem upTo_same (a : List Nat) (k : Nat) : upTo a a k = false := by
  unfold upTo
  rw [List.any_eq_false]
  intro j _
  simp

/-- the digits that a block holds -/
def DigAt (w : World) (g : Nat) (a : List Nat) : Prop := ∀ j, j < 67 → w.cell? ⟨g, j, none⟩ = some (.int .i64 ((a.getD j 0 : Nat) : Int))
theorem DigAt.below {w w' : World} {g : Nat} {a : List Nat} (h : DigAt w g a) (hb : Below w.heap.size w w') : DigAt w' g a := fun j hj => (hb.cell (block_lt_of_cell (h j hj))).trans (h j hj)
theorem digAt_of_own {w : World} {B T g c : Nat} {d : List UInt8} (hd : d.length = 32) (h : w.ownsRow B T 1 (.slice (some ⟨g, 0, none⟩) 67 c) 67 (numV (digs d))) : DigAt w g (digs d) := fun j hj => by
  rw [owns_cell h hj, numV_get (by rw [digs_length d hd]; exact hj)]

end Go.Proofs.YtmkeifhfjhknjaaDoor
