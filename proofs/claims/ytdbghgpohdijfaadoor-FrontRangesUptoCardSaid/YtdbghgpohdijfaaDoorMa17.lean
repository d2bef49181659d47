/- Tiles in plain Lean: which node lies where; rows of a tile; what a node more does. -/
import Derived.Test.YtdbghgpohdijfaaDoorMa4
import Derived.Laws.CopyOwn
import Derived.BigQuiet
import Derived.WalkMore
import Derived.Maps.Own
import Derived.ChangeMaps5
import Derived.Test.YtdbghgpohdijfaaDoorMa2
namespace Go.Scr
set_option linter.unusedVariables false
/-- how many nodes a tile (lv, ix) of height h has on its level j, where level l has c l nodes -/
def cntT (c : Nat → Nat) (h lv ix j : Nat) : Nat := Nat.min (2 ^ (h - j)) (c (lv * h + j) - ix * 2 ^ (h - j))
def rowT (c : Nat → Nat) (val : Nat → Nat → ByteArray) (h lv ix j : Nat) : List ByteArray := (List.range (cntT c h lv ix j)).map fun q => val (lv * h + j) (ix * 2 ^ (h - j) + q)
def exT (c : Nat → Nat) (h lv ix : Nat) : Prop := ix * 2 ^ h < c (lv * h)
/-- one node more on a level -/
def upC (c : Nat → Nat) (l : Nat) : Nat → Nat := fun k => if k = l then c l + 1 else c k
theorem upC_at (c : Nat → Nat) (l : Nat) : upC c l l = c l + 1 := if_pos rfl
theorem upC_ne {c : Nat → Nat} {l k : Nat} (h : k ≠ l) : upC c l k = c k := if_neg h
theorem rowT_length (c : Nat → Nat) (val : Nat → Nat → ByteArray) (h lv ix j : Nat) : (rowT c val h lv ix j).length = cntT c h lv ix j := by simp [rowT]
theorem lvl_back {h : Nat} (l : Nat) : l / h * h + l % h = l := by rw [Nat.mul_comm]; exact Nat.div_add_mod l h
theorem idx_back (i a : Nat) : i / 2 ^ a * 2 ^ a + i % 2 ^ a = i := by rw [Nat.mul_comm]; exact Nat.div_add_mod i (2 ^ a)
theorem two_pos (a : Nat) : 0 < 2 ^ a := Nat.pos_of_ne_zero (by simp)
theorem cnt_at {c : Nat → Nat} {h l i : Nat} (hi : i < c l) : i % 2 ^ (h - l % h) < cntT c h (l / h) (i / 2 ^ (h - l % h)) (l % h) := by
  unfold cntT
  have h1 := Nat.mod_lt i (two_pos (h - l % h))
  have h2 := idx_back i (h - l % h)
  rw [lvl_back]
  exact Nat.lt_min.2 ⟨h1, by omega⟩
theorem row_at {c : Nat → Nat} (val : Nat → Nat → ByteArray) {h l i : Nat} (hi : i < c l) : (rowT c val h (l / h) (i / 2 ^ (h - l % h)) (l % h))[i % 2 ^ (h - l % h)]? = some (val l i) := by
  unfold rowT
  rw [List.getElem?_map, List.getElem?_range (cnt_at hi)]
  show some (val (l / h * h + l % h) (i / 2 ^ (h - l % h) * 2 ^ (h - l % h) + i % 2 ^ (h - l % h))) = _
  rw [lvl_back, idx_back]
theorem cnt_next (c : Nat → Nat) (h l : Nat) : cntT c h (l / h) (c l / 2 ^ (h - l % h)) (l % h) = c l % 2 ^ (h - l % h) := by
  unfold cntT
  rw [lvl_back]
  have h1 := Nat.mod_lt (c l) (two_pos (h - l % h))
  have h2 := idx_back (c l) (h - l % h)
  rw [show c l - c l / 2 ^ (h - l % h) * 2 ^ (h - l % h) = c l % 2 ^ (h - l % h) by omega]
  exact Nat.min_eq_right (Nat.le_of_lt h1)
theorem cnt_next' (c : Nat → Nat) (h l : Nat) : cntT (upC c l) h (l / h) (c l / 2 ^ (h - l % h)) (l % h) = c l % 2 ^ (h - l % h) + 1 := by
  unfold cntT
  rw [lvl_back, upC_at]
  have h1 := Nat.mod_lt (c l) (two_pos (h - l % h))
  have h2 := idx_back (c l) (h - l % h)
  rw [show c l + 1 - c l / 2 ^ (h - l % h) * 2 ^ (h - l % h) = c l % 2 ^ (h - l % h) + 1 by omega]
  exact Nat.min_eq_right h1
/-- the row that the node goes to -/
theorem row_put {c : Nat → Nat} {val val' : Nat → Nat → ByteArray} {h l : Nat} (hv : ∀ k i, i < c k → val' k i = val k i) : rowT (upC c l) val' h (l / h) (c l / 2 ^ (h - l % h)) (l % h) = rowT c val h (l / h) (c l / 2 ^ (h - l % h)) (l % h) ++ [val' l (c l)] := by
  unfold rowT
  rw [cnt_next', cnt_next, List.range_succ, List.map_append, List.map_singleton, lvl_back, idx_back]
  congr 1
  refine List.map_congr_left fun q hq => ?_
  have h2 := idx_back (c l) (h - l % h)
  exact hv l _ (by have := List.mem_range.1 hq; omega)
/-- all other rows -/
theorem cnt_other {c : Nat → Nat} {h l lv ix j : Nat} (hj : j < h) (hne : ¬ (lv = l / h ∧ ix = c l / 2 ^ (h - l % h) ∧ j = l % h)) : cntT (upC c l) h lv ix j = cntT c h lv ix j := by
  unfold cntT
  by_cases hl : lv * h + j = l
  · have h1 : lv = l / h := by rw [← hl, Nat.mul_comm, Nat.mul_add_div (by omega), Nat.div_eq_of_lt hj, Nat.add_zero]
    have h2 : j = l % h := by rw [← hl, Nat.mul_comm, Nat.mul_add_mod, Nat.mod_eq_of_lt hj]
    have h3 : ix ≠ c l / 2 ^ (h - l % h) := fun e => hne ⟨h1, e, h2⟩
    rw [hl, upC_at, h2]
    have h4 := idx_back (c l) (h - l % h)
    have h5 := Nat.mod_lt (c l) (two_pos (h - l % h))
    generalize 2 ^ (h - l % h) = p at *
    rcases Nat.lt_or_gt_of_ne h3 with h6 | h6
    · have h7 : ix * p + p ≤ c l / p * p := by rw [← Nat.succ_mul]; exact Nat.mul_le_mul_right _ h6
      exact (Nat.min_eq_left (by omega : p ≤ c l + 1 - ix * p)).trans (Nat.min_eq_left (by omega : p ≤ c l - ix * p)).symm
    · have h7 : c l / p * p + p ≤ ix * p := by rw [← Nat.succ_mul]; exact Nat.mul_le_mul_right _ h6
      rw [show c l + 1 - ix * p = 0 by omega, show c l - ix * p = 0 by omega]
  · rw [upC_ne hl]
theorem row_other {c : Nat → Nat} {val val' : Nat → Nat → ByteArray} {h l lv ix j : Nat} (hj : j < h) (hne : ¬ (lv = l / h ∧ ix = c l / 2 ^ (h - l % h) ∧ j = l % h)) (hv : ∀ k i, i < c k → val' k i = val k i) : rowT (upC c l) val' h lv ix j = rowT c val h lv ix j := by
  unfold rowT
  rw [cnt_other hj hne]
  refine List.map_congr_left fun q hq => hv _ _ ?_
  have h1 := List.mem_range.1 hq
  unfold cntT at h1
  have := Nat.lt_of_lt_of_le h1 (Nat.min_le_right _ _)
  omega
theorem ex_put {c : Nat → Nat} {h l : Nat} (hh : 0 < h) (hp : l % h = 0 ∨ exT c h (l / h) (c l / 2 ^ (h - l % h))) (lv ix : Nat) : exT (upC c l) h lv ix ↔ exT c h lv ix ∨ (lv = l / h ∧ ix = c l / 2 ^ (h - l % h)) := by
  unfold exT at *
  by_cases hl : lv * h = l
  · have h1 : l / h = lv := by rw [← hl]; exact Nat.mul_div_cancel _ hh
    have h2 : l % h = 0 := by rw [← hl]; exact Nat.mul_mod_left _ _
    rw [hl, upC_at, h1, h2, Nat.sub_zero]
    have h4 := idx_back (c l) h
    have h5 := Nat.mod_lt (c l) (two_pos h)
    generalize 2 ^ h = p at *
    constructor
    · intro h6
      by_cases e : ix = c l / p
      · exact .inr ⟨rfl, e⟩
      · left
        rcases Nat.lt_or_gt_of_ne e with h8 | h8
        · have : ix * p + p ≤ c l / p * p := by rw [← Nat.succ_mul]; exact Nat.mul_le_mul_right _ h8
          omega
        · have : c l / p * p + p ≤ ix * p := by rw [← Nat.succ_mul]; exact Nat.mul_le_mul_right _ h8
          omega
    · rintro (h6 | ⟨_, h6⟩)
      · omega
      · rw [h6]; omega
  · rw [upC_ne hl]
    constructor
    · exact .inl
    · rintro (h6 | ⟨h6, h7⟩)
      · exact h6
      · rcases hp with h8 | h8
        · exfalso
          apply hl
          have := lvl_back (h := h) l
          rw [h6]
          omega
        · rw [h6, h7]
          have h9 : l % h ≠ 0 := fun e => hl (by have := lvl_back (h := h) l; rw [h6]; omega)
          exact h8
/-- the tile of a node that is there exists -/
theorem ex_of {c : Nat → Nat} (hm : ∀ l j, c (l + j) * 2 ^ j ≤ c l) {h l i : Nat} (hh : 0 < h) (hi : i < c l) : exT c h (l / h) (i / 2 ^ (h - l % h)) := by
  unfold exT
  have h1 := hm (l / h * h) (l % h)
  rw [lvl_back] at h1
  have h2 := idx_back i (h - l % h)
  have h3 := Nat.mod_lt l hh
  have h4 : 2 ^ h = 2 ^ (h - l % h) * 2 ^ (l % h) := by rw [← Nat.pow_add, Nat.sub_add_cancel (Nat.le_of_lt h3)]
  rw [h4, ← Nat.mul_assoc]
  have h5 : i / 2 ^ (h - l % h) * 2 ^ (h - l % h) ≤ i := by omega
  calc i / 2 ^ (h - l % h) * 2 ^ (h - l % h) * 2 ^ (l % h) ≤ i * 2 ^ (l % h) := Nat.mul_le_mul_right _ h5
    _ < c l * 2 ^ (l % h) := Nat.mul_lt_mul_of_pos_right hi (two_pos _)
    _ ≤ c (l / h * h) := h1
theorem upC_mono {c : Nat → Nat} (hm : ∀ l j, c (l + j) * 2 ^ j ≤ c l) {l : Nat} (hl : ∀ k, k < l → (c l + 1) * 2 ^ (l - k) ≤ c k) : ∀ k j, upC c l (k + j) * 2 ^ j ≤ upC c l k := by
  intro k j
  by_cases h1 : k + j = l
  · rw [h1, upC_at]
    by_cases h2 : k = l
    · obtain rfl : j = 0 := by omega
      rw [h2, upC_at]; simp
    · rw [upC_ne h2]
      have := hl k (by omega)
      rwa [show l - k = j by omega] at this
  · rw [upC_ne h1]
    by_cases h2 : k = l
    · rw [h2, upC_at]
      have := hm l j
      omega
    · rw [upC_ne h2]
      exact hm k j
end Go.Scr
/- Maps whose keys are places of tiles: looked up, stored into. -/
namespace Go.Proofs.YtdbghgpohdijfaaDoor
open Go.RowKit Go.Scr Go.ChangeMaps Go.MapKept
set_option linter.unusedVariables false
def keyZ (a b : Int) : Value := .agg #[.int .i64 a, .int .i64 b]
theorem keyZ_inj {a b c d : Int} (h : keyZ a b = keyZ c d) : a = c ∧ b = d := by
  unfold keyZ at h
  simp only [Value.agg.injEq, Array.mk.injEq, List.cons.injEq, Value.int.injEq, true_and, and_true] at h
  exact h
theorem zero_rows (w : World) : (zeroValue 45).run Tryd.prog w = .ok (.slice none 0 0) w := by kernel_rfl
end Go.Proofs.YtdbghgpohdijfaaDoor
/- A tree of tiles in memory. -/
namespace Go.Proofs.YtdbghgpohdijfaaDoor
open Go.RowKit Go.Scr Go.ChangeMaps Go.MapKept
set_option linter.unusedVariables false
def up2 {α : Type} (f : Nat → Nat → α) (a b : Nat) (x : α) : Nat → Nat → α := fun i j => if i = a ∧ j = b then x else f i j
theorem up2_at {α : Type} (f : Nat → Nat → α) (a b : Nat) (x : α) : up2 f a b x a b = x := if_pos ⟨rfl, rfl⟩
theorem up2_ne {α : Type} {f : Nat → Nat → α} {a b i j : Nat} {x : α} (h : ¬ (i = a ∧ j = b)) : up2 f a b x i j = f i j := if_neg h
def dyeT (col : Nat → Option (Nat × Nat × Nat)) (g : Nat) (x : Nat × Nat × Nat) : Nat → Option (Nat × Nat × Nat) := fun i => if i = g then some x else col i
theorem cnt_zero {c : Nat → Nat} (hm : ∀ l j, c (l + j) * 2 ^ j ≤ c l) {h lv ix j : Nat} (hj : j < h) (hn : ¬ exT c h lv ix) : cntT c h lv ix j = 0 := by
  unfold cntT
  unfold exT at hn
  have h1 := hm (lv * h) j
  have h2 : 2 ^ h = 2 ^ (h - j) * 2 ^ j := by rw [← Nat.pow_add, Nat.sub_add_cancel (Nat.le_of_lt hj)]
  have h3 : c (lv * h + j) * 2 ^ j ≤ ix * 2 ^ (h - j) * 2 ^ j := by rw [Nat.mul_assoc, ← h2]; omega
  have h4 := Nat.le_of_mul_le_mul_right h3 (two_pos j)
  rw [show c (lv * h + j) - ix * 2 ^ (h - j) = 0 by omega]
  exact Nat.min_eq_right (Nat.zero_le _)
def dyeW (col : Nat → Option (Nat × Nat × Nat)) (v : Value) (x : Nat × Nat × Nat) : Nat → Option (Nat × Nat × Nat) := fun g => if v.ownBlock = some g then some x else col g
def up3 {α : Type} (f : Nat → Nat → Nat → α) (a b c : Nat) (x : α) : Nat → Nat → Nat → α := fun i j k => if i = a ∧ j = b ∧ k = c then x else f i j k
theorem up3_at {α : Type} (f : Nat → Nat → Nat → α) (a b c : Nat) (x : α) : up3 f a b c x a b c = x := if_pos ⟨rfl, rfl, rfl⟩
theorem up3_ne {α : Type} {f : Nat → Nat → Nat → α} {a b c i j k : Nat} {x : α} (h : ¬ (i = a ∧ j = b ∧ k = c)) : up3 f a b c x i j k = f i j k := if_neg h
/-- what has turned lies in the tree's own blocks, or is new -/
structure ChT (col : Nat → Option (Nat × Nat × Nat)) (w w' : World) : Prop where
  os : w'.os = w.os
  tape : w'.tape = w.tape
  output : w'.output = w.output
  size : w.heap.size ≤ w'.heap.size
  block : ∀ g, g < w.heap.size → col g = none → w'.heap[g]? = w.heap[g]?
theorem ChT.refl (col : Nat → Option (Nat × Nat × Nat)) (w : World) : ChT col w w := ⟨rfl, rfl, rfl, Nat.le_refl _, fun _ _ _ => rfl⟩
theorem ChT.trans {col col' : Nat → Option (Nat × Nat × Nat)} {a b c : World} (h : ChT col a b) (k : ChT col' b c) (hc : ∀ g, g < a.heap.size → col' g = col g) : ChT col a c :=
  ⟨k.os.trans h.os, k.tape.trans h.tape, k.output.trans h.output, Nat.le_trans h.size k.size, fun g hg hn => (k.block g (Nat.lt_of_lt_of_le hg h.size) (by rw [hc g hg]; exact hn)).trans (h.block g hg hn)⟩
theorem ChT.of_below {col : Nat → Option (Nat × Nat × Nat)} {w w' : World} (h : Below w.heap.size w w') : ChT col w w' := ⟨h.os, h.tape, h.output, h.size, fun g hg _ => h.block g hg⟩
theorem grewT_own {T sz : Nat} {w w' : World} {o : Obj} {v v' : Value} {n m : Nat} {xs news : List Value} (g : Grew T sz (w.alloc o) v n m xs news v' w') : ∀ q, v'.ownBlock = some q → v.ownBlock = some q ∨ w.heap.size ≤ q := fun q hq => by
  rcases g.at with ⟨e, _⟩ | ⟨e, _⟩
  · exact .inl (by rw [← e]; exact hq)
  · rw [hq] at e
    have h1 := Option.some.inj e
    simp at h1
    exact .inr (by omega)
end Go.Proofs.YtdbghgpohdijfaaDoor
