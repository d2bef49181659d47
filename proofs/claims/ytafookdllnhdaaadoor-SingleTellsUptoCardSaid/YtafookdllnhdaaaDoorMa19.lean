/- Tiles in plain Lean: which node lies where; rows of a tile; what a node more does. -/
import Derived.Test.YtafookdllnhdaaaDoorMa4
import Derived.Laws.CopyOwn
import Derived.BigQuiet
import Derived.WalkMore
import Derived.Maps.Own
import Derived.ChangeMaps5
import Derived.Test.YtafookdllnhdaaaDoorMa2
namespace Go.Scr
set_option linter.unusedVariables false
/-- how many nodes a tile (lv, ix) of height h has on its level j, where level l has c l nodes -/
def cntT (c : Nat → Nat) (h lv ix j : Nat) : Nat := Nat.min (2 ^ (h - j)) (c (lv * h + j) - ix * 2 ^ (h - j))
def rowT (c : Nat → Nat) (val : Nat → Nat → ByteArray) (h lv ix j : Nat) : List ByteArray := (List.range (cntT c h lv ix j)).map fun q => val (lv * h + j) (ix * 2 ^ (h - j) + q)
def exT (c : Nat → Nat) (h lv ix : Nat) : Prop := ix * 2 ^ h < c (lv * h)
/-- one node more on a level -/
def upC (c : Nat → Nat) (l : Nat) : Nat → Nat := fun k => if k = l then c l + 1 else c k
theorem upC_at (c : Nat → Nat) (l : Nat) : upC c l l = c l + 1 := if_pos rfl
theorem upC_ne {c : Nat → Nat} {l k : Nat} (h : k ≠ l) : upC c l k = c k := if_neg h
theorem rowT_length (c : Nat → Nat) (val : Nat → Nat → ByteArray) (h lv ix j : Nat) : (rowT c val h lv ix j).length = cntT c h lv ix j := by simp [rowT]
theorem lvl_back {h : Nat} (l : Nat) : l / h * h + l % h = l := by rw [Nat.mul_comm]; exact Nat.div_add_mod l h
theorem idx_back (i a : Nat) : i / 2 ^ a * 2 ^ a + i % 2 ^ a = i := by rw [Nat.mul_comm]; exact Nat.div_add_mod i (2 ^ a)
theorem two_pos (a : Nat) : 0 < 2 ^ a := Nat.pos_of_ne_zero (by simp)
theorem cnt_at {c : Nat → Nat} {h l i : Nat} (hi : i < c l) : i % 2 ^ (h - l % h) < cntT c h (l / h) (i / 2 ^ (h - l % h)) (l % h) := by
  unfold cntT
  have h1 := Nat.mod_lt i (two_pos (h - l % h))
  have h2 := idx_back i (h - l % h)
  rw [lvl_back]
  exact Nat.lt_min.2 ⟨h1, by omega⟩
theorem row_at {c : Nat → Nat} (val : Nat → Nat → ByteArray) {h l i : Nat} (hi : i < c l) : (rowT c val h (l / h) (i / 2 ^ (h - l % h)) (l % h))[i % 2 ^ (h - l % h)]? = some (val l i) := by
  unfold rowT
  rw [List.getElem?_map, List.getElem?_range (cnt_at hi)]
  show some (val (l / h * h + l % h) (i / 2 ^ (h - l % h) * 2 ^ (h - l % h) + i % 2 ^ (h - l % h))) = _
  rw [lvl_back, idx_back]
theorem cnt_next (c : Nat → Nat) (h l : Nat) : cntT c h (l / h) (c l / 2 ^ (h - l % h)) (l % h) = c l % 2 ^ (h - l % h) := by
  unfold cntT
  rw [lvl_back]
  have h1 := Nat.mod_lt (c l) (two_pos (h - l % h))
  have h2 := idx_back (c l) (h - l % h)
  rw [show c l - c l / 2 ^ (h - l % h) * 2 ^ (h - l % h) = c l % 2 ^ (h - l % h) by omega]
  exact Nat.min_eq_right (Nat.le_of_lt h1)
theorem cnt_next' (c : Nat → Nat) (h l : Nat) : cntT (upC c l) h (l / h) (c l / 2 ^ (h - l % h)) (l % h) = c l % 2 ^ (h - l % h) + 1 := by
  unfold cntT
  rw [lvl_back, upC_at]
  have h1 := Nat.mod_lt (c l) (two_pos (h - l % h))
  have h2 := idx_back (c l) (h - l % h)
  rw [show c l + 1 - c l / 2 ^ (h - l % h) * 2 ^ (h - l % h) = c l % 2 ^ (h - l % h) + 1 by omega]
  exact Nat.min_eq_right h1
/-- the row that the node goes to -/
theorem row_put {c : Nat → Nat} {val val' : Nat → Nat → ByteArray} {h l : Nat} (hv : ∀ k i, i < c k → val' k i = val k i) : rowT (upC c l) val' h (l / h) (c l / 2 ^ (h - l % h)) (l % h) = rowT c val h (l / h) (c l / 2 ^ (h - l % h)) (l % h) ++ [val' l (c l)] := by
  unfold rowT
  rw [cnt_next', cnt_next, List.range_succ, List.map_append, List.map_singleton, lvl_back, idx_back]
  congr 1
  refine List.map_congr_left fun q hq => ?_
  have h2 := idx_back (c l) (h - l % h)
  exact hv l _ (by have := List.mem_range.1 hq; omega)
/-- all other rows -/
theorem cnt_other {c : Nat → Nat} {h l lv ix j : Nat} (hj : j < h) (hne : ¬ (lv = l / h ∧ ix = c l / 2 ^ (h - l % h) ∧ j = l % h)) : cntT (upC c l) h lv ix j = cntT c h lv ix j := by
  unfold cntT
  by_cases hl : lv * h + j = l
  · have h1 : lv = l / h := by rw [← hl, Nat.mul_comm, Nat.mul_add_div (by omega), Nat.div_eq_of_lt hj, Nat.add_zero]
    have h2 : j = l % h := by rw [← hl, Nat.mul_comm, Nat.mul_add_mod, Nat.mod_eq_of_lt hj]
    have h3 : ix ≠ c l / 2 ^ (h - l % h) := fun e => hne ⟨h1, e, h2⟩
    rw [hl, upC_at, h2]
    have h4 := idx_back (c l) (h - l % h)
    have h5 := Nat.mod_lt (c l) (two_pos (h - l % h))
    generalize 2 ^ (h - l % h) = p at *
    rcases Nat.lt_or_gt_of_ne h3 with h6 | h6
    · have h7 : ix * p + p ≤ c l / p * p := by rw [← Nat.succ_mul]; exact Nat.mul_le_mul_right _ h6
      exact (Nat.min_eq_left (by omega : p ≤ c l + 1 - ix * p)).trans (Nat.min_eq_left (by omega : p ≤ c l - ix * p)).symm
    · have h7 : c l / p * p + p ≤ ix * p := by rw [← Nat.succ_mul]; exact Nat.mul_le_mul_right _ h6
      rw [show c l + 1 - ix * p = 0 by omega, show c l - ix * p = 0 by omega]
  · rw [upC_ne hl]
theorem row_other {c : Nat → Nat} {val val' : Nat → Nat → ByteArray} {h l lv ix j : Nat} (hj : j < h) (hne : ¬ (lv = l / h ∧ ix = c l / 2 ^ (h - l % h) ∧ j = l % h)) (hv : ∀ k i, i < c k → val' k i = val k i) : rowT (upC c l) val' h lv ix j = rowT c val h lv ix j := by
  unfold rowT
  rw [cnt_other hj hne]
  refine List.map_congr_left fun q hq => hv _ _ ?_
  have h1 := List.mem_range.1 hq
  unfold cntT at h1
  have := Nat.lt_of_lt_of_le h1 (Nat.min_le_right _ _)
  omega
theorem ex_put {c : Nat → Nat} {h l : Nat} (hh : 0 < h) (hp : l % h = 0 ∨ exT c h (l / h) (c l / 2 ^ (h - l % h))) (lv ix : Nat) : exT (upC c l) h lv ix ↔ exT c h lv ix ∨ (lv = l / h ∧ ix = c l / 2 ^ (h - l % h)) := by
  unfold exT at *
  by_cases hl : lv * h = l
  · have h1 : l / h = lv := by rw [← hl]; exact Nat.mul_div_cancel _ hh
    have h2 : l % h = 0 := by rw [← hl]; exact Nat.mul_mod_left _ _
    rw [hl, upC_at, h1, h2, Nat.sub_zero]
    have h4 := idx_back (c l) h
    have h5 := Nat.mod_lt (c l) (two_pos h)
    generalize 2 ^ h = p at *
    constructor
    · intro h6
      by_cases e : ix = c l / p
      · exact .inr ⟨rfl, e⟩
      · left
        rcases Nat.lt_or_gt_of_ne e with h8 | h8
        · have : ix * p + p ≤ c l / p * p := by rw [← Nat.succ_mul]; exact Nat.mul_le_mul_right _ h8
          omega
        · have : c l / p * p + p ≤ ix * p := by rw [← Nat.succ_mul]; exact Nat.mul_le_mul_right _ h8
          omega
    · rintro (h6 | ⟨_, h6⟩)
      · omega
      · rw [h6]; omega
  · rw [upC_ne hl]
    constructor
    · exact .inl
    · rintro (h6 | ⟨h6, h7⟩)
      · exact h6
      · rcases hp with h8 | h8
        · exfalso
          apply hl
          have := lvl_back (h := h) l
          rw [h6]
          omega
        · rw [h6, h7]
          have h9 : l % h ≠ 0 := fun e => hl (by have := lvl_back (h := h) l; rw [h6]; omega)
          exact h8
/-- the tile of a node that is there exists -/
theorem ex_of {c : Nat → Nat} (hm : ∀ l j, c (l + j) * 2 ^ j ≤ c l) {h l i : Nat} (hh : 0 < h) (hi : i < c l) : exT c h (l / h) (i / 2 ^ (h - l % h)) := by
  unfold exT
  have h1 := hm (l / h * h) (l % h)
  rw [lvl_back] at h1
  have h2 := idx_back i (h - l % h)
  have h3 := Nat.mod_lt l hh
  have h4 : 2 ^ h = 2 ^ (h - l % h) * 2 ^ (l % h) := by rw [← Nat.pow_add, Nat.sub_add_cancel (Nat.le_of_lt h3)]
  rw [h4, ← Nat.mul_assoc]
  have h5 : i / 2 ^ (h - l % h) * 2 ^ (h - l % h) ≤ i := by omega
  calc i / 2 ^ (h - l % h) * 2 ^ (h - l % h) * 2 ^ (l % h) ≤ i * 2 ^ (l % h) := Nat.mul_le_mul_right _ h5
    _ < c l * 2 ^ (l % h) := Nat.mul_lt_mul_of_pos_right hi (two_pos _)
    _ ≤ c (l / h * h) := h1
theorem upC_mono {c : Nat → Nat} (hm : ∀ l j, c (l + j) * 2 ^ j ≤ c l) {l : Nat} (hl : ∀ k, k < l → (c l + 1) * 2 ^ (l - k) ≤ c k) : ∀ k j, upC c l (k + j) * 2 ^ j ≤ upC c l k := by
  intro k j
  by_cases h1 : k + j = l
  · rw [h1, upC_at]
    by_cases h2 : k = l
    · obtain rfl : j = 0 := by omega
      rw [h2, upC_at]; simp
    · rw [upC_ne h2]
      have := hl k (by omega)
      rwa [show l - k = j by omega] at this
  · rw [upC_ne h1]
    by_cases h2 : k = l
    · rw [h2, upC_at]
      have := hm l j
      omega
    · rw [upC_ne h2]
      exact hm k j
end Go.Scr
/- Maps whose keys are places of tiles: looked up, stored into. -/
namespace Go.Proofs.YtafookdllnhdaaaDoor
open Go.RowKit Go.Scr Go.ChangeMaps Go.MapKept
set_option linter.unusedVariables false
def keyZ (a b : Int) : Value := .agg #[.int .i64 a, .int .i64 b]
theorem keyZ_inj {a b c d : Int} (h : keyZ a b = keyZ c d) : a = c ∧ b = d := by
  unfold keyZ at h
  simp only [Value.agg.injEq, Array.mk.injEq, List.cons.injEq, Value.int.injEq, true_and, and_true] at h
  exact h
theorem place_eq (a b c d : Int) (w : World) : (Op.equal 96 (keyZ a b) (keyZ c d)).run Tryd.prog w = .ok (a == c && b == d) w := by
  have hu := Tryd.underlying96
  have hi : Tryd.prog.underlying 3 = some (.int .i64) := by kernel_rfl
  have h1 : ∀ (k : Nat) (x y : Int), (Op.equalIn (k + 1) 3 (.int .i64 x) (.int .i64 y)).run Tryd.prog w = .ok (x == y) w := fun k x y => by simp [Op.equalIn, run_underlying hi]
  have h1' : ∀ (x y : Int), (Op.equalIn 9999 3 (.int .i64 x) (.int .i64 y)).run Tryd.prog w = .ok (x == y) w := h1 9998
  have p0 : ∀ x y : Int, (part 3 #[.int .i64 x, .int .i64 y] 0).run Tryd.prog w = .ok (.int .i64 x) w := fun x y => by kernel_rfl
  have p1 : ∀ x y : Int, (part 3 #[.int .i64 x, .int .i64 y] 1).run Tryd.prog w = .ok (.int .i64 y) w := fun x y => by kernel_rfl
  have h2 : (Op.equalIn (9998 + 1 + 1) 96 (.agg #[.int .i64 a, .int .i64 b]) (.agg #[.int .i64 c, .int .i64 d])).run Tryd.prog w = .ok (a == c && b == d) w := by
    rw [Op.equalIn]
    by_cases e : a = c
    · subst e
      by_cases e2 : b = d
      · subst e2
        simp [run_underlying hu, h1', run_underlying hi, p0, p1]
      · have : (b == d) = false := by simpa using e2
        simp [run_underlying hu, h1', run_underlying hi, p0, p1, this]
    · have : (a == c) = false := by simpa using e
      simp [run_underlying hu, h1', run_underlying hi, p0, p1, this]
  exact h2
theorem place_check (e : Bool) (a b : Int) (w : World) : (Instr.checkKey e 10000 96 (keyZ a b)).run Tryd.prog w = .ok () w := by
  have hu := Tryd.underlying96
  have hi : Tryd.prog.underlying 3 = some (.int .i64) := by kernel_rfl
  have h1 : ∀ (k : Nat) (x : Int), (Instr.checkKey e (k + 1) 3 (.int .i64 x)).run Tryd.prog w = .ok () w := fun k x => by
    unfold Instr.checkKey
    simp [run_underlying hi]
  have h1' : ∀ (x : Int), (Instr.checkKey e 9999 3 (.int .i64 x)).run Tryd.prog w = .ok () w := h1 9998
  have p0 : ∀ x y : Int, (part 3 #[.int .i64 x, .int .i64 y] 0).run Tryd.prog w = .ok (.int .i64 x) w := fun x y => by kernel_rfl
  have p1 : ∀ x y : Int, (part 3 #[.int .i64 x, .int .i64 y] 1).run Tryd.prog w = .ok (.int .i64 y) w := fun x y => by kernel_rfl
  have h2 : (Instr.checkKey e (9998 + 1 + 1) 96 (.agg #[.int .i64 a, .int .i64 b])).run Tryd.prog w = .ok () w := by
    rw [Instr.checkKey]
    simp [run_underlying hu, h1', p0, p1]
  exact h2
theorem find_none {a b : Int} {w : World} (es : List MapEntry) : ∀ i0 : Nat, (∀ e ∈ es, ∃ c d, e.key = keyZ c d ∧ ¬ (a = c ∧ b = d)) → (Instr.findAsking 96 (keyZ a b) es i0).run Tryd.prog w = .ok none w := by
  induction es with
  | nil => intro i0 _; simp [Instr.findAsking]
  | cons e es ih =>
    intro i0 h
    obtain ⟨c, d, hk, hne⟩ := h e (List.mem_cons_self ..)
    have hb : (a == c && b == d) = false := by
      rw [Bool.and_eq_false_iff]
      simp only [beq_eq_false_iff_ne]
      omega
    rw [Instr.findAsking, hk]
    simp [place_eq, hb, ih (i0 + 1) (fun x hx => h x (List.mem_cons_of_mem _ hx))]
theorem find_some {a b : Int} {w : World} (es : List MapEntry) : ∀ i0 : Nat, (∀ e ∈ es, ∃ c d, e.key = keyZ c d) → (∃ e ∈ es, e.key = keyZ a b) →
    ∃ (k : Nat) (e : MapEntry), es[k]? = some e ∧ e.key = keyZ a b ∧ (Instr.findAsking 96 (keyZ a b) es i0).run Tryd.prog w = .ok (some (i0 + k, e.val)) w := by
  induction es with
  | nil => intro i0 _ h; obtain ⟨e, he, _⟩ := h; cases he
  | cons e es ih =>
    intro i0 h1 h2
    obtain ⟨c, d, hk⟩ := h1 e (List.mem_cons_self ..)
    by_cases hcd : a = c ∧ b = d
    · refine ⟨0, e, rfl, by rw [hk, hcd.1, hcd.2], ?_⟩
      rw [Instr.findAsking, hk]
      simp [place_eq, hcd.1, hcd.2]
    · have hb : (a == c && b == d) = false := by
        rw [Bool.and_eq_false_iff]
        simp only [beq_eq_false_iff_ne]
        omega
      obtain ⟨e2, he2, hk2⟩ := h2
      have hmem : e2 ∈ es := by
        rcases List.mem_cons.1 he2 with rfl | h
        · exact absurd (keyZ_inj (hk2.symm.trans hk)) hcd
        · exact h
      obtain ⟨k, e3, q1, q2, q3⟩ := ih (i0 + 1) (fun x hx => h1 x (List.mem_cons_of_mem _ hx)) ⟨e2, hmem, hk2⟩
      refine ⟨k + 1, e3, q1, q2, ?_⟩
      rw [Instr.findAsking, hk]
      simp [place_eq, hb, q3]
      omega
theorem key_none {a b : Int} {w : World} (es : List MapEntry) (h : ∀ e ∈ es, ∃ c d, e.key = keyZ c d ∧ ¬ (a = c ∧ b = d)) : (Instr.findKey 96 (keyZ a b) es).run Tryd.prog w = .ok none w := by
  have hu := Tryd.underlying96
  unfold Instr.findKey
  cases es with
  | nil => simp [run_underlying hu, Instr.findNow]
  | cons e es =>
    have := find_none (w := w) (e :: es) 0 h
    simp only [Sem.run_bind, run_underlying hu, Result.andThen_ok, Instr.findNow, Instr.sameNow]
    exact this
theorem key_some {a b : Int} {w : World} (es : List MapEntry) (h1 : ∀ e ∈ es, ∃ c d, e.key = keyZ c d) (h2 : ∃ e ∈ es, e.key = keyZ a b) :
    ∃ (k : Nat) (e : MapEntry), es[k]? = some e ∧ e.key = keyZ a b ∧ (Instr.findKey 96 (keyZ a b) es).run Tryd.prog w = .ok (some (k, e.val)) w := by
  have hu := Tryd.underlying96
  obtain ⟨k, e, q1, q2, q3⟩ := find_some (w := w) es 0 h1 h2
  rw [Nat.zero_add] at q3
  refine ⟨k, e, q1, q2, ?_⟩
  unfold Instr.findKey
  cases es with
  | nil => obtain ⟨e, he, _⟩ := h2; cases he
  | cons e es =>
    simp only [Sem.run_bind, run_underlying hu, Result.andThen_ok, Instr.findNow, Instr.sameNow]
    exact q3
theorem zero_rows (w : World) : (zeroValue 35).run Tryd.prog w = .ok (.slice none 0 0) w := by kernel_rfl
theorem look_none {a b : Int} {w : World} {r clk : Nat} {es : Array MapEntry} (hr : w.heap[r]? = some (.map es clk)) (h : ∀ e ∈ es.toList, ∃ c d, e.key = keyZ c d ∧ ¬ (a = c ∧ b = d)) : (Instr.lookup 63 (.map (some r)) (keyZ a b) false).run Tryd.prog w = .ok (.slice none 0 0) w := by
  have hu := Tryd.underlying63
  simp [Instr.lookup, run_underlying hu, MapKept.run_getObj_map hr, place_check, key_none es.toList h, zero_rows, Result.andThen]
theorem look_some {a b : Int} {w : World} {r clk : Nat} {es : Array MapEntry} (hr : w.heap[r]? = some (.map es clk)) (h1 : ∀ e ∈ es.toList, ∃ c d, e.key = keyZ c d) (h2 : ∃ e ∈ es.toList, e.key = keyZ a b) :
    ∃ (k : Nat) (e : MapEntry), es[k]? = some e ∧ e.key = keyZ a b ∧ (Instr.lookup 63 (.map (some r)) (keyZ a b) false).run Tryd.prog w = .ok e.val w := by
  have hu := Tryd.underlying63
  obtain ⟨k, e, q1, q2, q3⟩ := key_some (w := w) es.toList h1 h2
  refine ⟨k, e, by simpa using q1, q2, ?_⟩
  simp [Instr.lookup, run_underlying hu, MapKept.run_getObj_map hr, place_check, q3, Result.andThen]
theorem update_new {a b : Int} {v : Value} {w : World} {r clk : Nat} {es : Array MapEntry} (hr : w.heap[r]? = some (.map es clk)) (h : ∀ e ∈ es.toList, ∃ c d, e.key = keyZ c d ∧ ¬ (a = c ∧ b = d)) : (Instr.mapUpdate 63 (.map (some r)) (keyZ a b) v).run Tryd.prog w = .ok () (setBlock w r (.map (es.push ⟨keyZ a b, v, clk⟩) (clk + 1))) := by
  have hu := Tryd.underlying63
  simp [Instr.mapUpdate, run_underlying hu, MapKept.run_getObj_map hr, place_check, key_none es.toList h, MapKept.run_setObj_map _ hr, Result.andThen, setBlock]
end Go.Proofs.YtafookdllnhdaaaDoor
/- A tree of tiles in memory. -/
namespace Go.Proofs.YtafookdllnhdaaaDoor
open Go.RowKit Go.Scr Go.ChangeMaps Go.MapKept
set_option linter.unusedVariables false
/-- blocks by what they hold: of a tile (lv, ix) its rows' list (0), its row j (j + 1); the struct (1000), the map (1001) -/
structure TreeJ (w : World) (tb r h n : Nat) (c : Nat → Nat) (val : Nat → Nat → ByteArray) (ex : Nat → Nat → Prop) (col : Nat → Option (Nat × Nat × Nat)) (G : Nat → Nat → Nat) (V : Nat → Nat → Nat → Value) (es : Array MapEntry) (clk : Nat) : Prop where
  box : w.heap[tb]? = some (.cells #[.int .i64 (h : Int), .int .i64 (n : Int), .map (some r)] 65 (0, 0))
  mp : w.heap[r]? = some (.map es clk)
  ct : col tb = some (0, 0, 1000)
  cr : col r = some (0, 0, 1001)
  ent : ∀ e ∈ es.toList, ∃ lv ix : Nat, ex lv ix ∧ e.key = keyZ lv ix ∧ e.val = .slice (some ⟨G lv ix, 0, none⟩) h h
  has : ∀ lv ix, ex lv ix → ∃ e ∈ es.toList, e.key = keyZ (lv : Int) (ix : Int)
  one : es.toList.Pairwise (fun x y => x.key ≠ y.key)
  out : ∀ lv ix, ex lv ix → w.heap[G lv ix]? = some (.cells ((List.range h).map (V lv ix)).toArray 52 (0, 0)) ∧ col (G lv ix) = some (lv, ix, 0)
  inn : ∀ lv ix j, ex lv ix → j < h → Held w 9 1 (V lv ix j) (cntT c h lv ix j) ((rowT c val h lv ix j).map Value.string) ∧ ∀ g, (V lv ix j).ownBlock = some g → col g = some (lv, ix, j + 1)
  lo : ∀ g, col g ≠ none → g < w.heap.size
  mono : ∀ l j, c (l + j) * 2 ^ j ≤ c l
  hh : 1 ≤ h ∧ h ≤ 8
  yng : ∀ e ∈ es.toList, e.born < clk
  nod : (es.toList.map (·.born)).Nodup
theorem TreeJ.keep {w w' : World} {tb r h n : Nat} {c : Nat → Nat} {val : Nat → Nat → ByteArray} {ex : Nat → Nat → Prop} {col : Nat → Option (Nat × Nat × Nat)} {G : Nat → Nat → Nat} {V : Nat → Nat → Nat → Value} {es : Array MapEntry} {clk : Nat} (t : TreeJ w tb r h n c val ex col G V es clk)
    (hk : ∀ g, col g ≠ none → w'.heap[g]? = w.heap[g]?) (hs : w.heap.size ≤ w'.heap.size) : TreeJ w' tb r h n c val ex col G V es clk := by
  have some_ne : ∀ {g : Nat} {x : Nat × Nat × Nat}, col g = some x → col g ≠ none := fun h e => by rw [h] at e; cases e
  refine ⟨(hk tb (some_ne t.ct)).trans t.box, (hk r (some_ne t.cr)).trans t.mp, t.ct, t.cr, t.ent, t.has, t.one, fun lv ix he => ?_, fun lv ix j he hj => ?_, fun g hg => Nat.lt_of_lt_of_le (t.lo g hg) hs, t.mono, t.hh, t.yng, t.nod⟩
  · obtain ⟨q1, q2⟩ := t.out lv ix he
    exact ⟨(hk _ (some_ne q2)).trans q1, q2⟩
  · obtain ⟨q1, q2⟩ := t.inn lv ix j he hj
    exact ⟨q1.keep fun g hg => hk g (some_ne (q2 g hg)), q2⟩
theorem TreeJ.look {w : World} {tb r h n : Nat} {c : Nat → Nat} {val : Nat → Nat → ByteArray} {ex : Nat → Nat → Prop} {col : Nat → Option (Nat × Nat × Nat)} {G : Nat → Nat → Nat} {V : Nat → Nat → Nat → Value} {es : Array MapEntry} {clk : Nat} (t : TreeJ w tb r h n c val ex col G V es clk)
    {lv ix : Nat} (he : ex lv ix) : (Instr.lookup 63 (.map (some r)) (keyZ lv ix) false).run Tryd.prog w = .ok (.slice (some ⟨G lv ix, 0, none⟩) h h) w := by
  obtain ⟨k, e, q1, q2, q3⟩ := look_some t.mp (fun e he => by obtain ⟨a, b, _, h, _⟩ := t.ent e he; exact ⟨_, _, h⟩) (t.has lv ix he)
  have hm : e ∈ es.toList := by
    have : es.toList[k]? = some e := by rw [Array.getElem?_toList]; exact q1
    exact List.mem_of_getElem? this
  obtain ⟨a, b, q4, q5, q6⟩ := t.ent e hm
  have h7 := keyZ_inj (q2.symm.trans q5)
  obtain rfl : a = lv := by omega
  obtain rfl : b = ix := by omega
  rw [q6] at q3
  exact q3
theorem TreeJ.fresh {w : World} {tb r h n : Nat} {c : Nat → Nat} {val : Nat → Nat → ByteArray} {ex : Nat → Nat → Prop} {col : Nat → Option (Nat × Nat × Nat)} {G : Nat → Nat → Nat} {V : Nat → Nat → Nat → Value} {es : Array MapEntry} {clk : Nat} (t : TreeJ w tb r h n c val ex col G V es clk)
    {a b : Int} (hn : ∀ lv ix : Nat, ex lv ix → ¬ (a = lv ∧ b = ix)) : ∀ e ∈ es.toList, ∃ c d, e.key = keyZ c d ∧ ¬ (a = c ∧ b = d) := fun e he => by
  obtain ⟨x, y, q1, q2, _⟩ := t.ent e he
  exact ⟨_, _, q2, hn x y q1⟩
theorem TreeJ.lookn {w : World} {tb r h n : Nat} {c : Nat → Nat} {val : Nat → Nat → ByteArray} {ex : Nat → Nat → Prop} {col : Nat → Option (Nat × Nat × Nat)} {G : Nat → Nat → Nat} {V : Nat → Nat → Nat → Value} {es : Array MapEntry} {clk : Nat} (t : TreeJ w tb r h n c val ex col G V es clk)
    {a b : Int} (hn : ∀ lv ix : Nat, ex lv ix → ¬ (a = lv ∧ b = ix)) : (Instr.lookup 63 (.map (some r)) (keyZ a b) false).run Tryd.prog w = .ok (.slice none 0 0) w := look_none t.mp (t.fresh hn)
def up2 {α : Type} (f : Nat → Nat → α) (a b : Nat) (x : α) : Nat → Nat → α := fun i j => if i = a ∧ j = b then x else f i j
theorem up2_at {α : Type} (f : Nat → Nat → α) (a b : Nat) (x : α) : up2 f a b x a b = x := if_pos ⟨rfl, rfl⟩
theorem up2_ne {α : Type} {f : Nat → Nat → α} {a b i j : Nat} {x : α} (h : ¬ (i = a ∧ j = b)) : up2 f a b x i j = f i j := if_neg h
def dyeT (col : Nat → Option (Nat × Nat × Nat)) (g : Nat) (x : Nat × Nat × Nat) : Nat → Option (Nat × Nat × Nat) := fun i => if i = g then some x else col i
theorem cnt_zero {c : Nat → Nat} (hm : ∀ l j, c (l + j) * 2 ^ j ≤ c l) {h lv ix j : Nat} (hj : j < h) (hn : ¬ exT c h lv ix) : cntT c h lv ix j = 0 := by
  unfold cntT
  unfold exT at hn
  have h1 := hm (lv * h) j
  have h2 : 2 ^ h = 2 ^ (h - j) * 2 ^ j := by rw [← Nat.pow_add, Nat.sub_add_cancel (Nat.le_of_lt hj)]
  have h3 : c (lv * h + j) * 2 ^ j ≤ ix * 2 ^ (h - j) * 2 ^ j := by rw [Nat.mul_assoc, ← h2]; omega
  have h4 := Nat.le_of_mul_le_mul_right h3 (two_pos j)
  rw [show c (lv * h + j) - ix * 2 ^ (h - j) = 0 by omega]
  exact Nat.min_eq_right (Nat.zero_le _)
/-- a tile without nodes is made -/
theorem TreeJ.make {w : World} {tb r h n : Nat} {c : Nat → Nat} {val : Nat → Nat → ByteArray} {ex : Nat → Nat → Prop} {col : Nat → Option (Nat × Nat × Nat)} {G : Nat → Nat → Nat} {V : Nat → Nat → Nat → Value} {es : Array MapEntry} {clk : Nat} (t : TreeJ w tb r h n c val ex col G V es clk)
    (hex : ∀ lv ix, ex lv ix ↔ exT c h lv ix) {lv ix : Nat} (hn : ¬ ex lv ix) :
    TreeJ (setBlock (w.alloc (.cells (Array.replicate h (.slice none 0 0)) 52)) r (.map (es.push ⟨keyZ lv ix, .slice (some ⟨w.heap.size, 0, none⟩) h h, clk⟩) (clk + 1))) tb r h n c val (fun a b => ex a b ∨ (a = lv ∧ b = ix)) (dyeT col w.heap.size (lv, ix, 0)) (up2 G lv ix w.heap.size) (up2 V lv ix (fun _ => .slice none 0 0)) (es.push ⟨keyZ lv ix, .slice (some ⟨w.heap.size, 0, none⟩) h h, clk⟩) (clk + 1) := by
  have some_ne : ∀ {g : Nat} {x : Nat × Nat × Nat}, col g = some x → col g ≠ none := fun h e => by rw [h] at e; cases e
  have hrl := t.lo r (some_ne t.cr)
  have htl := t.lo tb (some_ne t.ct)
  have hmp : (w.alloc (.cells (Array.replicate h (.slice none 0 0)) 52)).heap[r]? = some (.map es clk) := blk_alloc t.mp
  have hoth : ∀ g, g ≠ r → (setBlock (w.alloc (.cells (Array.replicate h (.slice none 0 0)) 52)) r (.map (es.push ⟨keyZ lv ix, .slice (some ⟨w.heap.size, 0, none⟩) h h, clk⟩) (clk + 1))).heap[g]? = (w.alloc (.cells (Array.replicate h (.slice none 0 0)) 52)).heap[g]? := fun g hg => heap_setBlock_other hmp _ hg
  have hold : ∀ g, g < w.heap.size → g ≠ r → (setBlock (w.alloc (.cells (Array.replicate h (.slice none 0 0)) 52)) r (.map (es.push ⟨keyZ lv ix, .slice (some ⟨w.heap.size, 0, none⟩) h h, clk⟩) (clk + 1))).heap[g]? = w.heap[g]? := fun g hg hne => (hoth g hne).trans (Below.heap_alloc _ _ _ hg)
  have hcol : ∀ g, g < w.heap.size → dyeT col w.heap.size (lv, ix, 0) g = col g := fun g hg => if_neg (by omega)
  have hne_r : ∀ {g : Nat} {a b k : Nat}, col g = some (a, b, k) → k ≤ 900 → g ≠ r := fun h hk e => by
    rw [e, t.cr] at h
    injection h with h
    injection h with h1 h2
    injection h2 with h2 h3
    omega
  have htr : tb ≠ r := fun e => by
    have h1 := t.ct
    rw [e, t.cr] at h1
    injection h1 with h1
    injection h1 with h1 h2
    injection h2 with h2 h3
    omega
  refine ⟨(hold tb htl htr).trans t.box, heap_setBlock_same hmp _, (hcol tb htl).trans t.ct, (hcol r hrl).trans t.cr, fun e he => ?_, fun a b hab => ?_, ?_, fun a b hab => ?_, fun a b j hab hj => ?_, fun g hg => ?_, t.mono, t.hh, fun e he => ?_, ?_⟩
  · rw [Array.toList_push, List.mem_append, List.mem_singleton] at he
    rcases he with he | rfl
    · obtain ⟨a, b, q1, q2, q3⟩ := t.ent e he
      refine ⟨a, b, .inl q1, q2, ?_⟩
      rw [up2_ne (fun e => hn (by rw [← e.1, ← e.2]; exact q1))]
      exact q3
    · exact ⟨lv, ix, .inr ⟨rfl, rfl⟩, rfl, by rw [up2_at]⟩
  · rw [Array.toList_push]
    rcases hab with hab | ⟨rfl, rfl⟩
    · obtain ⟨e, q1, q2⟩ := t.has a b hab
      exact ⟨e, List.mem_append.2 (.inl q1), q2⟩
    · exact ⟨_, List.mem_append.2 (.inr (List.mem_singleton.2 rfl)), rfl⟩
  · rw [Array.toList_push, List.pairwise_append]
    refine ⟨t.one, by simp, fun x hx y hy => ?_⟩
    rw [List.mem_singleton.1 hy]
    obtain ⟨a, b, q1, q2, _⟩ := t.ent x hx
    rw [q2]
    intro e
    have := keyZ_inj e
    exact hn (by rw [show lv = a by omega, show ix = b by omega]; exact q1)
  · by_cases e : a = lv ∧ b = ix
    · obtain ⟨rfl, rfl⟩ := e
      rw [up2_at, up2_at]
      refine ⟨?_, if_pos rfl⟩
      rw [hoth _ (by omega), heap_alloc_new]
      congr 2
      apply Array.ext'
      simp [List.map_const']
    · rw [up2_ne e, up2_ne e]
      rcases hab with hab | hab
      · obtain ⟨q1, q2⟩ := t.out a b hab
        have hl := t.lo _ (some_ne q2)
        exact ⟨(hold _ hl (hne_r q2 (by omega))).trans q1, (hcol _ hl).trans q2⟩
      · exact absurd hab e
  · by_cases e : a = lv ∧ b = ix
    · obtain ⟨rfl, rfl⟩ := e
      rw [up2_at]
      have hz := cnt_zero t.mono hj (fun h => hn ((hex a b).2 h))
      have hr0 : rowT c val h a b j = [] := List.eq_nil_of_length_eq_zero (by rw [rowT_length]; exact hz)
      rw [hz, hr0]
      exact ⟨⟨rfl, .inl ⟨rfl, rfl⟩⟩, fun g hg => by cases hg⟩
    · rw [up2_ne e]
      rcases hab with hab | hab
      · obtain ⟨q1, q2⟩ := t.inn a b j hab hj
        refine ⟨q1.keep fun g hg => hold g (q1.lt hg) (hne_r (q2 g hg) (by have := t.hh; omega)), fun g hg => (hcol g (q1.lt hg)).trans (q2 g hg)⟩
      · exact absurd hab e
  · have hs : (setBlock (w.alloc (.cells (Array.replicate h (.slice none 0 0)) 52)) r (.map (es.push ⟨keyZ lv ix, .slice (some ⟨w.heap.size, 0, none⟩) h h, clk⟩) (clk + 1))).heap.size = w.heap.size + 1 := by simp [setBlock]
    rw [hs]
    by_cases e : g = w.heap.size
    · omega
    · have := t.lo g (by rw [← show dyeT col w.heap.size (lv, ix, 0) g = col g from if_neg e]; exact hg)
      omega
  · rw [Array.toList_push, List.mem_append, List.mem_singleton] at he
    rcases he with he | rfl
    · exact Nat.lt_succ_of_lt (t.yng e he)
    · exact Nat.lt_succ_self clk
  · rw [Array.toList_push, List.map_append, List.nodup_append]
    refine ⟨t.nod, by simp, fun a ha b hb => ?_⟩
    obtain ⟨e, he, rfl⟩ := List.mem_map.1 ha
    have : b = clk := by simpa using hb
    rw [this]
    exact Nat.ne_of_lt (t.yng e he)
def dyeW (col : Nat → Option (Nat × Nat × Nat)) (v : Value) (x : Nat × Nat × Nat) : Nat → Option (Nat × Nat × Nat) := fun g => if v.ownBlock = some g then some x else col g
def up3 {α : Type} (f : Nat → Nat → Nat → α) (a b c : Nat) (x : α) : Nat → Nat → Nat → α := fun i j k => if i = a ∧ j = b ∧ k = c then x else f i j k
theorem up3_at {α : Type} (f : Nat → Nat → Nat → α) (a b c : Nat) (x : α) : up3 f a b c x a b c = x := if_pos ⟨rfl, rfl, rfl⟩
theorem up3_ne {α : Type} {f : Nat → Nat → Nat → α} {a b c i j k : Nat} {x : α} (h : ¬ (i = a ∧ j = b ∧ k = c)) : up3 f a b c x i j k = f i j k := if_neg h
/-- what has turned lies in the tree's own blocks, or is new -/
structure ChT (col : Nat → Option (Nat × Nat × Nat)) (w w' : World) : Prop where
  os : w'.os = w.os
  tape : w'.tape = w.tape
  output : w'.output = w.output
  size : w.heap.size ≤ w'.heap.size
  block : ∀ g, g < w.heap.size → col g = none → w'.heap[g]? = w.heap[g]?
theorem ChT.refl (col : Nat → Option (Nat × Nat × Nat)) (w : World) : ChT col w w := ⟨rfl, rfl, rfl, Nat.le_refl _, fun _ _ _ => rfl⟩
theorem ChT.trans {col col' : Nat → Option (Nat × Nat × Nat)} {a b c : World} (h : ChT col a b) (k : ChT col' b c) (hc : ∀ g, g < a.heap.size → col' g = col g) : ChT col a c :=
  ⟨k.os.trans h.os, k.tape.trans h.tape, k.output.trans h.output, Nat.le_trans h.size k.size, fun g hg hn => (k.block g (Nat.lt_of_lt_of_le hg h.size) (by rw [hc g hg]; exact hn)).trans (h.block g hg hn)⟩
theorem ChT.of_below {col : Nat → Option (Nat × Nat × Nat)} {w w' : World} (h : Below w.heap.size w w') : ChT col w w' := ⟨h.os, h.tape, h.output, h.size, fun g hg _ => h.block g hg⟩
theorem grewT_own {T sz : Nat} {w w' : World} {o : Obj} {v v' : Value} {n m : Nat} {xs news : List Value} (g : Grew T sz (w.alloc o) v n m xs news v' w') : ∀ q, v'.ownBlock = some q → v.ownBlock = some q ∨ w.heap.size ≤ q := fun q hq => by
  rcases g.at with ⟨e, _⟩ | ⟨e, _⟩
  · exact .inl (by rw [← e]; exact hq)
  · rw [hq] at e
    have h1 := Option.some.inj e
    simp at h1
    exact .inr (by omega)
/-- one hash more in a row -/
theorem TreeJ.push {w w1 : World} {tb r h n : Nat} {c : Nat → Nat} {val val' : Nat → Nat → ByteArray} {ex : Nat → Nat → Prop} {col : Nat → Option (Nat × Nat × Nat)} {G : Nat → Nat → Nat} {V : Nat → Nat → Nat → Value} {es : Array MapEntry} {clk : Nat} (t : TreeJ w tb r h n c val ex col G V es clk)
    {l lv ix j : Nat} (hlv : lv = l / h) (hix : ix = c l / 2 ^ (h - l % h)) (hj : j = l % h) (he : ex lv ix) (hv : ∀ k i, i < c k → val' k i = val k i) (hm : ∀ k, k < l → (c l + 1) * 2 ^ (l - k) ≤ c k) {o : Obj} {v' : Value} {s : ByteArray} (hs : s = val' l (c l))
    (g : Grew 9 1 (w.alloc o) (V lv ix j) (cntT c h lv ix j) 1 ((rowT c val h lv ix j).map Value.string) [.string s] v' w1) :
    TreeJ (w1.setCell ⟨G lv ix, j, none⟩ v') tb r h n (upC c l) val' ex (dyeW col v' (lv, ix, j + 1)) G (up3 V lv ix j v') es clk ∧ ChT col w (w1.setCell ⟨G lv ix, j, none⟩ v') ∧ ∀ q, q < w.heap.size → dyeW col v' (lv, ix, j + 1) q = col q := by
  have some_ne : ∀ {g : Nat} {x : Nat × Nat × Nat}, col g = some x → col g ≠ none := fun h e => by rw [h] at e; cases e
  have hjh : j < h := by rw [hj]; exact Nat.mod_lt _ (by have := t.hh; omega)
  have hh8 := t.hh
  have hgr := grown_alloc g.grown
  obtain ⟨qi1, qi2⟩ := t.inn lv ix j he hjh
  obtain ⟨qo1, qo2⟩ := t.out lv ix he
  have hGl := t.lo _ (some_ne qo2)
  have hat := grewT_own g
  have hhd := g.held
  have hold : ∀ q, q < w.heap.size → dyeW col v' (lv, ix, j + 1) q = col q := fun q hq => by
    unfold dyeW
    split
    · rename_i e
      rcases hat q e with h3 | h3
      · exact (qi2 q h3).symm
      · omega
    · rfl
  have hGne : (V lv ix j).ownBlock ≠ some (G lv ix) := fun e => by
    have h1 := qi2 _ e
    rw [qo2] at h1
    injection h1 with h1
    injection h1 with h1 h2
    injection h2 with h2 h3
    omega
  have hfar : ∀ q, q < w.heap.size → col q ≠ some (lv, ix, j + 1) → q ≠ G lv ix → (w1.setCell ⟨G lv ix, j, none⟩ v').heap[q]? = w.heap[q]? := fun q hq h1 h2 =>
    (Below.heap_setCell w1 ⟨G lv ix, j, none⟩ v' q h2).trans (hgr.block q hq (fun e => h1 (qi2 q e.symm)))
  have htag : ∀ {q a b k : Nat}, col q = some (a, b, k) → ¬ (a = lv ∧ b = ix ∧ k = j + 1) → ¬ (a = lv ∧ b = ix ∧ k = 0) → (w1.setCell ⟨G lv ix, j, none⟩ v').heap[q]? = w.heap[q]? := fun {q a b k} h1 h2 h3 => by
    refine hfar q (t.lo q (some_ne h1)) (fun e => ?_) (fun e => ?_)
    · rw [h1] at e
      injection e with e
      injection e with e1 e2
      injection e2 with e2 e3
      exact h2 ⟨e1, e2, e3⟩
    · rw [e, qo2] at h1
      injection h1 with e
      injection e with e1 e2
      injection e2 with e2 e3
      exact h3 ⟨e1.symm, e2.symm, e3.symm⟩
  have hv'G : v'.ownBlock ≠ some (G lv ix) := fun e => by
    rcases hat _ e with h3 | h3
    · exact hGne h3
    · omega
  have hsz : (w1.setCell ⟨G lv ix, j, none⟩ v').heap.size = w1.heap.size := by simp [World.setCell]
  have hws := hgr.size
  refine ⟨⟨?_, ?_, ?_, ?_, t.ent, t.has, t.one, fun a b hab => ?_, fun a b k hab hk => ?_, fun q hq => ?_, upC_mono t.mono hm, t.hh, t.yng, t.nod⟩, ⟨hgr.os, hgr.tape, hgr.output, by rw [hsz]; exact hws, fun q hq hn => hfar q hq (by rw [hn]; simp) (fun e => by rw [e, qo2] at hn; cases hn)⟩, hold⟩
  · exact (htag t.ct (by omega) (by omega)).trans t.box
  · exact (htag t.cr (by omega) (by omega)).trans t.mp
  · exact (hold tb (t.lo tb (some_ne t.ct))).trans t.ct
  · exact (hold r (t.lo r (some_ne t.cr))).trans t.cr
  · obtain ⟨q1, q2⟩ := t.out a b hab
    by_cases e : a = lv ∧ b = ix
    · obtain ⟨rfl, rfl⟩ := e
      refine ⟨?_, (hold _ hGl).trans qo2⟩
      have hw1 : w1.heap[G a b]? = some (.cells ((List.range h).map (V a b)).toArray 52 (0, 0)) := (hgr.block _ hGl (fun e => hGne e.symm)).trans qo1
      have := blk_set hw1 j v'
      rw [this, box_set]
      congr 3
      apply List.map_congr_left
      intro k hk
      unfold put1 up3
      by_cases e2 : k = j
      · rw [if_pos e2, if_pos ⟨rfl, rfl, e2⟩]
      · rw [if_neg e2, if_neg (fun h => e2 h.2.2)]
    · refine ⟨(htag q2 (fun h => by omega) (fun h => e ⟨h.1, h.2.1⟩)).trans ?_, (hold _ (t.lo _ (some_ne q2))).trans q2⟩
      rw [q1]
      congr 3
      apply List.map_congr_left
      intro k hk
      exact (up3_ne (fun h => e ⟨h.1, h.2.1⟩)).symm
  · by_cases e : a = lv ∧ b = ix ∧ k = j
    · obtain ⟨rfl, rfl, rfl⟩ := e
      rw [up3_at]
      have hc : cntT (upC c l) h a b k = cntT c h a b k + 1 := by rw [hlv, hix, hj, cnt_next, cnt_next']
      have hr : rowT (upC c l) val' h a b k = rowT c val h a b k ++ [val' l (c l)] := by rw [hlv, hix, hj]; exact row_put hv
      rw [hc, hr, List.map_append, ← hs]
      refine ⟨hhd.keep fun q hq => Below.heap_setCell w1 ⟨G a b, k, none⟩ v' q (fun e => hv'G (hq.trans (congrArg some e))), fun q hq => ?_⟩
      unfold dyeW
      rw [if_pos hq]
    · rw [up3_ne e]
      obtain ⟨q1, q2⟩ := t.inn a b k hab hk
      have hne : ¬ (a = l / h ∧ b = c l / 2 ^ (h - l % h) ∧ k = l % h) := by rw [← hlv, ← hix, ← hj]; exact e
      rw [cnt_other hk hne, row_other hk hne hv]
      exact ⟨q1.keep fun q hq => htag (q2 q hq) (fun h => e ⟨h.1, h.2.1, by omega⟩) (fun h => by omega), fun q hq => (hold q (q1.lt hq)).trans (q2 q hq)⟩
  · rw [hsz]
    unfold dyeW at hq
    split at hq
    · rename_i e
      exact hhd.lt e
    · have := t.lo q hq
      omega
end Go.Proofs.YtafookdllnhdaaaDoor
