/- Shape, walked: size, middle, halves. -/
import Derived.Test.YtdbghgpohdijfaaDoorMa3
import Derived.Test.YtdbghgpohdijfaaDoorMa0
import Derived.Test.YtdbghgpohdijfaaDoorChecked
import Derived.Test.YtdbghgpohdijfaaDoorMa4
import Derived.StillTailTactics
import Derived.Deep.CutBlock
import Derived.Deep.RegionHeld3
import Derived.Test.YtdbghgpohdijfaaDoorMa14
namespace Go.Proofs.YtdbghgpohdijfaaDoor
open Go.RowKit Go.Scr
set_option linter.unusedVariables false

abbrev spV (b e : Nat) : Value := .agg #[.int .i64 (b : Int), .int .i64 (e : Int)]
theorem ret_intS {a b : Nat} (h : a = b) : Ending.returned (Value.int .i64 (a : Int)) = Ending.returned (Value.int .i64 (b : Int)) := by rw [h]
theorem below_onS {B : Nat} {a b c : World} (h : Below B a b) (g : Below b.heap.size b c) (hb : B ≤ b.heap.size) : Below B a c :=
  ⟨g.os.trans h.os, g.tape.trans h.tape, g.output.trans h.output, Nat.le_trans h.size g.size, fun i hi => (g.block i (Nat.lt_of_lt_of_le hi hb)).trans (h.block i hi)⟩
theorem cs_far {w : World} {a b i j : Nat} {u : Value} (h : a ≠ b) : (w.setCell ⟨a, i, none⟩ u).cell? ⟨b, j, none⟩ = w.cell? ⟨b, j, none⟩ := by
  apply World.cell?_setCell_other
  intro e
  simp only [Addr.mk.injEq, and_true] at e
  exact h e.1
theorem cs_other {w : World} {a i j : Nat} {u : Value} (h : i ≠ j) : (w.setCell ⟨a, i, none⟩ u).cell? ⟨a, j, none⟩ = w.cell? ⟨a, j, none⟩ := by
  apply World.cell?_setCell_other
  intro e
  simp only [Addr.mk.injEq, and_true, true_and] at e
  exact h e
end Go.Proofs.YtdbghgpohdijfaaDoor
/- Shape, walked: the iterator of the way down. -/
namespace Go.Scr
/-- the subtrees that have a span within them, from the top -/
def wayT (b n lo hi : Nat) : List (Nat × Nat) :=
  (b, b + n) :: (if h : n ≤ 1 then [] else if hi ≤ b + spl n then wayT b (spl n) lo hi else if b + spl n ≤ lo then wayT (b + spl n) (n - spl n) lo hi else [])
termination_by n
decreasing_by
  · have := spl_lt (show 2 ≤ n by omega); omega
  · have := spl_lt (show 2 ≤ n by omega); omega
theorem wayT_one {b n : Nat} (lo hi : Nat) (h : n ≤ 1) : wayT b n lo hi = [(b, b + n)] := by rw [wayT, dif_pos h]
theorem wayT_left {b n lo hi : Nat} (h : 1 < n) (h2 : hi ≤ b + spl n) : wayT b n lo hi = (b, b + n) :: wayT b (spl n) lo hi := by rw [wayT, dif_neg (by omega), if_pos h2]
theorem wayT_right {b n lo hi : Nat} (h : 1 < n) (h2 : ¬ hi ≤ b + spl n) (h3 : b + spl n ≤ lo) : wayT b n lo hi = (b, b + n) :: wayT (b + spl n) (n - spl n) lo hi := by rw [wayT, dif_neg (by omega), if_neg h2, if_pos h3]
theorem wayT_stop {b n lo hi : Nat} (h : 1 < n) (h2 : ¬ hi ≤ b + spl n) (h3 : ¬ b + spl n ≤ lo) : wayT b n lo hi = [(b, b + n)] := by rw [wayT, dif_neg (by omega), if_neg h2, if_neg h3]
theorem wayT_mem (n : Nat) : ∀ (b lo hi : Nat), 1 ≤ n → ∀ x ∈ wayT b n lo hi, b ≤ x.1 ∧ x.1 < x.2 ∧ x.2 ≤ b + n := by
  induction n using Nat.strongRecOn with
  | ind n ih =>
    intro b lo hi hn x hx
    by_cases h : n ≤ 1
    · rw [wayT_one lo hi h, List.mem_singleton] at hx
      subst hx
      exact ⟨Nat.le_refl _, by show b < b + n; omega, Nat.le_refl _⟩
    · have h1 : 1 < n := by omega
      have hs := spl_lt (show 2 ≤ n by omega)
      have h0 : b ≤ (b, b + n).1 ∧ (b, b + n).1 < (b, b + n).2 ∧ (b, b + n).2 ≤ b + n := ⟨Nat.le_refl _, by show b < b + n; omega, Nat.le_refl _⟩
      by_cases h2 : hi ≤ b + spl n
      · rw [wayT_left h1 h2] at hx
        rcases List.mem_cons.1 hx with rfl | hx
        · exact h0
        · have := ih _ hs.2.1 b lo hi hs.1 x hx
          omega
      · by_cases h3 : b + spl n ≤ lo
        · rw [wayT_right h1 h2 h3] at hx
          rcases List.mem_cons.1 hx with rfl | hx
          · exact h0
          · have := ih (n - spl n) (by omega) (b + spl n) lo hi (by omega) x hx
            omega
        · rw [wayT_stop h1 h2 h3, List.mem_singleton] at hx
          subst hx
          exact h0
theorem wayT_ne (b n lo hi : Nat) : wayT b n lo hi ≠ [] := by rw [wayT]; simp
end Go.Scr
namespace Go.Proofs.YtdbghgpohdijfaaDoor
open Go.RowKit Go.Scr Go.Shelf
set_option linter.unusedVariables false
attribute [local go_sem] Oper.semAt_some

theorem Chg.set {Q : Nat → Prop} {a c : World} (h : Chg Q a c) {b i : Nat} (hb : Q b) (v : Value) : Chg Q a (c.setCell ⟨b, i, none⟩ v) :=
  ⟨h.os, h.tape, h.output, by simpa [World.setCell] using h.size, fun j hj hn => (Below.heap_setCell c _ v j (fun e => hn (by have e' : j = b := e; rw [e']; exact hb))).trans (h.same j hj hn)⟩
def spRow (w : World) (B b e : Nat) : Prop := w.heap[B]? = some (.cells #[.int .i64 (b : Int), .int .i64 (e : Int)] 128 (0, 0))
def spLen (w : World) (B : Nat) : Nat := match w.cell? ⟨B, 0, none⟩, w.cell? ⟨B, 1, none⟩ with
  | some x, some y => (intOf y).toNat - (intOf x).toNat
  | _, _ => 0
theorem spRow.len {w : World} {B b e : Nat} (h : spRow w B b e) : spLen w B = e - b := by
  unfold spLen
  rw [show w.cell? ⟨B, 0, none⟩ = some (.int .i64 (b : Int)) from cell_of_row _ _ _ _ _ _ h, show w.cell? ⟨B, 1, none⟩ = some (.int .i64 (e : Int)) from cell_of_row _ _ _ _ _ _ h]
  simp [intOf]
theorem spRow.at {w : World} {B b e : Nat} (h : spRow w B b e) : w.cell? ⟨B, 0, none⟩ = some (.int .i64 (b : Int)) ∧ w.cell? ⟨B, 1, none⟩ = some (.int .i64 (e : Int)) ∧ ∀ i, w.frozen? ⟨B, i, none⟩ = false :=
  ⟨cell_of_row _ _ _ _ _ _ h, cell_of_row _ _ _ _ _ _ h, fun i => frozen_of_row w B i _ _ h⟩
theorem spRow.lt {w : World} {B b e : Nat} (h : spRow w B b e) : B < w.heap.size := (Array.getElem?_eq_some_iff.mp h).1
theorem spRow.keep {w w' : World} {B b e : Nat} (h : spRow w B b e) (hk : w'.heap[B]? = w.heap[B]?) : spRow w' B b e := hk.trans h
theorem spRow.set {w : World} {B b e : Nat} (h : spRow w B b e) (b' e' : Nat) : spRow ((w.setCell ⟨B, 0, none⟩ (.int .i64 (b' : Int))).setCell ⟨B, 1, none⟩ (.int .i64 (e' : Int))) B b' e' := by
  exact blk_set (blk_set h 0 (.int .i64 (b' : Int))) 1 (.int .i64 (e' : Int))
end Go.Proofs.YtdbghgpohdijfaaDoor
/- Shape, walked: Inside. -/
namespace Go.Scr
theorem insideB_way (n : Nat) : ∀ (b lo hi : Nat), insideB b n lo hi = decide ((lo, hi) ∈ wayT b n lo hi) := by
  induction n using Nat.strongRecOn with
  | ind n ih =>
    intro b lo hi
    by_cases h : n ≤ 1
    · rw [insideB_one h, wayT_one lo hi h]
      by_cases he : b = lo ∧ b + n = hi
      · obtain ⟨rfl, rfl⟩ := he
        simp
      · have hm : ¬ (lo, hi) ∈ [(b, b + n)] := by
          simp only [List.mem_singleton, Prod.mk.injEq]
          omega
        rw [decide_eq_false hm]
        rw [Bool.and_eq_false_iff]
        simp only [beq_eq_false_iff_ne]
        omega
    · have h1 : 1 < n := by omega
      have hs := spl_lt (show 2 ≤ n by omega)
      by_cases he : b = lo ∧ b + n = hi
      · obtain ⟨rfl, rfl⟩ := he
        rw [insideB_at, eq_comm, decide_eq_true_eq, wayT]
        exact List.mem_cons_self ..
      · have hne : (lo, hi) ≠ (b, b + n) := by
          intro e
          simp only [Prod.mk.injEq] at e
          omega
        by_cases h2 : hi ≤ b + spl n
        · rw [insideB_left h1 he h2, wayT_left h1 h2, ih _ hs.2.1]
          simp [hne]
        · by_cases h3 : b + spl n ≤ lo
          · rw [insideB_right h1 he h2 h3, wayT_right h1 h2 h3, ih _ (by omega)]
            simp [hne]
          · rw [insideB_no h1 he h2 h3, wayT_stop h1 h2 h3]
            simp [hne]
end Go.Scr
namespace Go.Proofs.YtdbghgpohdijfaaDoor
open Go.RowKit Go.Scr Go.Shelf
set_option linter.unusedVariables false
attribute [local go_sem] Oper.semAt_some

theorem below_chg {B : Nat} {Q : Nat → Prop} {w a c : World} (h : Below B w a) (g : Chg Q a c) (hq : ∀ i, Q i → B ≤ i) (hB : B ≤ a.heap.size) : Below B w c :=
  ⟨g.os.trans h.os, g.tape.trans h.tape, g.output.trans h.output, Nat.le_trans h.size g.size, fun i hi => (g.same i (Nat.lt_of_lt_of_le hi hB) (fun e => by have := hq i e; omega)).trans (h.block i hi)⟩
theorem span_eql (a b c d : Int) (w : World) : (binOp .eql 128 (.agg #[.int .i64 a, .int .i64 b]) (.agg #[.int .i64 c, .int .i64 d])).run Tryd.prog w = .ok (.bool (a == c && b == d)) w := by
  have hu := Tryd.underlying128
  have hi : Tryd.prog.underlying 3 = some (.int .i64) := by kernel_rfl
  have h1 : ∀ (k : Nat) (x y : Int), (Op.equalIn (k + 1) 3 (.int .i64 x) (.int .i64 y)).run Tryd.prog w = .ok (x == y) w := fun k x y => by simp [Op.equalIn, run_underlying hi]
  have h1' : ∀ (x y : Int), (Op.equalIn 9999 3 (.int .i64 x) (.int .i64 y)).run Tryd.prog w = .ok (x == y) w := h1 9998
  have p0 : ∀ x y : Int, (part 3 #[.int .i64 x, .int .i64 y] 0).run Tryd.prog w = .ok (.int .i64 x) w := fun x y => by kernel_rfl
  have p1 : ∀ x y : Int, (part 3 #[.int .i64 x, .int .i64 y] 1).run Tryd.prog w = .ok (.int .i64 y) w := fun x y => by kernel_rfl
  have h2 : (Op.equalIn (9998 + 1 + 1) 128 (.agg #[.int .i64 a, .int .i64 b]) (.agg #[.int .i64 c, .int .i64 d])).run Tryd.prog w = .ok (a == c && b == d) w := by
    rw [Op.equalIn]
    by_cases e : a = c
    · subst e
      by_cases e2 : b = d
      · subst e2
        simp [run_underlying hu, h1', run_underlying hi, p0, p1]
      · have : (b == d) = false := by simpa using e2
        simp [run_underlying hu, h1', run_underlying hi, p0, p1, this]
    · have : (a == c) = false := by simpa using e
      simp [run_underlying hu, h1', run_underlying hi, p0, p1, this]
  have h0 : (Op.equal 128 (.agg #[.int .i64 a, .int .i64 b]) (.agg #[.int .i64 c, .int .i64 d])).run Tryd.prog w = .ok (a == c && b == d) w := h2
  simp only [binOp]
  simp [h0]
end Go.Proofs.YtdbghgpohdijfaaDoor
