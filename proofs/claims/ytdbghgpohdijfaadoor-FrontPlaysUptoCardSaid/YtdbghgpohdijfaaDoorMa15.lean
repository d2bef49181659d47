/- Shape, walked: size, middle, halves. -/
import Derived.Test.YtdbghgpohdijfaaDoorMa3
import Derived.Test.YtdbghgpohdijfaaDoorMa0
import Derived.Test.YtdbghgpohdijfaaDoorChecked
import Derived.Test.YtdbghgpohdijfaaDoorMa4
import Derived.StillTailTactics
import Derived.Deep.CutBlock
import Derived.Deep.RegionHeld3
import Derived.Test.YtdbghgpohdijfaaDoorMa14
namespace Go.Proofs.YtdbghgpohdijfaaDoor
open Go.RowKit Go.Scr
set_option linter.unusedVariables false

end Go.Proofs.YtdbghgpohdijfaaDoor
/- Shape, walked: the iterator of the way down. -/
namespace Go.Scr
end Go.Scr
namespace Go.Proofs.YtdbghgpohdijfaaDoor
open Go.RowKit Go.Scr Go.Shelf
set_option linter.unusedVariables false
attribute [local go_sem] Oper.semAt_some

theorem Chg.set {Q : Nat → Prop} {a c : World} (h : Chg Q a c) {b i : Nat} (hb : Q b) (v : Value) : Chg Q a (c.setCell ⟨b, i, none⟩ v) :=
  ⟨h.os, h.tape, h.output, by simpa [World.setCell] using h.size, fun j hj hn => (Below.heap_setCell c _ v j (fun e => hn (by have e' : j = b := e; rw [e']; exact hb))).trans (h.same j hj hn)⟩
def spRow (w : World) (B b e : Nat) : Prop := w.heap[B]? = some (.cells #[.int .i64 (b : Int), .int .i64 (e : Int)] 128 (0, 0))
def spLen (w : World) (B : Nat) : Nat := match w.cell? ⟨B, 0, none⟩, w.cell? ⟨B, 1, none⟩ with
  | some x, some y => (intOf y).toNat - (intOf x).toNat
  | _, _ => 0
theorem spRow.len {w : World} {B b e : Nat} (h : spRow w B b e) : spLen w B = e - b := by
  unfold spLen
  rw [show w.cell? ⟨B, 0, none⟩ = some (.int .i64 (b : Int)) from cell_of_row _ _ _ _ _ _ h, show w.cell? ⟨B, 1, none⟩ = some (.int .i64 (e : Int)) from cell_of_row _ _ _ _ _ _ h]
  simp [intOf]
theorem spRow.at {w : World} {B b e : Nat} (h : spRow w B b e) : w.cell? ⟨B, 0, none⟩ = some (.int .i64 (b : Int)) ∧ w.cell? ⟨B, 1, none⟩ = some (.int .i64 (e : Int)) ∧ ∀ i, w.frozen? ⟨B, i, none⟩ = false :=
  ⟨cell_of_row _ _ _ _ _ _ h, cell_of_row _ _ _ _ _ _ h, fun i => frozen_of_row w B i _ _ h⟩
theorem spRow.lt {w : World} {B b e : Nat} (h : spRow w B b e) : B < w.heap.size := (Array.getElem?_eq_some_iff.mp h).1
theorem spRow.keep {w w' : World} {B b e : Nat} (h : spRow w B b e) (hk : w'.heap[B]? = w.heap[B]?) : spRow w' B b e := hk.trans h
theorem spRow.set {w : World} {B b e : Nat} (h : spRow w B b e) (b' e' : Nat) : spRow ((w.setCell ⟨B, 0, none⟩ (.int .i64 (b' : Int))).setCell ⟨B, 1, none⟩ (.int .i64 (e' : Int))) B b' e' := by
  exact blk_set (blk_set h 0 (.int .i64 (b' : Int))) 1 (.int .i64 (e' : Int))
end Go.Proofs.YtdbghgpohdijfaaDoor
/- Shape, walked: Inside. -/
namespace Go.Scr
end Go.Scr
namespace Go.Proofs.YtdbghgpohdijfaaDoor
open Go.RowKit Go.Scr Go.Shelf
set_option linter.unusedVariables false
attribute [local go_sem] Oper.semAt_some

theorem below_chg {B : Nat} {Q : Nat → Prop} {w a c : World} (h : Below B w a) (g : Chg Q a c) (hq : ∀ i, Q i → B ≤ i) (hB : B ≤ a.heap.size) : Below B w c :=
  ⟨g.os.trans h.os, g.tape.trans h.tape, g.output.trans h.output, Nat.le_trans h.size g.size, fun i hi => (g.same i (Nat.lt_of_lt_of_le hi hB) (fun e => by have := hq i e; omega)).trans (h.block i hi)⟩
theorem span_eql (a b c d : Int) (w : World) : (binOp .eql 128 (.agg #[.int .i64 a, .int .i64 b]) (.agg #[.int .i64 c, .int .i64 d])).run Tryd.prog w = .ok (.bool (a == c && b == d)) w := by
  have hu := Tryd.underlying128
  have hi : Tryd.prog.underlying 3 = some (.int .i64) := by kernel_rfl
  have h1 : ∀ (k : Nat) (x y : Int), (Op.equalIn (k + 1) 3 (.int .i64 x) (.int .i64 y)).run Tryd.prog w = .ok (x == y) w := fun k x y => by simp [Op.equalIn, run_underlying hi]
  have h1' : ∀ (x y : Int), (Op.equalIn 9999 3 (.int .i64 x) (.int .i64 y)).run Tryd.prog w = .ok (x == y) w := h1 9998
  have p0 : ∀ x y : Int, (part 3 #[.int .i64 x, .int .i64 y] 0).run Tryd.prog w = .ok (.int .i64 x) w := fun x y => by kernel_rfl
  have p1 : ∀ x y : Int, (part 3 #[.int .i64 x, .int .i64 y] 1).run Tryd.prog w = .ok (.int .i64 y) w := fun x y => by kernel_rfl
  have h2 : (Op.equalIn (9998 + 1 + 1) 128 (.agg #[.int .i64 a, .int .i64 b]) (.agg #[.int .i64 c, .int .i64 d])).run Tryd.prog w = .ok (a == c && b == d) w := by
    rw [Op.equalIn]
    by_cases e : a = c
    · subst e
      by_cases e2 : b = d
      · subst e2
        simp [run_underlying hu, h1', run_underlying hi, p0, p1]
      · have : (b == d) = false := by simpa using e2
        simp [run_underlying hu, h1', run_underlying hi, p0, p1, this]
    · have : (a == c) = false := by simpa using e
      simp [run_underlying hu, h1', run_underlying hi, p0, p1, this]
  have h0 : (Op.equal 128 (.agg #[.int .i64 a, .int .i64 b]) (.agg #[.int .i64 c, .int .i64 d])).run Tryd.prog w = .ok (a == c && b == d) w := h2
  simp only [binOp]
  simp [h0]
end Go.Proofs.YtdbghgpohdijfaaDoor
