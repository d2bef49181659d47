/- A range's pieces; two ranges joined; a range's root. -/
import Derived.Test.YtdbghgpohdijfaaDoorMa38
namespace Go.Proofs.YtdbghgpohdijfaaDoor
open Go.RowKit Go.Scr Go.ChangeMaps Go.MapKept
set_option linter.unusedVariables false
/-- a row that grows beside other pieces -/
structure JnI (w wr : World) (rb : Nat) (P : List Pc) (v y : Value) (Y : List Pc) : Prop where
  r : RwI w wr rb P v
  hy : Held wr 115 3 y Y.length (pcV Y)
  far : ∀ g, y.ownBlock = some g → ¬ ebQ rb v g
def JnU (w wr : World) (rb : Nat) (P : List Pc) (y : Value) (Y : List Pc) : Prop := ∃ v, JnI w wr rb P v y Y
theorem JnU.b {w wr : World} {rb : Nat} {P Y : List Pc} {y : Value} (H : JnU w wr rb P y Y) : Below w.heap.size w wr := by
  obtain ⟨v, h⟩ := H
  exact h.r.b
theorem JnU.row {w wr : World} {rb : Nat} {P Y : List Pc} {y : Value} (H : JnU w wr rb P y Y) : RwU w wr rb P := by
  obtain ⟨v, h⟩ := H
  exact ⟨v, h.r⟩
theorem JnU.below {w wr w' : World} {rb : Nat} {P Y : List Pc} {y : Value} (H : JnU w wr rb P y Y) (hb : Below wr.heap.size wr w') : JnU w w' rb P y Y := by
  obtain ⟨v, h⟩ := H
  exact ⟨v, ⟨h.r.b.trans (hb.mono h.r.b.size), h.r.fr.below hb, h.r.lo⟩, h.hy.below hb, h.far⟩
theorem JnU.push {w wr : World} {rb B b m : Nat} {val : Nat → Nat → ByteArray} {p : Pc} {Q Y : List Pc} {y : Value} (H : JnU w wr rb (rowA val b m) y Y) (hB : Bas w B) (hm : m ≤ 1099511627776) (hd : m - b ≤ 4096) (hp : p.1 ≤ 1099511627776 ∧ p.2.1 ≤ 41) (hQ : (pushR nodeS (rowA val b m).reverse p).reverse = Q) :
    Calls Tryd.prog 88 #[rowP rb, pcA p] wr fun o w' => o = .returned (.tuple #[]) ∧ JnU w w' rb Q y Y := by
  obtain ⟨v, h⟩ := H
  refine (h.r.push hB hm hd hp hQ).mono ?_
  rintro o w' ⟨rfl, v', h', c', o'⟩
  refine ⟨rfl, v', h', h.hy.keep fun g hg => c'.same g (h.hy.lt hg) (h.far g hg), fun g hg e => ?_⟩
  rcases e with e | e
  · exact h.far g hg (.inl e)
  · rcases o' g e with h1 | h1
    · exact h.far g hg (.inr h1)
    · have := h.hy.lt hg
      omega
end Go.Proofs.YtdbghgpohdijfaaDoor
/- Two ranges joined: walked. -/
namespace Go.Proofs.YtdbghgpohdijfaaDoor
open Go.RowKit Go.Scr Go.ChangeMaps Go.MapKept
set_option linter.unusedVariables false
/-- three new blocks -/
theorem three_blocks (w : World) (a b c : Array Value) (S T U : TypeId) :
    (((w.alloc (.cells a S)).alloc (.cells b T)).alloc (.cells c U)).heap[w.heap.size]? = some (.cells a S (0, 0)) ∧
    (((w.alloc (.cells a S)).alloc (.cells b T)).alloc (.cells c U)).heap[w.heap.size + 1]? = some (.cells b T (0, 0)) ∧
    (((w.alloc (.cells a S)).alloc (.cells b T)).alloc (.cells c U)).heap[w.heap.size + 1 + 1]? = some (.cells c U (0, 0)) ∧
    Below w.heap.size w (((w.alloc (.cells a S)).alloc (.cells b T)).alloc (.cells c U)) := by
  refine ⟨blk_alloc (blk_alloc (heap_alloc_new w _)), blk_alloc ?_, ?_, (((Below.refl _ _).alloc (Nat.le_refl _) _).alloc (by simp) _).alloc (by simp; omega) _⟩
  · have := heap_alloc_new (w.alloc (.cells a S)) (.cells b T)
    rwa [show (w.alloc (.cells a S)).heap.size = w.heap.size + 1 by simp] at this
  · have := heap_alloc_new ((w.alloc (.cells a S)).alloc (.cells b T)) (.cells c U)
    rwa [show ((w.alloc (.cells a S)).alloc (.cells b T)).heap.size = w.heap.size + 1 + 1 by simp] at this
end Go.Proofs.YtdbghgpohdijfaaDoor
