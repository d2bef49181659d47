/- Rows of pieces in a box: pushed, told; Compact. -/
import Derived.Test.YtdbghgpohdijfaaDoorMa37
namespace Go.Proofs.YtdbghgpohdijfaaDoor
open Go.RowKit Go.Scr Go.ChangeMaps Go.MapKept
set_option linter.unusedVariables false
/-- a row in a box of its own, above w -/
structure RwI (w wr : World) (rb : Nat) (P : List Pc) (v : Value) : Prop where
  b : Below w.heap.size w wr
  fr : FrI wr rb 62 [] P v
  lo : w.heap.size ≤ rb ∧ ∀ g, v.ownBlock = some g → w.heap.size ≤ g
def RwU (w wr : World) (rb : Nat) (P : List Pc) : Prop := ∃ v, RwI w wr rb P v
theorem RwU.b {w wr : World} {rb : Nat} {P : List Pc} (H : RwU w wr rb P) : Below w.heap.size w wr := by
  obtain ⟨v, h⟩ := H
  exact h.b
theorem RwU.below {w wr w' : World} {rb : Nat} {P : List Pc} (H : RwU w wr rb P) (hb : Below wr.heap.size wr w') : RwU w w' rb P := by
  obtain ⟨v, h⟩ := H
  exact ⟨v, h.b.trans (hb.mono h.b.size), h.fr.below hb, h.lo⟩
theorem row_bounds {val : Nat → Nat → ByteArray} {b e : Nat} (he : e ≤ 1099511627776) : ∀ x ∈ rowA val b e, x.1 ≤ 1099511627776 ∧ x.2.1 ≤ 40 := fun x hx => by
  have h1 := rowA_mem hx
  have h3 : 2 ^ x.2.1 ≤ 2 ^ 40 := Nat.le_trans (Nat.le_trans (Nat.le_add_left _ _) h1.2) he
  exact ⟨Nat.le_trans (Nat.le_trans (Nat.le_add_right _ _) h1.2) he, two_le' h3⟩
theorem RwI.push {w wr : World} {rb B b m : Nat} {val : Nat → Nat → ByteArray} {p : Pc} {Q : List Pc} {v : Value} (h : RwI w wr rb (rowA val b m) v) (hB : Bas w B) (hm : m ≤ 1099511627776) (hd : m - b ≤ 4096) (hp : p.1 ≤ 1099511627776 ∧ p.2.1 ≤ 41) (hQ : (pushR nodeS (rowA val b m).reverse p).reverse = Q) :
    Calls Tryd.prog 88 #[rowP rb, pcA p] wr fun o w' => o = .returned (.tuple #[]) ∧ ∃ v', RwI w w' rb Q v' ∧ Chg (ebQ rb v) wr w' ∧ ∀ q, v'.ownBlock = some q → v.ownBlock = some q ∨ wr.heap.size ≤ q := by
  have hf := h.fr
  rw [← List.reverse_reverse (rowA val b m)] at hf
  have hl := rowA_len val b m
  refine (fpush_any (B := B) hf (hB.below (h.b.mono hB.le)) ⟨Nat.le_trans hB.le h.lo.1, fun g hg => Nat.le_trans hB.le (h.lo.2 g hg)⟩ (fun x hx => row_bounds hm x (List.mem_reverse.1 hx)) hp (by rw [List.length_reverse]; omega)).mono ?_
  rintro o w' ⟨rfl, v', f', c', o'⟩
  rw [hQ] at f'
  refine ⟨rfl, v', ⟨?_, f', h.lo.1, fun g hg => ?_⟩, c', o'⟩
  · have hq : ∀ i, ebQ rb v i → w.heap.size ≤ i := fun i hi => by
      rcases hi with rfl | hi
      · exact h.lo.1
      · exact h.lo.2 i hi
    exact below_chg h.b c' hq h.b.size
  · rcases o' g hg with h1 | h1
    · exact h.lo.2 g h1
    · exact Nat.le_trans h.b.size h1
theorem RwU.push {w wr : World} {rb B b m : Nat} {val : Nat → Nat → ByteArray} {p : Pc} {Q : List Pc} (H : RwU w wr rb (rowA val b m)) (hB : Bas w B) (hm : m ≤ 1099511627776) (hd : m - b ≤ 4096) (hp : p.1 ≤ 1099511627776 ∧ p.2.1 ≤ 41) (hQ : (pushR nodeS (rowA val b m).reverse p).reverse = Q) :
    Calls Tryd.prog 88 #[rowP rb, pcA p] wr fun o w' => o = .returned (.tuple #[]) ∧ RwU w w' rb Q := by
  obtain ⟨v, h⟩ := H
  refine (h.push hB hm hd hp hQ).mono ?_
  rintro o w' ⟨rfl, v', h', _⟩
  exact ⟨rfl, v', h'⟩
theorem RwU.told {w wr : World} {rb b m : Nat} {val : Nat → Nat → ByteArray} (H : RwU w wr rb (rowA val b m)) (hd : m - b ≤ 4096) (x y : Nat) :
    Calls Tryd.prog 89 #[rowP rb, .int .i64 (x : Int), .int .i64 (y : Int)] wr fun o w' => ∃ u, o = .returned (rgA x y u) ∧ LfI wr w' u (nodesA val b m).length (nodesA val b m) := by
  obtain ⟨v, h⟩ := H
  have hl := rowA_len val b m
  exact told_any h.fr (by omega) x y
/-- a new row -/
theorem RwI.new {w : World} {P : List Pc} {v : Value} {w1 : World} (h : PcI w w1 v P) : RwI w (w1.alloc (.cells #[v] 62)) w1.heap.size P v :=
  ⟨h.b.alloc h.b.size _, ⟨heap_alloc_new w1 _, h.h.below ((Below.refl _ _).alloc (Nat.le_refl _) _), fun e => by have := h.h.lt e; omega⟩, h.b.size, h.o⟩
end Go.Proofs.YtdbghgpohdijfaaDoor
