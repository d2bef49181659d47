/- Layer 3, walked: Split of both, parts. -/
import Derived.Test.YtafookdllnhdaaaDoorMa12
import Derived.Test.YtafookdllnhdaaaDoorMa3
import Derived.Test.YtafookdllnhdaaaDoorMa11
import Derived.Deep.RegionHeld3
import Derived.IntWalk
namespace Go.Proofs.YtafookdllnhdaaaDoor
open Go.RowKit Go.Scr
set_option linter.unusedVariables false

def splitS (n : Int) : Int := if n < 2 then 0 else ((spl n.toNat : Nat) : Int)
theorem splitS_nat {n : Nat} (h : 2 ≤ n) : splitS n = ((spl n : Nat) : Int) := by unfold splitS; rw [if_neg (by omega), Int.toNat_natCast]

end Go.Proofs.YtafookdllnhdaaaDoor
/- Layer 3, walked: root. -/
namespace Go.Proofs.YtafookdllnhdaaaDoor
open Go.RowKit Go.Scr
set_option linter.unusedVariables false

theorem keepR {w w2 w3 : World} {B : Nat} {x : Addr} {v : Value} (h : w2.cell? x = some v ∧ Below B w w2) (hb : Below w2.heap.size w2 w3) (hB : B ≤ w2.heap.size) : w3.cell? x = some v ∧ Below B w w3 :=
  ⟨(hb.cell (block_lt_of_cell h.1)).trans h.1, below_from h.2 hb hB⟩
theorem Txts.left {w : World} {p : Option Addr} {n c k : Nat} {L : List ByteArray} (h : Txts w (.slice p n c) L) (hk : k ≤ n) : Txts w (.slice p k k) (L.take k) := by
  obtain ⟨q, c', he, h1, h2, h3⟩ := h
  simp only [Value.slice.injEq] at he
  obtain ⟨rfl, hn, rfl⟩ := he
  refine ⟨p, k, by rw [List.length_take, Nat.min_eq_left (by omega)], by rw [List.length_take]; omega, by rw [List.length_take]; omega, fun j s hs => h3 j s ?_⟩
  rw [List.getElem?_take] at hs
  split at hs
  · exact hs
  · cases hs
theorem Txts.right {w : World} {p : Option Addr} {n c k : Nat} {L : List ByteArray} (h : Txts w (.slice p n c) L) (hk : k ≤ n) : Txts w (.slice (p.map (·.add k)) (n - k) (n - k)) (L.drop k) := by
  obtain ⟨q, c', he, h1, h2, h3⟩ := h
  simp only [Value.slice.injEq] at he
  obtain ⟨rfl, hn, rfl⟩ := he
  refine ⟨_, n - k, by rw [List.length_drop, hn], by rw [List.length_drop]; omega, by rw [List.length_drop]; omega, fun j s hs => ?_⟩
  rw [List.getElem?_drop] at hs
  obtain ⟨a, ha, hc⟩ := h3 (k + j) s hs
  exact ⟨a.add k, by rw [ha]; rfl, by rw [Addr.add_add]; exact hc⟩
/-- a box of a function that holds itself -/
def BoxF (w : World) (r F : Nat) : Prop := ∃ T, w.heap[r]? = some (.cells #[.func (.func F) #[] #[.pointer (some ⟨r, 0, none⟩)]] T (0, 0))
theorem BoxF.c {w : World} {r F : Nat} (h : BoxF w r F) : w.cell? ⟨r, 0, none⟩ = some (.func (.func F) #[] #[.pointer (some ⟨r, 0, none⟩)]) := by
  obtain ⟨T, h⟩ := h
  exact cell_of_one h
theorem BoxF.lt {w : World} {r F : Nat} (h : BoxF w r F) : r < w.heap.size := by
  obtain ⟨T, h⟩ := h
  exact blk_lt h
theorem BoxF.below {w w' : World} {r F B : Nat} (h : BoxF w r F) (hb : Below B w w') (hB : w.heap.size ≤ B) : BoxF w' r F := by
  obtain ⟨T, h⟩ := h
  exact ⟨T, blk_below h hb (Nat.lt_of_lt_of_le (blk_lt h) hB)⟩
def rootR (L : List ByteArray) : ByteArray := rootL nodeS hempty L
theorem rootR_split {L : List ByteArray} (h : 2 ≤ L.length) : rootR L = nodeS (rootR (L.take (spl L.length))) (rootR (L.drop (spl L.length))) := rootL_split nodeS hempty h

end Go.Proofs.YtafookdllnhdaaaDoor
