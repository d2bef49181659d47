/- Leaves of a span that is there. -/
import Derived.Test.YtdbghgpohdijfaaDoorMa23
namespace Go.Proofs.YtdbghgpohdijfaaDoor
open Go.RowKit Go.Scr Go.ChangeMaps Go.MapKept
set_option linter.unusedVariables false
/-- an own list of texts, above w -/
structure LfI (w wr : World) (v : Value) (n : Nat) (P : List ByteArray) : Prop where
  b : Below w.heap.size w wr
  h : Held wr 9 1 v n (P.map Value.string)
  o : ∀ g, v.ownBlock = some g → w.heap.size ≤ g
theorem LfI.below {w wr w' : World} {v : Value} {n : Nat} {P : List ByteArray} (H : LfI w wr v n P) (hb : Below wr.heap.size wr w') : LfI w w' v n P :=
  ⟨H.b.trans (hb.mono H.b.size), H.h.below hb, H.o⟩
theorem LfI.push {w wr w' : World} {v v' : Value} {n : Nat} {P : List ByteArray} {x : ByteArray} {cs : Array Value} {T : TypeId} (H : LfI w wr v n P) (g : Grew 9 1 (wr.alloc (.cells cs T)) v n 1 (P.map Value.string) [.string x] v' w') : LfI w w' v' (n + 1) (P ++ [x]) := by
  have hb1 : Below w.heap.size w (wr.alloc (.cells cs T)) := H.b.alloc H.b.size _
  have hgr := g.grown
  refine ⟨⟨hgr.os.trans hb1.os, hgr.tape.trans hb1.tape, hgr.output.trans hb1.output, Nat.le_trans hb1.size hgr.size, fun i hi => (hgr.block i (Nat.lt_of_lt_of_le hi hb1.size) (fun e => by have := H.o i e.symm; omega)).trans (hb1.block i hi)⟩, ?_, fun q hq => ?_⟩
  · rw [List.map_append]
    exact g.held
  · rcases g.at with ⟨e, _⟩ | ⟨e, _⟩
    · exact H.o q (by rw [← e]; exact hq)
    · rw [hq] at e
      have h1 := Option.some.inj e
      have h2 := hb1.size
      omega
end Go.Proofs.YtdbghgpohdijfaaDoor
