/- slices.Backward over pieces: walked. -/
import Derived.Test.YtdbghgpohdijfaaGreatDoorMa21
import Derived.Test.YtdbghgpohdijfaaGreatDoorMa12
import Derived.Test.YtdbghgpohdijfaaGreatDoorMa10
import Derived.Test.YtdbghgpohdijfaaGreatDoorMa19
namespace Go.Scr
/-- places and pieces, from the last one on (the list is given turned) -/
def backR : List Pc → List (Nat × Pc)
  | [] => []
  | x :: r => (r.length, x) :: backR r
theorem backR_fold (nd : ByteArray → ByteArray → ByteArray) : ∀ (R T : List Pc), T ≠ [] → (backR R).foldl (fun o x => nd x.2.2.2 o) (rootA nd T) = rootA nd (R.reverse ++ T) := by
  intro R
  induction R with
  | nil => intro T _; rfl
  | cons x r ih =>
    intro T hT
    rw [backR, List.foldl_cons, ← rootA_cons nd x hT, ih (x :: T) (by simp), List.reverse_cons, List.append_assoc]
    rfl
end Go.Scr
namespace Go.Proofs.YtdbghgpohdijfaaGreatDoor
open Go.RowKit Go.Scr Go.Shelf Go.ChangeMaps Go.MapKept
set_option linter.unusedVariables false
end Go.Proofs.YtdbghgpohdijfaaGreatDoor
/- The root of some pieces: walked. -/
namespace Go.Proofs.YtdbghgpohdijfaaGreatDoor
open Go.RowKit Go.Scr Go.Shelf Go.ChangeMaps Go.MapKept
set_option linter.unusedVariables false
attribute [local go_sem] Oper.semAt_some
def rootP (P : List Pc) : ByteArray := if P = [] then hempty else rootA nodeS P
end Go.Proofs.YtdbghgpohdijfaaGreatDoor
/- Leaves of a span that is there. -/
namespace Go.Proofs.YtdbghgpohdijfaaGreatDoor
open Go.RowKit Go.Scr Go.ChangeMaps Go.MapKept
set_option linter.unusedVariables false
/-- an own list of texts, above w -/
structure LfI (w wr : World) (v : Value) (n : Nat) (P : List ByteArray) : Prop where
  b : Below w.heap.size w wr
  h : Held wr 9 1 v n (P.map Value.string)
  o : ∀ g, v.ownBlock = some g → w.heap.size ≤ g
theorem LfI.below {w wr w' : World} {v : Value} {n : Nat} {P : List ByteArray} (H : LfI w wr v n P) (hb : Below wr.heap.size wr w') : LfI w w' v n P :=
  ⟨H.b.trans (hb.mono H.b.size), H.h.below hb, H.o⟩
theorem LfI.push {w wr w' : World} {v v' : Value} {n : Nat} {P : List ByteArray} {x : ByteArray} {cs : Array Value} {T : TypeId} (H : LfI w wr v n P) (g : Grew 9 1 (wr.alloc (.cells cs T)) v n 1 (P.map Value.string) [.string x] v' w') : LfI w w' v' (n + 1) (P ++ [x]) := by
  have hb1 : Below w.heap.size w (wr.alloc (.cells cs T)) := H.b.alloc H.b.size _
  have hgr := g.grown
  refine ⟨⟨hgr.os.trans hb1.os, hgr.tape.trans hb1.tape, hgr.output.trans hb1.output, Nat.le_trans hb1.size hgr.size, fun i hi => (hgr.block i (Nat.lt_of_lt_of_le hi hb1.size) (fun e => by have := H.o i e.symm; omega)).trans (hb1.block i hi)⟩, ?_, fun q hq => ?_⟩
  · rw [List.map_append]
    exact g.held
  · rcases g.at with ⟨e, _⟩ | ⟨e, _⟩
    · exact H.o q (by rw [← e]; exact hq)
    · rw [hq] at e
      have h1 := Option.some.inj e
      have h2 := hb1.size
      omega
end Go.Proofs.YtdbghgpohdijfaaGreatDoor
