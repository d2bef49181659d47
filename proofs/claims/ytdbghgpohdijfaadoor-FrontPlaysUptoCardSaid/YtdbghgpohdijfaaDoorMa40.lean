/- Elements taken out of an own list where it lies: append(v[:k], v[k+d:]...). -/
import Derived.Test.YtdbghgpohdijfaaDoorMa1
import Derived.Test.YtdbghgpohdijfaaDoorMa12
import Derived.Test.YtdbghgpohdijfaaDoorMa39
namespace Go.Scr
open Go.RowKit
set_option linter.unusedVariables false
end Go.Scr
/- A row of bools that is made and written. -/
namespace Go.Proofs.YtdbghgpohdijfaaDoor
open Go.RowKit Go.Scr
set_option linter.unusedVariables false
def BoR (w : World) (g : Nat) (B : List Bool) : Prop := w.heap[g]? = some (.cells ((B.map Value.bool).toArray) 4 (0, 0))
theorem BoR.cell {w : World} {g : Nat} {B : List Bool} (h : BoR w g B) {j : Nat} {d : Bool} (hd : B[j]? = some d) : w.cell? ⟨g, j, none⟩ = some (.bool d) := by
  rw [cell_of_row w g j _ _ _ h]
  simp [hd]
theorem BoR.frozen {w : World} {g : Nat} {B : List Bool} (h : BoR w g B) (j : Nat) : w.frozen? ⟨g, j, none⟩ = false := by
  unfold World.frozen?
  unfold BoR at h
  simp [h]
theorem BoR.set {w : World} {g : Nat} {B : List Bool} (h : BoR w g B) (j : Nat) (d : Bool) : BoR (w.setCell ⟨g, j, none⟩ (.bool d)) g (B.set j d) := by
  have := blk_set h j (.bool d)
  unfold BoR
  rw [this]
  congr 2
  simp [List.map_set]
theorem BoR.below {w w' : World} {g n : Nat} {B : List Bool} (h : BoR w g B) (hb : Below n w w') (hg : g < n) : BoR w' g B := blk_below h hb hg
theorem BoR.lt {w : World} {g : Nat} {B : List Bool} (h : BoR w g B) : g < w.heap.size := blk_lt h
end Go.Proofs.YtdbghgpohdijfaaDoor
/- Lists of ranges: read, grown, written, taken out of; neighbours. -/
namespace Go.Proofs.YtdbghgpohdijfaaDoor
open Go.RowKit Go.Scr Go.ChangeMaps Go.MapKept
set_option linter.unusedVariables false
abbrev Rg := Nat × Nat × Value
def rgV1 (x : Rg) : List Value := [.int .i64 (x.1 : Int), .int .i64 (x.2.1 : Int), x.2.2]
def rgV (R : List Rg) : List Value := (R.map rgV1).flatten
theorem rgV_append (A B : List Rg) : rgV (A ++ B) = rgV A ++ rgV B := by simp [rgV]
theorem rgV_cons (a : Rg) (K : List Rg) : rgV (a :: K) = .int .i64 (a.1 : Int) :: .int .i64 (a.2.1 : Int) :: a.2.2 :: rgV K := by simp [rgV, rgV1]
theorem rgV_one (a : Rg) : rgV [a] = [.int .i64 (a.1 : Int), .int .i64 (a.2.1 : Int), a.2.2] := by simp [rgV, rgV1]
theorem rgV_set {K : List Rg} : ∀ {j : Nat} {x : Rg}, j < K.length → rgV (K.set j x) = (((rgV K).set (j * 3) (.int .i64 (x.1 : Int))).set (j * 3 + 1) (.int .i64 (x.2.1 : Int))).set (j * 3 + 2) x.2.2 := by
  induction K with
  | nil => intro j x h; simp at h
  | cons a K ih =>
    intro j x h
    cases j with
    | zero =>
      rw [List.set_cons_zero, rgV_cons, rgV_cons]
      rfl
    | succ j =>
      rw [List.set_cons_succ, rgV_cons, ih (by simpa using h), rgV_cons, show (j + 1) * 3 + 2 = (j * 3 + 2) + 3 by omega, show (j + 1) * 3 + 1 = (j * 3 + 1) + 3 by omega, show (j + 1) * 3 = (j * 3) + 3 by omega]
      rfl
/-- lists of other types lie in other blocks -/
theorem held_apart {w : World} {S T n m s t g : Nat} {v u : Value} {xs ys : List Value} (hST : S ≠ T) (h : Held w S s v n xs) (k : Held w T t u m ys) (hv : v.ownBlock = some g) : u.ownBlock ≠ some g := by
  intro hu
  rcases h.2 with ⟨rfl, _⟩ | ⟨a, c1, cur, rfl, hg, _⟩
  · cases hv
  rcases k.2 with ⟨rfl, _⟩ | ⟨b, c2, cur2, rfl, hg2, _⟩
  · cases hu
  cases hv
  cases hu
  rw [hg] at hg2
  injection hg2 with e
  injection e with e1 e2
  exact hST e2
/-- a list of ranges, above w; their hashes are those of the spans -/
structure PaI (w wr : World) (val : Nat → Nat → ByteArray) (v : Value) (R : List Rg) : Prop where
  b : Below w.heap.size w wr
  h : Held wr 68 3 v R.length (rgV R)
  o : ∀ g, v.ownBlock = some g → w.heap.size ≤ g
  it : ∀ x ∈ R, Held wr 9 1 x.2.2 (nodesA val x.1 x.2.1).length ((nodesA val x.1 x.2.1).map Value.string)
  on : ∀ x ∈ R, x.2.2.oneCell' = true
theorem PaI.one {w wr : World} {val : Nat → Nat → ByteArray} {v : Value} {R : List Rg} (H : PaI w wr val v R) : ∀ u ∈ rgV R, u.oneCell' = true := by
  intro u hu
  obtain ⟨l, hl, hul⟩ := List.mem_flatten.1 hu
  obtain ⟨x, hx, rfl⟩ := List.mem_map.1 hl
  simp only [rgV1, List.mem_cons, List.not_mem_nil, or_false] at hul
  rcases hul with rfl | rfl | rfl
  · rfl
  · rfl
  · exact H.on x hx
theorem PaI.below {w wr w' : World} {val : Nat → Nat → ByteArray} {v : Value} {R : List Rg} (H : PaI w wr val v R) (hb : Below wr.heap.size wr w') : PaI w w' val v R :=
  ⟨H.b.trans (hb.mono H.b.size), H.h.below hb, H.o, fun x hx => (H.it x hx).below hb, H.on⟩
/-- the list's own block alone has changed, or grown -/
theorem PaI.keepIt {w wr w' : World} {val : Nat → Nat → ByteArray} {v : Value} {R : List Rg} (H : PaI w wr val v R) (hk : ∀ q, q < wr.heap.size → v.ownBlock ≠ some q → w'.heap[q]? = wr.heap[q]?) {x : Rg} (hx : x ∈ R) : Held w' 9 1 x.2.2 (nodesA val x.1 x.2.1).length ((nodesA val x.1 x.2.1).map Value.string) :=
  (H.it x hx).keep fun q hq => hk q ((H.it x hx).lt hq) (held_apart (show (9 : Nat) ≠ 68 by decide) (H.it x hx) H.h hq)
theorem PaI.push {w wr w' : World} {val : Nat → Nat → ByteArray} {v v' : Value} {n : Nat} {R : List Rg} {x : Rg} {cs : Array Value} {T : TypeId} (H : PaI w wr val v R) (hn : n = R.length)
    (hx : Held wr 9 1 x.2.2 (nodesA val x.1 x.2.1).length ((nodesA val x.1 x.2.1).map Value.string)) (hx1 : x.2.2.oneCell' = true)
    (g : Grew 68 3 (wr.alloc (.cells cs T)) v n 1 (rgV R) [.int .i64 (x.1 : Int), .int .i64 (x.2.1 : Int), x.2.2] v' w') : PaI w w' val v' (R ++ [x]) := by
  subst hn
  have H2 := H.below ((Below.refl _ _).alloc (Nat.le_refl _) (.cells cs T))
  have hgr := g.grown
  have hx2 := hx.below ((Below.refl _ _).alloc (Nat.le_refl _) (.cells cs T))
  refine ⟨⟨hgr.os.trans H2.b.os, hgr.tape.trans H2.b.tape, hgr.output.trans H2.b.output, Nat.le_trans H2.b.size hgr.size, fun i hi => (hgr.block i (Nat.lt_of_lt_of_le hi H2.b.size) (fun e => by have := H.o i e.symm; omega)).trans (H2.b.block i hi)⟩, ?_, fun q hq => ?_, fun y hy => ?_, fun y hy => ?_⟩
  · rw [rgV_append, rgV_one, List.length_append]
    exact g.held
  · rcases g.at with ⟨e, _⟩ | ⟨e, _⟩
    · exact H.o q (by rw [← e]; exact hq)
    · rw [hq] at e
      have h1 := Option.some.inj e
      have h2 := H2.b.size
      omega
  · rcases List.mem_append.1 hy with hy | hy
    · exact H2.keepIt (fun q hq hne => hgr.block q hq (fun e => hne e.symm)) hy
    · rw [List.mem_singleton.1 hy]
      exact hx2.keep fun q hq => hgr.block q (hx2.lt hq) (fun e => held_apart (show (9 : Nat) ≠ 68 by decide) hx2 H2.h hq e.symm)
  · rcases List.mem_append.1 hy with hy | hy
    · exact H.on y hy
    · rw [List.mem_singleton.1 hy]
      exact hx1
theorem PaI.set {w wr : World} {val : Nat → Nat → ByteArray} {v : Value} {R : List Rg} {g j : Nat} {x : Rg} (H : PaI w wr val v R) (hg : v.ownBlock = some g) (hj : j < R.length)
    (hx : Held wr 9 1 x.2.2 (nodesA val x.1 x.2.1).length ((nodesA val x.1 x.2.1).map Value.string)) (hx1 : x.2.2.oneCell' = true) :
    PaI w (((wr.setCell ⟨g, j * 3, none⟩ (.int .i64 (x.1 : Int))).setCell ⟨g, j * 3 + 1, none⟩ (.int .i64 (x.2.1 : Int))).setCell ⟨g, j * 3 + 2, none⟩ x.2.2) val v (R.set j x) := by
  have hgo : w.heap.size ≤ g := H.o g hg
  have hk : ∀ q, q ≠ g → (((wr.setCell ⟨g, j * 3, none⟩ (.int .i64 (x.1 : Int))).setCell ⟨g, j * 3 + 1, none⟩ (.int .i64 (x.2.1 : Int))).setCell ⟨g, j * 3 + 2, none⟩ x.2.2).heap[q]? = wr.heap[q]? := fun q hq => by
    rw [Below.heap_setCell _ ⟨g, j * 3 + 2, none⟩ _ q hq, Below.heap_setCell _ ⟨g, j * 3 + 1, none⟩ _ q hq, Below.heap_setCell _ ⟨g, j * 3, none⟩ _ q hq]
  refine ⟨((H.b.setCell (p := ⟨g, j * 3, none⟩) hgo _).setCell (p := ⟨g, j * 3 + 1, none⟩) hgo _).setCell (p := ⟨g, j * 3 + 2, none⟩) hgo _, ?_, H.o, fun y hy => ?_, fun y hy => ?_⟩
  · rw [List.length_set, rgV_set hj]
    exact Held.setN (Held.setN (Held.setN H.h hg _ _) hg _ _) hg _ _
  · rcases List.mem_or_eq_of_mem_set hy with hy | rfl
    · exact (H.it y hy).keep fun q hq => hk q (fun e => held_apart (show (9 : Nat) ≠ 68 by decide) (H.it y hy) H.h hq (by rw [e]; exact hg))
    · exact hx.keep fun q hq => hk q (fun e => held_apart (show (9 : Nat) ≠ 68 by decide) hx H.h hq (by rw [e]; exact hg))
  · rcases List.mem_or_eq_of_mem_set hy with hy | rfl
    · exact H.on y hy
    · exact hx1
end Go.Proofs.YtdbghgpohdijfaaDoor
/- Law 5: the same ranges? -/
namespace Go.Proofs.YtdbghgpohdijfaaDoor
open Go.RowKit Go.Scr Go.ChangeMaps Go.MapKept
set_option linter.unusedVariables false
end Go.Proofs.YtdbghgpohdijfaaDoor
