/- Layer 4, walked: begin, PathLen, ProofLen. -/
import Derived.Test.YtafookdllnhdaaaDoorMa32
import Derived.Test.YtafookdllnhdaaaDoorMa11
import Derived.StillTailTactics
import Derived.Laws.ResultCell
import Derived.Test.YtafookdllnhdaaaDoorMa12
namespace Go.Proofs.YtafookdllnhdaaaDoor
open Go.RowKit Go.Scr
set_option linter.unusedVariables false

theorem results_row_tmp {P : Program} {fn : Func} {p u : Tmp} {ty : TypeId} (h : fn.results = #[.cell p ty, .tmp u]) (tmps : Array Value) (w : World) (g : Nat) (t : TypeId) (cs : Array Value) (fr : Nat × Nat) (d : TypeDesc)
    (hp : tmps.getD p undef = .pointer (some ⟨g, 0, none⟩)) (hg : w.heap[g]? = some (.cells cs t fr))
    (hu : P.underlying ty = some d) (hd : (match d with | .struct _ | .array _ _ => true | _ => false) = true) (hi : (P.info? ty).map (·.size) = some cs.size) :
    (results fn tmps).run P w = .ok (.tuple #[.agg cs, tmps.getD u undef]) w := by
  have hp' : tmps[p]?.getD undef = .pointer (some ⟨g, 0, none⟩) := by simpa using hp
  rw [results_cell_tmp h, hp]
  simp only [asAddr, Sem.run_pure, Result.andThen_ok, run_loadVar_row w g t ty cs fr d hg hu hd hi]
theorem two_one (x y : Nat) : (#[Value.int .i64 (x : Int), Value.int .i64 (y : Int)]).all (·.oneCell') = true := by
  rw [Array.all_eq_true_iff_forall_mem]
  intro v hv
  simp only [List.mem_toArray, List.mem_cons, List.not_mem_nil, or_false] at hv
  rcases hv with rfl | rfl <;> rfl

/-- a box of a number -/
def BoxI (w : World) (g : Nat) (n : Nat) : Prop := w.heap[g]? = some (.cells #[.int .i64 n] 3 (0, 0))
theorem BoxI.c {w : World} {g n : Nat} (h : BoxI w g n) : w.cell? ⟨g, 0, none⟩ = some (.int .i64 n) := cell_of_one h
theorem BoxI.k {w : World} {g n : Nat} (h : BoxI w g n) : w.frozen? ⟨g, 0, none⟩ = false := free_of_one h
theorem BoxI.set {w : World} {g n : Nat} (h : BoxI w g n) (x : Nat) : BoxI (w.setCell ⟨g, 0, none⟩ (.int .i64 x)) g x := by
  have := blk_set h 0 (.int .i64 x)
  exact this
theorem step_below {B : Nat} {w : World} {g i : Nat} (u : Value) (hB : B ≤ g) (hBw : B ≤ w.heap.size) : Below B w (w.setCell ⟨g, i, none⟩ u) := below_only (Below.refl B w) (grow_cell w g i u) hBw hB

end Go.Proofs.YtafookdllnhdaaaDoor
/- Layer 4, walked: PathLen, ProofLen. -/
namespace Go.Proofs.YtafookdllnhdaaaDoor
open Go.RowKit Go.Scr
set_option linter.unusedVariables false

def badSize (s : Int) : Bool := decide (s < 1) || decide (s > 1099511627776)
def badIndex (s i : Int) : Bool := decide (i < 0) || decide (i ≥ s)
def pathLenS (s i : Int) : Int := if s < 1 ∨ 1099511627776 < s then 0 else if i < 0 ∨ s ≤ i then 0 else ((wayN s.toNat i.toNat : Nat) : Int)
def pathLenE (s i : Int) : Int := if s < 1 ∨ 1099511627776 < s then 41 else if i < 0 ∨ s ≤ i then 40 else 0
def proofLenS (f s : Int) : Int := if f < 1 ∨ s < f ∨ 1099511627776 < s then 0 else ((toldN f.toNat s.toNat true : Nat) : Int)
def proofLenE (f s : Int) : Int := if f < 1 ∨ s < f ∨ 1099511627776 < s then 41 else 0
theorem pathLenS_ok {n m : Nat} (h : m < n) (hn : n ≤ 1099511627776) : pathLenS n m = ((wayN n m : Nat) : Int) ∧ pathLenE n m = 0 := by
  unfold pathLenS pathLenE
  rw [if_neg (by omega), if_neg (by omega), if_neg (by omega), if_neg (by omega)]
  simp
theorem proofLenS_ok {f s : Nat} (h1 : 1 ≤ f) (h2 : f ≤ s) (h : s ≤ 1099511627776) : proofLenS f s = ((toldN f s true : Nat) : Int) ∧ proofLenE f s = 0 := by
  unfold proofLenS proofLenE
  rw [if_neg (by omega), if_neg (by omega)]
  simp
theorem stepL_len (l : Nat) : ∀ a, (stepL a l).length ≤ l := by
  induction l using Nat.strongRecOn with
  | ind l ih =>
    intro a
    by_cases h : l = 0
    · rw [h, stepL_zero]; simp
    · rw [stepL_cons h, List.length_cons]
      have h1 := (skB_le (isLeft a l) a l).2
      have := ih ((skB (isLeft a l) a l).2 / 2) (by omega) ((skB (isLeft a l) a l).1 / 2)
      omega
theorem two_le (wB : World) (o : Obj) : wB.heap.size ≤ (wB.alloc o).heap.size := by simp
theorem stepL_way {n m : Nat} (h : m < n) : (stepL m (n - 1)).length = wayN n m := by rw [stepL_dn n m h]; rfl
theorem stepL_told {f s : Nat} (h1 : 1 ≤ f) (h2 : f < s) : (if (strip (f - 1) (s - 1)).1 == 0 then 0 else 1) + (stepL (strip (f - 1) (s - 1)).1 (strip (f - 1) (s - 1)).2).length = toldN f s true := by
  have := strip_fl s f h1 h2
  unfold toldN
  rw [this.1, this.2]
  omega
theorem strip_mono (a : Nat) : ∀ l, a ≤ l → (strip a l).1 ≤ (strip a l).2 := by
  induction a using Nat.strongRecOn with
  | ind a ih =>
    intro l h
    by_cases ho : a % 2 = 1
    · rw [strip_odd l ho]; exact ih (a / 2) (by omega) (l / 2) (by omega)
    · rw [strip_even l ho]; exact h

end Go.Proofs.YtafookdllnhdaaaDoor
/- Layer 4, walked: hashes, joined, own. -/
namespace Go.Proofs.YtafookdllnhdaaaDoor
open Go.RowKit Go.Scr
set_option linter.unusedVariables false

/-- has each text 32 bytes? -/
def all32 (L : List ByteArray) : Bool := L.all fun s => s.size == 32
theorem all32_take {L : List ByteArray} {k : Nat} {s : ByteArray} (h : L[k]? = some s) : all32 (L.take (k + 1)) = (all32 (L.take k) && (s.size == 32)) := by
  obtain ⟨hk, rfl⟩ := List.getElem?_eq_some_iff.mp h
  unfold all32
  rw [List.take_succ_eq_append_getElem hk, List.all_append]
  simp
theorem all32_bad {L : List ByteArray} {k : Nat} {s : ByteArray} (h : L[k]? = some s) (hs : s.size ≠ 32) : all32 L = false := by
  unfold all32
  rw [List.all_eq_false]
  exact ⟨s, List.mem_of_getElem? h, by simpa using hs⟩

end Go.Proofs.YtafookdllnhdaaaDoor
