/- A span cut into complete subtrees: walked. -/
import Derived.Test.YtdbghgpohdijfaaDoorMa32
import Derived.BigQuiet
import Derived.Deep.CutBlock
namespace Go.Proofs.YtdbghgpohdijfaaDoor
open Go.RowKit Go.Scr Go.ChangeMaps Go.MapKept
set_option linter.unusedVariables false
set_option maxRecDepth 100000 in
set_option maxHeartbeats 2000000 in
theorem fend_any (b l : Nat) (s : ByteArray) (w : World) (hb : b ≤ 1099511627776) (hl : l ≤ 40) :
    Calls Tryd.prog 135 #[.agg #[.int .i64 (b : Int), .int .i64 (l : Int), .string s]] w fun o w' => o = .returned (.int .i64 ((b + 2 ^ l : Nat) : Int)) ∧ Below w.heap.size w w' := by
  obtain ⟨q, hq⟩ : ∃ q, q = 2 ^ l := ⟨_, rfl⟩
  have hq40 : q ≤ 1099511627776 := by rw [hq]; exact Nat.le_trans (two_le hl) (by decide)
  have hqI : (2 : Int) ^ l = (q : Int) := by rw [hq]; simp
  rw [← hq]
  obtain ⟨w2, hw2⟩ : ∃ y, y = w.alloc (.cells #[.int .i64 (b : Int), .int .i64 (l : Int), .string s] 115) := ⟨_, rfl⟩
  have HBE : Hid (Below w.heap.size w w2) := Lib.hid (by rw [hw2]; exact (Below.refl _ _).alloc (Nat.le_refl _) _)
  obtain ⟨sb, hsb⟩ : ∃ y, y = w.heap.size := ⟨_, rfl⟩
  have hbx : w2.heap[sb]? = some (.cells #[.int .i64 (b : Int), .int .i64 (l : Int), .string s] 115 (0, 0)) := by rw [hw2, hsb]; exact heap_alloc_new w _
  have HSZ := Lib.hid hsb
  have HW2 := Lib.hid hw2
  have c0 : w2.cell? ⟨sb, 0, none⟩ = some (.int .i64 (b : Int)) := cellB hbx rfl
  have c1 : w2.cell? ⟨sb, 1, none⟩ = some (.int .i64 (l : Int)) := cellB hbx rfl
  have hqw : IntKind.i64.wrap (q : Int) = (q : Int) := IntWalk.i64_in _ (by omega)
  obtain ⟨r, hr⟩ : ∃ r, r = b + q := ⟨_, rfl⟩
  have hsum : (b : Int) + (q : Int) = (r : Int) := by omega
  have hsw : IntKind.i64.wrap (r : Int) = (r : Int) := IntWalk.i64_in _ (by omega)
  rw [← hr]
  clear hr
  have hl0 : ¬ (l : Int) < 0 := by omega
  clear hq hbx hsb hw2 hq40 hb
  go_enter Tryd.func135, Tryd.ntmps135
  go_upto_region 1 with fail
  rw [← HW2.out, ← HSZ.out]
  go_quiet (fail)
  go_wp2
  go_ret
  exact ⟨rfl, below_drewN HBE.out _⟩
end Go.Proofs.YtdbghgpohdijfaaDoor
/- cut, filled, Load: walked. -/
namespace Go.Proofs.YtdbghgpohdijfaaDoor
open Go.RowKit Go.Scr Go.ChangeMaps Go.MapKept
set_option linter.unusedVariables false
/-- what stands in the cutting loop -/
structure CuI (w wr : World) (b0 b e n : Nat) (v : Value) : Prop where
  ex : ∃ P, P.length = n ∧ P ++ bareA b e = bareA b0 e ∧ PcI w wr v P
theorem CuI.b {w wr : World} {b0 b e n : Nat} {v : Value} (h : CuI w wr b0 b e n v) : Below w.heap.size w wr := by
  obtain ⟨P, _, _, h3⟩ := h.ex
  exact h3.b
theorem CuI.lt {w wr : World} {b0 b e n : Nat} {v : Value} (h : CuI w wr b0 b e n v) {q : Nat} (hq : v.ownBlock = some q) : q < wr.heap.size := by
  obtain ⟨P, _, _, h3⟩ := h.ex
  exact h3.h.lt hq
end Go.Proofs.YtdbghgpohdijfaaDoor
