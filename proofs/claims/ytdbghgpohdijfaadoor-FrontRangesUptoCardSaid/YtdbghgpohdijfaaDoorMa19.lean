/- A hash put: the next node of its level. -/
import Derived.Test.YtdbghgpohdijfaaDoorMa18
import Derived.Deep.RegionHeld3
namespace Go.Proofs.YtdbghgpohdijfaaDoor
open Go.RowKit Go.Scr Go.ChangeMaps Go.MapKept
set_option linter.unusedVariables false
theorem make_rows1 (w : World) : (Instr.makeSlice 45 (.int .i64 1) (.int .i64 1)).run Tryd.prog w = .ok (.slice (some ⟨w.heap.size, 0, none⟩) 1 1) (w.alloc (.cells (Array.replicate 1 (.slice none 0 0)) 22)) := by kernel_rfl
theorem make_rows2 (w : World) : (Instr.makeSlice 45 (.int .i64 2) (.int .i64 2)).run Tryd.prog w = .ok (.slice (some ⟨w.heap.size, 0, none⟩) 2 2) (w.alloc (.cells (Array.replicate 2 (.slice none 0 0)) 22)) := by kernel_rfl
theorem make_rows3 (w : World) : (Instr.makeSlice 45 (.int .i64 3) (.int .i64 3)).run Tryd.prog w = .ok (.slice (some ⟨w.heap.size, 0, none⟩) 3 3) (w.alloc (.cells (Array.replicate 3 (.slice none 0 0)) 22)) := by kernel_rfl
theorem make_rows4 (w : World) : (Instr.makeSlice 45 (.int .i64 4) (.int .i64 4)).run Tryd.prog w = .ok (.slice (some ⟨w.heap.size, 0, none⟩) 4 4) (w.alloc (.cells (Array.replicate 4 (.slice none 0 0)) 22)) := by kernel_rfl
theorem make_rows5 (w : World) : (Instr.makeSlice 45 (.int .i64 5) (.int .i64 5)).run Tryd.prog w = .ok (.slice (some ⟨w.heap.size, 0, none⟩) 5 5) (w.alloc (.cells (Array.replicate 5 (.slice none 0 0)) 22)) := by kernel_rfl
theorem make_rows6 (w : World) : (Instr.makeSlice 45 (.int .i64 6) (.int .i64 6)).run Tryd.prog w = .ok (.slice (some ⟨w.heap.size, 0, none⟩) 6 6) (w.alloc (.cells (Array.replicate 6 (.slice none 0 0)) 22)) := by kernel_rfl
theorem make_rows7 (w : World) : (Instr.makeSlice 45 (.int .i64 7) (.int .i64 7)).run Tryd.prog w = .ok (.slice (some ⟨w.heap.size, 0, none⟩) 7 7) (w.alloc (.cells (Array.replicate 7 (.slice none 0 0)) 22)) := by kernel_rfl
theorem make_rows8 (w : World) : (Instr.makeSlice 45 (.int .i64 8) (.int .i64 8)).run Tryd.prog w = .ok (.slice (some ⟨w.heap.size, 0, none⟩) 8 8) (w.alloc (.cells (Array.replicate 8 (.slice none 0 0)) 22)) := by kernel_rfl
theorem make_rows (w : World) {h : Nat} (h1 : 1 ≤ h) (h8 : h ≤ 8) : (Instr.makeSlice 45 (.int .i64 (h : Int)) (.int .i64 (h : Int))).run Tryd.prog w = .ok (.slice (some ⟨w.heap.size, 0, none⟩) h h) (w.alloc (.cells (Array.replicate h (.slice none 0 0)) 22)) := by
  have : h = 1 ∨ h = 2 ∨ h = 3 ∨ h = 4 ∨ h = 5 ∨ h = 6 ∨ h = 7 ∨ h = 8 := by omega
  rcases this with rfl | rfl | rfl | rfl | rfl | rfl | rfl | rfl
  · exact make_rows1 w
  · exact make_rows2 w
  · exact make_rows3 w
  · exact make_rows4 w
  · exact make_rows5 w
  · exact make_rows6 w
  · exact make_rows7 w
  · exact make_rows8 w
theorem rows_eqN (w : World) : (binOp .eql 45 (.slice none 0 0) (.slice none 0 0)).run Tryd.prog w = .ok (.bool true) w := by kernel_rfl
theorem rows_eqS (w : World) (g n : Nat) : (binOp .eql 45 (.slice (some ⟨g, 0, none⟩) n n) (.slice none 0 0)).run Tryd.prog w = .ok (.bool false) w := by kernel_rfl
theorem held_ty {w : World} {T n g : Nat} {v : Value} {xs : List Value} (h : Held w T 1 v n xs) (hg : v.ownBlock = some g) : ∃ cur, w.heap[g]? = some (.cells cur T (0, 0)) := by
  rcases h.2 with ⟨h0, _⟩ | ⟨g2, cap, cur, rfl, hb, _⟩
  · rw [h0] at hg; cases hg
  · injection hg with hg
    exact ⟨cur, by rw [← hg]; exact hb⟩
theorem info_strT : (Tryd.prog.info? 9).map (fun i => (i.zero, i.size, i.bytes)) = some (some (.string ⟨#[]⟩), 1, 16) := by kernel_rfl
theorem ChT.below {col : Nat → Option (Nat × Nat × Nat)} {w a b : World} (h : ChT col w a) (k : Below a.heap.size a b) : ChT col w b := h.trans (ChT.of_below (col := col) k) fun _ _ => rfl
end Go.Proofs.YtdbghgpohdijfaaDoor
