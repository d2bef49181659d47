/- Law 11: SingleAccepted, walked. -/
import Derived.Test.YtafookdllnhdaaaDoorMa38
import Derived.Deep.CutBlock
namespace Go.Proofs.YtafookdllnhdaaaDoor
open Go.RowKit Go.Scr Go.ChangeMaps Go.MapKept
set_option linter.unusedVariables false
theorem AlI.txts {w w' : World} {L : List ByteArray} {C : List (Nat × Nat)} {v : Value} (h : AlI w w' L C C.length v) (hC : C.length ≤ 4194304) : Txts w' v (partsL L C) := by
  have := h.hd
  rw [List.take_length] at this
  exact (held_txtsU this (by unfold partsL; rw [List.length_map]; exact hC)).2
theorem txts_sl {w : World} {v : Value} {L : List ByteArray} {n : Nat} (h : Txts w v L) (hn : n = L.length) : ∃ p c, v = .slice p n c ∧ Txts w (.slice p n c) L := by
  obtain ⟨p, c, rfl, h2⟩ := h
  rw [hn]
  exact ⟨p, c, rfl, p, c, rfl, h2⟩
end Go.Proofs.YtafookdllnhdaaaDoor
