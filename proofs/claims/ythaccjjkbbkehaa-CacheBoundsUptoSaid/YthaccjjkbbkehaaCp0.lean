/- Two pointers compared. -/
import Derived.Test.YthaccjjkbbkehaaMem
import Derived.Test.YthaccjjkbbkehaaChecked
namespace Go.Proofs.Ythaccjjkbbkehaa
open Go.RowKit Go.Scr
set_option linter.unusedVariables false

def Thaw (w : World) (b : Nat) : Prop := ∃ cs T, w.heap[b]? = some (.cells cs T (0, 0))
theorem Thaw.f {w : World} {b : Nat} (h : Thaw w b) (i : Nat) : w.frozen? ⟨b, i, none⟩ = false := by
  obtain ⟨cs, T, hb⟩ := h
  exact frozen_of_row w b i _ _ hb
theorem Thaw.sh {w : World} {b : Nat} (h : Thaw w b) : ∃ T n, w.shape? b = some (T, n) := by
  obtain ⟨cs, T, hb⟩ := h
  exact ⟨T, cs.size, by simp [World.shape?, hb]⟩
theorem sameAddr_same (P : Program) (w : World) (a : Nat) : (sameAddr ⟨a, 0, none⟩ ⟨a, 0, none⟩).run P w = .ok true w := by
  simp [sameAddr]
theorem sameAddr_ne (P : Program) {w : World} {a b : Nat} (ha : Thaw w a) (hb : Thaw w b) (h : a ≠ b) : (sameAddr ⟨a, 0, none⟩ ⟨b, 0, none⟩).run P w = .ok false w := by
  have fa := ha.f
  have fb := hb.f
  obtain ⟨Ta, na, sa⟩ := ha.sh
  obtain ⟨Tb, nb, sb⟩ := hb.sh
  simp [sameAddr, h, fa, fb, noView, viewAt, mayBeOne, stringish, sa, sb, Result.andThen]
section
variable {P : Program} {t e : TypeId} {w : World} (hu : P.underlying t = some (.pointer e)) {n : Nat} (hs : (sizeOf e).run P w = .ok (n + 1) w)
include hu hs
theorem eqIn_same (d a : Nat) : (Op.equalIn (d + 1) t (.pointer (some ⟨a, 0, none⟩)) (.pointer (some ⟨a, 0, none⟩))).run P w = .ok true w := by
  simp [Op.equalIn, run_underlying hu, hs, sameAddr_same]
theorem eqIn_ne (d : Nat) {a b : Nat} (ha : Thaw w a) (hb : Thaw w b) (h : a ≠ b) : (Op.equalIn (d + 1) t (.pointer (some ⟨a, 0, none⟩)) (.pointer (some ⟨b, 0, none⟩))).run P w = .ok false w := by
  simp [Op.equalIn, run_underlying hu, hs, sameAddr_ne P ha hb h]
theorem neq_same (a : Nat) : (binOp .neq t (.pointer (some ⟨a, 0, none⟩)) (.pointer (some ⟨a, 0, none⟩))).run P w = .ok (.bool false) w := by
  have h0 : (Op.equal t (.pointer (some ⟨a, 0, none⟩)) (.pointer (some ⟨a, 0, none⟩))).run P w = .ok true w := eqIn_same hu hs 9999 a
  simp only [binOp]
  simp [h0]
theorem neq_ne {a b : Nat} (ha : Thaw w a) (hb : Thaw w b) (h : a ≠ b) : (binOp .neq t (.pointer (some ⟨a, 0, none⟩)) (.pointer (some ⟨b, 0, none⟩))).run P w = .ok (.bool true) w := by
  have h0 : (Op.equal t (.pointer (some ⟨a, 0, none⟩)) (.pointer (some ⟨b, 0, none⟩))).run P w = .ok false w := eqIn_ne hu hs 9999 ha hb h
  simp only [binOp]
  simp [h0]
end
end Go.Proofs.Ythaccjjkbbkehaa
