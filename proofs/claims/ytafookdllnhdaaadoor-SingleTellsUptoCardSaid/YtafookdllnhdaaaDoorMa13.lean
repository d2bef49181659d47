/- Arguments of the digest laws: slices of numbers, of texts; what the bound on the bulk gives. -/
import Derived.Test.YtafookdllnhdaaaDoorMa7
import Derived.Test.YtafookdllnhdaaaDoorMa12
import Derived.ChangeMaps5
import Derived.SliceStrings
import Derived.ChangeSlices
import Derived.WideKeyArgs
namespace Go.Proofs.YtafookdllnhdaaaDoor
open Go.ChangeShapes Go.WideShapes Go.ChangeAt Go.RowKit Go.Scr
set_option linter.unusedVariables false

theorem cat_mem {L : List ByteArray} {s : ByteArray} (h : s ∈ L) : s.size ≤ (cat L).length := by
  induction L with
  | nil => cases h
  | cons a L ih =>
    have hc : (cat (a :: L)).length = a.size + (cat L).length := by simp [cat]
    rcases List.mem_cons.mp h with rfl | h
    · omega
    · have := ih h; omega
theorem bulk_one {H : Type} (d : DataW H) : 1 ≤ Rows.uptoBulk d := by
  cases d with
  | lit l => cases l <;> simp [Rows.uptoBulk]
  | nil => simp [Rows.uptoBulk]
  | ptr d => simp [Rows.uptoBulk]
  | slice elems spare => simp [Rows.uptoBulk]
  | agg parts => simp [Rows.uptoBulk]
  | iface t d => simp [Rows.uptoBulk]
  | map entries => simp [Rows.uptoBulk]
  | held h => simp [Rows.uptoBulk]
theorem bulk_length {H : Type} (l : List (DataW H)) : l.length ≤ Rows.uptoBulkAll l := by
  induction l with
  | nil => simp [Rows.uptoBulkAll]
  | cons x r ih => have := bulk_one x; simp only [Rows.uptoBulkAll, List.length_cons]; omega
theorem bulk_elems {H : Type} (elems spare : List (DataW H)) : Rows.uptoBulkAll elems + 1 ≤ Rows.uptoBulk (.slice elems spare) := by
  simp only [Rows.uptoBulk]
  omega
theorem bulk_string {H : Type} (bytes : List UInt8) : Rows.uptoBulk (DataW.lit (H := H) (.string bytes)) = bytes.length + 1 := by simp [Rows.uptoBulk]
theorem bulk_str_size {H : Type} (s : ByteArray) : Rows.uptoBulk (DataW.lit (H := H) (.string s.data.toList)) = s.size + 1 := by
  rw [bulk_string]
  simp
theorem bulk_bound {H : Type} {l : List (DataW H)} (hk : Rows.uptoSmall H l = true) : Rows.uptoBulkAll l ≤ 1048576 := by simpa [Rows.uptoSmall] using hk
theorem bulk_strs {H : Type} (L : List ByteArray) : Rows.uptoBulkAll (strs (H := H) L) = (cat L).length + L.length := by
  induction L with
  | nil => rfl
  | cons s L ih =>
    have e : strs (H := H) (s :: L) = .lit (.string s.data.toList) :: strs L := rfl
    rw [e, Rows.uptoBulkAll, ih, bulk_string]
    simp [cat]
    omega

section
variable {H : Type} {enc : TypeId × Value → H} {P : Program} {W : World} {base b0 : Nat} {sp : Nat → Bool} {held : Bool}
theorem arg_ints {t e : TypeId} {v : Value} {d : DataW H} {ps : List MemPlace} (ht : P.underlying t = some (.slice e)) (he : P.underlying e = some (.int .i64)) (hc : P.cellsOf e = 1)
    (hval : Value.okWide P W .any b0 t v) (h : DataW.Trod enc P W base sp held t v d ps) (hb : Rows.uptoBulk d ≤ 1048576) : ∃ L, Ints W v L ∧ L.length ≤ Rows.uptoBulk d := by
  obtain ⟨p0, n0, c0, rfl⟩ := okWide_slice ht hval
  obtain ⟨fuel, hf⟩ := h
  rcases open_ints ht he hc hf with ⟨hcs, hx⟩ | ⟨a, len, cap, zs, hcs, _, hl, hm, hz, hx, hcell, hw⟩
  · simp [Value.cells] at hcs
    obtain ⟨rfl, rfl, rfl⟩ := hcs
    exact ⟨[], ⟨none, 0, rfl, Nat.le_refl _, by simp, by simp, fun j z h => by simp at h⟩, by simp⟩
  · simp [Value.cells] at hcs
    obtain ⟨rfl, rfl, rfl⟩ := hcs
    simp only [Prod.mk.injEq] at hx
    have hlen : n0 ≤ zs.length := by rw [hz]; split <;> omega
    have hb2 : n0 ≤ Rows.uptoBulk d := by
      rw [hx.1]
      have h1 := bulk_elems (lits (H := H) .i64 (zs.take n0)) (lits .i64 (zs.drop n0))
      have h2 := bulk_length (lits (H := H) .i64 (zs.take n0))
      have h3 : (lits (H := H) .i64 (zs.take n0)).length = n0 := by simp [lits]; omega
      omega
    have hl2 : (zs.take n0).length = n0 := by rw [List.length_take]; omega
    refine ⟨zs.take n0, ⟨some a, c0, by rw [hl2], by omega, by omega, fun z hz => ?_, fun j z hj => ?_⟩, by omega⟩
    · have := hw z (List.mem_of_mem_take hz)
      simp only [Lit.wf, Bool.and_eq_true, decide_eq_true_eq] at this
      exact ⟨this.1, this.2⟩
    · obtain ⟨hj1, rfl⟩ := List.getElem?_eq_some_iff.mp hj
      refine ⟨a, rfl, ?_⟩
      rw [hcell j (by omega), List.getElem_take, List.getD_eq_getElem?_getD, List.getElem?_eq_getElem (by omega)]
      rfl
theorem arg_strs {t e : TypeId} {v : Value} {d : DataW H} {ps : List MemPlace} (ht : P.underlying t = some (.slice e)) (he : P.underlying e = some .string) (hc : P.cellsOf e = 1)
    (hval : Value.okWide P W .any b0 t v) (h : DataW.Trod enc P W base sp held t v d ps) (hb : Rows.uptoBulk d ≤ 1048576) : ∃ L, Txts W v L ∧ L.length + (cat L).length ≤ Rows.uptoBulk d := by
  obtain ⟨p0, n0, c0, rfl⟩ := okWide_slice ht hval
  obtain ⟨fuel, hf⟩ := h
  rcases open_strings ht he hc hf with ⟨hcs, hx⟩ | ⟨a, len, cap, zs, hcs, _, hl, hm, hz, hx, hcell, hw⟩
  · simp [Value.cells] at hcs
    obtain ⟨rfl, rfl, rfl⟩ := hcs
    exact ⟨[], ⟨none, 0, rfl, Nat.le_refl _, by simp, fun j z h => by simp at h⟩, by simp [cat]⟩
  · simp [Value.cells] at hcs
    obtain ⟨rfl, rfl, rfl⟩ := hcs
    simp only [Prod.mk.injEq] at hx
    have hlen : n0 ≤ zs.length := by rw [hz]; split <;> omega
    have hl2 : (zs.take n0).length = n0 := by rw [List.length_take]; omega
    have hb2 : n0 + (cat (zs.take n0)).length ≤ Rows.uptoBulk d := by
      rw [hx.1]
      have h1 := bulk_elems (strs (H := H) (zs.take n0)) (strs (zs.drop n0))
      rw [bulk_strs] at h1
      omega
    refine ⟨zs.take n0, ⟨some a, c0, by rw [hl2], by omega, by omega, fun j z hj => ?_⟩, by omega⟩
    obtain ⟨hj1, rfl⟩ := List.getElem?_eq_some_iff.mp hj
    refine ⟨a, rfl, ?_⟩
    rw [hcell j (by omega), List.getElem_take, List.getD_eq_getElem?_getD, List.getElem?_eq_getElem (by omega)]
    rfl
end
end Go.Proofs.YtafookdllnhdaaaDoor
