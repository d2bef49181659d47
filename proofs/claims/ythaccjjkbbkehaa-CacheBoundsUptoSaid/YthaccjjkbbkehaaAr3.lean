/- (Seats without tables.) A script of the cache's steps, as an argument. -/
import Derived.Test.YthaccjjkbbkehaaAr2
import Derived.Test.YthaccjjkbbkehaaArg2
import Derived.Test.YthaccjjkbbkehaaCan
import Derived.Deep.Fields
namespace Go.Proofs.Ythaccjjkbbkehaa
open Go.ChangeShapes Go.WideShapes Go.ChangeAt Go.RowKit Go.Scr Go.Deep
set_option linter.unusedVariables false

theorem list5 {α : Type} {l : List α} (h : l.length = 5) : ∃ a b c d e, l = [a, b, c, d, e] := by
  match l, h with
  | [a, b, c, d, e], _ => exact ⟨a, b, c, d, e, rfl⟩
theorem bulk_mem {H : Type} {l : List (DataW H)} {d : DataW H} (h : d ∈ l) : Rows.uptoBulk d ≤ Rows.uptoBulkAll l := by
  induction l with
  | nil => cases h
  | cons x l ih =>
    simp only [Rows.uptoBulkAll]
    rcases List.mem_cons.mp h with rfl | h
    · omega
    · have := ih h; omega
theorem bulk_agg {H : Type} {l : List (DataW H)} {d : DataW H} (h : d ∈ l) : Rows.uptoBulk d ≤ Rows.uptoBulk (.agg l) := by
  have := bulk_mem h
  simp only [Rows.uptoBulk]
  omega
theorem choose_ltC {α : Type} [Inhabited α] {P : Nat → α → Prop} {n : Nat} (h : ∀ i, i < n → ∃ x, P i x) : ∃ f : Nat → α, ∀ i, i < n → P i (f i) := by
  refine ⟨fun i => if hi : i < n then Classical.choose (h i hi) else default, fun i hi => ?_⟩
  simp only [dif_pos hi]
  exact Classical.choose_spec (h i hi)
instance : Inhabited OpC := ⟨⟨false, 0, 0, ⟨#[]⟩, ⟨#[]⟩⟩⟩
section
variable {H : Type} {enc : TypeId × Value → H} {P : Program} {W : World} {base b0 : Nat} {sp : Nat → Bool} {held : Bool}
theorem arg_opsC {t e : TypeId} {f0 f1 f2 f3 f4 : Field} {v : Value} {d : DataW H} {ps : List MemPlace} (ht : P.underlying t = some (.slice e)) (he : P.underlying e = some (.struct #[f0, f1, f2, f3, f4])) (hone : oneCellFields P #[f0, f1, f2, f3, f4] = true) (hC : P.cellsOf e = 5)
    (t0 : P.underlying f0.type = some .bool) (t1 : P.underlying f1.type = some (.int .i64)) (t2 : P.underlying f2.type = some (.int .i64)) (t3 : P.underlying f3.type = some .string) (t4 : P.underlying f4.type = some .string)
    (hval : Value.okWide P W .any b0 t v) (h : DataW.Trod enc P W base sp held t v d ps) (hb : Rows.uptoBulk d ≤ 1048576) : ∃ L, OpsC W v L := by
  obtain ⟨p0, n0, c0, rfl⟩ := okWide_slice ht hval
  obtain ⟨fuel, hf⟩ := h
  rcases open_slice_fields ht he hC (hone_of hone) hf with ⟨hcs, hx⟩ | ⟨a, len, cap, m, V, Y, q, ps', hcs, hl, hm, hx, hall⟩
  · simp [Value.cells] at hcs
    obtain ⟨rfl, rfl, rfl⟩ := hcs
    exact ⟨[], ⟨none, 0, rfl, Nat.le_refl _, by simp, fun i q h => by simp at h⟩⟩
  · simp [Value.cells] at hcs
    obtain ⟨rfl, rfl, rfl⟩ := hcs
    simp only [Prod.mk.injEq] at hx
    have hin : ∀ i, i < n0 → ∀ y ∈ (Y i).map (·.1), Rows.uptoBulk y ≤ 1048576 := by
      intro i hi y hy
      have h1 := bulk_agg hy
      have h2 := bulk_mem (l := (List.range n0).map fun i => DataW.agg ((Y i).map (·.1))) (List.mem_map_of_mem (List.mem_range.mpr hi))
      have h3 := bulk_elems (H := H) ((List.range n0).map fun i => .agg ((Y i).map (·.1))) q
      rw [hx.1] at hb
      omega
    have hn0 : n0 ≤ 1048576 := by
      have h3 := bulk_elems (H := H) ((List.range n0).map fun i => .agg ((Y i).map (·.1))) q
      have h4 := bulk_length ((List.range n0).map fun i => DataW.agg ((Y i).map (·.1)))
      rw [hx.1] at hb
      simp at h4
      omega
    have each : ∀ i, i < n0 → ∃ r : OpC, (-9223372036854775808 ≤ r.kind ∧ r.kind ≤ 9223372036854775807) ∧ (-9223372036854775808 ≤ r.n ∧ r.n ≤ 9223372036854775807) ∧ r.key.size ≤ 1048576 ∧ r.val.size ≤ 1048576 ∧
        W.cell? (a.add (i * 5)) = some (.bool r.oth) ∧ W.cell? (a.add (i * 5 + 1)) = some (.int .i64 r.kind) ∧ W.cell? (a.add (i * 5 + 2)) = some (.int .i64 r.n) ∧ W.cell? (a.add (i * 5 + 3)) = some (.string r.key) ∧ W.cell? (a.add (i * 5 + 4)) = some (.string r.val) := by
      intro i hi
      obtain ⟨hY, hV, hcell, hf⟩ := hall i hi
      have hY3 : (Y i).length = 5 := hY
      have hV3 : (V i).length = 5 := hV
      have hbi := hin i hi
      obtain ⟨y0, y1, y2, y3, y4, hYe⟩ := list5 hY3
      obtain ⟨u0, u1, u2, u3, u4, hVe⟩ := list5 hV3
      rw [hYe, hVe] at hf
      rw [hVe] at hcell
      rw [hYe] at hbi
      obtain ⟨z0, hz0, g0⟩ := hf 0 f0 u0 rfl rfl
      obtain ⟨z1, hz1, g1⟩ := hf 1 f1 u1 rfl rfl
      obtain ⟨z2, hz2, g2⟩ := hf 2 f2 u2 rfl rfl
      obtain ⟨z3, hz3, g3⟩ := hf 3 f3 u3 rfl rfl
      obtain ⟨z4, hz4, g4⟩ := hf 4 f4 u4 rfl rfl
      cases hz0; cases hz1; cases hz2; cases hz3; cases hz4
      obtain ⟨b, hb, rfl⟩ := DataW.trod_bool t0 g0
      obtain ⟨k, hk, rfl, w1⟩ := DataW.trod_int t1 g1
      obtain ⟨o, ho, rfl, w2⟩ := DataW.trod_int t2 g2
      obtain ⟨s, hs, rfl, w3⟩ := DataW.trod_string t3 g3
      obtain ⟨s2, hs2, rfl, w4⟩ := DataW.trod_string t4 g4
      cases hb; cases hk; cases ho; cases hs; cases hs2
      simp only [Lit.wf, Bool.and_eq_true, decide_eq_true_eq] at w1 w2
      have b3 := hbi (.lit (.string s.data.toList)) (by simp)
      have b4 := hbi (.lit (.string s2.data.toList)) (by simp)
      rw [bulk_str_size] at b3 b4
      exact ⟨⟨b, k, o, s, s2⟩, w1, w2, by show s.size ≤ _; omega, by show s2.size ≤ _; omega, hcell 0 _ rfl, hcell 1 _ rfl, hcell 2 _ rfl, hcell 3 _ rfl, hcell 4 _ rfl⟩
    obtain ⟨r, hr⟩ := choose_ltC each
    have hlen : ((List.range n0).map r).length = n0 := by simp
    refine ⟨(List.range n0).map r, ⟨some a, c0, by rw [hlen], by omega, by omega, fun i qq hi => ?_⟩⟩
    rw [List.getElem?_map] at hi
    obtain ⟨j, hj, he⟩ := Option.map_eq_some_iff.mp hi
    obtain ⟨hj1, hj2⟩ := List.getElem?_eq_some_iff.mp hj
    rw [List.getElem_range] at hj2
    subst hj2
    obtain ⟨b1, b2, b3, b4, b5, b6, b7, b8, b9⟩ := hr i (by simpa using hj1)
    rw [he] at b1 b2 b3 b4 b5 b6 b7 b8 b9
    exact ⟨b1, b2, b3, b4, a, rfl, b5, b6, b7, b8, b9⟩
end
end Go.Proofs.Ythaccjjkbbkehaa
