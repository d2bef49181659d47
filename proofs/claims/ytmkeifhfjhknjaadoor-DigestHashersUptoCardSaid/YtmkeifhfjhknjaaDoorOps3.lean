/- A script of steps (Kind, On, S), as an argument. -/
import Derived.Test.YtmkeifhfjhknjaaDoorArgs
import Derived.Test.YtmkeifhfjhknjaaDoorArg2
import Derived.Deep.Fields
namespace Go.Proofs.YtmkeifhfjhknjaaDoor
open Go.ChangeShapes Go.WideShapes Go.ChangeAt Go.RowKit Go.Scr Go.Deep
set_option linter.unusedVariables false

def Ops (w : World) (v : Value) (L : List (Int × Int × ByteArray)) : Prop :=
  ∃ (p : Option Addr) (c : Nat), v = .slice p L.length c ∧ L.length ≤ c ∧ L.length ≤ 281474976710656 ∧ ∀ (i : Nat) (k o : Int) (s : ByteArray), L[i]? = some (k, o, s) →
    (-9223372036854775808 ≤ k ∧ k ≤ 9223372036854775807) ∧ (-9223372036854775808 ≤ o ∧ o ≤ 9223372036854775807) ∧
      ∃ a, p = some a ∧ w.cell? (a.add (i * 3)) = some (.int .i64 k) ∧ w.cell? (a.add (i * 3 + 1)) = some (.int .i64 o) ∧ w.cell? (a.add (i * 3 + 2)) = some (.string s)
/-- how many letters the first steps have -/
def opsW (L : List (Int × Int × ByteArray)) : Nat := (L.map fun q => q.2.2.size).sum
theorem opsW_take {L : List (Int × Int × ByteArray)} {i : Nat} {q : Int × Int × ByteArray} (h : L[i]? = some q) : opsW (L.take (i + 1)) = opsW (L.take i) + q.2.2.size := by
  unfold opsW
  rw [List.take_add_one, h]
  simp
theorem opsW_le (L : List (Int × Int × ByteArray)) (i : Nat) : opsW (L.take i) ≤ opsW L := by
  unfold opsW
  conv => rhs; rw [← List.take_append_drop i L]
  rw [List.map_append, List.sum_append]
  omega
theorem list3 {α : Type} {l : List α} (h : l.length = 3) : ∃ a b c, l = [a, b, c] := by
  match l, h with
  | [a, b, c], _ => exact ⟨a, b, c, rfl⟩
section
variable {H : Type} {enc : TypeId × Value → H} {P : Program} {W : World} {base b0 : Nat} {sp : Nat → Bool} {held : Bool}
theorem bulk_ops (f : Nat → Int × Int × ByteArray) (G : Nat → List (DataW H)) (n : Nat) (hG : ∀ i, i < n → G i = [.lit (.int .i64 (f i).1), .lit (.int .i64 (f i).2.1), .lit (.string (f i).2.2.data.toList)]) :
    Rows.uptoBulkAll ((List.range n).map fun i => DataW.agg (G i)) = opsW ((List.range n).map f) + 4 * n := by
  have gen : ∀ l : List Nat, (∀ i ∈ l, i < n) → Rows.uptoBulkAll (l.map fun i => DataW.agg (G i)) = opsW (l.map f) + 4 * l.length := by
    intro l hl
    induction l with
    | nil => rfl
    | cons i l ih =>
      have e : opsW ((i :: l).map f) = (f i).2.2.size + opsW (l.map f) := by simp [opsW]
      rw [e, List.map_cons, Rows.uptoBulkAll, ih (fun j hj => hl j (List.mem_cons_of_mem _ hj)), hG i (hl i (List.mem_cons_self ..)), List.length_cons]
      simp [Rows.uptoBulk, Rows.uptoBulkAll]
      omega
  have := gen (List.range n) (fun i hi => List.mem_range.mp hi)
  rwa [List.length_range] at this
theorem arg_ops {t e : TypeId} {f0 f1 f2 : Field} {v : Value} {d : DataW H} {ps : List MemPlace} (ht : P.underlying t = some (.slice e)) (he : P.underlying e = some (.struct #[f0, f1, f2])) (hone : oneCellFields P #[f0, f1, f2] = true) (hC : P.cellsOf e = 3)
    (t0 : P.underlying f0.type = some (.int .i64)) (t1 : P.underlying f1.type = some (.int .i64)) (t2 : P.underlying f2.type = some .string)
    (hval : Value.okWide P W .any b0 t v) (h : DataW.Trod enc P W base sp held t v d ps) (hb : Rows.uptoBulk d ≤ 1048576) : ∃ L, Ops W v L ∧ L.length + opsW L ≤ Rows.uptoBulk d := by
  obtain ⟨p0, n0, c0, rfl⟩ := okWide_slice ht hval
  obtain ⟨fuel, hf⟩ := h
  rcases open_slice_fields ht he hC (hone_of hone) hf with ⟨hcs, hx⟩ | ⟨a, len, cap, m, V, Y, q, ps', hcs, hl, hm, hx, hall⟩
  · simp [Value.cells] at hcs
    obtain ⟨rfl, rfl, rfl⟩ := hcs
    exact ⟨[], ⟨none, 0, rfl, Nat.le_refl _, by simp, fun i k o s h => by simp at h⟩, by simp [opsW]⟩
  · simp [Value.cells] at hcs
    obtain ⟨rfl, rfl, rfl⟩ := hcs
    simp only [Prod.mk.injEq] at hx
    have each : ∀ i, i < n0 → ∃ r : Int × Int × ByteArray, (Y i).map (·.1) = [.lit (.int .i64 r.1), .lit (.int .i64 r.2.1), .lit (.string r.2.2.data.toList)] ∧
        (-9223372036854775808 ≤ r.1 ∧ r.1 ≤ 9223372036854775807) ∧ (-9223372036854775808 ≤ r.2.1 ∧ r.2.1 ≤ 9223372036854775807) ∧
        W.cell? (a.add (i * 3)) = some (.int .i64 r.1) ∧ W.cell? (a.add (i * 3 + 1)) = some (.int .i64 r.2.1) ∧ W.cell? (a.add (i * 3 + 2)) = some (.string r.2.2) := by
      intro i hi
      obtain ⟨hY, hV, hcell, hf⟩ := hall i hi
      have hY3 : (Y i).length = 3 := hY
      have hV3 : (V i).length = 3 := hV
      obtain ⟨y0, y1, y2, hYe⟩ := list3 hY3
      obtain ⟨u0, u1, u2, hVe⟩ := list3 hV3
      rw [hYe, hVe] at hf
      rw [hVe] at hcell
      obtain ⟨z0, hz0, g0⟩ := hf 0 f0 u0 rfl rfl
      obtain ⟨z1, hz1, g1⟩ := hf 1 f1 u1 rfl rfl
      obtain ⟨z2, hz2, g2⟩ := hf 2 f2 u2 rfl rfl
      cases hz0; cases hz1; cases hz2
      obtain ⟨k, hk, rfl, w0⟩ := DataW.trod_int t0 g0
      obtain ⟨o, ho, rfl, w1⟩ := DataW.trod_int t1 g1
      obtain ⟨s, hs, rfl, w2⟩ := DataW.trod_string t2 g2
      cases hk; cases ho; cases hs
      simp only [Lit.wf, Bool.and_eq_true, decide_eq_true_eq] at w0 w1
      exact ⟨(k, o, s), by rw [hYe]; rfl, w0, w1, hcell 0 _ rfl, hcell 1 _ rfl, hcell 2 _ rfl⟩
    obtain ⟨r, hr⟩ := choose_lt each
    have hlen : ((List.range n0).map r).length = n0 := by simp
    have hbk : n0 + opsW ((List.range n0).map r) ≤ Rows.uptoBulk d := by
      rw [hx.1]
      have h1 := bulk_elems (H := H) ((List.range n0).map fun i => .agg ((Y i).map (·.1))) q
      rw [bulk_ops r (fun i => (Y i).map (·.1)) n0 (fun i hi => (hr i hi).1)] at h1
      omega
    refine ⟨(List.range n0).map r, ⟨some a, c0, by rw [hlen], by omega, by omega, fun i k o s hi => ?_⟩, by rw [hlen]; exact hbk⟩
    rw [List.getElem?_map] at hi
    obtain ⟨j, hj, he⟩ := Option.map_eq_some_iff.mp hi
    obtain ⟨hj1, hj2⟩ := List.getElem?_eq_some_iff.mp hj
    rw [List.getElem_range] at hj2
    subst hj2
    obtain ⟨_, b1, b2, b3, b4, b5⟩ := hr i (by simpa using hj1)
    rw [he] at b1 b2 b3 b4 b5
    exact ⟨b1, b2, a, rfl, b3, b4, b5⟩
end
end Go.Proofs.YtmkeifhfjhknjaaDoor
