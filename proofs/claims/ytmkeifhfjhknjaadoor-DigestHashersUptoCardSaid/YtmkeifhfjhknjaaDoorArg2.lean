/- Arguments that are slices of structs of one-cell fields. -/
import Derived.Deep.Slices
import Derived.ChangeSame
namespace Go.Scr
open Go.ChangeShapes Go.WideShapes Go.Deep
set_option linter.unusedVariables false
section
variable {H : Type} {enc : TypeId × Value → H} {P : Program} {w : World} {base : Nat} {spare : Nat → Bool} {held : Bool}
theorem open_slice_fields {t e : TypeId} {fs : Array Field} {fuel : Nat} {cs : List Value} {x : DataW H × List MemPlace} (ht : P.underlying t = some (.slice e)) (he : P.underlying e = some (.struct fs))
    (ce : P.cellsOf e = fs.size) (ho : ∀ (j : Nat) (f : Field), fs[j]? = some f → f.offset = j ∧ P.cellsOf f.type = 1) (h : DataW.trod enc P w base spare held fuel t cs = some x) :
    (cs = [.slice none 0 0] ∧ x = (.nil, [])) ∨
    ∃ (a : Addr) (len cap n : Nat) (V : Nat → List Value) (Y : Nat → List (DataW H × List MemPlace)) (q : List (DataW H)) (ps : List MemPlace), cs = [.slice (some a) len cap] ∧ len ≤ cap ∧ cap ≤ maxLen ∧
      x = (.slice ((List.range len).map fun i => .agg ((Y i).map (·.1))) q, ps) ∧
      ∀ i, i < len → (Y i).length = fs.size ∧ (V i).length = fs.size ∧ (∀ j v, (V i)[j]? = some v → w.cell? (a.add (i * fs.size + j)) = some v) ∧
        ∀ (j : Nat) (f : Field) (v : Value), fs[j]? = some f → (V i)[j]? = some v → ∃ y, (Y i)[j]? = some y ∧ DataW.trod enc P w base spare held n f.type [v] = some y := by
  rcases open_slice ht h with h0 | ⟨a, len, cap, m, n, D, Pl, rfl, hb, hl, hm, hmm, rfl, hx⟩
  · exact Or.inl h0
  right
  have hlm : len ≤ m := by rw [hmm]; split <;> omega
  have each : ∀ i, i < m → ∃ q : List Value × List (DataW H × List MemPlace), D i = .agg (q.2.map (·.1)) ∧ q.2.length = fs.size ∧ q.1.length = fs.size ∧ (∀ j v, q.1[j]? = some v → w.cell? (a.add (i * fs.size + j)) = some v) ∧
        ∀ (j : Nat) (f : Field) (v : Value), fs[j]? = some f → q.1[j]? = some v → ∃ y, q.2[j]? = some y ∧ DataW.trod enc P w base spare held (n - 1) f.type [v] = some y := by
    intro i hi
    obtain ⟨cs', h1, h2⟩ := hx i hi
    rw [ce] at h1
    obtain ⟨_, hlen, hcell⟩ := World.cells?_some h1
    obtain ⟨xs, k, hk, hxy, _, hxl, hf⟩ := DataW.trod_struct he h2
    have hk' : k = n - 1 := by omega
    subst hk'
    simp only [Prod.mk.injEq] at hxy
    refine ⟨(cs', xs), hxy.1, hxl, hlen, fun j v hv => ?_, fun j f v hj hv => ?_⟩
    · have hj0 : j < cs'.length := (List.getElem?_eq_some_iff.mp hv).1
      have hj : j < fs.size := by omega
      have := hcell j hj
      rw [add_add] at this
      rw [this]; exact hv
    · have hjs : j < fs.size := (Array.getElem?_eq_some_iff.mp hj).1
      obtain ⟨o1, o2⟩ := ho j f hj
      have := hf j f hj
      rw [o1, o2] at this
      obtain ⟨hjl, rfl⟩ := List.getElem?_eq_some_iff.mp hv
      have e : (cs'.drop j).take 1 = [cs'[j]] := by
        rw [List.drop_eq_getElem_cons hjl]
        rfl
      rw [e] at this
      rw [List.getElem?_eq_getElem (by omega : j < xs.length)] at this
      exact ⟨xs[j]'(by omega), List.getElem?_eq_getElem _, this⟩
  have : Inhabited (List Value × List (DataW H × List MemPlace)) := ⟨([], [])⟩
  obtain ⟨q, hq⟩ := choose_lt each
  have e : (List.range len).map D = (List.range len).map fun i => DataW.agg ((q i).2.map (·.1)) :=
    List.map_congr_left fun i hi => (hq i (by have := List.mem_range.1 hi; omega)).1
  rw [e]
  exact ⟨a, len, cap, n - 1, fun i => (q i).1, fun i => (q i).2, _, _, rfl, hl, hm, rfl, fun i hi => (hq i (by omega)).2⟩
end
end Go.Scr
