/- Arguments that are slices of structs of one-cell fields. -/
import Derived.Deep.Slices
import Derived.ChangeSame
import Derived.Test.YteknpnanmbfhfaaDoorMa13
import Derived.Test.YteknpnanmbfhfaaDoorMa24
import Derived.Deep.Fields
namespace Go.Scr
open Go.ChangeShapes Go.WideShapes Go.Deep
set_option linter.unusedVariables false
section
variable {H : Type} {enc : TypeId × Value → H} {P : Program} {w : World} {base : Nat} {spare : Nat → Bool} {held : Bool}
theorem open_slice_fields {t e : TypeId} {fs : Array Field} {fuel : Nat} {cs : List Value} {x : DataW H × List MemPlace} (ht : P.underlying t = some (.slice e)) (he : P.underlying e = some (.struct fs))
    (ce : P.cellsOf e = fs.size) (ho : ∀ (j : Nat) (f : Field), fs[j]? = some f → f.offset = j ∧ P.cellsOf f.type = 1) (h : DataW.trod enc P w base spare held fuel t cs = some x) :
    (cs = [.slice none 0 0] ∧ x = (.nil, [])) ∨
    ∃ (a : Addr) (len cap n : Nat) (V : Nat → List Value) (Y : Nat → List (DataW H × List MemPlace)) (q : List (DataW H)) (ps : List MemPlace), cs = [.slice (some a) len cap] ∧ len ≤ cap ∧ cap ≤ maxLen ∧
      x = (.slice ((List.range len).map fun i => .agg ((Y i).map (·.1))) q, ps) ∧
      ∀ i, i < len → (Y i).length = fs.size ∧ (V i).length = fs.size ∧ (∀ j v, (V i)[j]? = some v → w.cell? (a.add (i * fs.size + j)) = some v) ∧
        ∀ (j : Nat) (f : Field) (v : Value), fs[j]? = some f → (V i)[j]? = some v → ∃ y, (Y i)[j]? = some y ∧ DataW.trod enc P w base spare held n f.type [v] = some y := by
  rcases open_slice ht h with h0 | ⟨a, len, cap, m, n, D, Pl, rfl, hb, hl, hm, hmm, rfl, hx⟩
  · exact Or.inl h0
  right
  have hlm : len ≤ m := by rw [hmm]; split <;> omega
  have each : ∀ i, i < m → ∃ q : List Value × List (DataW H × List MemPlace), D i = .agg (q.2.map (·.1)) ∧ q.2.length = fs.size ∧ q.1.length = fs.size ∧ (∀ j v, q.1[j]? = some v → w.cell? (a.add (i * fs.size + j)) = some v) ∧
        ∀ (j : Nat) (f : Field) (v : Value), fs[j]? = some f → q.1[j]? = some v → ∃ y, q.2[j]? = some y ∧ DataW.trod enc P w base spare held (n - 1) f.type [v] = some y := by
    intro i hi
    obtain ⟨cs', h1, h2⟩ := hx i hi
    rw [ce] at h1
    obtain ⟨_, hlen, hcell⟩ := World.cells?_some h1
    obtain ⟨xs, k, hk, hxy, _, hxl, hf⟩ := DataW.trod_struct he h2
    have hk' : k = n - 1 := by omega
    subst hk'
    simp only [Prod.mk.injEq] at hxy
    refine ⟨(cs', xs), hxy.1, hxl, hlen, fun j v hv => ?_, fun j f v hj hv => ?_⟩
    · have hj0 : j < cs'.length := (List.getElem?_eq_some_iff.mp hv).1
      have hj : j < fs.size := by omega
      have := hcell j hj
      rw [add_add] at this
      rw [this]; exact hv
    · have hjs : j < fs.size := (Array.getElem?_eq_some_iff.mp hj).1
      obtain ⟨o1, o2⟩ := ho j f hj
      have := hf j f hj
      rw [o1, o2] at this
      obtain ⟨hjl, rfl⟩ := List.getElem?_eq_some_iff.mp hv
      have e : (cs'.drop j).take 1 = [cs'[j]] := by
        rw [List.drop_eq_getElem_cons hjl]
        rfl
      rw [e] at this
      rw [List.getElem?_eq_getElem (by omega : j < xs.length)] at this
      exact ⟨xs[j]'(by omega), List.getElem?_eq_getElem _, this⟩
  have : Inhabited (List Value × List (DataW H × List MemPlace)) := ⟨([], [])⟩
  obtain ⟨q, hq⟩ := choose_lt each
  have e : (List.range len).map D = (List.range len).map fun i => DataW.agg ((q i).2.map (·.1)) :=
    List.map_congr_left fun i hi => (hq i (by have := List.mem_range.1 hi; omega)).1
  rw [e]
  exact ⟨a, len, cap, n - 1, fun i => (q i).1, fun i => (q i).2, _, _, rfl, hl, hm, rfl, fun i hi => (hq i (by omega)).2⟩
end
end Go.Scr
/- A list of spans, as an argument. -/
namespace Go.Proofs.YteknpnanmbfhfaaDoor
open Go.ChangeShapes Go.WideShapes Go.ChangeAt Go.RowKit Go.Scr Go.Deep
set_option linter.unusedVariables false
theorem list2 {α : Type} {l : List α} (h : l.length = 2) : ∃ a b, l = [a, b] := by
  match l, h with
  | [a, b], _ => exact ⟨a, b, rfl⟩
theorem choose_ltS {α : Type} [Inhabited α] {P : Nat → α → Prop} {n : Nat} (h : ∀ i, i < n → ∃ x, P i x) : ∃ f : Nat → α, ∀ i, i < n → P i (f i) := by
  refine ⟨fun i => if hi : i < n then Classical.choose (h i hi) else default, fun i hi => ?_⟩
  simp only [dif_pos hi]
  exact Classical.choose_spec (h i hi)
section
variable {H : Type} {enc : TypeId × Value → H} {P : Program} {W : World} {base b0 : Nat} {sp : Nat → Bool} {held : Bool}
theorem arg_spans {t e : TypeId} {f0 f1 : Field} {v : Value} {d : DataW H} {ps : List MemPlace} (ht : P.underlying t = some (.slice e)) (he : P.underlying e = some (.struct #[f0, f1])) (hone : oneCellFields P #[f0, f1] = true) (hC : P.cellsOf e = 2)
    (t0 : P.underlying f0.type = some (.int .i64)) (t1 : P.underlying f1.type = some (.int .i64))
    (hval : Value.okWide P W .any b0 t v) (h : DataW.Trod enc P W base sp held t v d ps) (hb : Rows.uptoBulk d ≤ 1048576) : ∃ L, SpZ W v L ∧ L.length ≤ 1048576 := by
  obtain ⟨p0, n0, c0, rfl⟩ := okWide_slice ht hval
  obtain ⟨fuel, hf⟩ := h
  rcases open_slice_fields ht he hC (hone_of hone) hf with ⟨hcs, hx⟩ | ⟨a, len, cap, m, V, Y, q, ps', hcs, hl, hm, hx, hall⟩
  · simp [Value.cells] at hcs
    obtain ⟨rfl, rfl, rfl⟩ := hcs
    exact ⟨[], ⟨none, 0, rfl, Nat.le_refl _, by simp, (fun x hx => by cases hx), fun i q h => by simp at h⟩, by simp⟩
  · simp [Value.cells] at hcs
    obtain ⟨rfl, rfl, rfl⟩ := hcs
    simp only [Prod.mk.injEq] at hx
    have hn0 : n0 ≤ 1048576 := by
      have h3 := bulk_elems (H := H) ((List.range n0).map fun i => .agg ((Y i).map (·.1))) q
      have h4 := bulk_length ((List.range n0).map fun i => DataW.agg ((Y i).map (·.1)))
      rw [hx.1] at hb
      simp at h4
      omega
    have each : ∀ i, i < n0 → ∃ r : Int × Int, (-9223372036854775808 ≤ r.1 ∧ r.1 ≤ 9223372036854775807) ∧ (-9223372036854775808 ≤ r.2 ∧ r.2 ≤ 9223372036854775807) ∧
        W.cell? (a.add (i * 2)) = some (.int .i64 r.1) ∧ W.cell? (a.add (i * 2 + 1)) = some (.int .i64 r.2) := by
      intro i hi
      obtain ⟨hY, hV, hcell, hf⟩ := hall i hi
      have hY3 : (Y i).length = 2 := hY
      have hV3 : (V i).length = 2 := hV
      obtain ⟨y0, y1, hYe⟩ := list2 hY3
      obtain ⟨u0, u1, hVe⟩ := list2 hV3
      rw [hYe, hVe] at hf
      rw [hVe] at hcell
      obtain ⟨z0, hz0, g0⟩ := hf 0 f0 u0 rfl rfl
      obtain ⟨z1, hz1, g1⟩ := hf 1 f1 u1 rfl rfl
      cases hz0; cases hz1
      obtain ⟨k, hk, rfl, w1⟩ := DataW.trod_int t0 g0
      obtain ⟨o, ho, rfl, w2⟩ := DataW.trod_int t1 g1
      cases hk; cases ho
      simp only [Lit.wf, Bool.and_eq_true, decide_eq_true_eq] at w1 w2
      exact ⟨(k, o), w1, w2, hcell 0 _ rfl, hcell 1 _ rfl⟩
    obtain ⟨r, hr⟩ := choose_ltS each
    have hlen : ((List.range n0).map r).length = n0 := by simp
    have hget : ∀ j x, ((List.range n0).map r)[j]? = some x → j < n0 ∧ r j = x := by
      intro j x hj
      rw [List.getElem?_map] at hj
      obtain ⟨i, hi, he⟩ := Option.map_eq_some_iff.mp hj
      obtain ⟨hj1, hj2⟩ := List.getElem?_eq_some_iff.mp hi
      rw [List.getElem_range] at hj2
      subst hj2
      exact ⟨by simpa using hj1, he⟩
    refine ⟨(List.range n0).map r, ⟨some a, c0, by rw [hlen], by omega, by omega, fun x hx => ?_, fun j x hx => ?_⟩, by omega⟩
    · obtain ⟨j, hj⟩ := List.getElem?_of_mem hx
      obtain ⟨h1, rfl⟩ := hget j x hj
      obtain ⟨b1, b2, _⟩ := hr j h1
      exact ⟨b1.1, b1.2, b2.1, b2.2⟩
    · obtain ⟨h1, rfl⟩ := hget j x hx
      obtain ⟨_, _, b3, b4⟩ := hr j h1
      have hsp : a.spot = none := by
        obtain ⟨_, _, c3, _⟩ := hr 0 (by omega)
        have c3 : W.cell? a = some (.int .i64 (r 0).1) := by
          rw [Nat.zero_mul] at c3
          have : a.add 0 = a := by unfold Addr.add; simp
          rwa [this] at c3
        unfold World.cell? at c3
        split at c3
        · cases hs : a.spot with
          | none => rfl
          | some s => rw [hs] at c3; simp at c3
        · cases c3
      obtain ⟨g, o, s⟩ := a
      have hsp : s = none := hsp
      subst hsp
      have hadd : ∀ k, (⟨g, o, none⟩ : Addr).add k = ⟨g, o + k, none⟩ := fun k => by unfold Addr.add; split <;> simp_all
      rw [hadd] at b3 b4
      exact ⟨g, o, rfl, b3, by rw [Nat.add_assoc]; exact b4⟩
end
end Go.Proofs.YteknpnanmbfhfaaDoor
