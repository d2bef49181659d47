/- DigestHashers: the calls, said of what stands between the rounds. -/
import Derived.Test.YtmkeifhfjhknjaaDoorHsh1
namespace Go.Proofs.YtmkeifhfjhknjaaDoor
open Go.RowKit Go.Scr
set_option linter.unusedVariables false

def OprH (w : World) (col : Nat → Nat) (pb : Nat) (R : Array Value) : Prop := w.heap[pb]? = some (.cells R 34 (0, 0)) ∧ col pb = 0
theorem OprH.lt {w : World} {col : Nat → Nat} {pb : Nat} {R : Array Value} (h : OprH w col pb R) : pb < w.heap.size := (Array.getElem?_eq_some_iff.mp h.1).1
/-- hashers, texts, the step at hand -/
def HX (w0 w : World) (b : Nat) (hv tv : Value) (hl : List Nat) (tl : List ByteArray) (pb : Nat) (R : Array Value) : Prop :=
  ∃ col, HI w0 w col hv tv hl tl (tl.map fun s => s.data.toList) ∧ OprH w col pb R ∧ hl.length = tl.length ∧ ∀ s ∈ tl, s.size ≤ b
/-- without a step -/
def HN (w0 w : World) (b : Nat) (hv tv : Value) (hl : List Nat) (tl : List ByteArray) : Prop :=
  ∃ col, HI w0 w col hv tv hl tl (tl.map fun s => s.data.toList) ∧ hl.length = tl.length ∧ ∀ s ∈ tl, s.size ≤ b
theorem HX.hn {w0 w : World} {b : Nat} {hv tv : Value} {hl : List Nat} {tl : List ByteArray} {pb : Nat} {R : Array Value} (h : HX w0 w b hv tv hl tl pb R) : HN w0 w b hv tv hl tl := by
  obtain ⟨col, h1, _, h2⟩ := h
  exact ⟨col, h1, h2⟩
theorem HX.below {w0 w w' : World} {b : Nat} {hv tv : Value} {hl : List Nat} {tl : List ByteArray} {pb : Nat} {R : Array Value} (h : HX w0 w b hv tv hl tl pb R) (hb : Below w.heap.size w w') : HX w0 w' b hv tv hl tl pb R := by
  obtain ⟨col, h1, h2, h3⟩ := h
  exact ⟨col, h1.below hb, ⟨(hb.block pb h2.lt).trans h2.1, h2.2⟩, h3⟩
theorem HN.below {w0 w w' : World} {b : Nat} {hv tv : Value} {hl : List Nat} {tl : List ByteArray} (h : HN w0 w b hv tv hl tl) (hb : Below w.heap.size w w') : HN w0 w' b hv tv hl tl := by
  obtain ⟨col, h1, h3⟩ := h
  exact ⟨col, h1.below hb, h3⟩
theorem HX.more {w0 w : World} {b c : Nat} {hv tv : Value} {hl : List Nat} {tl : List ByteArray} {pb : Nat} {R : Array Value} (h : HX w0 w b hv tv hl tl pb R) (hc : b ≤ c) : HX w0 w c hv tv hl tl pb R := by
  obtain ⟨col, h1, h2, h3, h4⟩ := h
  exact ⟨col, h1, h2, h3, fun s hs => Nat.le_trans (h4 s hs) hc⟩
theorem HN.box {w0 w : World} {b : Nat} {hv tv : Value} {hl : List Nat} {tl : List ByteArray} (h : HN w0 w b hv tv hl tl) (R : Array Value) : HX w0 (w.alloc (.cells R 34)) b hv tv hl tl w.heap.size R := by
  obtain ⟨col, h1, h3⟩ := h
  refine ⟨col, h1.below ((Below.refl _ _).alloc (Nat.le_refl _) _), ⟨heap_alloc_new w _, ?_⟩, h3⟩
  exact Classical.byContradiction fun hne => by have := (h1.lo w.heap.size hne).2; omega
theorem HN.bl {w0 w : World} {b : Nat} {hv tv : Value} {hl : List Nat} {tl : List ByteArray} (h : HN w0 w b hv tv hl tl) : Below w0.heap.size w0 w := by
  obtain ⟨col, h1, _⟩ := h
  exact h1.bl
theorem heldC {w : World} {T : TypeId} {p : Option Addr} {N cc : Nat} {xs : List Value} (h : Held w T 1 (.slice p N cc) xs.length xs) {j : Nat} {u : Value} (hx : xs[j]? = some u) :
    ∃ g, p = some ⟨g, 0, none⟩ ∧ w.cell? ⟨g, j, none⟩ = some u ∧ w.frozen? ⟨g, j, none⟩ = false ∧ (Value.slice p N cc).ownBlock = some g := by
  have hj := (List.getElem?_eq_some_iff.mp hx).1
  obtain ⟨g, cap, cur, h1, h2, h3, h4, h5⟩ := h.block (by omega)
  cases h1
  refine ⟨g, rfl, ?_, frozen_of_row w g j _ _ h2, rfl⟩
  rw [cell_of_row _ _ _ _ _ _ h2]
  rw [← h5, List.getElem?_take, if_pos (by omega)] at hx
  simpa using hx
theorem HN.lens {w0 w : World} {b : Nat} {ph pt : Option Addr} {k ch ct : Nat} {hl : List Nat} {tl : List ByteArray} (h : HN w0 w b (.slice ph k ch) (.slice pt k ct) hl tl) : hl.length = k ∧ tl.length = k ∧ k ≤ ch ∧ k ≤ ct := by
  obtain ⟨col, h1, h3, _⟩ := h
  obtain ⟨q, cq, e, hc, _⟩ := h1.hr.cells
  obtain ⟨q2, cq2, e2, hc2, _⟩ := h1.tr.cells
  simp only [Value.slice.injEq] at e e2
  obtain ⟨_, ea, eb⟩ := e
  obtain ⟨_, ea2, eb2⟩ := e2
  exact ⟨ea.symm, ea2.symm, by omega, by omega⟩
theorem HN.cellH {w0 w : World} {b : Nat} {ph : Option Addr} {tv : Value} {k ch : Nat} {hl : List Nat} {tl : List ByteArray} (h : HN w0 w b (.slice ph k ch) tv hl tl) {j q : Nat} (hj : hl[j]? = some q) : ∃ g, ph = some ⟨g, 0, none⟩ ∧ w.cell? ⟨g, j, none⟩ = some (ptrV q) := by
  obtain ⟨col, h1, _⟩ := h
  have hh := h1.hr
  rw [← List.length_map (f := ptrV)] at hh
  obtain ⟨g, a, b, _⟩ := heldC hh (j := j) (u := ptrV q) (by rw [List.getElem?_map, hj]; rfl)
  exact ⟨g, a, b⟩
theorem HN.cellT {w0 w : World} {b : Nat} {pt : Option Addr} {hv : Value} {k ct : Nat} {hl : List Nat} {tl : List ByteArray} (h : HN w0 w b hv (.slice pt k ct) hl tl) {j : Nat} {t : ByteArray} (hj : tl[j]? = some t) : ∃ g, pt = some ⟨g, 0, none⟩ ∧ w.cell? ⟨g, j, none⟩ = some (.string t) ∧ w.frozen? ⟨g, j, none⟩ = false ∧ (Value.slice pt k ct).ownBlock = some g := by
  obtain ⟨col, h1, _⟩ := h
  have hh := h1.tr
  rw [← List.length_map (f := Value.string)] at hh
  exact heldC hh (j := j) (u := .string t) (by rw [List.getElem?_map, hj]; rfl)
theorem HX.cellR {w0 w : World} {b : Nat} {hv tv : Value} {hl : List Nat} {tl : List ByteArray} {pb : Nat} {R : Array Value} (h : HX w0 w b hv tv hl tl pb R) (j : Nat) : w.cell? ⟨pb, j, none⟩ = R[j]? := by
  obtain ⟨col, _, h2, _⟩ := h
  exact cell_of_row _ _ _ _ _ _ h2.1
/-- a hasher of the list -/
theorem HN.hash {w0 w : World} {b : Nat} {hv tv : Value} {hl : List Nat} {tl : List ByteArray} (h : HN w0 w b hv tv hl tl) {j q : Nat} {t : ByteArray} (hj : hl[j]? = some q) (ht : tl[j]? = some t) : Hm w q t.data.toList ∧ w0.heap.size ≤ q := by
  obtain ⟨col, h1, _⟩ := h
  obtain ⟨m, a, b, c⟩ := h1.at hj
  rw [List.getElem?_map, ht] at a
  cases a
  exact ⟨b, c⟩
/-- Write: the hasher has taken more, its text is not yet written -/
def HW (w0 w : World) (b : Nat) (hv tv : Value) (hl : List Nat) (tl : List ByteArray) (pb : Nat) (R : Array Value) (j : Nat) (m : List UInt8) : Prop :=
  ∃ col, HI w0 w col hv tv hl tl ((tl.map fun s => s.data.toList).set j m) ∧ OprH w col pb R ∧ hl.length = tl.length ∧ ∀ s ∈ tl, s.size ≤ b
theorem hx_write {w0 w : World} {b : Nat} {hv tv : Value} {hl : List Nat} {tl : List ByteArray} {pb : Nat} {R : Array Value} (h : HX w0 w b hv tv hl tl pb R) (ht : Tabs w0) {j q : Nat} {t s : ByteArray} (hj : hl[j]? = some q) (htj : tl[j]? = some t) (hb : b ≤ 1048576) (hs : s.size ≤ 1048576) :
    Calls Tryd.prog 12 #[.pointer (some ⟨q, 0, none⟩), .string s] w fun e w' => e = .returned (.tuple #[]) ∧ HW w0 w' b hv tv hl tl pb R j (t.data.toList ++ s.data.toList) := by
  obtain ⟨hm, hq⟩ := h.hn.hash hj htj
  obtain ⟨col, h1, h2, h3, h4⟩ := h
  have htl := ht.lt
  have hsz : t.data.toList.length = t.size := by simp
  have := h4 t (List.mem_of_getElem? htj)
  refine (write_any q _ s w hm (ht.below h1.bl) (by rw [hsz]; omega) (by omega) (by omega)).mono ?_
  rintro r w' ⟨rfl, hm', hg⟩
  have hcq := (h1.hm j q hj).1
  exact ⟨rfl, col, h1.wrote hj hg hm', ⟨(hg.block pb h2.lt (fun e => by have e' : q = pb := (Option.some.inj e).symm; rw [e', h2.2] at hcq; omega)).trans h2.1, h2.2⟩, h3, h4⟩
theorem HW.text {w0 w : World} {b c : Nat} {hv tv : Value} {hl : List Nat} {tl : List ByteArray} {pb : Nat} {R : Array Value} {j : Nat} {u : ByteArray} (h : HW w0 w b hv tv hl tl pb R j u.data.toList) {g : Nat} (hg : tv.ownBlock = some g) (hc : b ≤ c) (hu : u.size ≤ c) :
    HX w0 (w.setCell ⟨g, j, none⟩ (.string u)) c hv tv hl (tl.set j u) pb R := by
  obtain ⟨col, h1, h2, h3, h4⟩ := h
  have hcg := h1.tc g hg
  refine ⟨col, by have := h1.text hg j u; rwa [List.map_set], ⟨(Below.heap_setCell w _ _ pb (fun e => by have e' : pb = g := e; have := h2.2; rw [e', hcg] at this; omega)).trans h2.1, h2.2⟩, by rw [List.length_set]; exact h3, fun s hs => ?_⟩
  rcases List.mem_or_eq_of_mem_set hs with hs | rfl
  · exact Nat.le_trans (h4 s hs) hc
  · exact hu
theorem HW.below {w0 w w' : World} {b : Nat} {hv tv : Value} {hl : List Nat} {tl : List ByteArray} {pb : Nat} {R : Array Value} {j : Nat} {m : List UInt8} (h : HW w0 w b hv tv hl tl pb R j m) (hb : Below w.heap.size w w') : HW w0 w' b hv tv hl tl pb R j m := by
  obtain ⟨col, h1, h2, h3⟩ := h
  exact ⟨col, h1.below hb, ⟨(hb.block pb h2.lt).trans h2.1, h2.2⟩, h3⟩
theorem HX.held {w0 w : World} {b : Nat} {hv tv : Value} {hl : List Nat} {tl : List ByteArray} {pb : Nat} {R : Array Value} (h : HX w0 w b hv tv hl tl pb R) : Held w 30 1 hv hl.length (hl.map ptrV) := by
  obtain ⟨col, h1, _⟩ := h
  exact h1.hr
theorem HW.cells {w0 w : World} {b : Nat} {hv : Value} {pt : Option Addr} {k ct : Nat} {hl : List Nat} {tl : List ByteArray} {pb : Nat} {R : Array Value} {j : Nat} {m : List UInt8} (h : HW w0 w b hv (.slice pt k ct) hl tl pb R j m) {t : ByteArray} (hj : tl[j]? = some t) :
    (∃ g, pt = some ⟨g, 0, none⟩ ∧ w.cell? ⟨g, j, none⟩ = some (.string t) ∧ w.frozen? ⟨g, j, none⟩ = false ∧ (Value.slice pt k ct).ownBlock = some g) ∧ ∀ i, w.cell? ⟨pb, i, none⟩ = R[i]? := by
  obtain ⟨col, h1, h2, _⟩ := h
  have hh := h1.tr
  rw [← List.length_map (f := Value.string)] at hh
  exact ⟨heldC hh (j := j) (u := .string t) (by rw [List.getElem?_map, hj]; rfl), fun i => cell_of_row _ _ _ _ _ _ h2.1⟩
/-- a hasher more is put into the list, then its text -/
def HP (w0 w : World) (b : Nat) (hv tv : Value) (hl : List Nat) (tl : List ByteArray) (pb : Nat) (R : Array Value) (m : List UInt8) : Prop :=
  ∃ col, HI w0 w col hv tv hl tl ((tl.map fun s => s.data.toList) ++ [m]) ∧ OprH w col pb R ∧ hl.length = tl.length + 1 ∧ ∀ s ∈ tl, s.size ≤ b
theorem HX.push {w0 w w' w1 : World} {b : Nat} {hv hv' tv : Value} {hl : List Nat} {tl : List ByteArray} {pb : Nat} {R : Array Value} (h : HX w0 w b hv tv hl tl pb R) (hb : Below w.heap.size w w') {c n : Nat} (hc : w.heap.size ≤ c) {m : List UInt8} (hm : Hm w' c m) {o : Obj} (hn : n = hl.length)
    (hg : Grew 30 1 (w'.alloc o) hv n 1 (hl.map ptrV) [ptrV c] hv' w1) : HP w0 w1 b hv' tv (hl ++ [c]) tl pb R m := by
  obtain ⟨col, h1, h2, h3, h4⟩ := h
  obtain ⟨hi, hd⟩ := h1.stand hb hc hm.lt (8 + n)
  have ha : Below w'.heap.size w' (w'.alloc o) := (Below.refl _ _).alloc (Nat.le_refl _) _
  have hi2 := hi.below ha
  have hm2 := hm.below ha hm.lt
  have hpb := h2.lt
  have hpne : pb ≠ c := by omega
  have hcol : dye col c (8 + n) pb = 0 := by
    unfold dye
    rw [if_neg hpne]
    exact h2.2
  have hal : (w'.alloc o).heap[pb]? = some (.cells R 34 (0, 0)) := (ha.block pb (Nat.lt_of_lt_of_le hpb hb.size)).trans ((hb.block pb hpb).trans h2.1)
  have hgr := hg.grown
  have hne : hv.ownBlock ≠ some pb := fun e => by have := hi2.hc pb e; rw [hcol] at this; omega
  have hsz : pb < (w'.alloc o).heap.size := (Array.getElem?_eq_some_iff.mp hal).1
  have hres := hi2.addH hn hm2 hd hg
  refine ⟨_, hres, ⟨(hgr.block pb hsz (fun e => hne e.symm)).trans hal, ?_⟩, by simp [h3], h4⟩
  have hne' : hv'.ownBlock ≠ some pb := fun e => by
    rcases hg.at with ⟨e1, _⟩ | ⟨e1, _⟩
    · exact hne (e1 ▸ e)
    · rw [e] at e1
      have := Option.some.inj e1
      omega
  unfold dyeV
  rw [if_neg hne']
  exact hcol
theorem HP.push {w0 w w1 : World} {b c : Nat} {hv tv tv' : Value} {hl : List Nat} {tl : List ByteArray} {pb : Nat} {R : Array Value} {u : ByteArray} (h : HP w0 w b hv tv hl tl pb R u.data.toList) {n : Nat} {o : Obj} (hn : n = tl.length) (hc : b ≤ c) (hu : u.size ≤ c)
    (hg : Grew 9 1 (w.alloc o) tv n 1 (tl.map Value.string) [.string u] tv' w1) : HX w0 w1 c hv tv' hl (tl ++ [u]) pb R := by
  obtain ⟨col, h1, h2, h3, h4⟩ := h
  have ha : Below w.heap.size w (w.alloc o) := (Below.refl _ _).alloc (Nat.le_refl _) _
  have hi2 := h1.below ha
  have hal : (w.alloc o).heap[pb]? = some (.cells R 34 (0, 0)) := (ha.block pb h2.lt).trans h2.1
  have hsz : pb < (w.alloc o).heap.size := (Array.getElem?_eq_some_iff.mp hal).1
  have hgr := hg.grown
  have hne : tv.ownBlock ≠ some pb := fun e => by have := hi2.tc pb e; rw [h2.2] at this; omega
  have hres := hi2.addT hn hg
  refine ⟨_, by rw [List.map_append]; exact hres, ⟨(hgr.block pb hsz (fun e => hne e.symm)).trans hal, ?_⟩, by simp [h3], fun s hs => ?_⟩
  · have hne' : tv'.ownBlock ≠ some pb := fun e => by
      rcases hg.at with ⟨e1, _⟩ | ⟨e1, _⟩
      · exact hne (e1 ▸ e)
      · rw [e] at e1
        have := Option.some.inj e1
        omega
    unfold dyeV
    rw [if_neg hne']
    exact h2.2
  · rcases List.mem_append.mp hs with hs | hs
    · exact Nat.le_trans (h4 s hs) hc
    · rw [List.mem_singleton.mp hs]; exact hu
theorem HP.cells {w0 w : World} {b : Nat} {hv : Value} {pt : Option Addr} {k ct : Nat} {hl : List Nat} {tl : List ByteArray} {pb : Nat} {R : Array Value} {m : List UInt8} (h : HP w0 w b hv (.slice pt k ct) hl tl pb R m) :
    (∀ j t, tl[j]? = some t → ∃ g, pt = some ⟨g, 0, none⟩ ∧ w.cell? ⟨g, j, none⟩ = some (.string t)) ∧ Held w 9 1 (.slice pt k ct) tl.length (tl.map Value.string) := by
  obtain ⟨col, h1, h2, _⟩ := h
  refine ⟨fun j t hj => ?_, h1.tr⟩
  have hh := h1.tr
  rw [← List.length_map (f := Value.string)] at hh
  obtain ⟨g, a, b, _⟩ := heldC hh (j := j) (u := .string t) (by rw [List.getElem?_map, hj]; rfl)
  exact ⟨g, a, b⟩
end Go.Proofs.YtmkeifhfjhknjaaDoor
