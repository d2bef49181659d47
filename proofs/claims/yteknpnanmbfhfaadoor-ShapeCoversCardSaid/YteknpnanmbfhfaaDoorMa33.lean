/- Law 8: two owned lists that grow side by side (spans, texts); how many spans a batch has. -/
import Derived.Test.YteknpnanmbfhfaaDoorMa32
import Derived.Test.YteknpnanmbfhfaaDoorMa28
namespace Go.Scr
open Go.RowKit
set_option linter.unusedVariables false
theorem wayN_log (j : Nat) : ∀ n m, n ≤ 2 ^ j → m < n → wayN n m ≤ j := by
  induction j with
  | zero => intro n m h hm; rw [wayN_one m (by simpa using h)]; exact Nat.le_refl _
  | succ j ih =>
    intro n m h hm
    by_cases h1 : n ≤ 1
    · rw [wayN_one m h1]; omega
    · have hs := spl_lt (show 2 ≤ n by omega)
      obtain ⟨k, h2, h3, h4⟩ := spl_pow (show 2 ≤ n by omega)
      have hk : k ≤ j := by
        have := (Nat.pow_lt_pow_iff_right (show 1 < 2 by decide)).1 (Nat.lt_of_lt_of_le h3 h)
        omega
      have hp : 2 ^ k ≤ 2 ^ j := Nat.pow_le_pow_right (by decide) hk
      by_cases h5 : m < spl n
      · rw [wayN_left (by omega) h5]
        have := ih (spl n) m (by omega) h5
        omega
      · rw [wayN_right (by omega) h5]
        have := ih (n - spl n) (m - spl n) (by omega) (by omega)
        omega
def castZ (C : List (Nat × Nat)) : List (Int × Int) := C.map fun x => ((x.1 : Int), (x.2 : Int))
/-- spans of numbers from 0 to 2^40 -/
def SpB (P : List (Int × Int)) : Prop := ∀ x ∈ P, 0 ≤ x.1 ∧ x.1 ≤ 1099511627776 ∧ 0 ≤ x.2 ∧ x.2 ≤ 1099511627776
theorem spB_snoc {P : List (Int × Int)} {x : Int × Int} (h : SpB P) (hx : 0 ≤ x.1 ∧ x.1 ≤ 1099511627776 ∧ 0 ≤ x.2 ∧ x.2 ≤ 1099511627776) : SpB (P ++ [x]) := by
  intro y hy
  rcases List.mem_append.1 hy with hy | hy
  · exact h y hy
  · rw [List.mem_singleton.1 hy]; exact hx
def T32 (Y : List ByteArray) : Prop := ∀ s ∈ Y, s.size = 32
theorem t32_snoc {Y : List ByteArray} {s : ByteArray} (h : T32 Y) (hs : s.size = 32) : T32 (Y ++ [s]) := by
  intro y hy
  rcases List.mem_append.1 hy with hy | hy
  · exact h y hy
  · rw [List.mem_singleton.1 hy]; exact hs
theorem zprs_set2 (L : List (Int × Int)) : ∀ (i : Nat) (x : Int × Int), zprs (L.set i x) = ((zprs L).set (i * 2) (.int .i64 x.1)).set (i * 2 + 1) (.int .i64 x.2) := by
  induction L with
  | nil => intro i x; rfl
  | cons y L ih =>
    intro i x
    cases i with
    | zero => simp only [List.set_cons_zero, zprs_cons, Nat.zero_mul, List.set_cons_succ]
    | succ i =>
      rw [List.set_cons_succ, zprs_cons, zprs_cons, ih i x, show (i + 1) * 2 = i * 2 + 1 + 1 by omega]
      rfl
end Go.Scr
namespace Go.Proofs.YteknpnanmbfhfaaDoor
open Go.RowKit Go.Scr Go.Shelf
set_option linter.unusedVariables false
theorem prsV_cast (C : List (Nat × Nat)) : prsV C = zprs (castZ C) := by
  unfold prsV zprs castZ
  rw [List.map_map]
  rfl
theorem held_spz {w : World} {n : Nat} {v : Value} {P : List (Int × Int)} (h : Held w 29 2 v n (zprs P)) (hb : SpB P) (hl : P.length ≤ 281474976710656) : n = P.length ∧ SpZ w v P := by
  have hn : n = P.length := by have := h.1; rw [zprs_length] at this; omega
  subst hn
  obtain ⟨p, c, rfl, h1, _, _⟩ := h.cells
  refine ⟨rfl, p, c, rfl, h1, hl, fun x hx => by have := hb x hx; omega, fun j x hx => ?_⟩
  have hlt := (List.getElem?_eq_some_iff.mp hx).1
  obtain ⟨g, rfl, hc⟩ := held_cell h (by omega)
  have hg := zprs_get hx
  exact ⟨g, 0, rfl, by rw [Nat.zero_add]; exact hc _ _ hg.1, by rw [Nat.zero_add]; exact hc _ _ hg.2⟩
theorem SpZ.cut {w : World} {p : Option Addr} {n c k : Nat} {P : List (Int × Int)} (h : SpZ w (.slice p n c) P) (hk : k ≤ n) : SpZ w (.slice p k c) (P.take k) := by
  obtain ⟨p', c', e, h1, h2, h3, h4⟩ := h
  cases e
  have hlen : (P.take k).length = k := by rw [List.length_take]; omega
  refine ⟨p, c, by rw [hlen], by rw [hlen]; omega, by rw [hlen]; omega, fun x hx => h3 x (List.mem_of_mem_take hx), fun j x hx => h4 j x ?_⟩
  rw [List.getElem?_take] at hx
  split at hx
  · exact hx
  · cases hx
theorem Txts.cut8 {w : World} {p : Option Addr} {n c k : Nat} {L : List ByteArray} (h : Txts w (.slice p n c) L) (hk : k ≤ n) : Txts w (.slice p k c) (L.take k) := by
  obtain ⟨p', c', e, h1, h2, h3⟩ := h
  cases e
  have hlen : (L.take k).length = k := by rw [List.length_take]; omega
  refine ⟨p, c, by rw [hlen], by rw [hlen]; omega, by rw [hlen]; omega, fun j x hx => h3 j x ?_⟩
  rw [List.getElem?_take] at hx
  split at hx
  · exact hx
  · cases hx
structure XY (A wr : World) (P : List (Int × Int)) (Y : List ByteArray) (vx vy : Value) : Prop where
  hx : Held wr 29 2 vx P.length (zprs P)
  hy : Held wr 9 1 vy Y.length (Y.map Value.string)
  ox : ∀ g, vx.ownBlock = some g → A.heap.size ≤ g
  oy : ∀ g, vy.ownBlock = some g → A.heap.size ≤ g
  ne : ∀ g, vx.ownBlock = some g → vy.ownBlock ≠ some g
  bel : Below A.heap.size A wr
  spb : SpB P
  t32 : T32 Y
theorem XY.later {A wr w' : World} {P : List (Int × Int)} {Y : List ByteArray} {vx vy : Value} (h : XY A wr P Y vx vy) (hb : Below wr.heap.size wr w') : XY A w' P Y vx vy :=
  ⟨h.hx.below hb, h.hy.below hb, h.ox, h.oy, h.ne, below_onS h.bel hb h.bel.size, h.spb, h.t32⟩
theorem XY.drewN {A wr : World} {P : List (Int × Int)} {Y : List ByteArray} {vx vy : Value} (h : XY A wr P Y vx vy) (k : Nat) : XY A (wr.drewN k) P Y vx vy :=
  ⟨h.hx.keep (fun _ _ => rfl), h.hy.keep (fun _ _ => rfl), h.ox, h.oy, h.ne, below_drewN h.bel k, h.spb, h.t32⟩
theorem XY.pushX {A wr w2 w5 : World} {P : List (Int × Int)} {Y : List ByteArray} {vx vy v5 : Value} {o : Obj} {x y : Int} (h : XY A wr P Y vx vy) (hb : Below wr.heap.size wr w2) (hxy : 0 ≤ x ∧ x ≤ 1099511627776 ∧ 0 ≤ y ∧ y ≤ 1099511627776)
    (g : Grew 29 2 (w2.alloc o) vx P.length 1 (zprs P) [.int .i64 x, .int .i64 y] v5 w5) : XY A w5 (P ++ [(x, y)]) Y v5 vy := by
  have hgr := grown_alloc g.grown
  have hat := grew_own g
  have h2 := h.later hb
  have hs : wr.heap.size ≤ w2.heap.size := hb.size
  refine ⟨?_, h2.hy.keep fun q hq => hgr.block q (h2.hy.lt hq) (fun e => h.ne q e.symm hq), ?_, h.oy, ?_, h2.bel.grown hgr h2.bel.size h.ox, spB_snoc h.spb hxy, h.t32⟩
  · rw [List.length_append, zprs_append]
    exact g.held
  · intro q hq
    rcases hat q hq with h3 | h3
    · exact h.ox q h3
    · have := h2.bel.size; omega
  · intro q hq hq2
    rcases hat q hq with h3 | h3
    · exact h.ne q h3 hq2
    · have := h.hy.lt hq2; omega
theorem XY.pushY {A wr w2 w5 : World} {P : List (Int × Int)} {Y : List ByteArray} {vx vy v5 : Value} {o : Obj} {s : ByteArray} (h : XY A wr P Y vx vy) (hb : Below wr.heap.size wr w2) (hs32 : s.size = 32)
    (g : Grew 9 1 (w2.alloc o) vy Y.length 1 (Y.map Value.string) [.string s] v5 w5) : XY A w5 P (Y ++ [s]) vx v5 := by
  have hgr := grown_alloc g.grown
  have hat := grew_own g
  have h2 := h.later hb
  have hs : wr.heap.size ≤ w2.heap.size := hb.size
  refine ⟨h2.hx.keep fun q hq => hgr.block q (h2.hx.lt hq) (fun e => h.ne q hq e.symm), ?_, h.ox, ?_, ?_, h2.bel.grown hgr h2.bel.size h.oy, h.spb, t32_snoc h.t32 hs32⟩
  · rw [List.length_append, List.map_append]
    exact g.held
  · intro q hq
    rcases hat q hq with h3 | h3
    · exact h.oy q h3
    · have := h2.bel.size; omega
  · intro q hq hq2
    rcases hat q hq2 with h3 | h3
    · exact h.ne q hq h3
    · have := h.hx.lt hq; omega
theorem XY.put {A wr : World} {P : List (Int × Int)} {Y : List ByteArray} {vx vy : Value} {g : Nat} (h : XY A wr P Y vx vy) (hg : vx.ownBlock = some g) (k : Nat) (x : Int × Int) (hxy : 0 ≤ x.1 ∧ x.1 ≤ 1099511627776 ∧ 0 ≤ x.2 ∧ x.2 ≤ 1099511627776) :
    XY A ((wr.setCell ⟨g, k * 2, none⟩ (.int .i64 x.1)).setCell ⟨g, k * 2 + 1, none⟩ (.int .i64 x.2)) (P.set k x) Y vx vy := by
  refine ⟨?_, ?_, h.ox, h.oy, h.ne, (h.bel.setCell (p := ⟨g, k * 2, none⟩) (h.ox g hg) _).setCell (p := ⟨g, k * 2 + 1, none⟩) (h.ox g hg) _, ?_, h.t32⟩
  · rw [List.length_set, zprs_set2]
    exact (h.hx.put hg _ _).put hg _ _
  · refine h.hy.keep fun q hq => ?_
    have hne : q ≠ g := fun e => h.ne g hg (by rw [← e]; exact hq)
    exact (Below.heap_setCell _ _ _ _ hne).trans (Below.heap_setCell _ _ _ _ hne)
  · intro y hy
    rcases List.mem_or_eq_of_mem_set hy with hy | hy
    · exact h.spb y hy
    · rw [hy]; exact hxy
end Go.Proofs.YteknpnanmbfhfaaDoor
