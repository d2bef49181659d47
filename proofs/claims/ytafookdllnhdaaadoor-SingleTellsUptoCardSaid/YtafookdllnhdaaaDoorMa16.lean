/- Shape, walked: Inside, of wrong arguments; Clip, Reverse of spans. -/
import Derived.Test.YtafookdllnhdaaaDoorMa15
import Derived.Test.YtafookdllnhdaaaDoorMa2
import Derived.Test.YtafookdllnhdaaaDoorMa1
namespace Go.Proofs.YtafookdllnhdaaaDoor
open Go.RowKit Go.Scr
set_option linter.unusedVariables false

/-- Inside, of any numbers -/
def insideZ (n b e : Int) : Bool := if 1 ≤ n ∧ n ≤ 1099511627776 ∧ 0 ≤ b ∧ b < e ∧ e ≤ n then decide ((b.toNat, e.toNat) ∈ wayT 0 n.toNat b.toNat e.toNat) else false
/-! ### lists of pairs of numbers -/
def prV (x : Nat × Nat) : List Value := [.int .i64 (x.1 : Int), .int .i64 (x.2 : Int)]
def prsV (L : List (Nat × Nat)) : List Value := (L.map prV).flatten
theorem prsV_length (L : List (Nat × Nat)) : (prsV L).length = 2 * L.length := by
  unfold prsV
  induction L with
  | nil => rfl
  | cons a L ih => rw [List.map_cons, List.flatten_cons, List.length_append, ih]; simp [prV]; omega
theorem prsV_append (A B : List (Nat × Nat)) : prsV (A ++ B) = prsV A ++ prsV B := by simp [prsV]
theorem prsV_get {L : List (Nat × Nat)} {j : Nat} {x : Nat × Nat} (h : L[j]? = some x) : (prsV L)[j * 2]? = some (.int .i64 (x.1 : Int)) ∧ (prsV L)[j * 2 + 1]? = some (.int .i64 (x.2 : Int)) := by
  induction L generalizing j with
  | nil => simp at h
  | cons a L ih =>
    cases j with
    | zero =>
      simp at h
      subst h
      simp [prsV, prV]
    | succ j =>
      have := ih (j := j) (by simpa using h)
      have e : ∀ i, (prsV (a :: L))[i + 2]? = (prsV L)[i]? := fun i => by
        simp [prsV, prV]
      rw [show (j + 1) * 2 = j * 2 + 2 by omega, show j * 2 + 2 + 1 = (j * 2 + 1) + 2 by omega, e, e]
      exact this
end Go.Proofs.YtafookdllnhdaaaDoor
/- Shape, walked: Path. -/
namespace Go.Scr
/-- the part of a subtree that is not on the way to a leaf -/
def sideT (i : Nat) (x : Nat × Nat) : Nat × Nat := if i < x.1 + spl (x.2 - x.1) then (x.1 + spl (x.2 - x.1), x.2) else (x.1, x.1 + spl (x.2 - x.1))
theorem way_path (n : Nat) : ∀ (b m : Nat), m < n → ∃ W', wayT b n (b + m) (b + m + 1) = W' ++ [(b + m, b + m + 1)] ∧ pathT b n m = W'.map (sideT (b + m)) ∧ ∀ x ∈ W', 1 < x.2 - x.1 := by
  induction n using Nat.strongRecOn with
  | ind n ih =>
    intro b m hm
    by_cases h : n ≤ 1
    · have : m = 0 := by omega
      subst this
      have : n = 1 := by omega
      subst this
      refine ⟨[], by rw [wayT_one _ _ (Nat.le_refl _)]; rfl, by rw [pathT_one _ _ (Nat.le_refl _)]; rfl, by simp⟩
    · have h1 : 1 < n := by omega
      have hs := spl_lt (show 2 ≤ n by omega)
      have e1 : b + n - b = n := by omega
      by_cases h2 : m < spl n
      · obtain ⟨W', a1, a2, a3⟩ := ih (spl n) hs.2.1 b m h2
        refine ⟨(b, b + n) :: W', ?_, ?_, ?_⟩
        · rw [wayT_left h1 (by omega), a1]; rfl
        · rw [pathT_left b h1 h2, a2, List.map_cons]
          unfold sideT
          simp only [e1]
          rw [if_pos (by omega)]
        · intro x hx
          rcases List.mem_cons.1 hx with rfl | hx
          · simp only [e1]; exact h1
          · exact a3 x hx
      · obtain ⟨W', a1, a2, a3⟩ := ih (n - spl n) (by omega) (b + spl n) (m - spl n) (by omega)
        rw [show b + spl n + (m - spl n) = b + m by omega] at a1 a2
        refine ⟨(b, b + n) :: W', ?_, ?_, ?_⟩
        · rw [wayT_right h1 (by omega) (by omega), a1]; rfl
        · rw [pathT_right b h1 h2, a2, List.map_cons]
          unfold sideT
          simp only [e1]
          rw [if_neg (by omega)]
        · intro x hx
          rcases List.mem_cons.1 hx with rfl | hx
          · simp only [e1]; exact h1
          · exact a3 x hx
end Go.Scr
namespace Go.Proofs.YtafookdllnhdaaaDoor
open Go.RowKit Go.Scr Go.Shelf
set_option linter.unusedVariables false
attribute [local go_sem] Oper.semAt_some

theorem info_spanP : (Tryd.prog.info? 46).map (fun i => (i.zero, i.size, i.bytes)) = some (some (.agg #[.int .i64 0, .int .i64 0]), 2, 16) := by kernel_rfl
/-- what stands between the rounds -/
structure PI (w0 W : World) (bi bo D i : Nat) (L : List (Nat × Nat)) : Prop where
  ix : W.heap[bi]? = some (.cells #[.int .i64 (i : Int)] 3 (0, 0))
  bx : ∃ v, W.heap[bo]? = some (.cells #[v] 86 (0, 0)) ∧ Held W 46 2 v L.length (prsV L) ∧ ∀ g, v.ownBlock = some g → D + 3 ≤ g
  bl : Below w0.heap.size w0 W
  lt : w0.heap.size ≤ bi ∧ w0.heap.size ≤ bo ∧ bi < D ∧ bo < D ∧ bi ≠ bo
theorem PI.chg {w0 a c : World} {bi bo D i : Nat} {L : List (Nat × Nat)} (h : PI w0 a bi bo D i L) {Q : Nat → Prop} (hc : Chg Q a c) (hq : ∀ j, Q j → (D ≤ j ∧ j < D + 3) ∨ a.heap.size ≤ j) : PI w0 c bi bo D i L := by
  obtain ⟨h1, ⟨v, h2, h3, h4⟩, h5, h6⟩ := h
  have lt1 : bi < a.heap.size := (Array.getElem?_eq_some_iff.mp h1).1
  have lt2 : bo < a.heap.size := (Array.getElem?_eq_some_iff.mp h2).1
  refine ⟨(hc.same _ lt1 (fun e => by have := hq _ e; omega)).trans h1, ⟨v, (hc.same _ lt2 (fun e => by have := hq _ e; omega)).trans h2, h3.keep (fun g hg => hc.same g (h3.lt hg) (fun e => by have := hq _ e; have := h4 g hg; have := h3.lt hg; omega)), h4⟩, below_chg h5 hc (fun j hj => by have := hq j hj; have := h5.size; omega) h5.size, h6⟩
theorem PI.push {w0 A w5 : World} {bi bo D i cp : Nat} {L : List (Nat × Nat)} {x : Nat × Nat} (h : PI w0 A bi bo D i L) {v v5 : Value} {o : Obj} (p1 : A.heap[bo]? = some (.cells #[v] 86 (0, 0))) (p3 : ∀ g, v.ownBlock = some g → D + 3 ≤ g) (hD : D + 3 ≤ A.heap.size) (hcp : cp < D) (hcb : cp ≠ bo)
    (g : Grew 46 2 (A.alloc o) v L.length 1 (prsV L) [.int .i64 (x.1 : Int), .int .i64 (x.2 : Int)] v5 w5) :
    PI w0 (w5.setCell ⟨bo, 0, none⟩ v5) bi bo D i (L ++ [x]) ∧ Kq (fun j => (D ≤ j ∧ j < D + 2 + 1) ∨ j = cp) A (w5.setCell ⟨bo, 0, none⟩ v5) ∧ w5.cell? ⟨bo, 0, none⟩ = some v ∧ w5.frozen? ⟨bo, 0, none⟩ = false := by
  have hgr := grown_alloc g.grown
  obtain ⟨h1, _, h5, h6⟩ := h
  have hsame : ∀ j, j < A.heap.size → j < D + 3 → w5.heap[j]? = A.heap[j]? := fun j hj hd => hgr.block j hj (fun e => by have := p3 j e.symm; omega)
  have k1 : w5.heap[bi]? = some (.cells #[.int .i64 (i : Int)] 3 (0, 0)) := (hsame bi (Array.getElem?_eq_some_iff.mp h1).1 (by omega)).trans h1
  have k2 : w5.heap[bo]? = some (.cells #[v] 86 (0, 0)) := (hsame bo (Array.getElem?_eq_some_iff.mp p1).1 (by omega)).trans p1
  have hs5 := hgr.size
  have hown : ∀ q, v5.ownBlock = some q → D + 3 ≤ q := fun q hq => by
    rcases g.at with ⟨e, _⟩ | ⟨e, _⟩
    · exact p3 q (by rw [← e]; exact hq)
    · rw [hq] at e
      have := Option.some.inj e
      simp at this
      omega
  have hfar : ∀ j, j ≠ bo → (w5.setCell ⟨bo, 0, none⟩ v5).heap[j]? = w5.heap[j]? := fun j hj => Below.heap_setCell w5 _ _ j hj
  have hb5 : Below w0.heap.size w0 w5 := h5.grown hgr h5.size (fun q e => by have := p3 q e; omega)
  refine ⟨⟨(hfar bi h6.2.2.2.2).trans k1, ⟨v5, blk_set k2 0 v5, ?_, hown⟩, hb5.setCell (p := ⟨bo, 0, none⟩) h6.2.1 _, h6⟩, ⟨by simpa [World.setCell] using hs5, fun j hj hK => ?_⟩, cell_of_row _ _ _ _ _ _ k2, frozen_of_row w5 bo 0 _ _ k2⟩
  · have hh := g.held
    have e : prsV (L ++ [x]) = prsV L ++ [.int .i64 (x.1 : Int), .int .i64 (x.2 : Int)] := by rw [prsV_append]; rfl
    rw [e, List.length_append]
    exact hh.keep (fun q hq => hfar q (by have := hown q hq; omega))
  · rw [hfar j (by rcases hK with hK | hK <;> omega)]
    exact hsame j hj (by rcases hK with hK | hK <;> omega)
end Go.Proofs.YtafookdllnhdaaaDoor
/- Shape, walked: slices.Clip and slices.Reverse at spans. -/
namespace Go.Scr
/-- the reversed list from both ends, i deep -/
def RevAt {α : Type} (L M : List α) (i : Nat) : Prop := M.length = L.length ∧ ∀ k, M[k]? = if k < i ∨ L.length ≤ k + i then L.reverse[k]? else L[k]?
theorem revAt_zero {α : Type} (L : List α) : RevAt L L 0 := by
  refine ⟨rfl, fun k => ?_⟩
  split
  · rename_i h
    have h : L.length ≤ k := by omega
    rw [List.getElem?_eq_none h, List.getElem?_eq_none (by simpa using h)]
  · rfl
theorem revAt_done {α : Type} {L M : List α} {i : Nat} (h : RevAt L M i) (hi : L.length ≤ 2 * i + 1) : M = L.reverse := by
  apply List.ext_getElem?
  intro k
  rw [h.2 k]
  split
  · rfl
  · by_cases hk : k < L.length
    · rw [List.getElem?_reverse hk]
      congr 1
      omega
    · omega
theorem revAt_step {α : Type} {L M : List α} {i j : Nat} (h : RevAt L M i) (hij : i < j) (hj : i + j + 1 = L.length) {x y : α} (hx : M[i]? = some x) (hy : M[j]? = some y) : RevAt L ((M.set i y).set j x) (i + 1) := by
  have hxL : L[i]? = some x := by have := h.2 i; rw [if_neg (by omega)] at this; rw [← this]; exact hx
  have hyL : L[j]? = some y := by have := h.2 j; rw [if_neg (by omega)] at this; rw [← this]; exact hy
  refine ⟨by rw [List.length_set, List.length_set]; exact h.1, fun k => ?_⟩
  have hl := h.1
  simp only [List.getElem?_set, List.length_set]
  by_cases hkj : j = k
  · subst hkj
    rw [if_pos rfl, if_pos (by omega), if_pos (by omega), List.getElem?_reverse (by omega), ← hxL]
    congr 1
    omega
  · rw [if_neg hkj]
    by_cases hki : i = k
    · subst hki
      rw [if_pos rfl, if_pos (by omega), if_pos (by omega), List.getElem?_reverse (by omega), ← hyL]
      congr 1
      omega
    · rw [if_neg hki, h.2 k]
      by_cases hc : k < i ∨ L.length ≤ k + i
      · rw [if_pos hc, if_pos (by omega)]
      · rw [if_neg hc, if_neg (by omega)]
open Go.RowKit
theorem Chg.drew {Q : Nat → Prop} {a c : World} (h : Chg Q a c) : Chg Q a c.drew := ⟨h.os, h.tape, h.output, h.size, h.same⟩
theorem Chg.cell {Q : Nat → Prop} {a c : World} (h : Chg Q a c) {p : Addr} (hq : Q p.block) (u : Value) : Chg Q a (c.setCell p u) :=
  ⟨h.os, h.tape, h.output, by simpa [World.setCell] using h.size, fun i hi hn => (Below.heap_setCell c p u i (fun e => hn (e ▸ hq))).trans (h.same i hi hn)⟩
theorem Held.clip {w : World} {T sz n c : Nat} {p : Option Addr} {xs : List Value} (h : Held w T sz (.slice p n c) n xs) : Held w T sz (.slice p n n) n xs := by
  refine ⟨h.1, ?_⟩
  rcases h.2 with ⟨e, e2⟩ | ⟨g, cap, cur, e, hg, h1, h2, h3, h4⟩
  · cases e
    exact .inl ⟨rfl, rfl⟩
  · cases e
    exact .inr ⟨g, n, cur, rfl, hg, Nat.le_refl _, Nat.le_trans h1 h2, Nat.le_trans (Nat.mul_le_mul_right _ h1) h3, h4⟩
/-- one cell of a list of any elements is written -/
theorem Held.put {w : World} {T sz n : Nat} {v : Value} {xs : List Value} (h : Held w T sz v n xs) {g : Nat} (hg : v.ownBlock = some g) (k : Nat) (u : Value) : Held (w.setCell ⟨g, k, none⟩ u) T sz v n (xs.set k u) := by
  refine ⟨by rw [List.length_set]; exact h.1, ?_⟩
  rcases h.2 with ⟨rfl, _⟩ | ⟨g', cap, cur, rfl, hg', h1, h2, h3, h4⟩
  · cases hg
  · cases hg
    refine .inr ⟨g', cap, cur.setIfInBounds k u, rfl, blk_set hg' k u, h1, h2, by rw [Array.size_setIfInBounds]; exact h3, ?_⟩
    rw [← h4]
    apply List.ext_getElem?
    intro j
    simp only [List.getElem?_take, List.getElem?_set, Array.getElem?_toList, Array.getElem?_setIfInBounds, List.length_take, Array.length_toList]
    by_cases hj : j < n * sz
    · rw [if_pos hj]
      by_cases hkj : k = j
      · subst hkj
        rw [if_pos rfl, if_pos rfl]
        by_cases hs : k < cur.size
        · rw [if_pos hs, if_pos (by omega)]
        · rw [if_neg hs, if_neg (by omega)]
      · rw [if_neg hkj, if_neg hkj, if_pos hj]
    · rw [if_neg hj]
      by_cases hkj : k = j
      · subst hkj
        rw [if_pos rfl, if_neg (by omega)]
      · rw [if_neg hkj, if_neg hj]
end Go.Scr
namespace Go.Proofs.YtafookdllnhdaaaDoor
open Go.RowKit Go.Scr Go.Shelf
set_option linter.unusedVariables false
theorem prsV_set (L : List (Nat × Nat)) : ∀ (i : Nat) (x : Nat × Nat), prsV (L.set i x) = ((prsV L).set (i * 2) (.int .i64 (x.1 : Int))).set (i * 2 + 1) (.int .i64 (x.2 : Int)) := by
  induction L with
  | nil => intro i x; simp [prsV]
  | cons a L ih =>
    intro i x
    have e : ∀ (y : Nat × Nat) (M : List (Nat × Nat)), prsV (y :: M) = .int .i64 (y.1 : Int) :: .int .i64 (y.2 : Int) :: prsV M := fun y M => by simp [prsV, prV]
    cases i with
    | zero => simp [e]
    | succ i =>
      rw [List.set_cons_succ, e, e, ih i x, show (i + 1) * 2 = i * 2 + 1 + 1 by omega]
      simp
theorem clipS_any (p : Option Addr) (n c : Nat) (w : World) (h : n ≤ c) :
    Calls Tryd.prog 78 #[.slice p n c] w fun e w' => e = .returned (.slice p n n) ∧ w' = w := by
  obtain ⟨nv, hnv⟩ : ∃ x, x = n := ⟨_, rfl⟩
  go_enter Tryd.func78, Tryd.ntmps78
  go_wp2
  go_ret
  exact ⟨rfl, rfl⟩
set_option maxHeartbeats 1000000 in
theorem reverse_any (L : List (Nat × Nat)) (w : World) {v : Value} (h : Held w 46 2 v L.length (prsV L)) (hl : L.length ≤ 1099511627776) :
    Calls Tryd.prog 77 #[v] w fun r w' => r = .returned (.tuple #[]) ∧ Held w' 46 2 v L.length (prsV L.reverse) ∧ Chg (fun j => v.ownBlock = some j) w w' := by
  obtain ⟨p, c, rfl, hnc, hcm, _⟩ := h.cells
  obtain ⟨n, hn⟩ : ∃ x, x = L.length := ⟨_, rfl⟩
  rw [← hn] at h hnc hl ⊢
  have HL0 := Lib.hid hn
  have HH := Lib.hid h
  clear hn h
  go_enter Tryd.func77, Tryd.ntmps77
  go_wp2_with fail
  go_loopw [2, 3] (fun a b wr => ∃ i : Nat, ∃ jj : Int, ∃ M : List (Nat × Nat), a = .int .i64 i ∧ b = .int .i64 jj ∧ Hid (i ≤ n ∧ jj = (n : Int) - 1 - i ∧ RevAt L M i ∧ Held wr 46 2 (.slice p n c) n (prsV M) ∧ Chg (fun j => (Value.slice p n c).ownBlock = some j) w wr)) (fun a _ _ => n - (intOf a).toNat)
  case atStart => exact ⟨0, _, L, rfl, rfl, Lib.hid ⟨Nat.zero_le _, by simp, by have h := revAt_zero L; exact h, HH.out, Chg.refl _ _⟩⟩
  case round =>
    obtain ⟨i, jj, M, rfl, rfl, hs⟩ := hrel
    have hjb : -1099511627777 ≤ jj ∧ jj ≤ 1099511627777 := by have := hs.out.1; have := hs.out.2.1; omega
    by_cases hlt : (i : Int) < jj
    · obtain ⟨j, rfl⟩ : ∃ j : Nat, jj = (j : Int) := ⟨jj.toNat, by omega⟩
      have hjn : j < n := by have := hs.out.2.1; omega
      have hin : i < n := by omega
      have hjni : (j : Int) < (n : Int) := by omega
      have hini : (i : Int) < (n : Int) := by omega
      have hi0 : (0 : Int) ≤ (i : Int) := by omega
      have hj0 : (0 : Int) ≤ (j : Int) := by omega
      have hrv := hs.out.2.2.1
      have hhd := hs.out.2.2.2.1
      have hml : M.length = n := by rw [hrv.1]; exact HL0.out.symm
      obtain ⟨⟨x0, x1⟩, hx⟩ : ∃ x, M[i]? = some x := ⟨M[i]'(by omega), List.getElem?_eq_getElem _⟩
      obtain ⟨⟨y0, y1⟩, hy⟩ : ∃ x, M[j]? = some x := ⟨M[j]'(by omega), List.getElem?_eq_getElem _⟩
      obtain ⟨hx0, hx1⟩ := prsV_get hx
      obtain ⟨hy0, hy1⟩ := prsV_get hy
      obtain ⟨p', c', hpe, _, _, hce⟩ := hhd.cells
      cases hpe
      obtain ⟨g, rfl⟩ : ∃ g, p = some ⟨g, 0, none⟩ := by
        rcases hhd.2 with ⟨e, _⟩ | ⟨g, _, _, e, _⟩
        · omega
        · exact ⟨g, by cases e; rfl⟩
      have hcg : ∀ k u, (prsV M)[k]? = some u → wr.cell? ⟨g, k, none⟩ = some u := fun k u hk => by
        obtain ⟨a, ha, _, hc⟩ := hce k u hk
        cases ha
        have hadd : (⟨g, 0, none⟩ : Addr).add k = ⟨g, k, none⟩ := by unfold Addr.add; split <;> simp_all
        rw [hadd] at hc
        exact hc
      have k0 := hcg _ _ hx0
      have k1 := hcg _ _ hx1
      have k2 := hcg _ _ hy0
      have k3 := hcg _ _ hy1
      obtain ⟨cur, hblk⟩ : ∃ cur, wr.heap[g]? = some (.cells cur 46 (0, 0)) := by
        rcases hhd.2 with ⟨e, _⟩ | ⟨g', _, cur, e, hb, _⟩
        · cases e
        · cases e
          exact ⟨cur, hb⟩
      have e0 : ∀ k, wr.frozen? ⟨g, k, none⟩ = false := fun k => frozen_of_row wr g k _ _ hblk
      clear hblk
      have HX := Lib.hid hx
      have HY := Lib.hid hy
      have HLT := Lib.hid hlt
      clear hrv hhd hml hx hy hx0 hx1 hy0 hy1 hce hcg
      go_upto_region 3 with fail
      go_region
      have hfin : Hid (i + 1 ≤ n ∧ (j : Int) - 1 = (n : Int) - 1 - ((i + 1 : Nat) : Int) ∧ RevAt L ((M.set i (y0, y1)).set j (x0, x1)) (i + 1) ∧ Held ((((wr.setCell ⟨g, i * 2, none⟩ (.int .i64 (y0 : Int))).setCell ⟨g, i * 2 + 1, none⟩ (.int .i64 (y1 : Int))).setCell ⟨g, j * 2, none⟩ (.int .i64 (x0 : Int))).setCell ⟨g, j * 2 + 1, none⟩ (.int .i64 (x1 : Int))).drew 46 2 (.slice (some ⟨g, 0, none⟩) n c) n (prsV ((M.set i (y0, y1)).set j (x0, x1))) ∧
          Chg (fun j => (Value.slice (some ⟨g, 0, none⟩) n c).ownBlock = some j) w ((((wr.setCell ⟨g, i * 2, none⟩ (.int .i64 (y0 : Int))).setCell ⟨g, i * 2 + 1, none⟩ (.int .i64 (y1 : Int))).setCell ⟨g, j * 2, none⟩ (.int .i64 (x0 : Int))).setCell ⟨g, j * 2 + 1, none⟩ (.int .i64 (x1 : Int))).drew) := Lib.hid (by
        obtain ⟨h1, h2, h3, h4, h5⟩ := hs.out
        refine ⟨by omega, by omega, revAt_step h3 (by omega) (by have := HL0.out; omega) HX.out HY.out, ?_, ?_⟩
        · rw [prsV_set, prsV_set]
          exact ((((h4.put rfl _ _).put rfl _ _).put rfl _ _).put rfl _ _).keep (fun _ _ => rfl)
        · exact ((((h5.cell (p := ⟨g, i * 2, none⟩) rfl _).cell (p := ⟨g, i * 2 + 1, none⟩) rfl _).cell (p := ⟨g, j * 2, none⟩) rfl _).cell (p := ⟨g, j * 2 + 1, none⟩) rfl _).drew)
      generalize ((((wr.setCell ⟨g, i * 2, none⟩ (.int .i64 (y0 : Int))).setCell ⟨g, i * 2 + 1, none⟩ (.int .i64 (y1 : Int))).setCell ⟨g, j * 2, none⟩ (.int .i64 (x0 : Int))).setCell ⟨g, j * 2 + 1, none⟩ (.int .i64 (x1 : Int))).drew = wz at hfin ⊢
      clear k0 k1 k2 k3 e0
      go_wp2
      exact ⟨⟨i + 1, _, _, rfl, rfl, hfin⟩, (by show n - ((i : Int) + 1).toNat < n - (i : Int).toNat; omega)⟩
    · go_wp2_with fail
      go_end0
      obtain ⟨h1, h2, h3, h4, h5⟩ := hs.out
      refine ⟨rfl, ?_, h5⟩
      rw [← revAt_done h3 (by have := HL0.out; omega)]
      exact h4
end Go.Proofs.YtafookdllnhdaaaDoor
