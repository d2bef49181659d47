/- Rows of texts in memory: made, copied, written. -/
import Derived.Test.YtdbghgpohdijfaaGreatDoorMa10
import Derived.Test.YtdbghgpohdijfaaGreatDoorMa3
import Derived.Laws.CopyOwn
import Derived.BigQuiet
import Derived.Deep.Cut
import Derived.WalkMore
import Derived.Test.YtdbghgpohdijfaaGreatDoorMa6
import Derived.ChangeMaps5
import Derived.SliceStrings
import Derived.ChangeSlices
import Derived.WideKeyArgs
import Derived.RangeFuncNested
import Derived.RangeFuncBound
import Derived.RangeFuncCalls
import Derived.RangeFuncLeaves
import Derived.Shelf.Abstract
import Derived.Shelf.RegionOpen
import Derived.WalkKit
import Derived.OwnWalkIn
import Derived.TacticsInMore
import Derived.LoopNIn
import Derived.LoopIn
namespace Go.Proofs.YtdbghgpohdijfaaGreatDoor
open Go.RowKit Go.Scr
set_option linter.unusedVariables false

/-- which of n things the raw number speaks of -/
def pickN (c : Int) (n : Nat) : Nat := (if c < 0 then -(c + 1) else c).toNat % n
theorem pickN_lt (c : Int) {n : Nat} (h : 0 < n) : pickN c n < n := Nat.mod_lt _ h

/-- numbers that can be read, in order -/
def Ints (w : World) (v : Value) (L : List Int) : Prop :=
  ∃ (p : Option Addr) (c : Nat), v = .slice p L.length c ∧ L.length ≤ c ∧ L.length ≤ 281474976710656 ∧ (∀ z ∈ L, -9223372036854775808 ≤ z ∧ z ≤ 9223372036854775807) ∧ ∀ j z, L[j]? = some z → ∃ a, p = some a ∧ w.cell? (a.add j) = some (.int .i64 z)
theorem txts_owned {w : World} {B T n g c : Nat} {L : List ByteArray} (h : w.ownsRow B T 1 (.slice (some ⟨g, 0, none⟩) n c) n (L.map Value.string)) (hn : n = L.length) (hc : L.length ≤ 281474976710656) : Txts w (.slice (some ⟨g, 0, none⟩) n c) L := by
  subst hn
  refine ⟨_, c, rfl, ?_, hc, fun j s hs => ⟨_, rfl, ?_⟩⟩
  · rcases h.2 with ⟨h0, _⟩ | ⟨g', cap, cur, h1, _, _, h2, _⟩
    · cases h0
    · simp only [Value.slice.injEq] at h1
      omega
  · have hadd : (⟨g, 0, none⟩ : Addr).add j = ⟨g, j, none⟩ := by unfold Addr.add; split <;> simp_all
    obtain ⟨hj, rfl⟩ := List.getElem?_eq_some_iff.mp hs
    rw [hadd, owns_cell h hj, List.getElem?_map, List.getElem?_eq_getElem hj]
    rfl
theorem cat_snoc (P : List ByteArray) (X : ByteArray) : cat (P ++ [X]) = cat P ++ X.data.toList := by simp [cat]
theorem info_str : (Tryz.prog.info? 9).map (fun i => (i.zero, i.size, i.bytes)) = some (some (.string ⟨#[]⟩), 1, 16) := by kernel_rfl
theorem str_one (P : List ByteArray) : ∀ u ∈ P.map Value.string, u.oneCell' = true := by
  intro u hu
  obtain ⟨x, _, rfl⟩ := List.mem_map.mp hu
  rfl

/-- a row of texts -/
def SRow (w : World) (g : Nat) (L : List ByteArray) : Prop := w.heap[g]? = some (.cells ((L.map Value.string).toArray) 9 (0, 0))
theorem SRow.cell {w : World} {g : Nat} {L : List ByteArray} (h : SRow w g L) {j : Nat} {s : ByteArray} (hs : L[j]? = some s) : w.cell? ⟨g, j, none⟩ = some (.string s) := by
  rw [cell_of_row w g j _ _ _ h]
  simp [hs]
theorem SRow.frozen {w : World} {g : Nat} {L : List ByteArray} (h : SRow w g L) (j : Nat) : w.frozen? ⟨g, j, none⟩ = false := by
  unfold World.frozen?
  unfold SRow at h
  simp [h]
theorem SRow.set {w : World} {g : Nat} {L : List ByteArray} (h : SRow w g L) (j : Nat) (s : ByteArray) : SRow (w.setCell ⟨g, j, none⟩ (.string s)) g (L.set j s) := by
  have := blk_set h j (.string s)
  unfold SRow
  rw [this]
  congr 2
  simp [List.map_set]
theorem SRow.below {w w' : World} {g B : Nat} {L : List ByteArray} (h : SRow w g L) (hb : Below B w w') (hg : g < B) : SRow w' g L := blk_below h hb hg
theorem SRow.lt {w : World} {g : Nat} {L : List ByteArray} (h : SRow w g L) : g < w.heap.size := row_lt h
theorem SRow.txts {w : World} {g : Nat} {L : List ByteArray} (h : SRow w g L) {n : Nat} (hn : n ≤ L.length) (hl : L.length ≤ 281474976710656) : Txts w (.slice (some ⟨g, 0, none⟩) n L.length) (L.take n) := by
  refine ⟨_, _, by rw [List.length_take, Nat.min_eq_left hn], by rw [List.length_take]; omega, by rw [List.length_take]; omega, fun j s hs => ⟨_, rfl, ?_⟩⟩
  have hadd : (⟨g, 0, none⟩ : Addr).add j = ⟨g, j, none⟩ := by unfold Addr.add; split <;> simp_all
  rw [hadd]
  obtain ⟨hj, he⟩ := List.getElem?_eq_some_iff.mp hs
  exact h.cell (by rw [List.getElem?_take] at hs; split at hs; exact hs; cases hs)
theorem madeCells_strs (c : Nat) : madeCells #[Value.string ⟨#[]⟩] c = (((List.replicate c (⟨#[]⟩ : ByteArray)).map Value.string)).toArray := by
  apply Array.ext'
  rw [toList_madeCells_one]
  simp
theorem make_strs (n : Nat) (hn : n ≤ 4194304) (w : World) :
    (Instr.makeSlice 22 (.int .i64 (n : Int)) (.int .i64 (n : Int))).run Tryz.prog w = .ok (.slice (some ⟨w.heap.size, 0, none⟩) n n) (w.alloc (.cells (Array.replicate n (Value.string ⟨#[]⟩)) 9)) := by
  obtain ⟨i, hi0, hz, hsi, hbi⟩ := info_parts info_str
  have h := run_make_rowN (P := Tryz.prog) 22 9 i (.string ⟨#[]⟩) Tryz.underlying22 hi0 hz .i64 .i64 n n (Nat.le_refl _) (by rw [hbi]; omega) (by omega) w
  rw [h, hsi, Nat.mul_one]
  have e : (Value.string ⟨#[]⟩ : Value).cells = #[Value.string ⟨#[]⟩] := rfl
  rw [e, madeCells_strs]
  simp
def behind : ByteArray := ⟨#[98, 101, 104, 105, 110, 100]⟩
def fill8 (L : List ByteArray) (k : Nat) : List ByteArray := L ++ (List.replicate k behind ++ List.replicate (8 - k) ⟨#[]⟩)
theorem fill8_set (L : List ByteArray) (k : Nat) (h : k < 8) : (fill8 L k).set (L.length + k) behind = fill8 L (k + 1) := by
  unfold fill8
  rw [List.set_append_right _ _ (by omega), Nat.add_sub_cancel_left, List.set_append_right _ _ (by simp), List.length_replicate, Nat.sub_self, show 8 - k = (8 - (k + 1)) + 1 by omega, List.replicate_succ, List.set_cons_zero, List.replicate_succ', List.append_assoc]
  rfl
theorem fill8_length (L : List ByteArray) (k : Nat) (h : k ≤ 8) : (fill8 L k).length = L.length + 8 := by
  unfold fill8
  simp
  omega
theorem fill8_take (L : List ByteArray) (k : Nat) : (fill8 L k).take L.length = L := by
  unfold fill8
  simp
theorem fill8_lo (L : List ByteArray) (i : Nat) (h : i < L.length) : (fill8 L 8)[i]? = L[i]? := by
  unfold fill8
  rw [List.getElem?_append_left h]
theorem fill8_hi (L : List ByteArray) (i : Nat) (h : L.length ≤ i) (h2 : i < L.length + 8) : (fill8 L 8)[i]? = some behind := by
  unfold fill8
  rw [List.getElem?_append_right h, List.getElem?_append_left (by simp; omega), List.getElem?_replicate, if_pos (by omega)]
theorem set_mid {α : Type} {M' M : List α} {k : Nat} (hk : M'.length = k) (hk2 : k < M.length) (y : α) : (M' ++ M.drop k).set k y = (M' ++ [y]) ++ M.drop (k + 1) := by
  subst hk
  rw [List.set_append_right _ _ (Nat.le_refl _), Nat.sub_self, List.drop_eq_getElem_cons hk2, List.set_cons_zero, List.append_assoc]
  rfl
theorem hsz_str : (Tryz.prog.info? 9).map (·.size) = some 1 := by kernel_rfl


theorem SRow.alloc {w : World} {g : Nat} {L : List ByteArray} (h : SRow w g L) (o : Obj) : SRow (w.alloc o) g L := blk_alloc h
theorem SRow.far {w : World} {g : Nat} {L : List ByteArray} (h : SRow w g L) {p : Addr} (hp : g ≠ p.block) (u : Value) : SRow (w.setCell p u) g L := blk_far h hp u
theorem SRow.tail {w : World} {g k : Nat} {L : List ByteArray} (h : SRow w g L) (hk : k ≤ L.length) (hl : L.length ≤ 281474976710656) (c : Nat) (hc : L.length - k ≤ c) : Txts w (.slice (some ⟨g, k, none⟩) (L.length - k) c) (L.drop k) := by
  refine ⟨_, _, by rw [List.length_drop], by rw [List.length_drop]; exact hc, by rw [List.length_drop]; omega, fun j s hs => ⟨_, rfl, ?_⟩⟩
  have hadd : (⟨g, k, none⟩ : Addr).add j = ⟨g, k + j, none⟩ := by unfold Addr.add; split <;> simp_all
  rw [hadd]
  exact h.cell (by rw [← hs, List.getElem?_drop])
/-- a box of a text; a box of a list -/
def BoxS (w : World) (g : Nat) (s : ByteArray) : Prop := w.heap[g]? = some (.cells #[.string s] 9 (0, 0))
theorem BoxS.c {w : World} {g : Nat} {s : ByteArray} (h : BoxS w g s) : w.cell? ⟨g, 0, none⟩ = some (.string s) := cell_of_one h
theorem BoxS.k {w : World} {g : Nat} {s : ByteArray} (h : BoxS w g s) : w.frozen? ⟨g, 0, none⟩ = false := free_of_one h
theorem BoxS.set {w : World} {g : Nat} {s : ByteArray} (h : BoxS w g s) (x : ByteArray) : BoxS (w.setCell ⟨g, 0, none⟩ (.string x)) g x := by
  have := blk_set h 0 (.string x)
  exact this
def BoxL (w : World) (g : Nat) (a : Option Addr) (n c : Nat) : Prop := w.heap[g]? = some (.cells #[.slice a n c] 22 (0, 0))
theorem BoxL.c {w : World} {g n c : Nat} {a : Option Addr} (h : BoxL w g a n c) : w.cell? ⟨g, 0, none⟩ = some (.slice a n c) := cell_of_one h
theorem BoxL.k {w : World} {g n c : Nat} {a : Option Addr} (h : BoxL w g a n c) : w.frozen? ⟨g, 0, none⟩ = false := free_of_one h
theorem BoxL.set {w : World} {g n c : Nat} {a : Option Addr} (h : BoxL w g a n c) (a' : Option Addr) (n' c' : Nat) : BoxL (w.setCell ⟨g, 0, none⟩ (.slice a' n' c')) g a' n' c' := by
  have := blk_set h 0 (.slice a' n' c')
  exact this
/-- what a copy wants to know of its source -/
theorem copy_src {w w5 : World} {B g n c : Nat} {p : Option Addr} {L : List ByteArray} (h : Txts w (.slice p n c) L) (hb : Below B w w5) (hB : w.heap.size ≤ B) :
    0 < (L.map Value.string).length → (some (⟨g, 0, none⟩ : Addr)) = some ⟨g, 0, none⟩ ∧ ∃ ad, p = some ad ∧ ∀ j v, (L.map Value.string)[j]? = some v → w5.cell? (ad.add j) = some v := by
  intro h0
  obtain ⟨q, c', he, h1, h2, h3⟩ := h
  cases he
  refine ⟨rfl, ?_⟩
  obtain ⟨s0, hs0⟩ : ∃ s0, L[0]? = some s0 := ⟨L[0]'(by simpa using h0), List.getElem?_eq_getElem _⟩
  obtain ⟨a0, rfl, _⟩ := h3 0 s0 hs0
  refine ⟨a0, rfl, fun j v hv => ?_⟩
  rw [List.getElem?_map] at hv
  cases hj : L[j]? with
  | none => rw [hj] at hv; cases hv
  | some s =>
    rw [hj] at hv
    simp only [Option.map_some, Option.some.injEq] at hv
    obtain ⟨a1, he, hc⟩ := h3 j s hj
    cases he
    rw [← hv]
    exact (hb.cell (Nat.lt_of_lt_of_le (block_lt_of_cell hc) hB)).trans hc
end Go.Proofs.YtdbghgpohdijfaaGreatDoor
/- Arguments of the digest laws: slices of numbers, of texts; what the bound on the bulk gives. -/
namespace Go.Proofs.YtdbghgpohdijfaaGreatDoor
open Go.ChangeShapes Go.WideShapes Go.ChangeAt Go.RowKit Go.Scr
set_option linter.unusedVariables false

theorem cat_mem {L : List ByteArray} {s : ByteArray} (h : s ∈ L) : s.size ≤ (cat L).length := by
  induction L with
  | nil => cases h
  | cons a L ih =>
    have hc : (cat (a :: L)).length = a.size + (cat L).length := by simp [cat]
    rcases List.mem_cons.mp h with rfl | h
    · omega
    · have := ih h; omega
theorem bulk_one {H : Type} (d : DataW H) : 1 ≤ Rows.uptoBulk d := by
  cases d with
  | lit l => cases l <;> simp [Rows.uptoBulk]
  | nil => simp [Rows.uptoBulk]
  | ptr d => simp [Rows.uptoBulk]
  | slice elems spare => simp [Rows.uptoBulk]
  | agg parts => simp [Rows.uptoBulk]
  | iface t d => simp [Rows.uptoBulk]
  | map entries => simp [Rows.uptoBulk]
  | held h => simp [Rows.uptoBulk]
theorem bulk_length {H : Type} (l : List (DataW H)) : l.length ≤ Rows.uptoBulkAll l := by
  induction l with
  | nil => simp [Rows.uptoBulkAll]
  | cons x r ih => have := bulk_one x; simp only [Rows.uptoBulkAll, List.length_cons]; omega
theorem bulk_elems {H : Type} (elems spare : List (DataW H)) : Rows.uptoBulkAll elems + 1 ≤ Rows.uptoBulk (.slice elems spare) := by
  simp only [Rows.uptoBulk]
  omega
theorem bulk_string {H : Type} (bytes : List UInt8) : Rows.uptoBulk (DataW.lit (H := H) (.string bytes)) = bytes.length + 1 := by simp [Rows.uptoBulk]
theorem bulk_str_size {H : Type} (s : ByteArray) : Rows.uptoBulk (DataW.lit (H := H) (.string s.data.toList)) = s.size + 1 := by
  rw [bulk_string]
  simp
theorem bulk_bound {H : Type} {l : List (DataW H)} (hk : Rows.uptoSmall H l = true) : Rows.uptoBulkAll l ≤ 1048576 := by simpa [Rows.uptoSmall] using hk
theorem bulk_strs {H : Type} (L : List ByteArray) : Rows.uptoBulkAll (strs (H := H) L) = (cat L).length + L.length := by
  induction L with
  | nil => rfl
  | cons s L ih =>
    have e : strs (H := H) (s :: L) = .lit (.string s.data.toList) :: strs L := rfl
    rw [e, Rows.uptoBulkAll, ih, bulk_string]
    simp [cat]
    omega

section
variable {H : Type} {enc : TypeId × Value → H} {P : Program} {W : World} {base b0 : Nat} {sp : Nat → Bool} {held : Bool}
theorem arg_ints {t e : TypeId} {v : Value} {d : DataW H} {ps : List MemPlace} (ht : P.underlying t = some (.slice e)) (he : P.underlying e = some (.int .i64)) (hc : P.cellsOf e = 1)
    (hval : Value.okWide P W .any b0 t v) (h : DataW.Trod enc P W base sp held t v d ps) (hb : Rows.uptoBulk d ≤ 1048576) : ∃ L, Ints W v L ∧ L.length ≤ Rows.uptoBulk d := by
  obtain ⟨p0, n0, c0, rfl⟩ := okWide_slice ht hval
  obtain ⟨fuel, hf⟩ := h
  rcases open_ints ht he hc hf with ⟨hcs, hx⟩ | ⟨a, len, cap, zs, hcs, _, hl, hm, hz, hx, hcell, hw⟩
  · simp [Value.cells] at hcs
    obtain ⟨rfl, rfl, rfl⟩ := hcs
    exact ⟨[], ⟨none, 0, rfl, Nat.le_refl _, by simp, by simp, fun j z h => by simp at h⟩, by simp⟩
  · simp [Value.cells] at hcs
    obtain ⟨rfl, rfl, rfl⟩ := hcs
    simp only [Prod.mk.injEq] at hx
    have hlen : n0 ≤ zs.length := by rw [hz]; split <;> omega
    have hb2 : n0 ≤ Rows.uptoBulk d := by
      rw [hx.1]
      have h1 := bulk_elems (lits (H := H) .i64 (zs.take n0)) (lits .i64 (zs.drop n0))
      have h2 := bulk_length (lits (H := H) .i64 (zs.take n0))
      have h3 : (lits (H := H) .i64 (zs.take n0)).length = n0 := by simp [lits]; omega
      omega
    have hl2 : (zs.take n0).length = n0 := by rw [List.length_take]; omega
    refine ⟨zs.take n0, ⟨some a, c0, by rw [hl2], by omega, by omega, fun z hz => ?_, fun j z hj => ?_⟩, by omega⟩
    · have := hw z (List.mem_of_mem_take hz)
      simp only [Lit.wf, Bool.and_eq_true, decide_eq_true_eq] at this
      exact ⟨this.1, this.2⟩
    · obtain ⟨hj1, rfl⟩ := List.getElem?_eq_some_iff.mp hj
      refine ⟨a, rfl, ?_⟩
      rw [hcell j (by omega), List.getElem_take, List.getD_eq_getElem?_getD, List.getElem?_eq_getElem (by omega)]
      rfl
theorem arg_strs {t e : TypeId} {v : Value} {d : DataW H} {ps : List MemPlace} (ht : P.underlying t = some (.slice e)) (he : P.underlying e = some .string) (hc : P.cellsOf e = 1)
    (hval : Value.okWide P W .any b0 t v) (h : DataW.Trod enc P W base sp held t v d ps) (hb : Rows.uptoBulk d ≤ 1048576) : ∃ L, Txts W v L ∧ L.length + (cat L).length ≤ Rows.uptoBulk d := by
  obtain ⟨p0, n0, c0, rfl⟩ := okWide_slice ht hval
  obtain ⟨fuel, hf⟩ := h
  rcases open_strings ht he hc hf with ⟨hcs, hx⟩ | ⟨a, len, cap, zs, hcs, _, hl, hm, hz, hx, hcell, hw⟩
  · simp [Value.cells] at hcs
    obtain ⟨rfl, rfl, rfl⟩ := hcs
    exact ⟨[], ⟨none, 0, rfl, Nat.le_refl _, by simp, fun j z h => by simp at h⟩, by simp [cat]⟩
  · simp [Value.cells] at hcs
    obtain ⟨rfl, rfl, rfl⟩ := hcs
    simp only [Prod.mk.injEq] at hx
    have hlen : n0 ≤ zs.length := by rw [hz]; split <;> omega
    have hl2 : (zs.take n0).length = n0 := by rw [List.length_take]; omega
    have hb2 : n0 + (cat (zs.take n0)).length ≤ Rows.uptoBulk d := by
      rw [hx.1]
      have h1 := bulk_elems (strs (H := H) (zs.take n0)) (strs (zs.drop n0))
      rw [bulk_strs] at h1
      omega
    refine ⟨zs.take n0, ⟨some a, c0, by rw [hl2], by omega, by omega, fun j z hj => ?_⟩, by omega⟩
    obtain ⟨hj1, rfl⟩ := List.getElem?_eq_some_iff.mp hj
    refine ⟨a, rfl, ?_⟩
    rw [hcell j (by omega), List.getElem_take, List.getD_eq_getElem?_getD, List.getElem?_eq_getElem (by omega)]
    rfl
end
end Go.Proofs.YtdbghgpohdijfaaGreatDoor
/- A range over a function whose iterator keeps some variables of its own in cells (its first k new blocks). -/
namespace Go.Scr
open Go.RowKit Go.Shelf
set_option linter.unusedVariables false

/-- nothing has turned but some blocks; there may be new ones -/
structure Chg (Q : Nat → Prop) (a c : World) : Prop where
  os : c.os = a.os
  tape : c.tape = a.tape
  output : c.output = a.output
  size : a.heap.size ≤ c.heap.size
  same : ∀ i, i < a.heap.size → ¬ Q i → c.heap[i]? = a.heap[i]?
theorem Chg.refl (Q : Nat → Prop) (a : World) : Chg Q a a := ⟨rfl, rfl, rfl, Nat.le_refl _, fun _ _ _ => rfl⟩
theorem Chg.trans {Q : Nat → Prop} {a b c : World} (h : Chg Q a b) (g : Chg Q b c) : Chg Q a c :=
  ⟨g.os.trans h.os, g.tape.trans h.tape, g.output.trans h.output, Nat.le_trans h.size g.size, fun i hi hq => (g.same i (Nat.lt_of_lt_of_le hi h.size) hq).trans (h.same i hi hq)⟩
theorem Chg.mono {Q Q' : Nat → Prop} {a c : World} (h : Chg Q a c) (hq : ∀ i, Q i → Q' i) : Chg Q' a c := ⟨h.os, h.tape, h.output, h.size, fun i hi hn => h.same i hi (fun e => hn (hq i e))⟩
theorem Chg.put (Q : Nat → Prop) (a : World) {l : Nat} (o : Obj) (hl : Q l) : Chg Q a (a.putObj l o) :=
  ⟨rfl, rfl, rfl, by simp, fun i hi hn => World.putObj_heap_other (fun e => hn (by rw [e]; exact hl))⟩
theorem Chg.alloc (Q : Nat → Prop) (a : World) (o : Obj) : Chg Q a (a.alloc o) := ⟨rfl, rfl, rfl, by simp, fun i hi _ => Below.heap_alloc a o i hi⟩
theorem Chg.of_below {Q : Nat → Prop} {a c : World} (h : Below a.heap.size a c) : Chg Q a c := ⟨h.os, h.tape, h.output, h.size, fun i hi _ => h.block i hi⟩
/-- what a round keeps -/
structure Kq (K : Nat → Prop) (a c : World) : Prop where
  size : a.heap.size ≤ c.heap.size
  same : ∀ i, i < a.heap.size → K i → c.heap[i]? = a.heap[i]?
theorem Kq.refl (K : Nat → Prop) (a : World) : Kq K a a := ⟨Nat.le_refl _, fun _ _ _ => rfl⟩
theorem Kq.trans {K : Nat → Prop} {a b c : World} (h : Kq K a b) (g : Kq K b c) : Kq K a c := ⟨Nat.le_trans h.size g.size, fun i hi hk => (g.same i (Nat.lt_of_lt_of_le hi h.size) hk).trans (h.same i hi hk)⟩
theorem Kq.of_chg {K Q : Nat → Prop} {a c : World} (h : Chg Q a c) (hd : ∀ i, K i → ¬ Q i) : Kq K a c := ⟨h.size, fun i hi hk => h.same i hi (hd i hk)⟩
/-- an iterator: its calls of yield hand on what S says; its own variables are the blocks from B on to B + k; it reads, besides, the blocks that cap names -/
def SeqQ {α : Type} (F : Fence) (n : Nat) (P : Program) (g : Nat) (lb : Array Value) (encs : α → Array Value) (k : Nat) (S Sp : List α → Prop) (Ok : List α → α → Prop) (cap : Nat → Prop) (W : World) : Prop :=
  ∀ (l : Nat) (J Jx : List α → World → Prop), (∀ s a c, J s a → Chg (fun i => W.heap.size ≤ i ∧ i < W.heap.size + k) a c → J s c) → (∀ s a c, Jx s a → Chg (fun i => W.heap.size ≤ i ∧ i < W.heap.size + k) a c → Jx s c) →
    (∀ pre x W1, J pre W1 → W.heap.size + k ≤ W1.heap.size → Ok pre x → YieldAt F (n - 1) P l (encs x) W1 fun e W' =>
      ((e = .returned (.bool true) ∧ J (pre ++ [x]) W') ∨ (e = .returned (.bool false) ∧ Jx (pre ++ [x]) W')) ∧ Kq (fun i => (W.heap.size ≤ i ∧ i < W.heap.size + k) ∨ cap i) W1 W') →
    J [] W →
    CallsIn F n P g (#[.func (.yield l) #[] #[]] ++ lb) W fun e W' => (∃ v, e = .returned v) ∧ ((∃ xs, S xs ∧ J xs W') ∨ (∃ pre, Sp pre ∧ Jx pre W'))
/-- how a round's body may be left -/
def rndPost {α : Type} (K : Nat → Prop) (I : List α → World → Prop) (Ix : Code → List α → World → Prop) (xs : List α) (W : World) : Exit → Act → World → Prop
  | .normal, _, W' => Kq K W W' ∧ I xs W'
  | .ret, _, W' => Kq K W W' ∧ Ix .ret xs W'
  | .exit id, _, W' => Kq K W W' ∧ Ix (.exit id) xs W'
  | .goto t, _, W' => Kq K W W' ∧ Ix (.goto t) xs W'
  | .panic _, _, _ => False
  | .outgrown, _, _ => False
theorem wpIn_rangeQ {α : Type} {F : Fence} {n : Nat} {P : Program} {g : Operand} {ps : Array Tmp} {assign body : Code} {Q : Exit → Act → World → Prop} {a : Act} {w : World}
    (hro : F.round = none) (h1 : 1 ≤ n) {gf : Nat} {lb : Array Value} (hg : a.eval g = .func (.func gf) #[] lb) (hFg : F.fn gf) (eg : ∀ args w, (callFunc gf args).run P w = .ok (.enter gf args) w)
    {encs : α → Array Value} {k : Nat} {S Sp : List α → Prop} {Ok : List α → α → Prop} {cap : Nat → Prop} (hcap : ∀ i, cap i → i < w.heap.size)
    (hseq : ∀ W, Below w.heap.size w W → W.heap.size = w.heap.size + 2 → SeqQ F (n - 1) P gf lb encs k S Sp Ok cap W) (hps : ∀ x, (encs x).size = ps.size)
    (I : List α → World → Prop) (Ix : Code → List α → World → Prop) (hI : ∀ s a c, I s a → Chg (fun i => w.heap.size ≤ i ∧ i < w.heap.size + 2 + k) a c → I s c) (hIx : ∀ j s a c, Ix j s a → Chg (fun i => w.heap.size ≤ i ∧ i < w.heap.size + 2 + k) a c → Ix j s c) (h0 : I [] w)
    (hround : ∀ (l : Nat) (pre : List α) (x : α) (W : World), I pre W → w.heap.size + 2 + k ≤ W.heap.size → Ok pre x →
      assign.wpIn (F.inRound l) (n - 1 - 1) P (Exit.then (fun a₁ w₁ => Kq (fun i => (w.heap.size ≤ i ∧ i < w.heap.size + 2 + k) ∨ cap i) W w₁ ∧
          ∀ w₂, Chg (fun i => i = w.heap.size + 1) w₁ w₂ → w₂.heap.size = w₁.heap.size → body.wpIn (F.inRound l) (n - 1 - 1) P (rndPost (fun i => (w.heap.size ≤ i ∧ i < w.heap.size + 2 + k) ∨ cap i) I Ix (pre ++ [x]) w₂) a₁ w₂) (fun _ _ _ => False))
        { tmps := (ps.zip (encs x)).foldl (fun t (p, v) => t.setIfInBounds p v) a.tmps, defers := [] } W)
    (hdone : ∀ (D : Nat) (xs : List α) (W : World), D = w.heap.size → S xs → I xs W → W.heap[D]? = some (.deferred (some [])) → Q .normal { a with defers := { target := .collected D, args := #[] } :: a.defers } W)
    (hstop : ∀ (D : Nat) (c : Code) (pre : List α) (W : World), D = w.heap.size → Sp pre → Ix c pre W → W.heap[D]? = some (.deferred (some [])) → c.wpIn F n P Q { a with defers := { target := .collected D, args := #[] } :: a.defers } W) :
    (Code.rangeFunc g ps assign body).wpIn F n P Q a w := by
  refine wpIn_rangeFunc fun fn hfn => ?_
  rw [hro]
  obtain ⟨D, hD⟩ : ∃ D, D = w.heap.size := ⟨_, rfl⟩
  obtain ⟨mk, hmk⟩ : ∃ mk : LoopState → Option Code → Loop, mk = fun st pe => { state := st, pending := pe, fn, tmps := a.tmps, params := ps, assign, body, defers := w.heap.size } := ⟨_, rfl⟩
  obtain ⟨W1, hW1⟩ : ∃ W1, W1 = (w.alloc (.deferred (some []))).alloc (.loop (mk .ready none)) := ⟨_, rfl⟩
  have hsz : W1.heap.size = D + 2 := by rw [hW1, hD]; simp
  have hbel : Below w.heap.size w W1 := by rw [hW1]; exact ((Below.refl _ _).alloc (Nat.le_refl _) _).alloc (by simp) _
  have hL1 : W1.heap[D + 1]? = some (.loop (mk .ready none)) := by
    have := World.alloc_heap_new (w.alloc (.deferred (some []))) (.loop (mk .ready none))
    rw [World.size_alloc] at this
    rw [hW1, hD]
    exact this
  have hK1 : W1.heap[D]? = some (.deferred (some [])) := by
    rw [hW1, hD]
    exact (Below.heap_alloc _ _ _ (by simp)).trans (World.alloc_heap_new w _)
  have hI1 : I [] W1 := hI _ _ _ h0 (Chg.of_below hbel)
  rw [← hD] at hI hIx hround hdone hstop
  -- the two records lie apart from the iterator's own blocks
  have hqD : ∀ {i : Nat}, (D + 2 ≤ i ∧ i < D + 2 + k) → (D ≤ i ∧ i < D + 2 + k) := fun h => ⟨by omega, h.2⟩
  have keepL : ∀ {A C : World} {o o' : Obj}, A.heap[D + 1]? = some o → A.heap[D]? = some o' → Chg (fun i => D + 2 ≤ i ∧ i < D + 2 + k) A C → C.heap[D + 1]? = some o ∧ C.heap[D]? = some o' := fun hl hk hc =>
    ⟨(hc.same _ (Array.getElem?_eq_some_iff.1 hl).1 (by omega)).trans hl, (hc.same _ (Array.getElem?_eq_some_iff.1 hk).1 (by omega)).trans hk⟩
  refine ⟨D + 1, [{ target := .collected D, args := #[] }], W1, { target := .fn (.func gf) lb, args := #[.func (.yield (D + 1)) #[] #[]] }, W1, gf, #[.func (.yield (D + 1)) #[] #[]] ++ lb, W1, ?_, ?_, ?_, ?_, fun _ => h1, ?_⟩
  · rw [hW1, hmk, hD]; exact run_enterLoop_outer _ _ _ _ _
  · simp only [resolve, hg]
    simp [go_sem]
  · intro f' hf'; simp [Target.leads] at hf'; subst hf'; exact hFg
  · simp [invoke, go_sem, eg]
  · have hs := hseq W1 hbel (by rw [hsz, hD])
    unfold SeqQ at hs
    rw [hsz] at hs
    refine (hs (D + 1) (fun pre W => I pre W ∧ W.heap[D + 1]? = some (.loop (mk .ready none)) ∧ W.heap[D]? = some (.deferred (some [])))
      (fun pre W => ∃ c, Ix c pre W ∧ W.heap[D + 1]? = some (.loop (mk .done (some c))) ∧ W.heap[D]? = some (.deferred (some [])))
      (fun s A C h hc => ⟨hI _ _ _ h.1 (hc.mono fun i => hqD), keepL h.2.1 h.2.2 hc⟩)
      (fun s A C h hc => by
        obtain ⟨c, h1, h2, h3⟩ := h
        exact ⟨c, hIx _ _ _ _ h1 (hc.mono fun i => hqD), keepL h2 h3 hc⟩) ?_ ⟨hI1, hL1, hK1⟩).mono ?_
    · rintro pre x W ⟨hi, hl, hk⟩ hsW hlen
      have hy := run_yield (P := P) (args := encs x) hl (by rw [hmk]; exact hps x)
      rw [hmk] at hy
      refine ⟨fn, _, assign, body, hy, roundIn_of_wpIn hfn (wpIn_mono (hround _ pre x W hi hsW hlen) ?_)⟩
      clear hy
      intro e a1 w1 he
      cases e with
      | normal =>
        obtain ⟨hk1, hb1⟩ := he
        have hl1 : w1.heap[D + 1]? = some (.loop (mk .ready none)) := (hk1.same _ (Array.getElem?_eq_some_iff.1 hl).1 (.inl (by omega))).trans hl
        have hd1 : w1.heap[D]? = some (.deferred (some [])) := (hk1.same _ (Array.getElem?_eq_some_iff.1 hk).1 (.inl (by omega))).trans hk
        have hlt1 : D + 1 < w1.heap.size := (Array.getElem?_eq_some_iff.1 hl1).1
        refine ⟨_, run_beginRound hl1 (by rw [hmk]), ?_⟩
        obtain ⟨w2, hw2⟩ : ∃ w2, w2 = w1.putObj (D + 1) (.loop { mk .ready none with state := .busy }) := ⟨_, rfl⟩
        rw [← hw2]
        have hc2 : Chg (fun i => i = D + 1) w1 w2 := by rw [hw2]; exact Chg.put _ _ _ rfl
        have hl2 : w2.heap[D + 1]? = some (.loop { mk .ready none with state := .busy }) := by rw [hw2]; exact World.putObj_heap_same hlt1
        have hd2 : w2.heap[D]? = some (.deferred (some [])) := (hc2.same _ (by omega) (by omega)).trans hd1
        refine wpIn_mono (hb1 w2 hc2 (by rw [hw2]; simp)) ?_
        -- the round's end
        have fin : ∀ (j : Option Code) (w3 : World), Kq (fun i => (D ≤ i ∧ i < D + 2 + k) ∨ cap i) w2 w3 → ∃ w4, (Instr.endRound (D + 1) j).run P w3 = .ok (.bool j.isNone) w4 ∧ Chg (fun i => i = D + 1) w3 w4 ∧
            w4.heap[D + 1]? = some (.loop (mk (if j.isNone then .ready else .done) j)) ∧ w4.heap[D]? = some (.deferred (some [])) ∧ Kq (fun i => (D + 2 ≤ i ∧ i < D + 2 + k) ∨ cap i) W w4 := by
          intro j w3 h3
          have hl3 : w3.heap[D + 1]? = some (.loop { mk .ready none with state := .busy }) := (h3.same _ (Array.getElem?_eq_some_iff.1 hl2).1 (.inl (by omega))).trans hl2
          have hd3 : w3.heap[D]? = some (.deferred (some [])) := (h3.same _ (Array.getElem?_eq_some_iff.1 hd2).1 (.inl (by omega))).trans hd2
          have hr := run_endRound (P := P) j hl3
          refine ⟨_, hr, Chg.put _ _ _ rfl, ?_, ?_, ?_⟩
          · rw [World.putObj_heap_same (Array.getElem?_eq_some_iff.1 hl3).1, hmk]
          · exact (World.putObj_heap_other (by omega)).trans hd3
          · have e1 : Kq (fun i => (D + 2 ≤ i ∧ i < D + 2 + k) ∨ cap i) W w1 := ⟨hk1.size, fun i hi hK => hk1.same i hi (hK.imp hqD id)⟩
            have e2 : Kq (fun i => (D + 2 ≤ i ∧ i < D + 2 + k) ∨ cap i) w1 w2 := Kq.of_chg hc2 (fun i hK e => by
              rcases hK with hK | hK
              · omega
              · have := hcap i hK; omega)
            have e3 : Kq (fun i => (D + 2 ≤ i ∧ i < D + 2 + k) ∨ cap i) w2 w3 := ⟨h3.size, fun i hi hK => h3.same i hi (hK.imp hqD id)⟩
            refine ((e1.trans e2).trans e3).trans (Kq.of_chg (Chg.put (fun i => i = D + 1) _ _ rfl) (fun i hK e => ?_))
            rcases hK with hK | hK
            · omega
            · have := hcap i hK; omega
        have one : ∀ {A C : World}, Chg (fun i => i = D + 1) A C → Chg (fun i => D ≤ i ∧ i < D + 2 + k) A C := fun h => h.mono fun i e => by omega
        rintro e a3 w3 hp
        cases e with
        | normal =>
          obtain ⟨h3, hi3⟩ := hp
          obtain ⟨w4, r4, c4, l4, d4, k4⟩ := fin none w3 h3
          exact ⟨_, _, r4, .inl ⟨rfl, hI _ _ _ hi3 (one c4), l4, d4⟩, k4⟩
        | ret =>
          obtain ⟨h3, hi3⟩ := hp
          obtain ⟨w4, r4, c4, l4, d4, k4⟩ := fin (some .ret) w3 h3
          exact ⟨_, _, r4, .inr ⟨rfl, .ret, hIx _ _ _ _ hi3 (one c4), l4, d4⟩, k4⟩
        | exit id =>
          obtain ⟨h3, hi3⟩ := hp
          obtain ⟨w4, r4, c4, l4, d4, k4⟩ := fin (some (.exit id)) w3 h3
          exact ⟨_, _, r4, .inr ⟨rfl, .exit id, hIx _ _ _ _ hi3 (one c4), l4, d4⟩, k4⟩
        | goto t =>
          obtain ⟨h3, hi3⟩ := hp
          obtain ⟨w4, r4, c4, l4, d4, k4⟩ := fin (some (.goto t)) w3 h3
          exact ⟨_, _, r4, .inr ⟨rfl, .goto t, hIx _ _ _ _ hi3 (one c4), l4, d4⟩, k4⟩
        | panic ch => exact hp.elim
        | outgrown => exact hp.elim
      | _ => exact he.elim
    · rintro e W2 ⟨⟨v, rfl⟩, (⟨xs, hS, hi, hl, hk⟩ | ⟨pre, hSp, c, hi, hl, hk⟩)⟩
      · have hr := run_endLoop (P := P) hl (by rw [hmk]; simp)
        rw [hmk] at hr
        exact ⟨none, _, hr, hdone _ xs _ rfl hS (hI _ _ _ hi (Chg.put _ _ _ ⟨by omega, by omega⟩)) ((World.putObj_heap_other (by omega)).trans hk)⟩
      · have hr := run_endLoop (P := P) hl (by rw [hmk]; simp)
        rw [hmk] at hr
        exact ⟨some c, _, hr, hstop _ c pre _ rfl hSp (hIx _ _ _ _ hi (Chg.put _ _ _ ⟨by omega, by omega⟩)) ((World.putObj_heap_other (by omega)).trans hk)⟩
end Go.Scr
