/- Rows of texts in memory: made, copied, written. -/
import Derived.Test.YtafookdllnhdaaaDoorMa11
import Derived.Test.YtafookdllnhdaaaDoorMa4
import Derived.Laws.CopyOwn
import Derived.BigQuiet
import Derived.Deep.Cut
import Derived.WalkMore
namespace Go.Proofs.YtafookdllnhdaaaDoor
open Go.RowKit Go.Scr
set_option linter.unusedVariables false

/-- which of n things the raw number speaks of -/
def pickN (c : Int) (n : Nat) : Nat := (if c < 0 then -(c + 1) else c).toNat % n
theorem pickN_lt (c : Int) {n : Nat} (h : 0 < n) : pickN c n < n := Nat.mod_lt _ h

/-- numbers that can be read, in order -/
def Ints (w : World) (v : Value) (L : List Int) : Prop :=
  ∃ (p : Option Addr) (c : Nat), v = .slice p L.length c ∧ L.length ≤ c ∧ L.length ≤ 281474976710656 ∧ (∀ z ∈ L, -9223372036854775808 ≤ z ∧ z ≤ 9223372036854775807) ∧ ∀ j z, L[j]? = some z → ∃ a, p = some a ∧ w.cell? (a.add j) = some (.int .i64 z)
theorem txts_owned {w : World} {B T n g c : Nat} {L : List ByteArray} (h : w.ownsRow B T 1 (.slice (some ⟨g, 0, none⟩) n c) n (L.map Value.string)) (hn : n = L.length) (hc : L.length ≤ 281474976710656) : Txts w (.slice (some ⟨g, 0, none⟩) n c) L := by
  subst hn
  refine ⟨_, c, rfl, ?_, hc, fun j s hs => ⟨_, rfl, ?_⟩⟩
  · rcases h.2 with ⟨h0, _⟩ | ⟨g', cap, cur, h1, _, _, h2, _⟩
    · cases h0
    · simp only [Value.slice.injEq] at h1
      omega
  · have hadd : (⟨g, 0, none⟩ : Addr).add j = ⟨g, j, none⟩ := by unfold Addr.add; split <;> simp_all
    obtain ⟨hj, rfl⟩ := List.getElem?_eq_some_iff.mp hs
    rw [hadd, owns_cell h hj, List.getElem?_map, List.getElem?_eq_getElem hj]
    rfl
theorem cat_snoc (P : List ByteArray) (X : ByteArray) : cat (P ++ [X]) = cat P ++ X.data.toList := by simp [cat]
theorem info_str : (Tryd.prog.info? 9).map (fun i => (i.zero, i.size, i.bytes)) = some (some (.string ⟨#[]⟩), 1, 16) := by kernel_rfl
theorem str_one (P : List ByteArray) : ∀ u ∈ P.map Value.string, u.oneCell' = true := by
  intro u hu
  obtain ⟨x, _, rfl⟩ := List.mem_map.mp hu
  rfl

/-- a row of texts -/
def SRow (w : World) (g : Nat) (L : List ByteArray) : Prop := w.heap[g]? = some (.cells ((L.map Value.string).toArray) 9 (0, 0))
theorem SRow.cell {w : World} {g : Nat} {L : List ByteArray} (h : SRow w g L) {j : Nat} {s : ByteArray} (hs : L[j]? = some s) : w.cell? ⟨g, j, none⟩ = some (.string s) := by
  rw [cell_of_row w g j _ _ _ h]
  simp [hs]
theorem SRow.frozen {w : World} {g : Nat} {L : List ByteArray} (h : SRow w g L) (j : Nat) : w.frozen? ⟨g, j, none⟩ = false := by
  unfold World.frozen?
  unfold SRow at h
  simp [h]
theorem SRow.set {w : World} {g : Nat} {L : List ByteArray} (h : SRow w g L) (j : Nat) (s : ByteArray) : SRow (w.setCell ⟨g, j, none⟩ (.string s)) g (L.set j s) := by
  have := blk_set h j (.string s)
  unfold SRow
  rw [this]
  congr 2
  simp [List.map_set]
theorem SRow.below {w w' : World} {g B : Nat} {L : List ByteArray} (h : SRow w g L) (hb : Below B w w') (hg : g < B) : SRow w' g L := blk_below h hb hg
theorem SRow.lt {w : World} {g : Nat} {L : List ByteArray} (h : SRow w g L) : g < w.heap.size := row_lt h
theorem SRow.txts {w : World} {g : Nat} {L : List ByteArray} (h : SRow w g L) {n : Nat} (hn : n ≤ L.length) (hl : L.length ≤ 281474976710656) : Txts w (.slice (some ⟨g, 0, none⟩) n L.length) (L.take n) := by
  refine ⟨_, _, by rw [List.length_take, Nat.min_eq_left hn], by rw [List.length_take]; omega, by rw [List.length_take]; omega, fun j s hs => ⟨_, rfl, ?_⟩⟩
  have hadd : (⟨g, 0, none⟩ : Addr).add j = ⟨g, j, none⟩ := by unfold Addr.add; split <;> simp_all
  rw [hadd]
  obtain ⟨hj, he⟩ := List.getElem?_eq_some_iff.mp hs
  exact h.cell (by rw [List.getElem?_take] at hs; split at hs; exact hs; cases hs)
theorem madeCells_strs (c : Nat) : madeCells #[Value.string ⟨#[]⟩] c = (((List.replicate c (⟨#[]⟩ : ByteArray)).map Value.string)).toArray := by
  apply Array.ext'
  rw [toList_madeCells_one]
  simp
theorem make_strs (n : Nat) (hn : n ≤ 4194304) (w : World) :
    (Instr.makeSlice 52 (.int .i64 (n : Int)) (.int .i64 (n : Int))).run Tryd.prog w = .ok (.slice (some ⟨w.heap.size, 0, none⟩) n n) (w.alloc (.cells (Array.replicate n (Value.string ⟨#[]⟩)) 9)) := by
  obtain ⟨i, hi0, hz, hsi, hbi⟩ := info_parts info_str
  have h := run_make_rowN (P := Tryd.prog) 52 9 i (.string ⟨#[]⟩) Tryd.underlying52 hi0 hz .i64 .i64 n n (Nat.le_refl _) (by rw [hbi]; omega) (by omega) w
  rw [h, hsi, Nat.mul_one]
  have e : (Value.string ⟨#[]⟩ : Value).cells = #[Value.string ⟨#[]⟩] := rfl
  rw [e, madeCells_strs]
  simp
def behind : ByteArray := ⟨#[98, 101, 104, 105, 110, 100]⟩
def fill8 (L : List ByteArray) (k : Nat) : List ByteArray := L ++ (List.replicate k behind ++ List.replicate (8 - k) ⟨#[]⟩)
theorem fill8_set (L : List ByteArray) (k : Nat) (h : k < 8) : (fill8 L k).set (L.length + k) behind = fill8 L (k + 1) := by
  unfold fill8
  rw [List.set_append_right _ _ (by omega), Nat.add_sub_cancel_left, List.set_append_right _ _ (by simp), List.length_replicate, Nat.sub_self, show 8 - k = (8 - (k + 1)) + 1 by omega, List.replicate_succ, List.set_cons_zero, List.replicate_succ', List.append_assoc]
  rfl
theorem fill8_length (L : List ByteArray) (k : Nat) (h : k ≤ 8) : (fill8 L k).length = L.length + 8 := by
  unfold fill8
  simp
  omega
theorem fill8_take (L : List ByteArray) (k : Nat) : (fill8 L k).take L.length = L := by
  unfold fill8
  simp
theorem fill8_lo (L : List ByteArray) (i : Nat) (h : i < L.length) : (fill8 L 8)[i]? = L[i]? := by
  unfold fill8
  rw [List.getElem?_append_left h]
theorem fill8_hi (L : List ByteArray) (i : Nat) (h : L.length ≤ i) (h2 : i < L.length + 8) : (fill8 L 8)[i]? = some behind := by
  unfold fill8
  rw [List.getElem?_append_right h, List.getElem?_append_left (by simp; omega), List.getElem?_replicate, if_pos (by omega)]
theorem set_mid {α : Type} {M' M : List α} {k : Nat} (hk : M'.length = k) (hk2 : k < M.length) (y : α) : (M' ++ M.drop k).set k y = (M' ++ [y]) ++ M.drop (k + 1) := by
  subst hk
  rw [List.set_append_right _ _ (Nat.le_refl _), Nat.sub_self, List.drop_eq_getElem_cons hk2, List.set_cons_zero, List.append_assoc]
  rfl
theorem hsz_str : (Tryd.prog.info? 9).map (·.size) = some 1 := by kernel_rfl


theorem SRow.alloc {w : World} {g : Nat} {L : List ByteArray} (h : SRow w g L) (o : Obj) : SRow (w.alloc o) g L := blk_alloc h
theorem SRow.far {w : World} {g : Nat} {L : List ByteArray} (h : SRow w g L) {p : Addr} (hp : g ≠ p.block) (u : Value) : SRow (w.setCell p u) g L := blk_far h hp u
theorem SRow.tail {w : World} {g k : Nat} {L : List ByteArray} (h : SRow w g L) (hk : k ≤ L.length) (hl : L.length ≤ 281474976710656) (c : Nat) (hc : L.length - k ≤ c) : Txts w (.slice (some ⟨g, k, none⟩) (L.length - k) c) (L.drop k) := by
  refine ⟨_, _, by rw [List.length_drop], by rw [List.length_drop]; exact hc, by rw [List.length_drop]; omega, fun j s hs => ⟨_, rfl, ?_⟩⟩
  have hadd : (⟨g, k, none⟩ : Addr).add j = ⟨g, k + j, none⟩ := by unfold Addr.add; split <;> simp_all
  rw [hadd]
  exact h.cell (by rw [← hs, List.getElem?_drop])
/-- a box of a text; a box of a list -/
def BoxS (w : World) (g : Nat) (s : ByteArray) : Prop := w.heap[g]? = some (.cells #[.string s] 9 (0, 0))
theorem BoxS.c {w : World} {g : Nat} {s : ByteArray} (h : BoxS w g s) : w.cell? ⟨g, 0, none⟩ = some (.string s) := cell_of_one h
theorem BoxS.k {w : World} {g : Nat} {s : ByteArray} (h : BoxS w g s) : w.frozen? ⟨g, 0, none⟩ = false := free_of_one h
theorem BoxS.set {w : World} {g : Nat} {s : ByteArray} (h : BoxS w g s) (x : ByteArray) : BoxS (w.setCell ⟨g, 0, none⟩ (.string x)) g x := by
  have := blk_set h 0 (.string x)
  exact this
def BoxL (w : World) (g : Nat) (a : Option Addr) (n c : Nat) : Prop := w.heap[g]? = some (.cells #[.slice a n c] 52 (0, 0))
theorem BoxL.c {w : World} {g n c : Nat} {a : Option Addr} (h : BoxL w g a n c) : w.cell? ⟨g, 0, none⟩ = some (.slice a n c) := cell_of_one h
theorem BoxL.k {w : World} {g n c : Nat} {a : Option Addr} (h : BoxL w g a n c) : w.frozen? ⟨g, 0, none⟩ = false := free_of_one h
theorem BoxL.set {w : World} {g n c : Nat} {a : Option Addr} (h : BoxL w g a n c) (a' : Option Addr) (n' c' : Nat) : BoxL (w.setCell ⟨g, 0, none⟩ (.slice a' n' c')) g a' n' c' := by
  have := blk_set h 0 (.slice a' n' c')
  exact this
/-- what a copy wants to know of its source -/
theorem copy_src {w w5 : World} {B g n c : Nat} {p : Option Addr} {L : List ByteArray} (h : Txts w (.slice p n c) L) (hb : Below B w w5) (hB : w.heap.size ≤ B) :
    0 < (L.map Value.string).length → (some (⟨g, 0, none⟩ : Addr)) = some ⟨g, 0, none⟩ ∧ ∃ ad, p = some ad ∧ ∀ j v, (L.map Value.string)[j]? = some v → w5.cell? (ad.add j) = some v := by
  intro h0
  obtain ⟨q, c', he, h1, h2, h3⟩ := h
  cases he
  refine ⟨rfl, ?_⟩
  obtain ⟨s0, hs0⟩ : ∃ s0, L[0]? = some s0 := ⟨L[0]'(by simpa using h0), List.getElem?_eq_getElem _⟩
  obtain ⟨a0, rfl, _⟩ := h3 0 s0 hs0
  refine ⟨a0, rfl, fun j v hv => ?_⟩
  rw [List.getElem?_map] at hv
  cases hj : L[j]? with
  | none => rw [hj] at hv; cases hv
  | some s =>
    rw [hj] at hv
    simp only [Option.map_some, Option.some.injEq] at hv
    obtain ⟨a1, he, hc⟩ := h3 j s hj
    cases he
    rw [← hv]
    exact (hb.cell (Nat.lt_of_lt_of_le (block_lt_of_cell hc) hB)).trans hc
end Go.Proofs.YtafookdllnhdaaaDoor
