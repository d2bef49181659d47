/- Rows of spans of any numbers: made, copied, written; a copy of any width of element, and what it leaves. -/
import Derived.Test.YteknpnanmbfhfaaDoorMa31
import Derived.Test.YteknpnanmbfhfaaDoorMa12
import Derived.Laws.CopyOwn
namespace Go.Scr
open Go.RowKit
set_option linter.unusedVariables false
theorem run_copy_rowN {P : Program} (w : World) (dT sT ty elem : TypeId) (sz g dLen dCap : Nat) (a : Addr) (sLen sCap : Nat) (cur : Array Value) (t : TypeId) (cs : List Value)
    (hu : P.underlying dT = some (.slice elem)) (hs : (P.info? elem).map (·.size) = some sz)
    (hg : w.heap[g]? = some (.cells cur t (0, 0))) (hn : cs.length = Nat.min sLen dLen * sz)
    (hsrc : ∀ j v, cs[j]? = some v → w.cell? (a.add j) = some v) (hfit : cs.length ≤ cur.size) (h1 : ∀ v ∈ cs, v.oneCell' = true) :
    (Builtin.copy_ #[dT, sT] ty #[.slice (some ⟨g, 0, none⟩) dLen dCap, .slice (some a) sLen sCap]).run P w =
      .ok (goInt (Nat.min sLen dLen)) (w.setRow g (cs ++ cur.toList.drop cs.length).toArray) := by
  have hl := run_loadCells_list (P := P) w a cs hsrc
  have hst := run_storeCells_at P g 0 t cs 0 cur w hg (by simpa using hfit) h1
  cases hq : P.info? elem with
  | none => simp [hq] at hs
  | some i =>
    have hi : i.size = sz := by simpa [hq] using hs
    rw [hn] at hl
    simp [Builtin.copy_, run_underlying hu, Builtin.lenOf, Builtin.firstCells, sizeOf, typeInfo, hq, hi, hl, hst]
theorem run_copy_noneN {P : Program} (w : World) (dT sT ty elem : TypeId) (sz : Nat) (d a : Option Addr) (dLen dCap sLen sCap : Nat) (hu : P.underlying dT = some (.slice elem)) (hs : (P.info? elem).map (·.size) = some sz) (hn : Nat.min sLen dLen = 0) :
    (Builtin.copy_ #[dT, sT] ty #[.slice d dLen dCap, .slice a sLen sCap]).run P w = .ok (goInt 0) w := by
  cases hq : P.info? elem with
  | none => simp [hq] at hs
  | some i =>
    have hl : ∀ (x : Addr), (loadCells x 0).run P w = .ok #[] w := fun x => by simpa using run_loadCells_list (P := P) w x [] (by simp)
    cases d <;> cases a <;> simp [Builtin.copy_, run_underlying hu, Builtin.lenOf, Builtin.firstCells, sizeOf, typeInfo, hq, hn, storeCells, hl]
theorem wpList_copyN {P : Program} {w : World} {ops : Array Oper} {rest : List Oper} {o : Oper} {a : Act} {Q : Exit → Act → World → Prop} (hgd : o.guard = none) (d s : Operand) (dT sT : TypeId)
    (ho : o.op = .call { callee := .builtin .copy, args := #[d, s], argTypes := #[dT, sT] }) (elem : TypeId) (hu : P.underlying dT = some (.slice elem)) (sz : Nat) (hsz : (P.info? elem).map (·.size) = some sz) (hsz0 : 0 < sz)
    (dp sp : Option Addr) (dLen dCap sLen sCap : Nat) (hd : a.eval d = .slice dp dLen dCap) (hs : a.eval s = .slice sp sLen sCap)
    (g k : Nat) (hk : k = Nat.min sLen dLen) (cur : List Value) (t : TypeId) (hg : w.heap[g]? = some (.cells cur.toArray t (0, 0))) (cs : List Value) (hn : cs.length = k * sz)
    (hpos : 0 < cs.length → dp = some ⟨g, 0, none⟩ ∧ ∃ ad, sp = some ad ∧ ∀ j v, cs[j]? = some v → w.cell? (ad.add j) = some v)
    (hfit : cs.length ≤ cur.length) (h1 : ∀ v ∈ cs, v.oneCell' = true)
    (h : ∀ w', w'.heap[g]? = some (.cells (cs ++ cur.drop cs.length).toArray t (0, 0)) → w.grownBy w' (some g) → w'.heap.size = w.heap.size → wpList P ops Q rest (a.put o.dst (goInt k)) w') :
    wpList P ops Q (o :: rest) a w := by
  subst hk
  by_cases h0 : cs.length = 0
  · obtain rfl : cs = [] := List.eq_nil_of_length_eq_zero h0
    have hmin : Nat.min sLen dLen = 0 := by
      rcases Nat.eq_zero_or_pos (Nat.min sLen dLen) with e | e
      · exact e
      · have := Nat.mul_pos e hsz0; simp at hn; omega
    refine wpList_plain hgd fun K hK => ?_
    have hrun := run_copy_noneN (P := P) w dT sT o.type elem sz dp sp dLen dCap sLen sCap hu hsz hmin
    have h2 := h w (by simpa using hg) ⟨rfl, rfl, rfl, Nat.le_refl _, fun _ _ _ => rfl⟩ rfl
    rw [hmin] at h2
    unfold Oper.wp
    simp [execOp, ho, resolve, invoke, builtin, hd, hs, hrun, Result.andThen]
    exact hK _ _ h2
  · obtain ⟨rfl, ad, rfl, hsrc⟩ := hpos (by omega)
    refine wpList_plain hgd fun K hK => ?_
    have hrun := run_copy_rowN (P := P) w dT sT o.type elem sz g dLen dCap ad sLen sCap cur.toArray t cs hu hsz hg hn hsrc (by simpa using hfit) h1
    have h2 := h (w.setRow g (cs ++ cur.toArray.toList.drop cs.length).toArray) (setRow_heap w g _ _ t _ hg) ⟨rfl, rfl, rfl, by simp [World.setRow], fun i _ hne => setRow_other w g i _ (fun e => hne (by rw [e]))⟩ (by simp [World.setRow])
    unfold Oper.wp
    simp [execOp, ho, resolve, invoke, builtin, hd, hs, hrun, Result.andThen]
    exact hK _ _ h2
def zV (x : Int × Int) : List Value := [.int .i64 x.1, .int .i64 x.2]
def zprs (L : List (Int × Int)) : List Value := (L.map zV).flatten
theorem zprs_cons (x : Int × Int) (L : List (Int × Int)) : zprs (x :: L) = .int .i64 x.1 :: .int .i64 x.2 :: zprs L := by simp [zprs, zV]
theorem zprs_append (A B : List (Int × Int)) : zprs (A ++ B) = zprs A ++ zprs B := by simp [zprs]
theorem zprs_length (L : List (Int × Int)) : (zprs L).length = L.length * 2 := by
  induction L with
  | nil => rfl
  | cons x L ih => rw [zprs_cons]; simp only [List.length_cons, ih]; omega
theorem zprs_get {L : List (Int × Int)} : ∀ {j : Nat} {x : Int × Int}, L[j]? = some x → (zprs L)[j * 2]? = some (.int .i64 x.1) ∧ (zprs L)[j * 2 + 1]? = some (.int .i64 x.2) := by
  induction L with
  | nil => intro j x h; cases h
  | cons y L ih =>
    intro j x h
    rw [zprs_cons]
    cases j with
    | zero => cases h; exact ⟨rfl, rfl⟩
    | succ j =>
      have h := ih (show L[j]? = some x from h)
      rw [show (j + 1) * 2 = j * 2 + 1 + 1 by omega]
      exact h
theorem zprs_of {L : List (Int × Int)} {k : Nat} {v : Value} (h : (zprs L)[k]? = some v) : ∃ j x, L[j]? = some x ∧ ((k = j * 2 ∧ v = .int .i64 x.1) ∨ (k = j * 2 + 1 ∧ v = .int .i64 x.2)) := by
  have hk := (List.getElem?_eq_some_iff.mp h).1
  rw [zprs_length] at hk
  obtain ⟨x, hx⟩ : ∃ x, L[k / 2]? = some x := ⟨L[k / 2]'(by omega), List.getElem?_eq_getElem _⟩
  have hg := zprs_get hx
  refine ⟨k / 2, x, hx, ?_⟩
  rcases (by omega : k = k / 2 * 2 ∨ k = k / 2 * 2 + 1) with e | e
  · rw [← e, h] at hg; exact .inl ⟨e, Option.some.inj hg.1⟩
  · rw [← e, h] at hg; exact .inr ⟨e, Option.some.inj hg.2⟩
theorem zprs_one (L : List (Int × Int)) : ∀ u ∈ zprs L, u.oneCell' = true := by
  intro u hu
  obtain ⟨k, hk⟩ := List.getElem?_of_mem hu
  obtain ⟨j, x, _, h | h⟩ := zprs_of hk
  · rw [h.2]; rfl
  · rw [h.2]; rfl
theorem zprs_set {L : List (Int × Int)} : ∀ {j : Nat} {x : Int × Int} (v : Int), L[j]? = some x → (zprs L).set (j * 2) (.int .i64 v) = zprs (L.set j (v, x.2)) := by
  induction L with
  | nil => intro j x v h; cases h
  | cons y L ih =>
    intro j x v h
    rw [zprs_cons]
    cases j with
    | zero => cases h; show Value.int IntKind.i64 v :: Value.int IntKind.i64 y.2 :: zprs L = zprs ((v, y.2) :: L); rw [zprs_cons]
    | succ j =>
      have h := ih v (show L[j]? = some x from h)
      rw [show (j + 1) * 2 = j * 2 + 1 + 1 by omega, List.set_cons_succ, List.set_cons_succ, List.set_cons_succ, zprs_cons, h]
theorem zprs_zeros (n : Nat) : zprs (List.replicate n (0, 0)) = List.replicate (n * 2) (.int .i64 0) := by
  induction n with
  | zero => rfl
  | succ n ih => rw [List.replicate_succ, zprs_cons, ih, show (n + 1) * 2 = n * 2 + 1 + 1 by omega, List.replicate_succ, List.replicate_succ]
theorem made_zeros (n : Nat) : madeCells #[.int .i64 0, .int .i64 0] (n * 2) = (zprs (List.replicate n (0, 0))).toArray := by
  rw [zprs_zeros]
  apply Array.ext'
  refine List.eq_replicate_iff.2 ⟨by simp [madeCells], fun b hb => ?_⟩
  unfold madeCells at hb
  simp only [Array.toList_map, List.mem_map] at hb
  obtain ⟨k, _, rfl⟩ := hb
  show #[Value.int .i64 0, Value.int .i64 0][k % 2]! = _
  rcases Nat.mod_two_eq_zero_or_one k with e | e <;> rw [e] <;> rfl
end Go.Scr
namespace Go.Proofs.YteknpnanmbfhfaaDoor
open Go.RowKit Go.Scr Go.Shelf
set_option linter.unusedVariables false
theorem hsz_span : (Tryd.prog.info? 29).map (·.size) = some 2 := by kernel_rfl
/-- a row of spans -/
def ZRow (w : World) (g : Nat) (L : List (Int × Int)) : Prop := w.heap[g]? = some (.cells (zprs L).toArray 29 (0, 0))
theorem ZRow.lt {w : World} {g : Nat} {L : List (Int × Int)} (h : ZRow w g L) : g < w.heap.size := row_lt h
theorem ZRow.keep {w w' : World} {g : Nat} {L : List (Int × Int)} (h : ZRow w g L) (e : w'.heap[g]? = w.heap[g]?) : ZRow w' g L := e.trans h
theorem ZRow.at {w : World} {g j : Nat} {L : List (Int × Int)} {x : Int × Int} (h : ZRow w g L) (hx : L[j]? = some x) : w.cell? ⟨g, j * 2, none⟩ = some (.int .i64 x.1) ∧ w.cell? ⟨g, j * 2 + 1, none⟩ = some (.int .i64 x.2) := by
  have hg := zprs_get hx
  rw [cell_of_row w g _ _ _ _ h, cell_of_row w g _ _ _ _ h]
  simpa using hg
theorem ZRow.free {w : World} {g : Nat} {L : List (Int × Int)} (h : ZRow w g L) (j : Nat) : w.frozen? ⟨g, j, none⟩ = false := by
  unfold World.frozen?
  unfold ZRow at h
  simp [h]
theorem ZRow.set {w : World} {g j : Nat} {L : List (Int × Int)} {x : Int × Int} (h : ZRow w g L) (hx : L[j]? = some x) (v : Int) : ZRow (w.setCell ⟨g, j * 2, none⟩ (.int .i64 v)) g (L.set j (v, x.2)) := by
  have := blk_set h (j * 2) (.int .i64 v)
  unfold ZRow
  rw [this, ← zprs_set v hx]
  simp
theorem ZRow.far {w : World} {g : Nat} {L : List (Int × Int)} (h : ZRow w g L) {p : Addr} (hp : g ≠ p.block) (u : Value) : ZRow (w.setCell p u) g L := blk_far h hp u
theorem ZRow.spz {w : World} {g n c : Nat} {L : List (Int × Int)} (h : ZRow w g L) (hn : n ≤ L.length) (hc : n ≤ c) (hl : n ≤ 281474976710656) (hb : ∀ x ∈ L.take n, -9223372036854775808 ≤ x.1 ∧ x.1 ≤ 9223372036854775807 ∧ -9223372036854775808 ≤ x.2 ∧ x.2 ≤ 9223372036854775807) : SpZ w (.slice (some ⟨g, 0, none⟩) n c) (L.take n) := by
  have hlen : (L.take n).length = n := by rw [List.length_take]; omega
  refine ⟨some ⟨g, 0, none⟩, c, by rw [hlen], by rw [hlen]; exact hc, by rw [hlen]; exact hl, hb, fun j x hx => ⟨g, 0, rfl, ?_⟩⟩
  have hx2 : L[j]? = some x := by
    rw [List.getElem?_take] at hx
    split at hx
    · exact hx
    · cases hx
  rw [Nat.zero_add]
  exact h.at hx2
theorem make_spans (n : Nat) (hn : n ≤ 4194304) (w : World) :
    (Instr.makeSlice 31 (.int .i64 (n : Int)) (.int .i64 (n : Int))).run Tryd.prog w = .ok (.slice (some ⟨w.heap.size, 0, none⟩) n n) (w.alloc (.cells (zprs (List.replicate n (0, 0))).toArray 29)) := by
  obtain ⟨i, hi0, hz, hsi, hbi⟩ := info_parts info_spanP
  have h := run_make_rowN (P := Tryd.prog) 31 29 i (.agg #[.int .i64 0, .int .i64 0]) Tryd.underlying31 hi0 hz .i64 .i64 n n (Nat.le_refl _) (by rw [hbi]; omega) (by omega) w
  rw [h, hsi]
  have e : (Value.agg #[.int .i64 0, .int .i64 0] : Value).cells = #[.int .i64 0, .int .i64 0] := by rfl
  rw [e, made_zeros]
/-- what a copy wants to know of its source -/
theorem copy_srcZ {w w5 : World} {B g n c : Nat} {p : Option Addr} {S : List (Int × Int)} (h : SpZ w (.slice p n c) S) (hb : Below B w w5) (hB : w.heap.size ≤ B) :
    0 < (zprs S).length → (some (⟨g, 0, none⟩ : Addr)) = some ⟨g, 0, none⟩ ∧ ∃ ad, p = some ad ∧ ∀ j v, (zprs S)[j]? = some v → w5.cell? (ad.add j) = some v := by
  intro h0
  obtain ⟨q, c', he, h1, h2, h3, h4⟩ := h
  cases he
  refine ⟨rfl, ?_⟩
  rw [zprs_length] at h0
  obtain ⟨s0, hs0⟩ : ∃ s0, S[0]? = some s0 := ⟨S[0]'(by omega), List.getElem?_eq_getElem _⟩
  obtain ⟨g0, o0, rfl, _⟩ := h4 0 s0 hs0
  refine ⟨_, rfl, fun j v hv => ?_⟩
  obtain ⟨i, x, hx, hkv⟩ := zprs_of hv
  obtain ⟨g1, o1, he, c0, c1⟩ := h4 i x hx
  cases he
  have hadd : ∀ k, (⟨g0, o0, none⟩ : Addr).add k = ⟨g0, o0 + k, none⟩ := fun k => by unfold Addr.add; split <;> simp_all
  rw [hadd]
  rcases hkv with ⟨rfl, rfl⟩ | ⟨rfl, rfl⟩
  · exact (hb.cell (Nat.lt_of_lt_of_le (block_lt_of_cell c0) hB)).trans c0
  · rw [← Nat.add_assoc]; exact (hb.cell (Nat.lt_of_lt_of_le (block_lt_of_cell c1) hB)).trans c1
/-- a lent list: eight behind it, of which k are marked -/
def fillZ (L : List (Int × Int)) (k : Nat) : List (Int × Int) := L ++ (List.replicate k (77, 0) ++ List.replicate (8 - k) (0, 0))
theorem fillZ_length (L : List (Int × Int)) (k : Nat) (h : k ≤ 8) : (fillZ L k).length = L.length + 8 := by
  unfold fillZ
  simp
  omega
theorem fillZ_take (L : List (Int × Int)) (k : Nat) : (fillZ L k).take L.length = L := by unfold fillZ; simp
theorem fillZ_at (L : List (Int × Int)) (k : Nat) (h : k < 8) : (fillZ L k)[L.length + k]? = some (0, 0) := by
  unfold fillZ
  rw [List.getElem?_append_right (by omega), Nat.add_sub_cancel_left, List.getElem?_append_right (by simp), List.length_replicate, Nat.sub_self, List.getElem?_replicate, if_pos (by omega)]
theorem fillZ_set (L : List (Int × Int)) (k : Nat) (h : k < 8) : (fillZ L k).set (L.length + k) (77, 0) = fillZ L (k + 1) := by
  unfold fillZ
  rw [List.set_append_right _ _ (by omega), Nat.add_sub_cancel_left, List.set_append_right _ _ (by simp), List.length_replicate, Nat.sub_self, show 8 - k = (8 - (k + 1)) + 1 by omega, List.replicate_succ, List.set_cons_zero, List.replicate_succ', List.append_assoc]
  rfl
theorem fillZ_lo (L : List (Int × Int)) (i : Nat) (h : i < L.length) : (fillZ L 8)[i]? = L[i]? := by
  unfold fillZ
  rw [List.getElem?_append_left h]
theorem fillZ_hi (L : List (Int × Int)) (i : Nat) (h : L.length ≤ i) (h2 : i < L.length + 8) : (fillZ L 8)[i]? = some (77, 0) := by
  unfold fillZ
  rw [List.getElem?_append_right h, List.getElem?_append_left (by simp; omega), List.getElem?_replicate, if_pos (by omega)]
theorem fillZ_laid (L : List (Int × Int)) : zprs L ++ (zprs (List.replicate (L.length + 8) (0, 0))).drop (zprs L).length = zprs (fillZ L 0) := by
  rw [zprs_zeros, zprs_length, List.drop_replicate]
  unfold fillZ
  rw [zprs_append, List.replicate_zero, List.nil_append, zprs_zeros]
  congr 2
  omega
theorem fill8_laid (L : List ByteArray) : L.map Value.string ++ ((List.replicate (L.length + 8) (⟨#[]⟩ : ByteArray)).map Value.string).drop (L.map Value.string).length = (fill8 L 0).map Value.string := by
  unfold fill8
  rw [List.map_append, ← List.map_drop, List.length_map, List.drop_replicate, List.replicate_zero, List.nil_append]
  congr 3
  omega
theorem fill8_relaid (L M : List ByteArray) (h : L.length = M.length) : M.map Value.string ++ ((fill8 L 8).map Value.string).drop (M.map Value.string).length = (fill8 M 8).map Value.string := by
  unfold fill8
  rw [List.map_append, List.map_append (l₁ := M), List.length_map, ← h]
  congr 1
  have := List.drop_left (l₁ := L.map Value.string) (l₂ := (List.replicate 8 behind ++ List.replicate (8 - 8) (⟨#[]⟩ : ByteArray)).map Value.string)
  rwa [List.length_map] at this
end Go.Proofs.YteknpnanmbfhfaaDoor
/- Law 8, walked: folds. -/
namespace Go.Proofs.YteknpnanmbfhfaaDoor
open Go.RowKit Go.Scr Go.Shelf
set_option linter.unusedVariables false
structure FdA (w : World) (g1 b0 : Nat) (lo hi : Int) (P1 : List (Int × Int)) (wr : World) : Prop where
  r1 : ZRow wr g1 P1
  c0 : wr.cell? ⟨b0, 0, none⟩ = some (.int .i64 lo)
  c1 : wr.cell? ⟨b0, 1, none⟩ = some (.int .i64 hi)
  bel : Below w.heap.size w wr
theorem FdA.keep {w wr w' : World} {g1 b0 : Nat} {lo hi : Int} {P1 : List (Int × Int)} (h : FdA w g1 b0 lo hi P1 wr) (hb : Below wr.heap.size wr w') : FdA w g1 b0 lo hi P1 w' :=
  ⟨h.r1.keep (hb.block _ h.r1.lt), (World.cell?_of_block (hb.block b0 (block_lt_of_cell h.c0))).trans h.c0, (World.cell?_of_block (hb.block b0 (block_lt_of_cell h.c0))).trans h.c1, below_onS h.bel hb h.bel.size⟩
theorem FdA.drewN {w wr : World} {g1 b0 : Nat} {lo hi : Int} {P1 : List (Int × Int)} (h : FdA w g1 b0 lo hi P1 wr) (k : Nat) : FdA w g1 b0 lo hi P1 (wr.drewN k) := ⟨h.r1, h.c0, h.c1, below_drewN h.bel k⟩
theorem FdA.set {w wr : World} {g1 b0 j : Nat} {lo hi : Int} {P1 : List (Int × Int)} {x : Int × Int} (h : FdA w g1 b0 lo hi P1 wr) (hx : P1[j]? = some x) (v : Int) (hw : w.heap.size ≤ g1) (hne : g1 ≠ b0) : FdA w g1 b0 lo hi (P1.set j (v, x.2)) (wr.setCell ⟨g1, j * 2, none⟩ (.int .i64 v)) := by
  have e : (wr.setCell ⟨g1, j * 2, none⟩ (.int .i64 v)).heap[b0]? = wr.heap[b0]? := Below.heap_setCell _ _ _ _ (fun e => hne e.symm)
  exact ⟨h.r1.set hx v, (World.cell?_of_block e).trans h.c0, (World.cell?_of_block e).trans h.c1, h.bel.setCell (p := ⟨g1, j * 2, none⟩) hw _⟩
theorem FdA.far {w wr : World} {g1 b0 : Nat} {lo hi : Int} {P1 : List (Int × Int)} (h : FdA w g1 b0 lo hi P1 wr) {p : Addr} (h1 : g1 ≠ p.block) (h2 : b0 ≠ p.block) (hw : w.heap.size ≤ p.block) (u : Value) : FdA w g1 b0 lo hi P1 (wr.setCell p u) := by
  have e : (wr.setCell p u).heap[b0]? = wr.heap[b0]? := Below.heap_setCell _ _ _ _ h2
  exact ⟨h.r1.far h1 u, (World.cell?_of_block e).trans h.c0, (World.cell?_of_block e).trans h.c1, h.bel.setCell hw _⟩
theorem FdA.grown {w wr w' : World} {g1 g b0 : Nat} {lo hi : Int} {P1 : List (Int × Int)} (h : FdA w g1 b0 lo hi P1 wr) (hg : wr.grownBy w' (some g)) (h1 : g1 ≠ g) (h2 : b0 ≠ g) (hw : w.heap.size ≤ g) : FdA w g1 b0 lo hi P1 w' := by
  have e := hg.block b0 (block_lt_of_cell h.c0) (fun e => h2 (Option.some.inj e))
  exact ⟨h.r1.keep (hg.block g1 h.r1.lt (fun e => h1 (Option.some.inj e))), (World.cell?_of_block e).trans h.c0, (World.cell?_of_block e).trans h.c1, h.bel.grown hg h.bel.size (fun k hk => by cases hk; exact hw)⟩
/-- a list of texts that grows -/
structure OtI (A wr : World) (i : Nat) (H : List ByteArray) (v : Value) : Prop where
  hd : Held wr 9 1 v i (((H.take i).map hashS).map Value.string)
  ow : ∀ g, v.ownBlock = some g → A.heap.size ≤ g
  bel : Below A.heap.size A wr
theorem OtI.push {A wr w2 w5 : World} {i : Nat} {H : List ByteArray} {v v5 : Value} {o : Obj} {s : ByteArray} (h : OtI A wr i H v) (hs : H[i]? = some s) (hb : Below wr.heap.size wr w2) (g : Grew 9 1 (w2.alloc o) v i 1 (((H.take i).map hashS).map Value.string) [.string (hashS s)] v5 w5) : OtI A w5 (i + 1) H v5 := by
  have hgr := grown_alloc g.grown
  have hat := grew_own g
  have h2 := below_onS h.bel hb h.bel.size
  obtain ⟨hi, rfl⟩ := List.getElem?_eq_some_iff.mp hs
  refine ⟨?_, ?_, h2.grown hgr h2.size h.ow⟩
  · rw [List.take_succ_eq_append_getElem hi, List.map_append, List.map_append]
    exact g.held
  · intro q hq
    rcases hat q hq with h3 | h3
    · exact h.ow q h3
    · have := h2.size; omega
theorem held_txts8 {w : World} {T n : Nat} {v : Value} {L : List ByteArray} (h : Held w T 1 v n (L.map Value.string)) (hl : L.length ≤ 4194304) : n = L.length ∧ Txts w v L := by
  obtain ⟨p, c, rfl, h1, h2, h3⟩ := h.cells
  have hn : n = L.length := by have := h.1; rw [List.length_map] at this; omega
  refine ⟨hn, p, c, by rw [hn], by omega, by omega, fun j s hs => ?_⟩
  obtain ⟨a, ha, _, hc⟩ := h3 j (.string s) (by rw [List.getElem?_map, hs]; rfl)
  exact ⟨a, ha, hc⟩
set_option maxRecDepth 100000 in
set_option maxHeartbeats 8000000 in
theorem folds8_any (N lo hi : Int) (vs vh : Value) (S : List (Int × Int)) (H : List ByteArray) (w : World) (hs : SpZ w vs S) (hh : Txts w vh H) (ht : Tabs w) (hSl : S.length ≤ 1048576) (hHl : H.length ≤ 1048576) (hsz : ∀ s ∈ H, s.size ≤ 1048576) :
    Calls Tryd.prog 28 #[.int .i64 N, vs, vh, .agg #[.int .i64 lo, .int .i64 hi]] w fun r w' => r = .returned (.bool true) ∧ Below w.heap.size w w' := by
  obtain ⟨b0, hb0⟩ : ∃ x, x = w.heap.size := ⟨_, rfl⟩
  obtain ⟨g1, hg1⟩ : ∃ x, x = b0 + 1 := ⟨_, rfl⟩
  obtain ⟨g2, hg2⟩ : ∃ x, x = b0 + 2 := ⟨_, rfl⟩
  obtain ⟨w1, hw1⟩ : ∃ x, x = w.alloc (.cells #[.int .i64 lo, .int .i64 hi] 29) := ⟨_, rfl⟩
  have hbel : Below w.heap.size w w1 := by rw [hw1]; exact (Below.refl _ _).alloc (Nat.le_refl _) _
  have r0 : w1.heap[b0]? = some (.cells #[.int .i64 lo, .int .i64 hi] 29 (0, 0)) := by rw [hw1, hb0]; exact heap_alloc_new w _
  have hs1 : w1.heap.size = g1 := by rw [hw1, hg1, hb0]; simp
  obtain ⟨p, c, rfl, s1, s2, s3, s4⟩ := id hs
  obtain ⟨q, cq, rfl, t1, t2, t3⟩ := id hh
  have HTAKE : Hid (∀ w', ZRow w' g1 (fillZ S 8) → SpZ w' (.slice (some ⟨g1, 0, none⟩) S.length (S.length + 8)) S) := Lib.hid (fun w' h => by
    have hf := fillZ_length S 8 (Nat.le_refl _)
    have := h.spz (n := S.length) (c := S.length + 8) (by omega) (by omega) (by omega) (by rw [fillZ_take]; exact s3)
    rwa [fillZ_take] at this)
  have HTX : Hid (∀ w' (L : List ByteArray), L.length = H.length → SRow w' g2 (fill8 L 8) → Txts w' (.slice (some ⟨g2, 0, none⟩) H.length (H.length + 8)) L) := Lib.hid (fun w' L hL h => by
    have hf := fill8_length L 8 (Nat.le_refl _)
    have := h.txts (n := L.length) (by omega) (by omega)
    rwa [fill8_take, hf, hL] at this)
  obtain ⟨n, hn⟩ : ∃ n, n = S.length := ⟨_, rfl⟩
  obtain ⟨m, hm⟩ : ∃ m, m = H.length := ⟨_, rfl⟩
  obtain ⟨N8, hN8⟩ : ∃ x, x = n + 8 := ⟨_, rfl⟩
  obtain ⟨M8, hM8⟩ : ∃ x, x = m + 8 := ⟨_, rfl⟩
  have HST : Hid (∀ w2, Below w.heap.size w w2 → SpZ w2 (.slice p S.length c) S ∧ Txts w2 (.slice q H.length cq) H ∧ Tabs w2) := Lib.hid (fun w2 h => ⟨hs.below h (Nat.le_refl _), hh.below h (Nat.le_refl _), ht.below h⟩)
  have HSZ := Lib.hid hsz
  have HMK1 := Lib.hid (make_spans N8 (by omega))
  have HMK2 := Lib.hid (make_strs M8 (by omega))
  have HLAID := Lib.hid (fillZ_laid S)
  have HLAID2 := Lib.hid (fill8_laid H)
  rw [← hn] at HTAKE HST HLAID
  rw [← hm] at HTX HST HLAID2
  rw [← hN8] at HTAKE HLAID
  rw [← hM8] at HTX HLAID2
  have HN : Hid (n = S.length ∧ m = H.length ∧ N8 = n + 8 ∧ M8 = m + 8) := Lib.hid ⟨hn, hm, hN8, hM8⟩
  have HG : Hid (b0 = w.heap.size ∧ g1 = b0 + 1 ∧ g2 = b0 + 2) := Lib.hid ⟨hb0, hg1, hg2⟩
  have HA1 : Hid (Below w.heap.size w w1 ∧ w1.heap[b0]? = some (.cells #[.int .i64 lo, .int .i64 hi] 29 (0, 0)) ∧ w1.heap.size = g1) := Lib.hid ⟨hbel, r0, hs1⟩
  have HW := Lib.hid hw1
  rw [← hn] at s1 s2 hSl
  rw [← hm] at t1 t2 hHl
  rw [← hn, ← hm]
  have hn8 : (n : Int) + 8 = (N8 : Int) := by omega
  have hm8 : (m : Int) + 8 = (M8 : Int) := by omega
  have hN8b : N8 ≤ 1048584 := by omega
  have hM8b : M8 ≤ 1048584 := by omega
  have hnN : (n : Int) ≤ (N8 : Int) := by omega
  have hmM : (m : Int) ≤ (M8 : Int) := by omega
  have hnN2 : n ≤ N8 := by omega
  have hmM2 : m ≤ M8 := by omega
  clear hs hh ht hsz hw1 hb0 hg1 hg2 hbel r0 hs1 s3 s4 t3 hn hm hN8 hM8
  have hmk := HMK1.out w1
  go_enter Tryd.func28, Tryd.ntmps28
  go_upto_region 1 with fail
  rw [← HW.out, ← HG.out.1]
  go_upto_region 3 with fail
  rw [HA1.out.2.2]
  obtain ⟨w2, hw2⟩ : ∃ x, x = w1.alloc (.cells (zprs (List.replicate N8 (0, 0))).toArray 29) := ⟨_, rfl⟩
  rw [← hw2]
  have hb2 : Below w1.heap.size w1 w2 := by rw [hw2]; exact (Below.refl _ _).alloc (Nat.le_refl _) _
  have hz2 : ZRow w2 g1 (List.replicate N8 (0, 0)) := by rw [hw2, ← HA1.out.2.2]; exact heap_alloc_new w1 _
  have hs2 : w2.heap.size = g2 := by rw [hw2]; have := HA1.out.2.2; have := HG.out; simp; omega
  have hA2 : FdA w g1 b0 lo hi (List.replicate N8 (0, 0)) w2 := by
    have e : w2.heap[b0]? = some (.cells #[.int .i64 lo, .int .i64 hi] 29 (0, 0)) := (hb2.block b0 (by have := HA1.out.2.2; have := HG.out; omega)).trans HA1.out.2.1
    exact ⟨hz2, cell_of_row _ _ _ _ _ _ e, cell_of_row _ _ _ _ _ _ e, below_onS HA1.out.1 hb2 HA1.out.1.size⟩
  have HA2 := Lib.hid hA2
  have HS2 := Lib.hid hs2
  have HSRC := Lib.hid (copy_srcZ (g := g1) (w5 := w2) (HST.out w2 hA2.bel).1 (Below.refl _ _) (Nat.le_refl _))
  have HCN : Hid ((zprs S).length = n * 2 ∧ n = Nat.min n N8 ∧ (zprs S).length ≤ (zprs (List.replicate N8 (0, 0))).length) := Lib.hid (by
    have := HN.out
    refine ⟨by rw [zprs_length]; omega, (Nat.min_eq_left (by omega)).symm, ?_⟩
    rw [zprs_length, zprs_length, List.length_replicate]
    omega)
  have HONEZ := Lib.hid (zprs_one S)
  clear hmk hw2 hb2 hz2 hA2 hs2
  go_upto_region 4 with ((with_reducible refine wpList_copyN (o := ⟨some 35, _, _, _, _, _⟩) rfl (.tmp 33) (.tmp 34) 31 31 rfl 29 Tryd.underlying31 2 hsz_span (by decide) (some ⟨g1, 0, none⟩) p N8 N8 n c ?_ ?_ g1 n HCN.out.2.1 (zprs (List.replicate N8 (0, 0))) 29 ?_ (zprs S) HCN.out.1 HSRC.out HCN.out.2.2 HONEZ.out ?_); rfl; rfl; exact HA2.out.r1; intro w3 hr3 hgr3 hs3; have H3 := Lib.hid (And.intro hr3 (And.intro hgr3 hs3)); clear hr3 hgr3 hs3)
  have hA3 : FdA w g1 b0 lo hi (fillZ S 0) w3 := by
    have hr := H3.out.1
    rw [HLAID.out] at hr
    have e := H3.out.2.1.block b0 (block_lt_of_cell HA2.out.c0) (fun e => by have := Option.some.inj e; have := HG.out; omega)
    exact ⟨hr, (World.cell?_of_block e).trans HA2.out.c0, (World.cell?_of_block e).trans HA2.out.c1, HA2.out.bel.grown H3.out.2.1 HA2.out.bel.size (fun k hk => by cases hk; have := HG.out; omega)⟩
  have HA3 : Hid (FdA w g1 b0 lo hi (fillZ S 0) w3 ∧ w3.heap.size = g2) := Lib.hid ⟨hA3, by rw [H3.out.2.2]; exact HS2.out⟩
  clear hA3 HA2 HSRC HCN HONEZ HLAID HA1 HS2 H3
  go_wp2_with fail
  go_loopw [11] (fun x wr => ∃ (k i : Nat), x = .int .i64 (i : Int) ∧ i ≤ N8 ∧ Hid (i = n + k ∧ k ≤ 8 ∧ FdA w g1 b0 lo hi (fillZ S k) wr ∧ wr.heap.size = g2)) (fun x _ => N8 - (intOf x).toNat)
  case atStart => exact ⟨0, n, rfl, by omega, Lib.hid ⟨rfl, by omega, HA3.out.1, HA3.out.2⟩⟩
  case round =>
    clear HA3
    obtain ⟨k, i, rfl, hi8, HI⟩ := hrel
    by_cases hk8 : k < 8
    · have hlt : (i : Int) < (N8 : Int) := by have := HI.out.1; have := HN.out; omega
      have hi0 : (0 : Int) ≤ (i : Int) := by omega
      have hat : (fillZ S k)[i]? = some (0, 0) := by rw [show i = S.length + k by have := HI.out.1; have := HN.out; omega]; exact fillZ_at S k hk8
      have hst := HI.out.2.2.1.set hat 77 (by have := HG.out; omega) (by have := HG.out; omega)
      rw [show i = S.length + k by have := HI.out.1; have := HN.out; omega, fillZ_set S k hk8, ← show i = S.length + k by have := HI.out.1; have := HN.out; omega] at hst
      have hc0 := (HI.out.2.2.1.r1.at hat).1
      have hfz := HI.out.2.2.1.r1.free (i * 2)
      have HSTT : Hid (FdA w g1 b0 lo hi (fillZ S (k + 1)) (wr.setCell ⟨g1, i * 2, none⟩ (.int .i64 77)) ∧ i < N8) := Lib.hid ⟨hst, by omega⟩
      clear hat hst
      go_wp2_with fail
      refine ⟨⟨k + 1, i + 1, by simp, by have := HSTT.out.2; omega, Lib.hid ⟨by have := HI.out.1; omega, by omega, HSTT.out.1, by simp; exact HI.out.2.2.2⟩⟩, ?_⟩
      show N8 - ((i : Int) + 1).toNat < N8 - ((i : Int)).toNat
      have := HSTT.out.2
      omega
    · have hlt : ¬ (i : Int) < (N8 : Int) := by have := HI.out.1; have := HI.out.2.1; have := HN.out; omega
      have HB : Hid (FdA w g1 b0 lo hi (fillZ S 8) wr ∧ wr.heap.size = g2) := Lib.hid ⟨by have := HI.out.2.2.1; rwa [show k = 8 by have := HI.out.2.1; omega] at this, HI.out.2.2.2⟩
      clear HI hk8
      have hmk := HMK2.out wr
      go_upto_region 10 with fail
      rw [HB.out.2]
      obtain ⟨w4, hw4⟩ : ∃ x, x = wr.alloc (.cells (Array.replicate M8 (Value.string ⟨#[]⟩)) 9) := ⟨_, rfl⟩
      rw [← hw4]
      have hb4 : Below wr.heap.size wr w4 := by rw [hw4]; exact (Below.refl _ _).alloc (Nat.le_refl _) _
      have hA4 := HB.out.1.keep hb4
      have hr4 : SRow w4 g2 (List.replicate M8 ⟨#[]⟩) := by
        rw [hw4, ← HB.out.2]
        have h := heap_alloc_new wr (.cells (Array.replicate M8 (Value.string ⟨#[]⟩)) 9)
        unfold SRow
        rw [h]
        simp
      have HA4 := Lib.hid (And.intro hA4 hr4)
      have HSRC := Lib.hid (copy_src (g := g2) (w5 := w4) (HST.out w4 hA4.bel).2.1 (Below.refl _ _) (Nat.le_refl _))
      have HCN : Hid ((H.map Value.string).length = m * 1 ∧ m = Nat.min m M8 ∧ (H.map Value.string).length ≤ ((List.replicate M8 (⟨#[]⟩ : ByteArray)).map Value.string).length) := Lib.hid (by
        have := HN.out
        refine ⟨by rw [List.length_map]; omega, (Nat.min_eq_left (by omega)).symm, ?_⟩
        rw [List.length_map, List.length_map, List.length_replicate]
        omega)
      have HONES := Lib.hid (str_one H)
      clear hmk hw4 hb4 hA4 hr4 HB hlt
      go_upto_region 11 with ((with_reducible refine wpList_copyN (o := ⟨some 54, _, _, _, _, _⟩) rfl (.tmp 52) (.tmp 53) 50 50 rfl 9 Tryd.underlying50 1 hsz_str (by decide) (some ⟨g2, 0, none⟩) q M8 M8 m cq ?_ ?_ g2 m HCN.out.2.1 ((List.replicate M8 (⟨#[]⟩ : ByteArray)).map Value.string) 9 ?_ (H.map Value.string) HCN.out.1 HSRC.out HCN.out.2.2 HONES.out ?_); rfl; rfl; exact HA4.out.2; intro w5 hr5 hgr5 hs5; have H5 := Lib.hid (And.intro hr5 (And.intro hgr5 hs5)); clear hr5 hgr5 hs5)
      have hA5 := HA4.out.1.grown H5.out.2.1 (by have := HG.out; omega) (by have := HG.out; omega) (by have := HG.out; omega)
      have hr5 : SRow w5 g2 (fill8 H 0) := by
        have hr := H5.out.1
        rw [HLAID2.out] at hr
        exact hr
      have HA5 := Lib.hid (And.intro hA5 hr5)
      clear hA5 hr5 HA4 HSRC HCN HONES H5
      go_wp2_with fail
      go_loopw [14] (fun x wr => ∃ (k i : Nat), x = .int .i64 (i : Int) ∧ i ≤ M8 ∧ Hid (i = m + k ∧ k ≤ 8 ∧ FdA w g1 b0 lo hi (fillZ S 8) wr ∧ SRow wr g2 (fill8 H k))) (fun x _ => M8 - (intOf x).toNat)
      case atStart => exact ⟨0, m, rfl, by omega, Lib.hid ⟨rfl, by omega, HA5.out.1, HA5.out.2⟩⟩
      case round =>
        clear HA5
        obtain ⟨k, i, rfl, hi8, HI⟩ := hrel
        by_cases hk8 : k < 8
        · have hltm : (i : Int) < (M8 : Int) := by have := HI.out.1; have := HN.out; omega
          have hi0 : (0 : Int) ≤ (i : Int) := by omega
          obtain ⟨old, hold⟩ : ∃ s, (fill8 H k)[i]? = some s := ⟨(fill8 H k)[i]'(by rw [fill8_length H k HI.out.2.1]; have := HI.out.1; have := HN.out; omega), List.getElem?_eq_getElem _⟩
          have hcell := HI.out.2.2.2.cell hold
          have hfz := HI.out.2.2.2.frozen i
          have hset := HI.out.2.2.2.set i behind
          rw [show i = H.length + k by have := HI.out.1; have := HN.out; omega, fill8_set H k hk8, ← show i = H.length + k by have := HI.out.1; have := HN.out; omega] at hset
          have HSTT : Hid (FdA w g1 b0 lo hi (fillZ S 8) (wr.setCell ⟨g2, i, none⟩ (.string behind)) ∧ SRow (wr.setCell ⟨g2, i, none⟩ (.string behind)) g2 (fill8 H (k + 1)) ∧ i < M8) := Lib.hid ⟨HI.out.2.2.1.far (by have := HG.out; show g1 ≠ g2; omega) (by have := HG.out; show b0 ≠ g2; omega) (by have := HG.out; show w.heap.size ≤ g2; omega) _, hset, by omega⟩
          clear hold hset
          go_wp2_with fail
          refine ⟨⟨k + 1, i + 1, by simp, by have := HSTT.out.2.2; omega, Lib.hid ⟨by have := HI.out.1; omega, by omega, HSTT.out.1, HSTT.out.2.1⟩⟩, ?_⟩
          show M8 - ((i : Int) + 1).toNat < M8 - ((i : Int)).toNat
          have := HSTT.out.2.2
          omega
        · have hltm : ¬ (i : Int) < (M8 : Int) := by have := HI.out.1; have := HI.out.2.1; have := HN.out; omega
          have HB : Hid (FdA w g1 b0 lo hi (fillZ S 8) wr ∧ SRow wr g2 (fill8 H 8)) := Lib.hid (by have := HI.out.2.2; rwa [show k = 8 by have := HI.out.2.1; omega] at this)
          clear HI hk8
          obtain ⟨R1, e1, hR1⟩ : ∃ (s : ByteArray) (e : Nat), foldP N S H lo hi = (s, e) := ⟨_, _, rfl⟩
          obtain ⟨R2, e2, hR2⟩ : ∃ (s : ByteArray) (e : Nat), foldP N S (H.map hashS) lo hi = (s, e) := ⟨_, _, rfl⟩
          have CF1 : Hid (∀ w', SpZ w' (.slice (some ⟨g1, 0, none⟩) n N8) S → Txts w' (.slice (some ⟨g2, 0, none⟩) m M8) H → Tabs w' → Calls Tryd.prog 41 #[.int .i64 N, .slice (some ⟨g1, 0, none⟩) n N8, .slice (some ⟨g2, 0, none⟩) m M8, .agg #[.int .i64 lo, .int .i64 hi]] w' fun r w2 => r = .returned (.tuple #[.string R1, .int .i64 (e1 : Int)]) ∧ Below w'.heap.size w' w2) := Lib.hid (fun w' h1 h2 h3 => by
            have := foldW_any N lo hi _ _ S H w' h1 h2 h3
            rw [hR1] at this
            exact this)
          have CF2 : Hid (∀ w', SpZ w' (.slice (some ⟨g1, 0, none⟩) n N8) S → Txts w' (.slice (some ⟨g2, 0, none⟩) m M8) (H.map hashS) → Tabs w' → Calls Tryd.prog 41 #[.int .i64 N, .slice (some ⟨g1, 0, none⟩) n N8, .slice (some ⟨g2, 0, none⟩) m M8, .agg #[.int .i64 lo, .int .i64 hi]] w' fun r w2 => r = .returned (.tuple #[.string R2, .int .i64 (e2 : Int)]) ∧ Below w'.heap.size w' w2) := Lib.hid (fun w' h1 h2 h3 => by
            have := foldW_any N lo hi _ _ S (H.map hashS) w' h1 h2 h3
            rw [hR2] at this
            exact this)
          have CR1 : Hid (∀ w' x y, SpZ w' x S → Txts w' y H → Calls Tryd.prog 61 #[.int .i64 N, x, y, .agg #[.int .i64 lo, .int .i64 hi]] w' fun r w2 => r = .returned (.tuple #[.string R1, .int .i64 (e1 : Int)]) ∧ Below w'.heap.size w' w2) := Lib.hid (fun w' x y h1 h2 => by
            have := rfold_any N lo hi x y S H w' h1 h2
            rw [hR1] at this
            exact this)
          have CR2 : Hid (∀ w' x y, SpZ w' x S → Txts w' y (H.map hashS) → Calls Tryd.prog 61 #[.int .i64 N, x, y, .agg #[.int .i64 lo, .int .i64 hi]] w' fun r w2 => r = .returned (.tuple #[.string R2, .int .i64 (e2 : Int)]) ∧ Below w'.heap.size w' w2) := Lib.hid (fun w' x y h1 h2 => by
            have := rfold_any N lo hi x y S (H.map hashS) w' h1 h2
            rw [hR2] at this
            exact this)
          clear hR1 hR2
          go_upto_region 15 with fail
          have hAd : FdA w g1 b0 lo hi (fillZ S 8) wr.drew ∧ SRow wr.drew g2 (fill8 H 8) := ⟨⟨HB.out.1.r1, HB.out.1.c0, HB.out.1.c1, HB.out.1.bel.drew⟩, HB.out.2⟩
          have HAD := Lib.hid hAd
          have HF0 := Lib.hid (CF1.out wr.drew (HTAKE.out _ hAd.1.r1) (HTX.out _ H HN.out.2.1.symm hAd.2) (HST.out _ hAd.1.bel).2.2)
          have HS1 : Hid (wr.drew.cell? ⟨b0, 0, Option.none⟩ = some (.int .i64 lo) ∧ wr.drew.cell? ⟨b0, 1, Option.none⟩ = some (.int .i64 hi)) := Lib.hid ⟨hAd.1.c0, hAd.1.c1⟩
          clear hAd
          go_region_held3 (fun w' => w'.cell? ⟨b0, 0, Option.none⟩ = some (.int .i64 lo) ∧ w'.cell? ⟨b0, 1, Option.none⟩ = some (.int .i64 hi)) (first | exact HS2.out | exact HS1.out) (first
            | (go_at_call 41; (with_reducible refine HF0.out.mono ?_); rintro r w6 ⟨rfl, hb6⟩; have hA6 := HAD.out.1.keep hb6; have HA6 := Lib.hid (And.intro hA6 (HAD.out.2.below hb6 HAD.out.2.lt)); have HS2 := Lib.hid (And.intro hA6.c0 hA6.c1); clear hb6 hA6))
          go_goals
          obtain ⟨d0, d1⟩ := HS2.out
          have HR0 := Lib.hid (CR1.out w6 _ _ (HST.out w6 HA6.out.1.bel).1 (HST.out w6 HA6.out.1.bel).2.1)
          clear hltm
          go_upto_region 17 with (go_at_call 61; (with_reducible refine HR0.out.mono ?_); rintro r w7 ⟨rfl, hb7⟩; have HA7 := Lib.hid (And.intro (HA6.out.1.keep hb7) (HA6.out.2.below hb7 HA6.out.2.lt)); clear hb7)
          clear d0 d1 HS1 HS2 HF0 HR0 HAD HA6 HB CF1 CR1
          go_wp2_with fail
          go_loopw [19] (fun x wr => ∃ (i : Nat), x = .int .i64 (i : Int) ∧ i ≤ N8 ∧ Hid (FdA w g1 b0 lo hi (fillZ S 8) wr ∧ SRow wr g2 (fill8 H 8))) (fun x _ => N8 - (intOf x).toNat)
          case atStart => exact ⟨0, rfl, by omega, HA7⟩
          case round =>
            clear HA7
            obtain ⟨i, rfl, hi8, HI⟩ := hrel
            by_cases hlt8 : i < N8
            · have hl8 : (i : Int) < (N8 : Int) := by omega
              have hi0 : (0 : Int) ≤ (i : Int) := by omega
              have HL8 := Lib.hid hlt8
              by_cases hlt : i < n
              · have hln : (i : Int) < (n : Int) := by omega
                obtain ⟨⟨za, zb⟩, hz⟩ : ∃ z, S[i]? = some z := ⟨S[i]'(by have := HN.out; omega), List.getElem?_eq_getElem _⟩
                obtain ⟨k0, k1⟩ := HI.out.1.r1.at (show (fillZ S 8)[i]? = some (za, zb) by rw [fillZ_lo S i (by have := HN.out; omega)]; exact hz)
                obtain ⟨p', c', hpe, _, _, _, hzc⟩ := (HST.out _ HI.out.1.bel).1
                obtain rfl : p' = p := by cases hpe; rfl
                obtain ⟨g, og, rfl, m0, m1⟩ := hzc i (za, zb) hz
                have k0 : wr.cell? ⟨g1, i * 2, none⟩ = some (.int .i64 za) := k0
                have k1 : wr.cell? ⟨g1, i * 2 + 1, none⟩ = some (.int .i64 zb) := k1
                have m0 : wr.cell? ⟨g, og + i * 2, none⟩ = some (.int .i64 za) := m0
                have m1 : wr.cell? ⟨g, og + i * 2 + 1, none⟩ = some (.int .i64 zb) := m1
                have hd1 : decide (n ≤ i) = false := decide_eq_false (by omega)
                have hq : ∀ w', (binOp .neq 29 (.agg #[.int .i64 za, .int .i64 zb]) (.agg #[.int .i64 za, .int .i64 zb])).run Tryd.prog w' = .ok (.bool false) w' := fun w' => by
                  rw [span_neq]; simp
                clear hz hzc hlt hlt8 hpe
                go_wp2_with fail
                go_quiet (fail)
                go_wp2_with fail
                refine ⟨⟨i + 1, by simp, HL8.out, Lib.hid ⟨HI.out.1.drewN nq, HI.out.2⟩⟩, ?_⟩
                show N8 - ((i : Int) + 1).toNat < N8 - ((i : Int)).toNat
                have := HL8.out
                omega
              · have hln : (n : Int) ≤ (i : Int) := by omega
                have hd1 : decide (i < n) = false := decide_eq_false (by omega)
                obtain ⟨k0, k1⟩ := HI.out.1.r1.at (fillZ_hi S i (by have := HN.out; omega) (by have := HN.out; omega))
                have k0 : wr.cell? ⟨g1, i * 2, none⟩ = some (.int .i64 77) := k0
                have k1 : wr.cell? ⟨g1, i * 2 + 1, none⟩ = some (.int .i64 0) := k1
                have hq : ∀ w', (binOp .neq 29 (.agg #[.int .i64 77, .int .i64 0]) (.agg #[.int .i64 77, .int .i64 0])).run Tryd.prog w' = .ok (.bool false) w' := fun w' => by
                  rw [span_neq]; simp
                clear hlt hlt8
                go_wp2_with fail
                go_quiet (fail)
                go_wp2_with fail
                refine ⟨⟨i + 1, by simp, HL8.out, Lib.hid ⟨HI.out.1.drewN nq, HI.out.2⟩⟩, ?_⟩
                show N8 - ((i : Int) + 1).toNat < N8 - ((i : Int)).toNat
                have := HL8.out
                omega
            · have hl8 : ¬ (i : Int) < (N8 : Int) := by omega
              clear hlt8
              go_wp2_with fail
              go_loopw [20] (fun x wr => ∃ (i : Nat), x = .int .i64 (i : Int) ∧ i ≤ M8 ∧ Hid (FdA w g1 b0 lo hi (fillZ S 8) wr ∧ SRow wr g2 (fill8 H 8))) (fun x _ => M8 - (intOf x).toNat)
              case atStart => exact ⟨0, rfl, by omega, HI⟩
              case round =>
                clear HI
                obtain ⟨i, rfl, hi8, HI⟩ := hrel
                by_cases hlt8 : i < M8
                · have hl8 : (i : Int) < (M8 : Int) := by omega
                  have hi0 : (0 : Int) ≤ (i : Int) := by omega
                  have HL8 := Lib.hid hlt8
                  by_cases hlt : i < m
                  · have hln : (i : Int) < (m : Int) := by omega
                    obtain ⟨z, hz⟩ : ∃ z, H[i]? = some z := ⟨H[i]'(by have := HN.out; omega), List.getElem?_eq_getElem _⟩
                    have k0 := HI.out.2.cell (show (fill8 H 8)[i]? = some z by rw [fill8_lo H i (by have := HN.out; omega)]; exact hz)
                    obtain ⟨p', c', hpe, _, _, hzc⟩ := (HST.out _ HI.out.1.bel).2.1
                    obtain rfl : p' = q := by cases hpe; rfl
                    obtain ⟨qa, rfl, m0⟩ := hzc i z hz
                    have hd1 : decide (m ≤ i) = false := decide_eq_false (by omega)
                    have heq : (z.toList == z.toList) = true := beq_self_eq_true _
                    clear hz hzc hlt hlt8 hpe
                    go_wp2_with fail
                    go_quiet (fail)
                    go_wp2_with fail
                    refine ⟨⟨i + 1, by simp, HL8.out, Lib.hid ⟨HI.out.1.drewN nq, HI.out.2⟩⟩, ?_⟩
                    show M8 - ((i : Int) + 1).toNat < M8 - ((i : Int)).toNat
                    have := HL8.out
                    omega
                  · have hln : (m : Int) ≤ (i : Int) := by omega
                    have hd1 : decide (i < m) = false := decide_eq_false (by omega)
                    have k0 := HI.out.2.cell (fill8_hi H i (by have := HN.out; omega) (by have := HN.out; omega))
                    have hbeh : (behind.toList == [98, 101, 104, 105, 110, 100]) = true := by decide +kernel
                    clear hlt hlt8
                    go_wp2_with fail
                    go_quiet (fail)
                    go_wp2_with fail
                    refine ⟨⟨i + 1, by simp, HL8.out, Lib.hid ⟨HI.out.1.drewN nq, HI.out.2⟩⟩, ?_⟩
                    show M8 - ((i : Int) + 1).toNat < M8 - ((i : Int)).toNat
                    have := HL8.out
                    omega
                · have hl8 : ¬ (i : Int) < (M8 : Int) := by omega
                  clear hlt8
                  obtain ⟨wA, hwA⟩ : ∃ x, x = wr := ⟨_, rfl⟩
                  have HAA : Hid (FdA w g1 b0 lo hi (fillZ S 8) wA ∧ SRow wA g2 (fill8 H 8)) := by rw [hwA]; exact HI
                  have HO0 : Hid (OtI wA wr 0 H (.slice none 0 0)) := Lib.hid ⟨⟨rfl, .inl ⟨rfl, rfl⟩⟩, (fun g hg => by cases hg), by rw [hwA]; exact Below.refl _ _⟩
                  clear hwA HI
                  go_wp2_with fail
                  go_loopw [21, 22] (fun x z wr => ∃ i : Nat, z = .int .i64 (i : Int) ∧ i ≤ m ∧ Hid (OtI wA wr i H x)) (fun _ z _ => m - (intOf z).toNat)
                  case atStart => exact ⟨0, rfl, by omega, HO0⟩
                  case round =>
                    clear HO0
                    obtain ⟨i, rfl, him, HI⟩ := hrel
                    obtain ⟨pp, cc, rfl, _⟩ := HI.out.hd.cells
                    have HK : Hid (FdA w g1 b0 lo hi (fillZ S 8) wr ∧ SRow wr g2 (fill8 H 8)) := Lib.hid ⟨HAA.out.1.keep HI.out.bel, HAA.out.2.below HI.out.bel HAA.out.2.lt⟩
                    by_cases hlt : i < m
                    · have hln : (i : Int) < (m : Int) := by omega
                      have hlM : (i : Int) < (M8 : Int) := by omega
                      have hi0 : (0 : Int) ≤ (i : Int) := by omega
                      obtain ⟨z, hz⟩ : ∃ z, H[i]? = some z := ⟨H[i]'(by have := HN.out; omega), List.getElem?_eq_getElem _⟩
                      have k0 := HK.out.2.cell (show (fill8 H 8)[i]? = some z by rw [fill8_lo H i (by have := HN.out; omega)]; exact hz)
                      have CH := Lib.hid (hash8_any z wr (by have := HSZ.out z (List.mem_of_getElem? hz); omega))
                      obtain ⟨hz', hhz⟩ : ∃ x, x = hashS z := ⟨_, rfl⟩
                      rw [← hhz] at CH
                      have HZ : Hid (H[i]? = some z ∧ i < m ∧ hz' = hashS z) := Lib.hid ⟨hz, hlt, hhz⟩
                      have hl1 : (i + 1) * 16 ≤ 140737488355328 := by omega
                      have hl2 : i + 1 ≤ 140737488355328 := by omega
                      have HONE : Hid (∀ u ∈ [Value.string hz'], u.oneCell' = true) := Lib.hid (fun u hu => by rw [List.mem_singleton.1 hu]; rfl)
                      clear hz hlt hhz
                      go_wp2_with (first
                        | (go_at_call 30; (with_reducible refine CH.out.mono ?_); rintro r w8 ⟨rfl, hb8⟩; have HB8 := Lib.hid hb8; have HHD := Lib.hid (HI.out.hd.below hb8); clear hb8)
                        | (at_builtin; refine wpList_grew (v := .slice pp i cc) (l := ((H.take i).map hashS).map Value.string) rfl _ _ rfl Tryd.underlying50 (.string ⟨#[]⟩) 1 info_str rfl (by decide) [.string hz'] 1 (by simp [Act.eval]) (by simp [Act.eval]) HHD.out rfl rfl (by decide) HONE.out hl1 hl2 ?_; intro v9 w9 hg9; have HG9 := Lib.hid hg9; clear hg9))
                      have hfin : OtI wA w9 (i + 1) H v9 := HI.out.push HZ.out.1 HB8.out (by have := HG9.out; rw [HZ.out.2.2] at this; exact this)
                      refine ⟨⟨i + 1, by simp, HZ.out.2.1, Lib.hid hfin⟩, ?_⟩
                      show m - ((i : Int) + 1).toNat < m - ((i : Int)).toNat
                      have := HZ.out.2.1
                      omega
                    · have hln : ¬ (i : Int) < (m : Int) := by omega
                      obtain rfl : i = m := by omega
                      obtain ⟨L, hL⟩ : ∃ L, L = H.map hashS := ⟨_, rfl⟩
                      rw [← hL] at CF2 CR2
                      have hLl : L.length = i := by rw [hL, List.length_map]; exact HN.out.2.1.symm
                      have hHD : Held wr 9 1 (.slice pp i cc) i (L.map Value.string) := by
                        have := HI.out.hd
                        rwa [List.take_of_length_le (by have := HN.out; omega), ← hL] at this
                      have hT : Txts wr (.slice pp i cc) L := (held_txts8 hHD (by omega)).2
                      have HSRC := Lib.hid (copy_src (g := g2) (w5 := wr) hT (Below.refl _ _) (Nat.le_refl _))
                      have HCN : Hid ((L.map Value.string).length = i * 1 ∧ i = Nat.min i M8 ∧ (L.map Value.string).length ≤ ((fill8 H 8).map Value.string).length) := Lib.hid (by
                        refine ⟨by rw [List.length_map]; omega, (Nat.min_eq_left (by omega)).symm, ?_⟩
                        rw [List.length_map, List.length_map, fill8_length H 8 (Nat.le_refl _)]
                        have := HN.out
                        omega)
                      have HRL := Lib.hid (fill8_relaid H L (by have := HN.out; omega))
                      have HONES := Lib.hid (str_one L)
                      have HHD := Lib.hid (And.intro hHD (And.intro HI.out.ow hLl))
                      clear hL hLl hHD hT hlt hln HI him
                      go_upto_region 34 with ((with_reducible refine wpList_copyN (o := ⟨some 166, _, _, _, _, _⟩) rfl (.tmp 164) (.tmp 165) 50 50 rfl 9 Tryd.underlying50 1 hsz_str (by decide) (some ⟨g2, 0, none⟩) pp M8 M8 i cc ?_ ?_ g2 i HCN.out.2.1 ((fill8 H 8).map Value.string) 9 ?_ (L.map Value.string) HCN.out.1 HSRC.out HCN.out.2.2 HONES.out ?_); rfl; rfl; exact HK.out.2; intro w10 hr10 hgr10 hs10; have H10 := Lib.hid (And.intro hr10 (And.intro hgr10 hs10)); clear hr10 hgr10 hs10)
                      have hA10 := HK.out.1.grown H10.out.2.1 (by have := HG.out; omega) (by have := HG.out; omega) (by have := HG.out; omega)
                      have hr10 : SRow w10 g2 (fill8 L 8) := by
                        have hr := H10.out.1
                        rw [HRL.out] at hr
                        exact hr
                      have hT10 : Txts w10 (.slice pp i cc) L := by
                        have h := HHD.out.1.keep (w' := w10) (fun g hg => H10.out.2.1.block g (HHD.out.1.lt hg) (fun e => by
                          have h1 := HHD.out.2.1 g hg
                          have h2 := HAA.out.2.lt
                          have h3 := Option.some.inj e
                          omega))
                        exact (held_txts8 h (by have := HHD.out.2.2; omega)).2
                      have hAd : FdA w g1 b0 lo hi (fillZ S 8) w10.drew ∧ SRow w10.drew g2 (fill8 L 8) := ⟨⟨hA10.r1, hA10.c0, hA10.c1, hA10.bel.drew⟩, hr10⟩
                      have HAD := Lib.hid hAd
                      have HT10 : Hid (Txts w10.drew (.slice pp i cc) L) := Lib.hid hT10
                      have HF0 := Lib.hid (CF2.out w10.drew (HTAKE.out _ hAd.1.r1) (HTX.out _ L (by have := HHD.out.2.2; have := HN.out; omega) hAd.2) (HST.out _ hAd.1.bel).2.2)
                      have HS1 : Hid (w10.drew.cell? ⟨b0, 0, Option.none⟩ = some (.int .i64 lo) ∧ w10.drew.cell? ⟨b0, 1, Option.none⟩ = some (.int .i64 hi)) := Lib.hid ⟨hAd.1.c0, hAd.1.c1⟩
                      clear hAd hT10 hr10 hA10 HRL HONES HSRC HCN H10
                      go_region_held3 (fun w' => w'.cell? ⟨b0, 0, Option.none⟩ = some (.int .i64 lo) ∧ w'.cell? ⟨b0, 1, Option.none⟩ = some (.int .i64 hi)) (first | exact HS2.out | exact HS1.out) (first
                        | (go_at_call 41; (with_reducible refine HF0.out.mono ?_); rintro r w11 ⟨rfl, hb11⟩; have hA11 := HAD.out.1.keep hb11; have HA11 := Lib.hid (And.intro hA11 (HT10.out.below hb11 (Nat.le_refl _))); have HS2 := Lib.hid (And.intro hA11.c0 hA11.c1); clear hb11 hA11))
                      go_goals
                      obtain ⟨d0, d1⟩ := HS2.out
                      have HR0 := Lib.hid (CR2.out w11 _ _ (HST.out w11 HA11.out.1.bel).1 HA11.out.2)
                      have hq1 : (R1.toList == R1.toList) = true := beq_self_eq_true _
                      have hq2 : (R2.toList == R2.toList) = true := beq_self_eq_true _
                      go_wp2_with (go_at_call 61; (with_reducible refine HR0.out.mono ?_); rintro r w12 ⟨rfl, hb12⟩; have HA12 := Lib.hid (HA11.out.1.keep hb12); clear hb12)
                      go_ret
                      exact ⟨rfl, HA12.out.bel⟩
end Go.Proofs.YteknpnanmbfhfaaDoor
