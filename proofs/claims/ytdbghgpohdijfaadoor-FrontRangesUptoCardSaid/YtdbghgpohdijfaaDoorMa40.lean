/- Elements taken out of an own list where it lies: append(v[:k], v[k+d:]...). -/
import Derived.Test.YtdbghgpohdijfaaDoorMa1
import Derived.Test.YtdbghgpohdijfaaDoorMa12
import Derived.Test.YtdbghgpohdijfaaDoorMa39
namespace Go.Scr
open Go.RowKit
set_option linter.unusedVariables false
theorem run_del {P : Program} (w : World) (t ty e : TypeId) (i : TypeInfo) (size : Nat) (ht : P.underlying t = some (.slice e)) (hi : P.info? e = some i) (hsize : i.size = size)
    (g n cap k d : Nat) (xs : List Value) (hown : Held w e size (.slice (some ⟨g, 0, none⟩) n cap) n xs) (h1 : ∀ u ∈ xs, u.oneCell' = true) (hkd : k + d ≤ n)
    (A : Addr) (c : Nat) (hA : A = ⟨g, (k + d) * size, none⟩ ∨ n = k + d) :
    ∃ w', (Builtin.append_ #[t, t] ty #[.slice (some ⟨g, 0, none⟩) k cap, .slice (some A) (n - (k + d)) c]).run P w = .ok (.slice (some ⟨g, 0, none⟩) (k + (n - (k + d))) cap) w' ∧
      Held w' e size (.slice (some ⟨g, 0, none⟩) (k + (n - (k + d))) cap) (k + (n - (k + d))) (xs.take (k * size) ++ xs.drop ((k + d) * size)) ∧ w.grownBy w' (some g) ∧ w'.heap.size = w.heap.size := by
  subst hsize
  rcases hown.2 with ⟨h0, _⟩ | ⟨g', cap', cur, e0, hg, h2, h3, h4, h5⟩
  · exact nomatch h0
  injection e0 with e1 e2 e3
  injection e1 with e1
  injection e1 with e1
  subst e1 e3
  obtain ⟨m, hm⟩ : ∃ m, m = n - (k + d) := ⟨_, rfl⟩
  rw [← hm]
  have hlx := hown.1
  have hnm : n = k + d + m := by omega
  have hkm : (k + d) * i.size ≤ n * i.size := Nat.mul_le_mul_right _ hkd
  have hns : n * i.size ≤ cur.size := Nat.le_trans (Nat.mul_le_mul_right _ h2) h4
  have hll : (xs.drop ((k + d) * i.size)).length = m * i.size := by
    rw [List.length_drop, hlx, hnm, ← Nat.sub_mul, Nat.add_sub_cancel_left]
  have hkk : k * i.size + m * i.size ≤ n * i.size := by rw [← Nat.add_mul]; exact Nat.mul_le_mul_right _ (by omega)
  have hnews : ∀ j u, (xs.drop ((k + d) * i.size))[j]? = some u → w.cell? (A.add j) = some u := by
    intro j u hj
    rcases hA with rfl | hz
    · rw [Addr.add_lit, cell_of_row w g _ _ _ _ hg, ← Array.getElem?_toList]
      rw [List.getElem?_drop, ← h5, List.getElem?_take] at hj
      split at hj
      · exact hj
      · cases hj
    · have : (xs.drop ((k + d) * i.size)).length = 0 := by rw [hll, show m = 0 by omega, Nat.zero_mul]
      rw [List.eq_nil_of_length_eq_zero this] at hj
      simp at hj
  have hr := run_append_room (P := P) w t ty e i ht hi g k cap cur hg A m c (xs.drop ((k + d) * i.size)) hll hnews (fun u hu => h1 u (List.mem_of_mem_drop hu)) (by omega) (by rw [hll]; omega)
  have hrow := setRow_heap w g cur (cur.toList.take (k * i.size) ++ xs.drop ((k + d) * i.size) ++ cur.toList.drop (k * i.size + (xs.drop ((k + d) * i.size)).length)).toArray e _ hg
  have hsz : (cur.toList.take (k * i.size) ++ xs.drop ((k + d) * i.size) ++ cur.toList.drop (k * i.size + (xs.drop ((k + d) * i.size)).length)).toArray.size = cur.size := by
    simp only [List.size_toArray, List.length_append, List.length_take, List.length_drop, Array.length_toList]
    rw [← List.length_drop, hll]
    omega
  have htk : cur.toList.take (k * i.size) = xs.take (k * i.size) := by
    rw [← h5, List.take_take, Nat.min_eq_left (Nat.le_trans (Nat.le_add_right _ _) hkk)]
  have hlen : (xs.take (k * i.size) ++ xs.drop ((k + d) * i.size)).length = (k + m) * i.size := by
    rw [List.length_append, List.length_take, hlx, hll, Nat.min_eq_left (Nat.le_trans (Nat.le_add_right _ _) hkk), Nat.add_mul]
  refine ⟨_, hr, ⟨hlen, .inr ⟨g, cap, _, rfl, hrow, by omega, h3, by rw [hsz]; exact h4, ?_⟩⟩, ⟨rfl, rfl, rfl, by simp, fun q hq hne => setRow_other w g q _ (fun e => hne (by simp [e]))⟩, by simp⟩
  show List.take ((k + m) * i.size) (cur.toList.take (k * i.size) ++ xs.drop ((k + d) * i.size) ++ cur.toList.drop (k * i.size + (xs.drop ((k + d) * i.size)).length)) = _
  rw [htk, ← hlen]
  exact List.take_left
/-- as a step of a region that draws its order -/
theorem step_del {P : Program} {ops : Array Oper} {o : Oper} {a : Act} {w : World} {K : Act → World → Prop} {Q : Exit → Act → World → Prop} {E : Prop} {T S : TypeId}
    (hg : o.guard = none) (s x : Operand) (hop : o.op = Op.call { callee := Callee.builtin Builtin.append, args := #[s, x], argTypes := #[S, S] })
    (hu : P.underlying S = some (.slice T)) (z : Value) (sz : Nat) {byt : Nat} (hi : (P.info? T).map (fun i => (i.zero, i.size, i.bytes)) = some (some z, sz, byt))
    (gb n cap k d : Nat) (xs : List Value) (A : Addr) (c : Nat) (hs : a.eval s = .slice (some ⟨gb, 0, none⟩) k cap) (hx : a.eval x = .slice (some A) (n - (k + d)) c)
    (hown : Held w T sz (.slice (some ⟨gb, 0, none⟩) n cap) n xs) (hone : ∀ u ∈ xs, u.oneCell' = true) (hkd : k + d ≤ n) (hA : A = ⟨gb, (k + d) * sz, none⟩ ∨ n = k + d)
    (hK : ∀ w', Held w' T sz (.slice (some ⟨gb, 0, none⟩) (k + (n - (k + d))) cap) (k + (n - (k + d))) (xs.take (k * sz) ++ xs.drop ((k + d) * sz)) → w.grownBy w' (some gb) → w'.heap.size = w.heap.size → K (a.put o.dst (.slice (some ⟨gb, 0, none⟩) (k + (n - (k + d))) cap)) w') :
    if Region.wanted o (yielded ops a.tmps) = true then Oper.wp P o a w K Q else E := by
  have hw : Region.wanted o (yielded ops a.tmps) = true := by simp [Region.wanted, hg]
  rw [if_pos hw]
  obtain ⟨i, hi0, hz, hsi, hbi⟩ := info_parts hi
  obtain ⟨w', hrun, r1, r2, r3⟩ := run_del (P := P) w S o.type T i sz hu hi0 hsi gb n cap k d xs hown hone hkd A c hA
  unfold Oper.wp
  simp [execOp, hop, resolve, invoke, builtin, hs, hx, hrun, Result.andThen]
  exact hK w' r1 r2 r3
end Go.Scr
/- A row of bools that is made and written. -/
namespace Go.Proofs.YtdbghgpohdijfaaDoor
open Go.RowKit Go.Scr
set_option linter.unusedVariables false
theorem info_boolB : (Tryd.prog.info? 4).map (fun i => (i.zero, i.size, i.bytes)) = some (some (.bool false), 1, 1) := by kernel_rfl
def BoR (w : World) (g : Nat) (B : List Bool) : Prop := w.heap[g]? = some (.cells ((B.map Value.bool).toArray) 4 (0, 0))
theorem BoR.cell {w : World} {g : Nat} {B : List Bool} (h : BoR w g B) {j : Nat} {d : Bool} (hd : B[j]? = some d) : w.cell? ⟨g, j, none⟩ = some (.bool d) := by
  rw [cell_of_row w g j _ _ _ h]
  simp [hd]
theorem BoR.frozen {w : World} {g : Nat} {B : List Bool} (h : BoR w g B) (j : Nat) : w.frozen? ⟨g, j, none⟩ = false := by
  unfold World.frozen?
  unfold BoR at h
  simp [h]
theorem BoR.set {w : World} {g : Nat} {B : List Bool} (h : BoR w g B) (j : Nat) (d : Bool) : BoR (w.setCell ⟨g, j, none⟩ (.bool d)) g (B.set j d) := by
  have := blk_set h j (.bool d)
  unfold BoR
  rw [this]
  congr 2
  simp [List.map_set]
theorem BoR.below {w w' : World} {g n : Nat} {B : List Bool} (h : BoR w g B) (hb : Below n w w') (hg : g < n) : BoR w' g B := blk_below h hb hg
theorem BoR.lt {w : World} {g : Nat} {B : List Bool} (h : BoR w g B) : g < w.heap.size := blk_lt h
theorem madeCells_boolsB (c : Nat) : madeCells #[Value.bool false] c = (((List.replicate c false).map Value.bool)).toArray := by
  apply Array.ext'
  rw [toList_madeCells_one]
  simp
theorem make_boolsB (n : Nat) (hn : n ≤ 4194304) (w : World) :
    (Instr.makeSlice 89 (.int .i64 (n : Int)) (.int .i64 (n : Int))).run Tryd.prog w = .ok (.slice (some ⟨w.heap.size, 0, none⟩) n n) (w.alloc (.cells (Array.replicate n (Value.bool false)) 4)) := by
  obtain ⟨i, hi0, hz, hsi, hbi⟩ := info_parts info_boolB
  have h := run_make_rowN (P := Tryd.prog) 89 4 i (.bool false) Tryd.underlying89 hi0 hz .i64 .i64 n n (Nat.le_refl _) (by rw [hbi]; omega) (by omega) w
  rw [h, hsi, Nat.mul_one]
  have e : (Value.bool false : Value).cells = #[Value.bool false] := rfl
  rw [e, madeCells_boolsB]
  simp
theorem bor_made (w : World) (n : Nat) : BoR (w.alloc (.cells (Array.replicate n (Value.bool false)) 4)) w.heap.size (List.replicate n false) := by
  have h := heap_alloc_new w (.cells (Array.replicate n (Value.bool false)) 4)
  unfold BoR
  rw [h]
  simp
end Go.Proofs.YtdbghgpohdijfaaDoor
/- Lists of ranges: read, grown, written, taken out of; neighbours. -/
namespace Go.Proofs.YtdbghgpohdijfaaDoor
open Go.RowKit Go.Scr Go.ChangeMaps Go.MapKept
set_option linter.unusedVariables false
theorem info_rg : (Tryd.prog.info? 68).map (fun i => (i.zero, i.size, i.bytes)) = some (some (.agg #[.int .i64 0, .int .i64 0, .slice none 0 0]), 3, 40) := by kernel_rfl
abbrev Rg := Nat × Nat × Value
def rgV1 (x : Rg) : List Value := [.int .i64 (x.1 : Int), .int .i64 (x.2.1 : Int), x.2.2]
def rgV (R : List Rg) : List Value := (R.map rgV1).flatten
theorem rgV_append (A B : List Rg) : rgV (A ++ B) = rgV A ++ rgV B := by simp [rgV]
theorem rgV_cons (a : Rg) (K : List Rg) : rgV (a :: K) = .int .i64 (a.1 : Int) :: .int .i64 (a.2.1 : Int) :: a.2.2 :: rgV K := by simp [rgV, rgV1]
theorem rgV_one (a : Rg) : rgV [a] = [.int .i64 (a.1 : Int), .int .i64 (a.2.1 : Int), a.2.2] := by simp [rgV, rgV1]
theorem rgV_length (K : List Rg) : (rgV K).length = K.length * 3 := by
  induction K with
  | nil => rfl
  | cons a K ih => rw [rgV_cons]; simp [ih]; omega
theorem rgV_get {K : List Rg} : ∀ {j : Nat} {x : Rg}, K[j]? = some x → (rgV K)[j * 3]? = some (.int .i64 (x.1 : Int)) ∧ (rgV K)[j * 3 + 1]? = some (.int .i64 (x.2.1 : Int)) ∧ (rgV K)[j * 3 + 1 + 1]? = some x.2.2 := by
  induction K with
  | nil => intro j x h; simp at h
  | cons a K ih =>
    intro j x h
    cases j with
    | zero =>
      simp at h
      subst h
      rw [rgV_cons]
      simp
    | succ j =>
      have := ih (j := j) (x := x) (by simpa using h)
      have e : ∀ i, (rgV (a :: K))[i + 3]? = (rgV K)[i]? := fun i => by rw [rgV_cons]; rfl
      rw [show (j + 1) * 3 = j * 3 + 3 by omega, show j * 3 + 3 + 1 = (j * 3 + 1) + 3 by omega, show (j * 3 + 1) + 3 + 1 = (j * 3 + 1 + 1) + 3 by omega, e, e, e]
      exact this
theorem rgV_set {K : List Rg} : ∀ {j : Nat} {x : Rg}, j < K.length → rgV (K.set j x) = (((rgV K).set (j * 3) (.int .i64 (x.1 : Int))).set (j * 3 + 1) (.int .i64 (x.2.1 : Int))).set (j * 3 + 2) x.2.2 := by
  induction K with
  | nil => intro j x h; simp at h
  | cons a K ih =>
    intro j x h
    cases j with
    | zero =>
      rw [List.set_cons_zero, rgV_cons, rgV_cons]
      rfl
    | succ j =>
      rw [List.set_cons_succ, rgV_cons, ih (by simpa using h), rgV_cons, show (j + 1) * 3 + 2 = (j * 3 + 2) + 3 by omega, show (j + 1) * 3 + 1 = (j * 3 + 1) + 3 by omega, show (j + 1) * 3 = (j * 3) + 3 by omega]
      rfl
theorem rgV_take (R : List Rg) (k : Nat) : (rgV R).take (k * 3) = rgV (R.take k) := by
  by_cases h : k ≤ R.length
  · have e : rgV R = rgV (R.take k) ++ rgV (R.drop k) := by rw [← rgV_append, List.take_append_drop]
    have l : (rgV (R.take k)).length = k * 3 := by rw [rgV_length, List.length_take, Nat.min_eq_left h]
    rw [e, ← l, List.take_left]
  · rw [List.take_of_length_le (by rw [rgV_length]; omega), List.take_of_length_le (by omega)]
theorem rgV_drop (R : List Rg) (k : Nat) : (rgV R).drop (k * 3) = rgV (R.drop k) := by
  by_cases h : k ≤ R.length
  · have e : rgV R = rgV (R.take k) ++ rgV (R.drop k) := by rw [← rgV_append, List.take_append_drop]
    have l : (rgV (R.take k)).length = k * 3 := by rw [rgV_length, List.length_take, Nat.min_eq_left h]
    rw [e, ← l, List.drop_left]
  · rw [List.drop_of_length_le (by rw [rgV_length]; omega), List.drop_of_length_le (by omega)]
    rfl
/-- lists of other types lie in other blocks -/
theorem held_apart {w : World} {S T n m s t g : Nat} {v u : Value} {xs ys : List Value} (hST : S ≠ T) (h : Held w S s v n xs) (k : Held w T t u m ys) (hv : v.ownBlock = some g) : u.ownBlock ≠ some g := by
  intro hu
  rcases h.2 with ⟨rfl, _⟩ | ⟨a, c1, cur, rfl, hg, _⟩
  · cases hv
  rcases k.2 with ⟨rfl, _⟩ | ⟨b, c2, cur2, rfl, hg2, _⟩
  · cases hu
  cases hv
  cases hu
  rw [hg] at hg2
  injection hg2 with e
  injection e with e1 e2
  exact hST e2
/-- a list of ranges, above w; their hashes are those of the spans -/
structure PaI (w wr : World) (val : Nat → Nat → ByteArray) (v : Value) (R : List Rg) : Prop where
  b : Below w.heap.size w wr
  h : Held wr 68 3 v R.length (rgV R)
  o : ∀ g, v.ownBlock = some g → w.heap.size ≤ g
  it : ∀ x ∈ R, Held wr 9 1 x.2.2 (nodesA val x.1 x.2.1).length ((nodesA val x.1 x.2.1).map Value.string)
  on : ∀ x ∈ R, x.2.2.oneCell' = true
theorem PaI.one {w wr : World} {val : Nat → Nat → ByteArray} {v : Value} {R : List Rg} (H : PaI w wr val v R) : ∀ u ∈ rgV R, u.oneCell' = true := by
  intro u hu
  obtain ⟨l, hl, hul⟩ := List.mem_flatten.1 hu
  obtain ⟨x, hx, rfl⟩ := List.mem_map.1 hl
  simp only [rgV1, List.mem_cons, List.not_mem_nil, or_false] at hul
  rcases hul with rfl | rfl | rfl
  · rfl
  · rfl
  · exact H.on x hx
theorem PaI.below {w wr w' : World} {val : Nat → Nat → ByteArray} {v : Value} {R : List Rg} (H : PaI w wr val v R) (hb : Below wr.heap.size wr w') : PaI w w' val v R :=
  ⟨H.b.trans (hb.mono H.b.size), H.h.below hb, H.o, fun x hx => (H.it x hx).below hb, H.on⟩
/-- the list's own block alone has changed, or grown -/
theorem PaI.keepIt {w wr w' : World} {val : Nat → Nat → ByteArray} {v : Value} {R : List Rg} (H : PaI w wr val v R) (hk : ∀ q, q < wr.heap.size → v.ownBlock ≠ some q → w'.heap[q]? = wr.heap[q]?) {x : Rg} (hx : x ∈ R) : Held w' 9 1 x.2.2 (nodesA val x.1 x.2.1).length ((nodesA val x.1 x.2.1).map Value.string) :=
  (H.it x hx).keep fun q hq => hk q ((H.it x hx).lt hq) (held_apart (show (9 : Nat) ≠ 68 by decide) (H.it x hx) H.h hq)
theorem PaI.push {w wr w' : World} {val : Nat → Nat → ByteArray} {v v' : Value} {n : Nat} {R : List Rg} {x : Rg} {cs : Array Value} {T : TypeId} (H : PaI w wr val v R) (hn : n = R.length)
    (hx : Held wr 9 1 x.2.2 (nodesA val x.1 x.2.1).length ((nodesA val x.1 x.2.1).map Value.string)) (hx1 : x.2.2.oneCell' = true)
    (g : Grew 68 3 (wr.alloc (.cells cs T)) v n 1 (rgV R) [.int .i64 (x.1 : Int), .int .i64 (x.2.1 : Int), x.2.2] v' w') : PaI w w' val v' (R ++ [x]) := by
  subst hn
  have H2 := H.below ((Below.refl _ _).alloc (Nat.le_refl _) (.cells cs T))
  have hgr := g.grown
  have hx2 := hx.below ((Below.refl _ _).alloc (Nat.le_refl _) (.cells cs T))
  refine ⟨⟨hgr.os.trans H2.b.os, hgr.tape.trans H2.b.tape, hgr.output.trans H2.b.output, Nat.le_trans H2.b.size hgr.size, fun i hi => (hgr.block i (Nat.lt_of_lt_of_le hi H2.b.size) (fun e => by have := H.o i e.symm; omega)).trans (H2.b.block i hi)⟩, ?_, fun q hq => ?_, fun y hy => ?_, fun y hy => ?_⟩
  · rw [rgV_append, rgV_one, List.length_append]
    exact g.held
  · rcases g.at with ⟨e, _⟩ | ⟨e, _⟩
    · exact H.o q (by rw [← e]; exact hq)
    · rw [hq] at e
      have h1 := Option.some.inj e
      have h2 := H2.b.size
      omega
  · rcases List.mem_append.1 hy with hy | hy
    · exact H2.keepIt (fun q hq hne => hgr.block q hq (fun e => hne e.symm)) hy
    · rw [List.mem_singleton.1 hy]
      exact hx2.keep fun q hq => hgr.block q (hx2.lt hq) (fun e => held_apart (show (9 : Nat) ≠ 68 by decide) hx2 H2.h hq e.symm)
  · rcases List.mem_append.1 hy with hy | hy
    · exact H.on y hy
    · rw [List.mem_singleton.1 hy]
      exact hx1
theorem PaI.set {w wr : World} {val : Nat → Nat → ByteArray} {v : Value} {R : List Rg} {g j : Nat} {x : Rg} (H : PaI w wr val v R) (hg : v.ownBlock = some g) (hj : j < R.length)
    (hx : Held wr 9 1 x.2.2 (nodesA val x.1 x.2.1).length ((nodesA val x.1 x.2.1).map Value.string)) (hx1 : x.2.2.oneCell' = true) :
    PaI w (((wr.setCell ⟨g, j * 3, none⟩ (.int .i64 (x.1 : Int))).setCell ⟨g, j * 3 + 1, none⟩ (.int .i64 (x.2.1 : Int))).setCell ⟨g, j * 3 + 2, none⟩ x.2.2) val v (R.set j x) := by
  have hgo : w.heap.size ≤ g := H.o g hg
  have hk : ∀ q, q ≠ g → (((wr.setCell ⟨g, j * 3, none⟩ (.int .i64 (x.1 : Int))).setCell ⟨g, j * 3 + 1, none⟩ (.int .i64 (x.2.1 : Int))).setCell ⟨g, j * 3 + 2, none⟩ x.2.2).heap[q]? = wr.heap[q]? := fun q hq => by
    rw [Below.heap_setCell _ ⟨g, j * 3 + 2, none⟩ _ q hq, Below.heap_setCell _ ⟨g, j * 3 + 1, none⟩ _ q hq, Below.heap_setCell _ ⟨g, j * 3, none⟩ _ q hq]
  refine ⟨((H.b.setCell (p := ⟨g, j * 3, none⟩) hgo _).setCell (p := ⟨g, j * 3 + 1, none⟩) hgo _).setCell (p := ⟨g, j * 3 + 2, none⟩) hgo _, ?_, H.o, fun y hy => ?_, fun y hy => ?_⟩
  · rw [List.length_set, rgV_set hj]
    exact Held.setN (Held.setN (Held.setN H.h hg _ _) hg _ _) hg _ _
  · rcases List.mem_or_eq_of_mem_set hy with hy | rfl
    · exact (H.it y hy).keep fun q hq => hk q (fun e => held_apart (show (9 : Nat) ≠ 68 by decide) (H.it y hy) H.h hq (by rw [e]; exact hg))
    · exact hx.keep fun q hq => hk q (fun e => held_apart (show (9 : Nat) ≠ 68 by decide) hx H.h hq (by rw [e]; exact hg))
  · rcases List.mem_or_eq_of_mem_set hy with hy | rfl
    · exact H.on y hy
    · exact hx1
theorem PaI.del {w wr w' : World} {val : Nat → Nat → ByteArray} {R : List Rg} {g cap k d m : Nat} (H : PaI w wr val (.slice (some ⟨g, 0, none⟩) R.length cap) R) (hkd : k + d ≤ R.length) (hm : m = k + (R.length - (k + d)))
    (h : Held w' 68 3 (.slice (some ⟨g, 0, none⟩) m cap) m ((rgV R).take (k * 3) ++ (rgV R).drop ((k + d) * 3))) (hgr : wr.grownBy w' (some g)) :
    PaI w w' val (.slice (some ⟨g, 0, none⟩) m cap) (R.take k ++ R.drop (k + d)) := by
  have hgo : w.heap.size ≤ g := H.o g rfl
  have hl : (R.take k ++ R.drop (k + d)).length = m := by rw [List.length_append, List.length_take, List.length_drop]; omega
  refine ⟨⟨hgr.os.trans H.b.os, hgr.tape.trans H.b.tape, hgr.output.trans H.b.output, Nat.le_trans H.b.size hgr.size, fun i hi => (hgr.block i (Nat.lt_of_lt_of_le hi H.b.size) (fun e => by have := Option.some.inj e; omega)).trans (H.b.block i hi)⟩, ?_, H.o, fun y hy => ?_, fun y hy => ?_⟩
  · rw [hl, rgV_append, ← rgV_take, ← rgV_drop]
    exact h
  · have hy2 : y ∈ R := by
      rcases List.mem_append.1 hy with hy | hy
      · exact List.mem_of_mem_take hy
      · exact List.mem_of_mem_drop hy
    exact H.keepIt (fun q hq hne => hgr.block q hq (fun e => hne (by rw [e]; rfl))) hy2
  · rcases List.mem_append.1 hy with hy | hy
    · exact H.on y (List.mem_of_mem_take hy)
    · exact H.on y (List.mem_of_mem_drop hy)
theorem PaI.get {w wr : World} {val : Nat → Nat → ByteArray} {p : Option Addr} {n c : Nat} {R : List Rg} (H : PaI w wr val (.slice p n c) R) {i : Nat} {x : Rg} (hx : R[i]? = some x) :
    ∃ g, p = some ⟨g, 0, none⟩ ∧ wr.cell? ⟨g, i * 3, none⟩ = some (.int .i64 (x.1 : Int)) ∧ wr.cell? ⟨g, i * 3 + 1, none⟩ = some (.int .i64 (x.2.1 : Int)) ∧ wr.cell? ⟨g, i * 3 + 1 + 1, none⟩ = some x.2.2 ∧ (∀ k, wr.frozen? ⟨g, k, none⟩ = false) := by
  have hi := (List.getElem?_eq_some_iff.mp hx).1
  obtain ⟨g, rfl, hg⟩ := held_cellP H.h (by omega)
  obtain ⟨x0, x1, x2⟩ := rgV_get hx
  refine ⟨g, rfl, hg _ _ x0, hg _ _ x1, hg _ _ x2, fun k => ?_⟩
  rcases H.h.2 with ⟨e0, _⟩ | ⟨g', cap, cur, e0, hgb, _⟩
  · exact nomatch e0
  · injection e0 with e1 e2 e3
    injection e1 with e1
    injection e1 with e1
    subst e1
    exact frozB hgb
/-- ranges side by side, from a to e -/
def chR (a e : Nat) : List Rg → Prop
  | [] => a = e
  | x :: R => x.1 = a ∧ a ≤ x.2.1 ∧ x.2.1 ≤ e ∧ chR x.2.1 e R
theorem chR_le {e : Nat} : ∀ {R : List Rg} {a : Nat}, chR a e R → a ≤ e
  | [], a, h => Nat.le_of_eq h
  | x :: R, a, h => Nat.le_trans h.2.1 h.2.2.1
theorem chR_more {a e f : Nat} {v : Value} (hef : e ≤ f) : ∀ {R : List Rg} {a : Nat}, chR a e R → chR a f (R ++ [(e, f, v)])
  | [], a, h => ⟨(show a = e from h).symm, by rw [show a = e from h]; exact hef, Nat.le_refl _, rfl⟩
  | x :: R, a, h => ⟨h.1, h.2.1, Nat.le_trans h.2.2.1 hef, chR_more (a := a) hef h.2.2.2⟩
theorem chR_get {e : Nat} : ∀ {R : List Rg} {a i : Nat} {x : Rg}, chR a e R → R[i]? = some x → a ≤ x.1 ∧ x.1 ≤ x.2.1 ∧ x.2.1 ≤ e
  | [], a, i, x, h, hx => by simp at hx
  | y :: R, a, 0, x, h, hx => by simp at hx; subst hx; exact ⟨Nat.le_of_eq h.1.symm, by rw [h.1]; exact h.2.1, h.2.2.1⟩
  | y :: R, a, i + 1, x, h, hx => by
    have := chR_get h.2.2.2 (show R[i]? = some x by simpa using hx)
    exact ⟨Nat.le_trans h.2.1 this.1, this.2⟩
/-- two neighbours become one -/
theorem chR_join {e : Nat} {v : Value} : ∀ {R : List Rg} {a i : Nat} {x y : Rg}, chR a e R → R[i]? = some x → R[i + 1]? = some y → y.1 = x.2.1 ∧ x.1 ≤ y.2.1 ∧ chR a e ((R.set i (x.1, y.2.1, v)).take (i + 1) ++ (R.set i (x.1, y.2.1, v)).drop (i + 2))
  | [], a, i, x, y, h, hx, _ => by simp at hx
  | [z], a, 0, x, y, h, hx, hy => by simp at hy
  | z :: z2 :: R, a, 0, x, y, h, hx, hy => by
    simp at hx hy
    subst hx hy
    obtain ⟨h1, h2, h3, h4, h5, h6, h7⟩ := h
    exact ⟨h4, by rw [h1]; omega, h1, by show a ≤ z2.2.1; omega, h6, h7⟩
  | z :: R, a, i + 1, x, y, h, hx, hy => by
    obtain ⟨k1, k2, k3⟩ := chR_join (v := v) h.2.2.2 (show R[i]? = some x by simpa using hx) (show R[i + 1]? = some y by simpa using hy)
    exact ⟨k1, k2, h.1, h.2.1, h.2.2.1, by simpa using k3⟩
theorem del_length {α : Type} {R : List α} {i : Nat} {z : α} (hi : i + 1 < R.length) : ((R.set i z).take (i + 1) ++ (R.set i z).drop (i + 2)).length = R.length - 1 := by
  rw [List.length_append, List.length_take, List.length_drop, List.length_set]
  omega
end Go.Proofs.YtdbghgpohdijfaaDoor
/- Law 5: the same ranges? -/
namespace Go.Proofs.YtdbghgpohdijfaaDoor
open Go.RowKit Go.Scr Go.ChangeMaps Go.MapKept
set_option linter.unusedVariables false
abbrev rgZ (b e : Int) (v : Value) : Value := .agg #[.int .i64 b, .int .i64 e, v]
def srB (L M : List ByteArray) (b b' e e' : Int) : Bool := decide (L = M) && decide (b = b') && decide (e = e')
theorem two_blocks (w : World) (a b : Array Value) (S T : TypeId) :
    ((w.alloc (.cells a S)).alloc (.cells b T)).heap[w.heap.size]? = some (.cells a S (0, 0)) ∧
    ((w.alloc (.cells a S)).alloc (.cells b T)).heap[w.heap.size + 1]? = some (.cells b T (0, 0)) ∧
    Below w.heap.size w ((w.alloc (.cells a S)).alloc (.cells b T)) := by
  refine ⟨blk_alloc (heap_alloc_new w _), ?_, ((Below.refl _ _).alloc (Nat.le_refl _) _).alloc (by simp) _⟩
  have := heap_alloc_new (w.alloc (.cells a S)) (.cells b T)
  rwa [show (w.alloc (.cells a S)).heap.size = w.heap.size + 1 by simp] at this
set_option maxRecDepth 100000 in
set_option maxHeartbeats 4000000 in
theorem sameRange_any {w : World} {b b' e e' : Int} {v v' : Value} {L M : List ByteArray} (hv : Txts w v L) (hv' : Txts w v' M) (hl : L.length ≤ 1048576) (hl2 : M.length ≤ 1048576) :
    Calls Tryd.prog 37 #[rgZ b e v, rgZ b' e' v'] w fun o w' => o = .returned (.bool (srB L M b b' e e')) ∧ Below w.heap.size w w' := by
  obtain ⟨w2, hw2⟩ : ∃ x, x = (w.alloc (.cells #[.int .i64 b, .int .i64 e, v] 68)).alloc (.cells #[.int .i64 b', .int .i64 e', v'] 68) := ⟨_, rfl⟩
  obtain ⟨x0, x1, x2⟩ := two_blocks w #[.int .i64 b, .int .i64 e, v] #[.int .i64 b', .int .i64 e', v'] 68 68
  rw [← hw2] at x0 x1 x2
  obtain ⟨ba, hba⟩ : ∃ x, x = w.heap.size := ⟨_, rfl⟩
  obtain ⟨bc, hbc⟩ : ∃ x, x = w.heap.size + 1 := ⟨_, rfl⟩
  rw [← hba] at x0
  rw [← hbc] at x1
  have HX : Hid (∀ w', Below w2.heap.size w2 w' → w'.heap[ba]? = some (.cells #[.int .i64 b, .int .i64 e, v] 68 (0, 0)) ∧ w'.heap[bc]? = some (.cells #[.int .i64 b', .int .i64 e', v'] 68 (0, 0))) := Lib.hid (fun w' hb => ⟨blk_below x0 hb (blk_lt x0), blk_below x1 hb (blk_lt x1)⟩)
  obtain ⟨d, hd⟩ : ∃ d, d = decide (L = M) := ⟨_, rfl⟩
  have CS : Hid (Calls Tryd.prog 25 #[v, v'] w2 fun o w' => o = .returned (.bool d) ∧ Below w2.heap.size w2 w') := Lib.hid (by
    rw [hd]
    exact sameW_any v v' L M w2 (hv.below x2 (Nat.le_refl _)) (hv'.below x2 (Nat.le_refl _)) hl hl2)
  have c0 : w2.cell? ⟨ba, 2, none⟩ = some v := cellB x0 rfl
  have c1 : w2.cell? ⟨bc, 2, none⟩ = some v' := cellB x1 rfl
  obtain ⟨p, c, rfl, _, _, _⟩ := hv
  obtain ⟨p', c', rfl, _, _, _⟩ := hv'
  have HS : Hid (srB L M b b' e e' = (d && decide (b = b') && decide (e = e'))) := Lib.hid (by rw [hd]; rfl)
  obtain ⟨r, hr⟩ : ∃ r, r = srB L M b b' e e' := ⟨_, rfl⟩
  rw [← hr] at HS ⊢
  have HW2 := Lib.hid hw2
  have HBA := Lib.hid hba
  have HBC := Lib.hid hbc
  have HB2 : Hid (Below w.heap.size w w2) := Lib.hid x2
  clear hl hl2 hd hr hw2 hba hbc x0 x1 x2
  have fin : ∀ (y : Bool), (d && decide (b = b') && decide (e = e')) = y → r = y := fun y h => HS.out.trans h
  have FIN := Lib.hid fin
  clear fin
  cases d with
  | false =>
    go_enter Tryd.func37, Tryd.ntmps37
    go_upto_region 1 with fail
    rw [← HW2.out, ← HBC.out, ← HBA.out]
    go_wp2_with (go_at_call 25; with_reducible refine CS.out.mono ?_; rintro o w5 ⟨rfl, h⟩; have H5 := Lib.hid h; clear h)
    go_ret
    exact ⟨by rw [FIN.out false rfl]; rfl, HB2.out.trans (H5.out.mono HB2.out.size)⟩
  | true =>
    by_cases hbb : b = b'
    · subst hbb
      have FIN2 : Hid (∀ y : Bool, decide (e = e') = y → r = y) := Lib.hid (fun y h => FIN.out y (by rw [show decide (b = b) = true from decide_eq_true rfl]; exact h))
      obtain ⟨y, hy⟩ : ∃ y, y = decide (e = e') := ⟨_, rfl⟩
      have HY : Hid (r = y) := Lib.hid (FIN2.out y hy.symm)
      have hee : (e == e') = y := by
        rw [hy]
        by_cases h : e = e'
        · rw [h]; simp
        · rw [decide_eq_false h]; exact beq_eq_false_iff_ne.2 h
      clear hy FIN FIN2 HS
      go_enter Tryd.func37, Tryd.ntmps37
      go_upto_region 1 with fail
      rw [← HW2.out, ← HBC.out, ← HBA.out]
      go_upto_region 2 with (go_at_call 25; with_reducible refine CS.out.mono ?_; rintro o w5 ⟨rfl, h⟩; have H5 := Lib.hid h; clear h)
      obtain ⟨y0, y1⟩ := HX.out _ H5.out
      have d0 : w5.cell? ⟨ba, 0, none⟩ = some (.int .i64 b) := cellB y0 rfl
      have d1 : w5.cell? ⟨ba, 1, none⟩ = some (.int .i64 e) := cellB y0 rfl
      have d2 : w5.cell? ⟨bc, 0, none⟩ = some (.int .i64 b) := cellB y1 rfl
      have d3 : w5.cell? ⟨bc, 1, none⟩ = some (.int .i64 e') := cellB y1 rfl
      clear c0 c1 y0 y1
      go_wp2_with fail
      go_ret
      exact ⟨by rw [HY.out]; rfl, HB2.out.trans (H5.out.mono HB2.out.size)⟩
    · have FIN2 : Hid (r = false) := Lib.hid (FIN.out false (by rw [decide_eq_false hbb]; rfl))
      have hbe : (b == b') = false := beq_eq_false_iff_ne.2 hbb
      clear hbb FIN HS
      go_enter Tryd.func37, Tryd.ntmps37
      go_upto_region 1 with fail
      rw [← HW2.out, ← HBC.out, ← HBA.out]
      go_upto_region 2 with (go_at_call 25; with_reducible refine CS.out.mono ?_; rintro o w5 ⟨rfl, h⟩; have H5 := Lib.hid h; clear h)
      obtain ⟨y0, y1⟩ := HX.out _ H5.out
      have d0 : w5.cell? ⟨ba, 0, none⟩ = some (.int .i64 b) := cellB y0 rfl
      have d2 : w5.cell? ⟨bc, 0, none⟩ = some (.int .i64 b') := cellB y1 rfl
      clear c0 c1 y0 y1
      go_wp2_with fail
      go_ret
      exact ⟨by rw [FIN2.out]; rfl, HB2.out.trans (H5.out.mono HB2.out.size)⟩
end Go.Proofs.YtdbghgpohdijfaaDoor
