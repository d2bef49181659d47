/- Bytes that are owned in a block whose spare may bear a mark behind its capacity (what a conversion of a string to bytes leaves): append, store, back to a string. -/
import Derived.Test.YtblacbfkaamdgabDoorMa0
import Derived.Test.YtblacbfkaamdgabDoorMa9
import Derived.Deep.RegionWith
import Derived.Test.YtblacbfkaamdgabDoorMa4
namespace Go.Scr
open Go.RowKit
set_option linter.unusedVariables false

/-- v owns the bytes l; the block may bear a mark behind the capacity -/
def OwnM (w : World) (B T : Nat) (v : Value) (l : List UInt8) : Prop :=
  (v = .slice none 0 0 ∧ l = []) ∨
  ∃ (g cap : Nat) (cur : Array Value) (fz : Nat × Nat), v = .slice (some ⟨g, 0, none⟩) l.length cap ∧ B ≤ g ∧ w.heap[g]? = some (.cells cur T fz) ∧ l.length ≤ cap ∧ cap ≤ maxLen ∧ cur.size = cap ∧
    cur.toList.take l.length = bytesV l ∧ (fz = (0, 0) ∨ cap ≤ fz.1)
theorem run_storeCells_free (P : Program) (g o : Nat) (t : TypeId) (fz : Nat × Nat) : ∀ (vs : List Value) (i : Nat) (cur : Array Value) (w : World), w.heap[g]? = some (.cells cur t fz) → (fz = (0, 0) ∨ cur.size ≤ fz.1) → o + i + vs.length ≤ cur.size → (∀ v ∈ vs, v.oneCell' = true) →
    (storeCells ⟨g, o, none⟩ vs i).run P w = .ok () (w.setRow g (cur.toList.take (o + i) ++ vs ++ cur.toList.drop (o + i + vs.length)).toArray)
  | [], i, cur, w, hg, _, _, _ => by
    simp only [storeCells, List.append_nil, List.length_nil, Nat.add_zero, List.take_append_drop, Array.toArray_toList]
    rw [setRow_self w g cur t fz hg]
    rfl
  | v :: rest, i, cur, w, hg, hfz, hl, h1 => by
    have hi : o + i < cur.size := by simp at hl; omega
    have hadd : (⟨g, o, none⟩ : Addr).add i = ⟨g, o + i, none⟩ := by unfold Addr.add; split <;> simp_all
    have hcell : w.cell? ⟨g, o + i, none⟩ = some cur[o + i] := by simp [World.cell?, hg, hi]
    have hfro : w.frozen? ⟨g, o + i, none⟩ = false := by
      obtain ⟨lo, hi'⟩ := fz
      simp only [World.frozen?, hg, Bool.and_eq_false_iff, decide_eq_false_iff_not]
      rcases hfz with hfz | hfz
      · simp only [Prod.mk.injEq] at hfz
        right; omega
      · simp only at hfz
        left; omega
    have hst : (store ((⟨g, o, none⟩ : Addr).add i) v).run P w = .ok () (w.setRow g (cur.setIfInBounds (o + i) v)) := by
      rw [hadd, run_store P w _ v _ (h1 v (by simp)), hcell]
      simp [hfro, setCell_eq_setRow w g (o + i) cur t fz v hg]
    have ih := run_storeCells_free P g o t fz rest (i + 1) (cur.setIfInBounds (o + i) v) (w.setRow g (cur.setIfInBounds (o + i) v)) (setRow_heap w g cur _ t _ hg) (by simpa using hfz) (by simp at hl ⊢; omega) (fun x hx => h1 x (by simp [hx]))
    simp only [storeCells, Sem.run_bind, hst, Result.andThen_ok, ih, setRow_setRow]
    congr 3
    have e := list_seg_step cur.toList (o + i) v rest (by simp at hl ⊢; omega)
    simpa [Array.toList_setIfInBounds, Nat.add_assoc] using e
theorem OwnM.of {w : World} {B T : Nat} {v : Value} {l : List UInt8} (h : OwnB w B T v l) : OwnM w B T v l := by
  rcases h.2 with ⟨h1, h2⟩ | ⟨g, cap, cur, h1, h2, h3, h4, h5, h6, h7⟩
  · exact .inl ⟨h1, List.eq_nil_of_length_eq_zero h2⟩
  · exact .inr ⟨g, cap, cur, (0, 0), h1, h2, h3, h4, h5, by simpa using h6, by simpa using h7, .inl rfl⟩
theorem OwnM.lt {w : World} {B T : Nat} {v : Value} {l : List UInt8} (h : OwnM w B T v l) : ∀ k, v.ownBlock = some k → B ≤ k ∧ k < w.heap.size := by
  intro k hk
  rcases h with ⟨rfl, _⟩ | ⟨g, cap, cur, fz, rfl, hb, hg, _⟩
  · simp [Value.ownBlock] at hk
  · simp [Value.ownBlock] at hk
    subst hk
    exact ⟨hb, blk_lt hg⟩
theorem OwnM.alloc {w : World} {B T : Nat} {v : Value} {l : List UInt8} (h : OwnM w B T v l) (o : Obj) : OwnM (w.alloc o) B T v l := by
  rcases h with h | ⟨g, cap, cur, fz, hv, hb, hg, r⟩
  · exact .inl h
  · exact .inr ⟨g, cap, cur, fz, hv, hb, (Below.heap_alloc w o g (blk_lt hg)).trans hg, r⟩
theorem OwnM.cell {w : World} {B T g N c : Nat} {l : List UInt8} (h : OwnM w B T (.slice (some ⟨g, 0, none⟩) N c) l) (j : Nat) (hj : j < l.length) : w.cell? ⟨g, j, none⟩ = some (.int .u8 (l[j].toNat : Int)) := by
  rcases h with ⟨h1, _⟩ | ⟨g', cap, cur, fz, hv, hb, hg, h4, h5, h6, h7, _⟩
  · cases h1
  · injection hv with hv
    injection hv with hv
    injection hv with hv
    subst hv
    rw [cell_of_row w g j cur T fz hg]
    have e := congrArg (fun L => L[j]?) h7
    simp only [List.getElem?_take, if_pos hj] at e
    rw [← Array.getElem?_toList, e]
    simp [bytesV, hj]
theorem OwnM.len {w : World} {B T g N c : Nat} {l : List UInt8} (h : OwnM w B T (.slice (some ⟨g, 0, none⟩) N c) l) : N = l.length := by
  rcases h with ⟨h1, _⟩ | ⟨g', cap, cur, fz, h1, _⟩
  · cases h1
  · injection h1
theorem OwnM.string {P : Program} {w : World} {B S T D g N c : Nat} {l : List UInt8} (hs : P.underlying S = some (.slice T)) (he : P.underlying T = some (.int .u8)) (hd : P.underlying D = some .string)
    (h : OwnM w B T (.slice (some ⟨g, 0, none⟩) N c) l) : (convert S D (.slice (some ⟨g, 0, none⟩) N c)).run P w = .ok (.string ⟨l.toArray⟩) w := by
  have hn := h.len
  subst hn
  exact run_convert_bytes_back w S D T ⟨g, 0, none⟩ c l hs he hd fun j hj => by
    have hadd : (⟨g, 0, none⟩ : Addr).add j = ⟨g, j, none⟩ := by unfold Addr.add; split <;> simp_all
    rw [hadd]; exact h.cell j hj
theorem OwnM.below {w w' : World} {B T C : Nat} {v : Value} {l : List UInt8} (h : OwnM w B T v l) (hb : Below C w w') (hC : ∀ k, v.ownBlock = some k → k < C) : OwnM w' B T v l := by
  rcases h with h | ⟨g, cap, cur, fz, rfl, hB, hg, r⟩
  · exact .inl h
  · exact .inr ⟨g, cap, cur, fz, rfl, hB, (hb.block g (hC g rfl)).trans hg, r⟩
/-- what '[]byte(s)' leaves -/
theorem own_of_string {P : Program} (w : World) (src dst e : TypeId) (s : ByteArray) (hs : P.underlying src = some .string) (hd : P.underlying dst = some (.slice e)) (he : P.underlying e = some (.int .u8)) (hsz : s.size ≤ maxLen) :
    ∃ v w', (convert src dst (.string s)).run P w = .ok v w' ∧ (∃ c, v = .slice (some ⟨w.heap.size, 0, none⟩) s.size c) ∧ OwnM w' w.heap.size e v s.data.toList ∧ Below w.heap.size w w' ∧ w'.heap.size = w.heap.size + 1 := by
  refine ⟨_, _, run_bytes_of_string w src dst e s hs hd he, ⟨_, rfl⟩, ?_, (Below.refl _ w).drew.alloc (Nat.le_refl _) _, by simp⟩
  have hge := grownCap_ge w s.size 0 e
  have hsize : (bytesRow s (grownCap w s.size 0 e)).size = grownCap w s.size 0 e := by
    simp [bytesRow]; omega
  refine .inr ⟨w.heap.size, grownCap w s.size 0 e, _, _, by simp, Nat.le_refl _, heap_alloc_new w.drew _, by simpa using hge, grownCap_le_maxLen w s.size 0 e hsz, hsize, ?_, .inr (by rw [hsize]; exact Nat.le_refl _)⟩
  simp [bytesRow, bytesV]
theorem run_append_roomM {P : Program} (w : World) (t ty e : TypeId) (i : TypeInfo) (ht : P.underlying t = some (.slice e)) (hi : P.info? e = some i) (hone : i.size = 1)
    (g sLen sCap : Nat) (cur : Array Value) (fz : Nat × Nat) (hg : w.heap[g]? = some (.cells cur e fz)) (hfz : fz = (0, 0) ∨ cur.size ≤ fz.1)
    (a : Addr) (m c : Nat) (news : List Value) (hl : news.length = m) (hnews : ∀ j u, news[j]? = some u → w.cell? (a.add j) = some u) (h1 : ∀ u ∈ news, u.oneCell' = true)
    (hroom : sLen + m ≤ sCap) (hfit : sLen + news.length ≤ cur.size) :
    (Builtin.append_ #[t, t] ty #[.slice (some ⟨g, 0, none⟩) sLen sCap, .slice (some a) m c]).run P w =
      .ok (.slice (some ⟨g, 0, none⟩) (sLen + m) sCap) (w.setRow g (cur.toList.take sLen ++ news ++ cur.toList.drop (sLen + news.length)).toArray) := by
  have hf := run_firstCells_some (P := P) w i.size m a m c news (by rw [hone]; omega) hnews
  have hst := run_storeCells_free P g sLen e fz news 0 cur w hg hfz (by simpa using hfit) h1
  simp only [Nat.add_zero] at hst
  rw [hone] at hf
  simp [Builtin.append_, run_underlying ht, sizeOf, typeInfo, hi, hone, Builtin.lenOf, hroom, hf, Addr.add_lit, hst]
theorem bytesV_take (l x : List UInt8) (r : List Value) : (bytesV l ++ bytesV x ++ r).take (l ++ x).length = bytesV (l ++ x) := by
  have e : (l ++ x).length = (bytesV l ++ bytesV x).length := by simp [bytesV_length]
  rw [e, List.take_left]
  simp [bytesV]
theorem append_bytesM {P : Program} {w : World} {B T S ty : Nat} {v : Value} {l x : List UInt8} (h : OwnM w B T v l) (hu : P.underlying S = some (.slice T)) (hi : (P.info? T).map (fun i => (i.zero, i.size, i.bytes)) = some (some (.int .u8 0), 1, 1))
    (hB : B ≤ w.heap.size) (hl : l.length + x.length ≤ 140737488355328) :
    ∃ v' w', (Builtin.append_ #[S, S] ty #[v, .slice (some ⟨w.heap.size, 0, none⟩) x.length x.length]).run P (w.alloc (.cells (bytesV x).toArray T)) = .ok v' w' ∧ OwnM w' B T v' (l ++ x) ∧ w.grownBy w' v.ownBlock ∧ (0 < l.length + x.length → ∃ g c, v' = .slice (some ⟨g, 0, none⟩) (l.length + x.length) c) := by
  rcases h with ⟨rfl, rfl⟩ | ⟨g, cap, cur, fz, rfl, hBg, hg, hlc, hcm, hcs, htk, hfz⟩
  · obtain ⟨v', w', hr, ho, hg', hsh⟩ := append_bytes (P := P) (S := S) (ty := ty) (x := x) (l := []) (World.ownsRow_nil w B T 1) hu hi hB hl
    exact ⟨v', w', hr, OwnM.of ho, hg', hsh⟩
  · obtain ⟨i, hi0, hz, hs, hb⟩ := info_parts hi
    have hnews : ∀ j u, (bytesV x)[j]? = some u → (w.alloc (.cells (bytesV x).toArray T)).cell? ((⟨w.heap.size, 0, none⟩ : Addr).add j) = some u := fun j u hj => by
      have hadd : (⟨w.heap.size, 0, none⟩ : Addr).add j = ⟨w.heap.size, j, none⟩ := by unfold Addr.add; split <;> simp_all
      rw [hadd, World.cell?_alloc_at _ _ _ _ rfl]; simpa using hj
    have hg1 : (w.alloc (.cells (bytesV x).toArray T)).heap[g]? = some (.cells cur T fz) := (Below.heap_alloc w _ g (blk_lt hg)).trans hg
    by_cases hroom : l.length + x.length ≤ cap
    · have hr := run_append_roomM (P := P) (w.alloc (.cells (bytesV x).toArray T)) S ty T i hu hi0 hs g l.length cap cur fz hg1 (by rw [hcs]; exact hfz) ⟨w.heap.size, 0, none⟩ x.length x.length (bytesV x) (bytesV_length x) hnews (bytesV_one x) hroom (by rw [bytesV_length, hcs]; exact hroom)
      refine ⟨_, _, hr, .inr ⟨g, cap, _, fz, by simp, hBg, setRow_heap _ g cur _ T fz hg1, by simpa using hroom, hcm, ?_, ?_, hfz⟩, ⟨rfl, rfl, rfl, by simp, fun k hk hne => ?_⟩, fun _ => ⟨g, cap, rfl⟩⟩
      · simp [bytesV_length, hcs]; omega
      · rw [htk]
        exact bytesV_take l x _
      · rw [setRow_other _ _ _ _ (fun e => hne (by simp [Value.ownBlock, e])), Below.heap_alloc _ _ _ hk]
    · have holds : ∀ j u, (bytesV l)[j]? = some u → (w.alloc (.cells (bytesV x).toArray T)).cell? ((⟨g, 0, none⟩ : Addr).add j) = some u := fun j u hj => by
        have hadd : (⟨g, 0, none⟩ : Addr).add j = ⟨g, j, none⟩ := by unfold Addr.add; split <;> simp_all
        rw [hadd, cell_of_row _ g j cur T fz hg1, ← Array.getElem?_toList]
        rw [← htk, List.getElem?_take] at hj
        split at hj
        · exact hj
        · cases hj
      have hr := run_append_grow (P := P) (w.alloc (.cells (bytesV x).toArray T)) S ty T i (.int .u8 0) hu hi0 hz ⟨g, 0, none⟩ l.length cap (bytesV l) (by rw [hs, bytesV_length]; omega) holds ⟨w.heap.size, 0, none⟩ x.length x.length (bytesV x) (by rw [hs, bytesV_length]; omega) hnews (by omega) (by omega)
        (growslice_fits (by omega) (by rw [hb]; omega))
      have hge := grownCap_ge (w.alloc (.cells (bytesV x).toArray T)) (l.length + x.length) cap T
      refine ⟨_, _, hr, .inr ⟨w.heap.size + 1, grownCap (w.alloc (.cells (bytesV x).toArray T)) (l.length + x.length) cap T, _, (0, 0), by simp, by omega, heap_alloc_at _ _ _ (by simp), by simpa using hge, grownCap_le_maxLen _ _ _ _ (by simp only [maxLen]; omega), ?_, ?_, .inl rfl⟩, ⟨rfl, rfl, rfl, by simp; omega, fun k hk hne => ?_⟩, fun _ => ⟨w.heap.size + 1, grownCap (w.alloc (.cells (bytesV x).toArray T)) (l.length + x.length) cap T, by simp⟩⟩
      · simp [bytesV_length, size_zeroCells, Value.cells]; omega
      · rw [show ((bytesV l).toArray ++ (bytesV x).toArray ++ Builtin.zeroCells (Value.int .u8 0).cells (grownCap (w.alloc (.cells (bytesV x).toArray T)) (l.length + x.length) cap T - (l.length + x.length))).toList = bytesV l ++ bytesV x ++ (Builtin.zeroCells (Value.int .u8 0).cells (grownCap (w.alloc (.cells (bytesV x).toArray T)) (l.length + x.length) cap T - (l.length + x.length))).toList from by simp]
        exact bytesV_take l x _
      · show (((w.alloc _).drew.alloc _).heap[k]?) = _
        rw [Below.heap_alloc (w.alloc (.cells (bytesV x).toArray T)).drew _ k (by simp; omega)]
        exact Below.heap_alloc _ _ _ hk
/-- the same as a law of the walk: behind 'at_builtin' -/
theorem wpList_appendM {P : Program} {ops : Array Oper} {rest : List Oper} {o : Oper} {a : Act} {Q : Exit → Act → World → Prop} {W : World} {cs : Array Value} {T S : TypeId} (hgd : o.guard = none) (s x : Operand)
    (ho : o.op = .call { callee := .builtin .append, args := #[s, x], argTypes := #[S, S] }) (hu : P.underlying S = some (.slice T)) (hi : (P.info? T).map (fun i => (i.zero, i.size, i.bytes)) = some (some (.int .u8 0), 1, 1))
    {B : Nat} {v : Value} {l : List UInt8} (xs : List UInt8) (N : Nat) {n : Nat} (hs : a.eval s = v) (hx : a.eval x = .slice (some ⟨W.heap.size, 0, none⟩) n n) (hown : OwnM W B T v l) (hcs : cs = (bytesV xs).toArray) (hn : n = xs.length)
    {C : Nat} {w0 : World} (hb : Below C w0 W) (hCB : C ≤ B) (hB : B ≤ W.heap.size) (hN : N = l.length + xs.length) (hpos : 0 < N) (hl : N ≤ 140737488355328)
    (h : ∀ (g c : Nat) w', OwnM w' B T (.slice (some ⟨g, 0, none⟩) N c) (l ++ xs) → Below C w0 w' → W.heap.size ≤ w'.heap.size → wpList P ops Q rest (a.put o.dst (.slice (some ⟨g, 0, none⟩) N c)) w') :
    wpList P ops Q (o :: rest) a (W.alloc (.cells cs T)) := by
  subst hcs hn hN
  obtain ⟨v', w', hrun, h2, h3, h4⟩ := append_bytesM (P := P) (S := S) (ty := o.type) (x := xs) hown hu hi hB hl
  obtain ⟨g, c, rfl⟩ := h4 hpos
  refine wpList_plain hgd fun _ hK => ?_
  unfold Oper.wp execOp
  simp only [ho, resolve, invoke, builtin, Sem.run_bind, Sem.run_pure, Result.andThen_ok, List.map_toArray, List.map_cons, List.map_nil, hs, hx, hrun]
  exact hK _ _ (h g c w' h2 (hb.grown h3 (by omega) (fun k hk => by have := hown.lt k hk; omega)) h3.size)
end Go.Scr
/- The reference's big, filled and Sum, walked. -/
namespace Go.Proofs.YtblacbfkaamdgabDoor
open Go.RowKit Go.Scr
set_option linter.unusedVariables false

theorem rinfo_u8 : (Tryd.prog.info? 5).map (fun i => (i.zero, i.size, i.bytes)) = some (some (.int .u8 0), 1, 1) := by kernel_rfl
theorem rund_u8 : Tryd.prog.underlying 5 = some (.int .u8) := by kernel_rfl
theorem rund_string : Tryd.prog.underlying 9 = some .string := by kernel_rfl

end Go.Proofs.YtblacbfkaamdgabDoor
/- The reference's Sum, walked. -/
namespace Go.Proofs.YtblacbfkaamdgabDoor
open Go.RowKit Go.Scr
set_option linter.unusedVariables false

theorem below_from {B : Nat} {a b c : World} (h : Below B a b) (g : Below b.heap.size b c) (hb : B ≤ b.heap.size) : Below B a c :=
  ⟨g.os.trans h.os, g.tape.trans h.tape, g.output.trans h.output, Nat.le_trans h.size g.size, fun q hq => (g.block q (Nat.lt_of_lt_of_le hq hb)).trans (h.block q hq)⟩

theorem rflat_step (S : List Nat) (n : Nat) (h : n < S.length) : (S.take (n + 1)).flatMap be4 = (S.take n).flatMap be4 ++ be4 (S.getD n 0) := by
  rw [List.take_succ_eq_append_getElem h, List.flatMap_append]
  simp [List.getD_eq_getElem?_getD, h]
theorem rflat_length (S : List Nat) : (S.flatMap be4).length = 4 * S.length := by
  induction S with
  | nil => rfl
  | cons a S ih => rw [List.flatMap_cons, List.length_append, ih]; simp [be4]; omega
end Go.Proofs.YtblacbfkaamdgabDoor
