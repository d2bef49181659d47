/- Bytes that are owned in a block whose spare may bear a mark behind its capacity (what a conversion of a string to bytes leaves): append, store, back to a string. -/
import Derived.Test.YtafookdllnhdaaaDoorMa0
import Derived.Test.YtafookdllnhdaaaDoorMa9
import Derived.Deep.RegionWith
import Derived.Test.YtafookdllnhdaaaDoorMa4
namespace Go.Scr
open Go.RowKit
set_option linter.unusedVariables false

/-- v owns the bytes l; the block may bear a mark behind the capacity -/
def OwnM (w : World) (B T : Nat) (v : Value) (l : List UInt8) : Prop :=
  (v = .slice none 0 0 ∧ l = []) ∨
  ∃ (g cap : Nat) (cur : Array Value) (fz : Nat × Nat), v = .slice (some ⟨g, 0, none⟩) l.length cap ∧ B ≤ g ∧ w.heap[g]? = some (.cells cur T fz) ∧ l.length ≤ cap ∧ cap ≤ maxLen ∧ cur.size = cap ∧
    cur.toList.take l.length = bytesV l ∧ (fz = (0, 0) ∨ cap ≤ fz.1)
theorem run_storeCells_free (P : Program) (g o : Nat) (t : TypeId) (fz : Nat × Nat) : ∀ (vs : List Value) (i : Nat) (cur : Array Value) (w : World), w.heap[g]? = some (.cells cur t fz) → (fz = (0, 0) ∨ cur.size ≤ fz.1) → o + i + vs.length ≤ cur.size → (∀ v ∈ vs, v.oneCell' = true) →
    (storeCells ⟨g, o, none⟩ vs i).run P w = .ok () (w.setRow g (cur.toList.take (o + i) ++ vs ++ cur.toList.drop (o + i + vs.length)).toArray)
  | [], i, cur, w, hg, _, _, _ => by
    simp only [storeCells, List.append_nil, List.length_nil, Nat.add_zero, List.take_append_drop, Array.toArray_toList]
    rw [setRow_self w g cur t fz hg]
    rfl
  | v :: rest, i, cur, w, hg, hfz, hl, h1 => by
    have hi : o + i < cur.size := by simp at hl; omega
    have hadd : (⟨g, o, none⟩ : Addr).add i = ⟨g, o + i, none⟩ := by unfold Addr.add; split <;> simp_all
    have hcell : w.cell? ⟨g, o + i, none⟩ = some cur[o + i] := by simp [World.cell?, hg, hi]
    have hfro : w.frozen? ⟨g, o + i, none⟩ = false := by
      obtain ⟨lo, hi'⟩ := fz
      simp only [World.frozen?, hg, Bool.and_eq_false_iff, decide_eq_false_iff_not]
      rcases hfz with hfz | hfz
      · simp only [Prod.mk.injEq] at hfz
        right; omega
      · simp only at hfz
        left; omega
    have hst : (store ((⟨g, o, none⟩ : Addr).add i) v).run P w = .ok () (w.setRow g (cur.setIfInBounds (o + i) v)) := by
      rw [hadd, run_store P w _ v _ (h1 v (by simp)), hcell]
      simp [hfro, setCell_eq_setRow w g (o + i) cur t fz v hg]
    have ih := run_storeCells_free P g o t fz rest (i + 1) (cur.setIfInBounds (o + i) v) (w.setRow g (cur.setIfInBounds (o + i) v)) (setRow_heap w g cur _ t _ hg) (by simpa using hfz) (by simp at hl ⊢; omega) (fun x hx => h1 x (by simp [hx]))
    simp only [storeCells, Sem.run_bind, hst, Result.andThen_ok, ih, setRow_setRow]
    congr 3
    have e := list_seg_step cur.toList (o + i) v rest (by simp at hl ⊢; omega)
    simpa [Array.toList_setIfInBounds, Nat.add_assoc] using e
theorem OwnM.of {w : World} {B T : Nat} {v : Value} {l : List UInt8} (h : OwnB w B T v l) : OwnM w B T v l := by
  rcases h.2 with ⟨h1, h2⟩ | ⟨g, cap, cur, h1, h2, h3, h4, h5, h6, h7⟩
  · exact .inl ⟨h1, List.eq_nil_of_length_eq_zero h2⟩
  · exact .inr ⟨g, cap, cur, (0, 0), h1, h2, h3, h4, h5, by simpa using h6, by simpa using h7, .inl rfl⟩
theorem OwnM.lt {w : World} {B T : Nat} {v : Value} {l : List UInt8} (h : OwnM w B T v l) : ∀ k, v.ownBlock = some k → B ≤ k ∧ k < w.heap.size := by
  intro k hk
  rcases h with ⟨rfl, _⟩ | ⟨g, cap, cur, fz, rfl, hb, hg, _⟩
  · simp [Value.ownBlock] at hk
  · simp [Value.ownBlock] at hk
    subst hk
    exact ⟨hb, blk_lt hg⟩
theorem OwnM.alloc {w : World} {B T : Nat} {v : Value} {l : List UInt8} (h : OwnM w B T v l) (o : Obj) : OwnM (w.alloc o) B T v l := by
  rcases h with h | ⟨g, cap, cur, fz, hv, hb, hg, r⟩
  · exact .inl h
  · exact .inr ⟨g, cap, cur, fz, hv, hb, (Below.heap_alloc w o g (blk_lt hg)).trans hg, r⟩
theorem OwnM.cell {w : World} {B T g N c : Nat} {l : List UInt8} (h : OwnM w B T (.slice (some ⟨g, 0, none⟩) N c) l) (j : Nat) (hj : j < l.length) : w.cell? ⟨g, j, none⟩ = some (.int .u8 (l[j].toNat : Int)) := by
  rcases h with ⟨h1, _⟩ | ⟨g', cap, cur, fz, hv, hb, hg, h4, h5, h6, h7, _⟩
  · cases h1
  · injection hv with hv
    injection hv with hv
    injection hv with hv
    subst hv
    rw [cell_of_row w g j cur T fz hg]
    have e := congrArg (fun L => L[j]?) h7
    simp only [List.getElem?_take, if_pos hj] at e
    rw [← Array.getElem?_toList, e]
    simp [bytesV, hj]
theorem OwnM.len {w : World} {B T g N c : Nat} {l : List UInt8} (h : OwnM w B T (.slice (some ⟨g, 0, none⟩) N c) l) : N = l.length := by
  rcases h with ⟨h1, _⟩ | ⟨g', cap, cur, fz, h1, _⟩
  · cases h1
  · injection h1
theorem OwnM.string {P : Program} {w : World} {B S T D g N c : Nat} {l : List UInt8} (hs : P.underlying S = some (.slice T)) (he : P.underlying T = some (.int .u8)) (hd : P.underlying D = some .string)
    (h : OwnM w B T (.slice (some ⟨g, 0, none⟩) N c) l) : (convert S D (.slice (some ⟨g, 0, none⟩) N c)).run P w = .ok (.string ⟨l.toArray⟩) w := by
  have hn := h.len
  subst hn
  exact run_convert_bytes_back w S D T ⟨g, 0, none⟩ c l hs he hd fun j hj => by
    have hadd : (⟨g, 0, none⟩ : Addr).add j = ⟨g, j, none⟩ := by unfold Addr.add; split <;> simp_all
    rw [hadd]; exact h.cell j hj
theorem OwnM.below {w w' : World} {B T C : Nat} {v : Value} {l : List UInt8} (h : OwnM w B T v l) (hb : Below C w w') (hC : ∀ k, v.ownBlock = some k → k < C) : OwnM w' B T v l := by
  rcases h with h | ⟨g, cap, cur, fz, rfl, hB, hg, r⟩
  · exact .inl h
  · exact .inr ⟨g, cap, cur, fz, rfl, hB, (hb.block g (hC g rfl)).trans hg, r⟩
/-- what '[]byte(s)' leaves -/
theorem own_of_string {P : Program} (w : World) (src dst e : TypeId) (s : ByteArray) (hs : P.underlying src = some .string) (hd : P.underlying dst = some (.slice e)) (he : P.underlying e = some (.int .u8)) (hsz : s.size ≤ maxLen) :
    ∃ v w', (convert src dst (.string s)).run P w = .ok v w' ∧ (∃ c, v = .slice (some ⟨w.heap.size, 0, none⟩) s.size c) ∧ OwnM w' w.heap.size e v s.data.toList ∧ Below w.heap.size w w' ∧ w'.heap.size = w.heap.size + 1 := by
  refine ⟨_, _, run_bytes_of_string w src dst e s hs hd he, ⟨_, rfl⟩, ?_, (Below.refl _ w).drew.alloc (Nat.le_refl _) _, by simp⟩
  have hge := grownCap_ge w s.size 0 e
  have hsize : (bytesRow s (grownCap w s.size 0 e)).size = grownCap w s.size 0 e := by
    simp [bytesRow]; omega
  refine .inr ⟨w.heap.size, grownCap w s.size 0 e, _, _, by simp, Nat.le_refl _, heap_alloc_new w.drew _, by simpa using hge, grownCap_le_maxLen w s.size 0 e hsz, hsize, ?_, .inr (by rw [hsize]; exact Nat.le_refl _)⟩
  simp [bytesRow, bytesV]
theorem run_append_roomM {P : Program} (w : World) (t ty e : TypeId) (i : TypeInfo) (ht : P.underlying t = some (.slice e)) (hi : P.info? e = some i) (hone : i.size = 1)
    (g sLen sCap : Nat) (cur : Array Value) (fz : Nat × Nat) (hg : w.heap[g]? = some (.cells cur e fz)) (hfz : fz = (0, 0) ∨ cur.size ≤ fz.1)
    (a : Addr) (m c : Nat) (news : List Value) (hl : news.length = m) (hnews : ∀ j u, news[j]? = some u → w.cell? (a.add j) = some u) (h1 : ∀ u ∈ news, u.oneCell' = true)
    (hroom : sLen + m ≤ sCap) (hfit : sLen + news.length ≤ cur.size) :
    (Builtin.append_ #[t, t] ty #[.slice (some ⟨g, 0, none⟩) sLen sCap, .slice (some a) m c]).run P w =
      .ok (.slice (some ⟨g, 0, none⟩) (sLen + m) sCap) (w.setRow g (cur.toList.take sLen ++ news ++ cur.toList.drop (sLen + news.length)).toArray) := by
  have hf := run_firstCells_some (P := P) w i.size m a m c news (by rw [hone]; omega) hnews
  have hst := run_storeCells_free P g sLen e fz news 0 cur w hg hfz (by simpa using hfit) h1
  simp only [Nat.add_zero] at hst
  rw [hone] at hf
  simp [Builtin.append_, run_underlying ht, sizeOf, typeInfo, hi, hone, Builtin.lenOf, hroom, hf, Addr.add_lit, hst]
theorem bytesV_take (l x : List UInt8) (r : List Value) : (bytesV l ++ bytesV x ++ r).take (l ++ x).length = bytesV (l ++ x) := by
  have e : (l ++ x).length = (bytesV l ++ bytesV x).length := by simp [bytesV_length]
  rw [e, List.take_left]
  simp [bytesV]
theorem append_bytesM {P : Program} {w : World} {B T S ty : Nat} {v : Value} {l x : List UInt8} (h : OwnM w B T v l) (hu : P.underlying S = some (.slice T)) (hi : (P.info? T).map (fun i => (i.zero, i.size, i.bytes)) = some (some (.int .u8 0), 1, 1))
    (hB : B ≤ w.heap.size) (hl : l.length + x.length ≤ 140737488355328) :
    ∃ v' w', (Builtin.append_ #[S, S] ty #[v, .slice (some ⟨w.heap.size, 0, none⟩) x.length x.length]).run P (w.alloc (.cells (bytesV x).toArray T)) = .ok v' w' ∧ OwnM w' B T v' (l ++ x) ∧ w.grownBy w' v.ownBlock ∧ (0 < l.length + x.length → ∃ g c, v' = .slice (some ⟨g, 0, none⟩) (l.length + x.length) c) := by
  rcases h with ⟨rfl, rfl⟩ | ⟨g, cap, cur, fz, rfl, hBg, hg, hlc, hcm, hcs, htk, hfz⟩
  · obtain ⟨v', w', hr, ho, hg', hsh⟩ := append_bytes (P := P) (S := S) (ty := ty) (x := x) (l := []) (World.ownsRow_nil w B T 1) hu hi hB hl
    exact ⟨v', w', hr, OwnM.of ho, hg', hsh⟩
  · obtain ⟨i, hi0, hz, hs, hb⟩ := info_parts hi
    have hnews : ∀ j u, (bytesV x)[j]? = some u → (w.alloc (.cells (bytesV x).toArray T)).cell? ((⟨w.heap.size, 0, none⟩ : Addr).add j) = some u := fun j u hj => by
      have hadd : (⟨w.heap.size, 0, none⟩ : Addr).add j = ⟨w.heap.size, j, none⟩ := by unfold Addr.add; split <;> simp_all
      rw [hadd, World.cell?_alloc_at _ _ _ _ rfl]; simpa using hj
    have hg1 : (w.alloc (.cells (bytesV x).toArray T)).heap[g]? = some (.cells cur T fz) := (Below.heap_alloc w _ g (blk_lt hg)).trans hg
    by_cases hroom : l.length + x.length ≤ cap
    · have hr := run_append_roomM (P := P) (w.alloc (.cells (bytesV x).toArray T)) S ty T i hu hi0 hs g l.length cap cur fz hg1 (by rw [hcs]; exact hfz) ⟨w.heap.size, 0, none⟩ x.length x.length (bytesV x) (bytesV_length x) hnews (bytesV_one x) hroom (by rw [bytesV_length, hcs]; exact hroom)
      refine ⟨_, _, hr, .inr ⟨g, cap, _, fz, by simp, hBg, setRow_heap _ g cur _ T fz hg1, by simpa using hroom, hcm, ?_, ?_, hfz⟩, ⟨rfl, rfl, rfl, by simp, fun k hk hne => ?_⟩, fun _ => ⟨g, cap, rfl⟩⟩
      · simp [bytesV_length, hcs]; omega
      · rw [htk]
        exact bytesV_take l x _
      · rw [setRow_other _ _ _ _ (fun e => hne (by simp [Value.ownBlock, e])), Below.heap_alloc _ _ _ hk]
    · have holds : ∀ j u, (bytesV l)[j]? = some u → (w.alloc (.cells (bytesV x).toArray T)).cell? ((⟨g, 0, none⟩ : Addr).add j) = some u := fun j u hj => by
        have hadd : (⟨g, 0, none⟩ : Addr).add j = ⟨g, j, none⟩ := by unfold Addr.add; split <;> simp_all
        rw [hadd, cell_of_row _ g j cur T fz hg1, ← Array.getElem?_toList]
        rw [← htk, List.getElem?_take] at hj
        split at hj
        · exact hj
        · cases hj
      have hr := run_append_grow (P := P) (w.alloc (.cells (bytesV x).toArray T)) S ty T i (.int .u8 0) hu hi0 hz ⟨g, 0, none⟩ l.length cap (bytesV l) (by rw [hs, bytesV_length]; omega) holds ⟨w.heap.size, 0, none⟩ x.length x.length (bytesV x) (by rw [hs, bytesV_length]; omega) hnews (by omega) (by omega)
        (growslice_fits (by omega) (by rw [hb]; omega))
      have hge := grownCap_ge (w.alloc (.cells (bytesV x).toArray T)) (l.length + x.length) cap T
      refine ⟨_, _, hr, .inr ⟨w.heap.size + 1, grownCap (w.alloc (.cells (bytesV x).toArray T)) (l.length + x.length) cap T, _, (0, 0), by simp, by omega, heap_alloc_at _ _ _ (by simp), by simpa using hge, grownCap_le_maxLen _ _ _ _ (by simp only [maxLen]; omega), ?_, ?_, .inl rfl⟩, ⟨rfl, rfl, rfl, by simp; omega, fun k hk hne => ?_⟩, fun _ => ⟨w.heap.size + 1, grownCap (w.alloc (.cells (bytesV x).toArray T)) (l.length + x.length) cap T, by simp⟩⟩
      · simp [bytesV_length, size_zeroCells, Value.cells]; omega
      · rw [show ((bytesV l).toArray ++ (bytesV x).toArray ++ Builtin.zeroCells (Value.int .u8 0).cells (grownCap (w.alloc (.cells (bytesV x).toArray T)) (l.length + x.length) cap T - (l.length + x.length))).toList = bytesV l ++ bytesV x ++ (Builtin.zeroCells (Value.int .u8 0).cells (grownCap (w.alloc (.cells (bytesV x).toArray T)) (l.length + x.length) cap T - (l.length + x.length))).toList from by simp]
        exact bytesV_take l x _
      · show (((w.alloc _).drew.alloc _).heap[k]?) = _
        rw [Below.heap_alloc (w.alloc (.cells (bytesV x).toArray T)).drew _ k (by simp; omega)]
        exact Below.heap_alloc _ _ _ hk
/-- the same as a law of the walk: behind 'at_builtin' -/
theorem wpList_appendM {P : Program} {ops : Array Oper} {rest : List Oper} {o : Oper} {a : Act} {Q : Exit → Act → World → Prop} {W : World} {cs : Array Value} {T S : TypeId} (hgd : o.guard = none) (s x : Operand)
    (ho : o.op = .call { callee := .builtin .append, args := #[s, x], argTypes := #[S, S] }) (hu : P.underlying S = some (.slice T)) (hi : (P.info? T).map (fun i => (i.zero, i.size, i.bytes)) = some (some (.int .u8 0), 1, 1))
    {B : Nat} {v : Value} {l : List UInt8} (xs : List UInt8) (N : Nat) {n : Nat} (hs : a.eval s = v) (hx : a.eval x = .slice (some ⟨W.heap.size, 0, none⟩) n n) (hown : OwnM W B T v l) (hcs : cs = (bytesV xs).toArray) (hn : n = xs.length)
    {C : Nat} {w0 : World} (hb : Below C w0 W) (hCB : C ≤ B) (hB : B ≤ W.heap.size) (hN : N = l.length + xs.length) (hpos : 0 < N) (hl : N ≤ 140737488355328)
    (h : ∀ (g c : Nat) w', OwnM w' B T (.slice (some ⟨g, 0, none⟩) N c) (l ++ xs) → Below C w0 w' → W.heap.size ≤ w'.heap.size → wpList P ops Q rest (a.put o.dst (.slice (some ⟨g, 0, none⟩) N c)) w') :
    wpList P ops Q (o :: rest) a (W.alloc (.cells cs T)) := by
  subst hcs hn hN
  obtain ⟨v', w', hrun, h2, h3, h4⟩ := append_bytesM (P := P) (S := S) (ty := o.type) (x := xs) hown hu hi hB hl
  obtain ⟨g, c, rfl⟩ := h4 hpos
  refine wpList_plain hgd fun _ hK => ?_
  unfold Oper.wp execOp
  simp only [ho, resolve, invoke, builtin, Sem.run_bind, Sem.run_pure, Result.andThen_ok, List.map_toArray, List.map_cons, List.map_nil, hs, hx, hrun]
  exact hK _ _ (h g c w' h2 (hb.grown h3 (by omega) (fun k hk => by have := hown.lt k hk; omega)) h3.size)
end Go.Scr
/- The reference's big, filled and Sum, walked. -/
namespace Go.Proofs.YtafookdllnhdaaaDoor
open Go.RowKit Go.Scr
set_option linter.unusedVariables false

theorem rinfo_u8 : (Tryd.prog.info? 5).map (fun i => (i.zero, i.size, i.bytes)) = some (some (.int .u8 0), 1, 1) := by kernel_rfl
theorem rund_u8 : Tryd.prog.underlying 5 = some (.int .u8) := by kernel_rfl
theorem rund_string : Tryd.prog.underlying 9 = some .string := by kernel_rfl

set_option maxRecDepth 100000 in
set_option maxHeartbeats 1000000 in
theorem big_any (n many : Nat) (w : World) (hn : n < 9223372036854775808) (hm : 1 ≤ many) (hm8 : many ≤ 8) :
    Calls Tryd.prog 93 #[.int .i64 n, .int .i64 many] w fun e w' => e = .returned (.string ⟨(bigN n many).toArray⟩) ∧ Below w.heap.size w w' := by
  have hmk := make_bytes (P := Tryd.prog) 82 5 Tryd.underlying82 rinfo_u8 many many (Nat.le_refl _) (by omega)
  go_enter Tryd.func93, Tryd.ntmps93
  go_wp2_with fail
  obtain ⟨B, hB⟩ : ∃ B, B = w.heap.size := ⟨_, rfl⟩
  have hb0 : (w.alloc (.cells (madeCells #[.int .u8 0] many) 5)).heap[B]? = some (.cells (bytesV (bigPart n many 0)).toArray 5 (0, 0)) := by
    rw [heap_alloc_at _ _ _ hB, madeCells_bytes, bigPart_zero]
  have hbe : Below B w (w.alloc (.cells (madeCells #[.int .u8 0] many) 5)) := (Below.refl _ _).alloc (by omega) _
  rw [← hB]
  generalize w.alloc (.cells (madeCells #[.int .u8 0] many) 5) = w1 at hb0 hbe ⊢
  have HB0 := Lib.hid hb0
  have HBE := Lib.hid hbe
  have HBQ := Lib.hid hB
  clear hb0 hbe hB hmk
  go_loopw [6] (fun v wr => ∃ i : Nat, i ≤ many ∧ v = .int .i64 i ∧ wr.heap[B]? = some (.cells (bytesV (bigPart n many i)).toArray 5 (0, 0)) ∧ Below B w wr) (fun v _ => many - (intOf v).toNat)
  case atStart => exact ⟨0, by omega, rfl, HB0.out, HBE.out⟩
  case round =>
    clear HB0 HBE
    obtain ⟨i, hi, rfl, hb, hbe⟩ := hrel
    by_cases hlt : i < many
    · have hpl := bigPart_length n many i hi
      have hz := frozen_of_row wr B (many - 1 - i) _ _ hb
      obtain ⟨v, hv⟩ : ∃ v, (bytesV (bigPart n many i)).toArray[many - 1 - i]? = some v := by
        rw [List.getElem?_toArray]
        exact ⟨_, List.getElem?_eq_getElem (by rw [bytesV_length, hpl]; omega)⟩
      have hc := (cell_of_row wr B (many - 1 - i) _ _ _ hb).trans hv
      have HP : Hid ((bytesV (bigPart n many i)).toArray.setIfInBounds (many - 1 - i) (.int .u8 ((UInt8.ofNat (n / 2 ^ (8 * i))).toNat : Int)) = (bytesV (bigPart n many (i + 1))).toArray) := by
        show _ = _
        rw [← bigPart_step n many i hlt, List.setIfInBounds_toArray]
        simp [bytesV, List.map_set]
      have HB := Lib.hid hb
      have HBE := Lib.hid hbe
      clear hb hbe hpl hv
      go_wp2
      go_roundw
      case rel =>
        have e : ((n : Int) / 2 ^ (8 * i) % 256) = ((UInt8.ofNat (n / 2 ^ (8 * i))).toNat : Int) := by rw [← byte_cell]; simp
        refine ⟨i + 1, by omega, by go_num, ?_, HBE.out.setCell (Nat.le_refl _) _⟩
        rw [e, ← HP.out]
        exact blk_set HB.out _ _
      case measure => simp [intOf]; omega
    · have hi' : i = many := by omega
      rw [hi', bigPart_all] at hb
      have hcv := own_string (P := Tryd.prog) Tryd.underlying82 rund_u8 rund_string (own_of_blk hb (n := many) (bigN_length n many).symm (by rw [bigN_length]; omega))
      have HBE := Lib.hid hbe
      clear hb hbe hi'
      go_wp2
      go_ret
      exact ⟨rfl, by rw [← HBQ.out]; exact HBE.out⟩

theorem big8_any (n : Nat) (w : World) (hn : n < 9223372036854775808) :
    Calls Tryd.prog 93 #[.int .i64 n, .int .i64 8] w fun e w' => e = .returned (.string ⟨(be8 n).toArray⟩) ∧ Below w.heap.size w w' := by
  have h := big_any n 8 w hn (by omega) (by omega)
  rw [bigN_8] at h
  exact h
theorem big4_any (n : Nat) (w : World) (hn : n < 9223372036854775808) :
    Calls Tryd.prog 93 #[.int .i64 n, .int .i64 4] w fun e w' => e = .returned (.string ⟨(be4 n).toArray⟩) ∧ Below w.heap.size w w' := by
  have h := big_any n 4 w hn (by omega) (by omega)
  rw [bigN_4] at h
  exact h
set_option maxRecDepth 100000 in
set_option maxHeartbeats 1000000 in
theorem filled_any (s : ByteArray) (w : World) (hl : s.size ≤ 140737488355200) :
    Calls Tryd.prog 90 #[.string s] w fun e w' => e = .returned (.string ⟨(s.data.toList ++ filling s.data.toList.length).toArray⟩) ∧ Below w.heap.size w w' := by
  obtain ⟨v0, w1, hcv, ⟨c0, rfl⟩, hown, hbel, hsz⟩ := own_of_string (P := Tryd.prog) w 9 82 5 s rund_string Tryd.underlying82 rund_u8 (by simp only [maxLen]; omega)
  obtain ⟨L, hL⟩ : ∃ L, L = s.data.toList.length := ⟨_, rfl⟩
  have hsL : s.size = L := by rw [hL]; simp
  have HO := Lib.hid hown
  have HB := Lib.hid hbel
  have HL := Lib.hid hL
  have HSL := Lib.hid hsL
  have HSZ := Lib.hid hsz
  obtain ⟨B, hB⟩ : ∃ B, B = w.heap.size := ⟨_, rfl⟩
  have HBQ := Lib.hid hB
  clear hown hbel hL hsL hsz hB
  go_enter Tryd.func90, Tryd.ntmps90
  go_wp2_with (at_builtin; refine wpList_appendM rfl _ _ rfl Tryd.underlying82 rinfo_u8 [128] (s.size + 1) rfl rfl HO.out rfl rfl HB.out (Nat.le_refl _) (by have := HSZ.out; omega) (by simp) (by omega) (by omega) ?_; intro g1 c1 w2 hown2 hb2 hsz2; have HO2 := Lib.hid hown2; have HB2 := Lib.hid hb2; clear hown2 hb2)
  obtain ⟨Z, hZ⟩ : ∃ Z, Z = zer L := ⟨_, rfl⟩
  have hZ64 : Z < 64 := hZ ▸ zer_lt L
  have HZ := Lib.hid hZ
  have hLs : L ≤ 140737488355200 := by have := HSL.out; omega
  clear hZ hcv
  have hBw : w.heap.size + 1 ≤ w2.heap.size := by have := HSZ.out; omega
  go_loopw [4] (fun v wr => ∃ k g c : Nat, k ≤ Z ∧ v = .slice (some ⟨g, 0, none⟩) (s.size + 1 + k) c ∧ OwnM wr w.heap.size 5 v (s.data.toList ++ (128 :: List.replicate k 0)) ∧ Below w.heap.size w wr ∧ w.heap.size + 1 ≤ wr.heap.size) (fun v _ => s.size + 65 - (match v with | .slice _ n _ => n | _ => 0))
  case atStart => exact ⟨0, g1, c1, Nat.zero_le _, rfl, HO2.out, HB2.out, hBw⟩
  case round =>
    clear HO2 HB2 hBw hsz2
    obtain ⟨k, g, c, hk, rfl, hown, hbel, hszr⟩ := hrel
    by_cases hkz : k < Z
    · have hd := zer_more L k (by rw [← HZ.out]; exact hkz)
      have hd' : (s.size + 1 + k) % 64 ≠ 56 := by have := HSL.out; omega
      have HOWN := Lib.hid hown
      have HBEL := Lib.hid hbel
      clear hown hbel hd
      have HLen : Hid (s.size + 1 + k + 1 = (s.data.toList ++ (128 :: List.replicate k 0)).length + [0].length) := by
        show _ = _
        have := HSL.out; have := HL.out
        simp; omega
      go_wp2_with (at_builtin; refine wpList_appendM rfl _ _ rfl Tryd.underlying82 rinfo_u8 [0] (s.size + 1 + k + 1) rfl rfl HOWN.out rfl rfl HBEL.out (Nat.le_refl _) (by omega) HLen.out (by omega) (by omega) ?_; intro g' c' w' hown' hb' hsz'; have HOWN' := Lib.hid hown'; have HB' := Lib.hid hb'; clear hown' hb')
      go_roundw
      case rel =>
        refine ⟨k + 1, g', c', by omega, rfl, ?_, HB'.out, by omega⟩
        rw [List.replicate_succ']
        simpa using HOWN'.out
      case measure => simp; omega
    · have HK := Lib.hid (show k = Z by omega)
      have hd1 : (s.size + 1 + k) % 64 ≤ 56 := by have := zer_done L; have := HZ.out; have := HK.out; have := HSL.out; subst_vars; omega
      have hd2 : 56 ≤ (s.size + 1 + k) % 64 := by have := zer_done L; have := HZ.out; have := HK.out; have := HSL.out; subst_vars; omega
      have HOWN := Lib.hid hown
      have HBEL := Lib.hid hbel
      clear hown hbel
      go_wp2_with fail
      obtain ⟨M, hM⟩ : ∃ M, M = 8 * s.size := ⟨_, rfl⟩
      have hMw : IntKind.i64.wrap (8 * (s.size : Int)) = (M : Int) := by rw [wrap_i64_id _ (by omega) (by omega)]; omega
      have hMb : M < 9223372036854775808 := by omega
      have HM := Lib.hid hM
      clear hM
      obtain ⟨X, hX⟩ : ∃ X : ByteArray, X = ⟨(s.data.toList ++ (128 :: List.replicate k 0)).toArray⟩ := ⟨_, rfl⟩
      have hcv1 := (show OwnM wr.drew w.heap.size 5 (.slice (some ⟨g, 0, none⟩) (s.size + 1 + k) c) (s.data.toList ++ (128 :: List.replicate k 0)) from HOWN.out).string (P := Tryd.prog) (S := 82) (D := 9) Tryd.underlying82 rund_u8 rund_string
      rw [← hX] at hcv1
      have hXs : X.size ≤ 140737488356000 := by
        rw [hX]
        show (s.data.toList ++ (128 :: List.replicate k 0)).toArray.size ≤ _
        have := HL.out; have := HSL.out
        simp; omega
      obtain ⟨Y, hY⟩ : ∃ Y : ByteArray, Y = ⟨(be8 M).toArray⟩ := ⟨_, rfl⟩
      have hYs : Y.size ≤ 8 := by
        rw [hY]
        show (be8 M).toArray.size ≤ _
        simp [be8_length]
      have hbig := fun W => big8_any M W hMb
      rw [← hY] at hbig
      have HBIG := Lib.hid hbig
      have HX := Lib.hid hX
      have HY := Lib.hid hY
      clear hX hY hbig
      go_region_with (go_at_call 93; refine (HBIG.out _).mono ?_; rintro e w' ⟨rfl, hb'⟩; have hcv2 := (OwnM.below (w := wr.drew) HOWN.out hb' (fun k hk => (OwnM.lt HOWN.out k hk).2)).string (P := Tryd.prog) (S := 82) (D := 9) Tryd.underlying82 rund_u8 rund_string; rw [← HX.out] at hcv2; have HB' := Lib.hid hb'; clear hb')
      all_goals
        go_wp2_with fail
        go_ret
        refine ⟨?_, ⟨HB'.out.os.trans HBEL.out.os, HB'.out.tape.trans HBEL.out.tape, HB'.out.output.trans HBEL.out.output, Nat.le_trans HBEL.out.size HB'.out.size, fun q hq => (HB'.out.block q (Nat.lt_of_lt_of_le hq (by show w.heap.size ≤ wr.heap.size; omega))).trans (HBEL.out.block q hq)⟩⟩
        have e : X ++ Y = ⟨(s.data.toList ++ filling s.data.toList.length).toArray⟩ := by
          rw [HX.out, HY.out, HK.out, HZ.out, HM.out, HSL.out, ← HL.out]
          apply ByteArray.ext
          rw [ByteArray.data_append]
          simp [filling]
        rw [← e]
        rfl
end Go.Proofs.YtafookdllnhdaaaDoor
/- The reference's Sum, walked. -/
namespace Go.Proofs.YtafookdllnhdaaaDoor
open Go.RowKit Go.Scr
set_option linter.unusedVariables false

theorem below_from {B : Nat} {a b c : World} (h : Below B a b) (g : Below b.heap.size b c) (hb : B ≤ b.heap.size) : Below B a c :=
  ⟨g.os.trans h.os, g.tape.trans h.tape, g.output.trans h.output, Nat.le_trans h.size g.size, fun q hq => (g.block q (Nat.lt_of_lt_of_le hq hb)).trans (h.block q hq)⟩

theorem rflat_step (S : List Nat) (n : Nat) (h : n < S.length) : (S.take (n + 1)).flatMap be4 = (S.take n).flatMap be4 ++ be4 (S.getD n 0) := by
  rw [List.take_succ_eq_append_getElem h, List.flatMap_append]
  simp [List.getD_eq_getElem?_getD, h]
theorem rflat_length (S : List Nat) : (S.flatMap be4).length = 4 * S.length := by
  induction S with
  | nil => rfl
  | cons a S ih => rw [List.flatMap_cons, List.length_append, ih]; simp [be4]; omega
set_option maxRecDepth 100000 in
set_option maxHeartbeats 1000000 in
theorem rsum_any (s : ByteArray) (w : World) (hl : s.size ≤ 140737488355200) :
    Calls Tryd.prog 87 #[.string s] w fun e w' => e = .returned (.string ⟨(sha s.data.toList).toArray⟩) ∧ Below w.heap.size w w' := by
  have hfill := filled_any s w hl
  obtain ⟨m, hm⟩ : ∃ m : ByteArray, m = ⟨(s.data.toList ++ filling s.data.toList.length).toArray⟩ := ⟨_, rfl⟩
  obtain ⟨N, hN⟩ : ∃ N, N = m.size / 64 := ⟨_, rfl⟩
  have hms : m.size = s.size + (9 + zer s.size) := by
    rw [hm]
    show (s.data.toList ++ filling s.data.toList.length).toArray.size = _
    simp [filling_length]
  have hz1 := zer_lt s.size
  have hz2 := zer_done s.size
  have hmN : m.size = 64 * N := by omega
  have hNb : N ≤ 2199023255560 := by omega
  have hsha : sha s.data.toList = (blocks N Hs m.data.toList).flatMap be4 := by
    rw [hN]
    unfold sha absorb
    rw [hm]
    show _ = List.flatMap be4 (blocks ((s.data.toList ++ filling s.data.toList.length).toArray.size / 64) _ _)
    simp
  rw [← hm] at hfill
  have HF := Lib.hid hfill
  have HMN := Lib.hid hmN
  have HSHA := Lib.hid hsha
  clear hfill hm hN hms hz1 hz2 hmN hsha
  go_enter Tryd.func87, Tryd.ntmps87
  have hz8 := zero_8
  go_wp2_with (first
    | (go_at_call 90; refine HF.out.mono ?_; rintro e w1 ⟨rfl, hb1⟩; have HB1 := Lib.hid hb1; clear hb1)
    | (go_at_call 91; refine (begins_any _).mono ?_; rintro e w2 ⟨rfl, hb2⟩; have HB2 := Lib.hid hb2; clear hb2)
    | (refine wpList_store_row rfl 130 (.tmp 4) (.tmp 10) rfl w2.heap.size (agg8 Hs) rfl rfl 130 z8 (heap_alloc_new w2 _) (by rw [agg8_size rfl]; exact info_8) (by rw [agg8_size rfl]; rfl) (agg8_one Hs) ?_
       rw [setRow_alloc]))
  obtain ⟨B, hB⟩ : ∃ B, B = w2.heap.size := ⟨_, rfl⟩
  rw [← hB]
  have hr0 : (w2.alloc (.cells (agg8 Hs) 130)).heap[B]? = some (.cells (agg8 Hs) 130 (0, 0)) := by rw [hB]; exact heap_alloc_new w2 _
  have hbel0 : Below w.heap.size w (w2.alloc (.cells (agg8 Hs) 130)) := ((below_from HB1.out HB2.out HB1.out.size)).alloc (Nat.le_trans HB1.out.size HB2.out.size) _
  have hBw : w.heap.size ≤ B := by rw [hB]; exact Nat.le_trans HB1.out.size HB2.out.size
  generalize w2.alloc (.cells (agg8 Hs) 130) = w3 at *
  have HR0 := Lib.hid hr0
  have HBEL0 := Lib.hid hbel0
  clear hr0 hbel0 hB HB1 HB2 hz8
  go_loopw [5] (fun v wr => ∃ i p : Nat, i ≤ N ∧ Hid (p = 64 * i) ∧ v = .int .i64 p ∧ wr.heap[B]? = some (.cells (agg8 (blocks i Hs m.data.toList)) 130 (0, 0)) ∧ Below w.heap.size w wr) (fun v _ => 64 * N - (intOf v).toNat)
  case atStart => exact ⟨0, 0, by omega, Lib.hid rfl, rfl, HR0.out, HBEL0.out⟩
  case round =>
    clear HR0 HBEL0
    obtain ⟨i, p, hi, HP, rfl, hr, hbel⟩ := hrel
    have hst := blocks_St i Hs_St m.data.toList
    obtain ⟨st, hst'⟩ : ∃ st, st = blocks i Hs m.data.toList := ⟨_, rfl⟩
    rw [← hst'] at hr hst
    have HST := Lib.hid hst'
    have HS := Lib.hid hst
    have HR := Lib.hid hr
    have HBEL := Lib.hid hbel
    clear hst' hst hr hbel
    by_cases hlt : i < N
    · have hp64 : p + 64 ≤ m.size := by have := HP.out; have := HMN.out; omega
      have hp0 : (p : Int) < (m.size : Int) := by omega
      have hps : m.size < 140737488355841 := by have := HMN.out; omega
      go_wp2_with fail
      have hwr : IntKind.i64.wrap ((p : Int) + 64) = ((p + 64 : Nat) : Int) := by rw [wrap_i64_id _ (by omega) (by omega)]; omega
      have hc1 : (0 : Int) ≤ (p : Int) := by omega
      have hc2 : (p : Int) ≤ ((p + 64 : Nat) : Int) := by omega
      have hc3 : ((p + 64 : Nat) : Int) ≤ (m.size : Int) := by omega
      obtain ⟨X, hX⟩ : ∃ X : ByteArray, X = m.extract p (p + 64) := ⟨_, rfl⟩
      have hXs : X.size = 64 := by rw [hX, ByteArray.size_extract]; omega
      have hXl : X.data.toList = (m.data.toList.drop p).take 64 := by
        rw [hX, ByteArray.data_extract, Array.toList_extract, List.extract_eq_take_drop]
        congr 1; omega
      have HX := Lib.hid hX
      have HXL := Lib.hid hXl
      clear hXl hX
      have hz8 := zero_8
      refine wp_region_still_tail 6 (by kernel_rfl) (by kernel_rfl) ?_
      simp only [List.take_succ_cons, List.take_zero, List.drop_succ_cons, List.drop_zero]
      change wpStill _ _ wr.drew _ _ _
      refine still_load_row rfl 130 (.tmp 4) rfl B rfl 130 (agg8 st) (0, 0) _ HR.out und_8 rfl (by rw [agg8_size HS.out.1]; exact info_8) ?_
      have hd1 : (p : Int) ≤ (p : Int) + 64 := by omega
      have hd2 : (p : Int) + 64 ≤ (m.size : Int) := by omega
      have hd3 : ((p : Int) + 64).toNat = p + 64 := by omega
      have hd4 : (0 : Int) ≤ (p : Int) + 64 := by omega
      repeat still_step
      refine wpStill_nil ?_
      change wpList _ _ _ _ _ wr.drew
      rw [← HX.out]
      clear hd1 hd2 hd3 hd4 hwr hc1 hc2 hc3 hz8
      go_wp2_with (first
        | (go_at_call 92; refine (rblock_any st X _ HS.out hXs).mono ?_; rintro e w4 ⟨rfl, hb4⟩; have HB4 := Lib.hid hb4; have hr4 : w4.heap[B]? = some (.cells (agg8 st) 130 (0, 0)) := (hb4.block B (row_lt HR.out)).trans HR.out; have hst4 : (blockN st X.data.toList).length = 8 := (blockN_St _ HS.out).1; clear hb4)
        | ((with_reducible refine wpList_store_row (o := ⟨none, _, _, _, _, _⟩) rfl 130 (.tmp 4) (.tmp 23) rfl B (agg8 (blockN st X.data.toList)) ?_ ?_ 130 (agg8 st) ?_ ?_ ?_ ?_ ?_); rfl; rfl; exact hr4; (rw [agg8_size hst4]; exact info_8); (rw [agg8_size hst4, agg8_size HS.out.1]); exact agg8_one _))
      case roundEnd =>
        refine ⟨⟨i + 1, p + 64, by omega, Lib.hid (by have := HP.out; omega), by rfl, ?_, ?_⟩, ?_⟩
        · rw [blk_row hr4, blocks_end, ← HST.out, HXL.out, HP.out]
        · exact below_setRow (below_from HBEL.out.drew HB4.out HBEL.out.size) hBw _
        · show 64 * N - ((p : Int) + 64).toNat < 64 * N - (p : Int).toNat
          have := HP.out; omega
    · have hpN : ¬ ((p : Int) < (m.size : Int)) := by have := HP.out; have := HMN.out; omega
      have HIN := Lib.hid (show i = N by omega)
      go_wp2_with fail
      clear hpN
      have hlen : st.length = 8 := HS.out.1
      have HLEN := Lib.hid hlen
      obtain ⟨e0, he0⟩ : ∃ e0 : ByteArray, e0 = ⟨#[]⟩ := ⟨_, rfl⟩
      rw [← he0]
      have HE0 := Lib.hid he0
      clear he0 hlen
      go_loopw [6, 7] (fun o v wr => ∃ (k : Nat) (x : ByteArray), k ≤ 8 ∧ v = .int .i64 k ∧ o = .string x ∧ x.data.toList = (st.take k).flatMap be4 ∧ wr.heap[B]? = some (.cells (agg8 st) 130 (0, 0)) ∧ Below w.heap.size w wr) (fun _ v _ => 8 - (intOf v).toNat)
      case atStart => exact ⟨0, e0, by omega, rfl, rfl, by rw [HE0.out]; rfl, HR.out, HBEL.out⟩
      case round =>
        clear HR HBEL
        obtain ⟨k, x, hk, rfl, rfl, hx, hr, hbel⟩ := hrel
        have HXE := Lib.hid hx
        have HR := Lib.hid hr
        have HBEL := Lib.hid hbel
        clear hx hr hbel
        by_cases hk8 : k < 8
        · have hxs : x.size ≤ 64 := by
            show x.data.size ≤ 64
            rw [← Array.length_toList, HXE.out, rflat_length]
            simp; omega
          obtain ⟨y, hy⟩ : ∃ y, y = st.getD k 0 := ⟨_, rfl⟩
          have hcell : wr.cell? ⟨B, k, none⟩ = some (.int .i64 (y : Int)) := by
            rw [cell_of_row wr B k _ _ _ HR.out, agg8_get HLEN.out hk8, hy]
          have hylt : y < 9223372036854775808 := by have := HS.out.get_lt k; omega
          obtain ⟨Y, hY⟩ : ∃ Y : ByteArray, Y = ⟨(be4 y).toArray⟩ := ⟨_, rfl⟩
          have hYs : Y.size ≤ 8 := by
            rw [hY]
            show (be4 y).toArray.size ≤ _
            simp [be4]
          have hbig := fun W => big4_any y W hylt
          rw [← hY] at hbig
          have HBIG := Lib.hid hbig
          have HY := Lib.hid hY
          have HYV := Lib.hid hy
          clear hY hbig hy
          have hz4 : Y.size + x.size ≤ 1000 := by omega
          have hz5 : x.size + Y.size ≤ 1000 := by omega
          go_wp2_with (go_at_call 93; refine (HBIG.out _).mono ?_; rintro e w5 ⟨rfl, hb5⟩; have HB5 := Lib.hid hb5; clear hb5)
          refine ⟨⟨k + 1, x ++ Y, by omega, rfl, rfl, ?_, (HB5.out.block B (row_lt HR.out)).trans HR.out, below_from HBEL.out HB5.out HBEL.out.size⟩, ?_⟩
          · rw [ByteArray.data_append, Array.toList_append, HXE.out, rflat_step st k (by rw [HLEN.out]; exact hk8), ← HYV.out, HY.out]
          · show 8 - ((k : Int) + 1).toNat < 8 - (k : Int).toNat
            omega
        · have HK8 := Lib.hid (show k = 8 by omega)
          have hk9 : ¬ ((k : Int) < 8) := by omega
          go_wp2
          go_ret
          refine ⟨?_, HBEL.out⟩
          have e : x = ⟨(sha s.data.toList).toArray⟩ := by
            apply ByteArray.ext
            rw [HSHA.out, ← HIN.out, ← HST.out]
            have := HXE.out
            rw [HK8.out, List.take_of_length_le (by rw [HLEN.out]; omega)] at this
            simp [← this]
          rw [← e]
          rfl
end Go.Proofs.YtafookdllnhdaaaDoor
