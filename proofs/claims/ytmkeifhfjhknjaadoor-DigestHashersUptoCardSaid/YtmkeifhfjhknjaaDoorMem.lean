/- Small laws on memory: facts carried over draws; a block written; a string copied into a row. -/
import Derived.WalkKit
import Derived.Lib.Hide
import Derived.Deep.OwnRows
import Derived.Deep.Draws
import Derived.Laws.IdiomStrings
import Derived.Laws.CopyOwn
namespace Go.Scr
open Go.RowKit
set_option linter.unusedVariables false

theorem cell_drewN {w : World} {p : Addr} {v : Value} (h : w.cell? p = some v) (n : Nat) : (w.drewN n).cell? p = some v := h
theorem frozen_drewN {w : World} {p : Addr} {b : Bool} (h : w.frozen? p = b) (n : Nat) : (w.drewN n).frozen? p = b := h
theorem below_drewN {B : Nat} {a w : World} (h : Below B a w) (n : Nat) : Below B a (w.drewN n) := ⟨h.os, h.tape, h.output, h.size, h.block⟩
theorem rowIs_drewN {w : World} {b : Nat} {t : TypeId} {n : Nat} {f : Nat → Value} (h : w.rowIs b t n f) (k : Nat) : (w.drewN k).rowIs b t n f := h
theorem cell_drew {w : World} {p : Addr} {v : Value} (h : w.cell? p = some v) : w.drew.cell? p = some v := h
theorem frozen_drew {w : World} {p : Addr} {b : Bool} (h : w.frozen? p = b) : w.drew.frozen? p = b := h
theorem below_drew {B : Nat} {a w : World} (h : Below B a w) : Below B a w.drew := h.drew
theorem rowIs_drew {w : World} {b : Nat} {t : TypeId} {n : Nat} {f : Nat → Value} (h : w.rowIs b t n f) : w.drew.rowIs b t n f := h
theorem only_drew {a w : World} {row : Option Nat} (h : a.grownBy w row) : a.grownBy w.drew row := ⟨h.os, h.tape, h.output, h.size, h.block⟩
theorem only_drewN {a w : World} {row : Option Nat} (h : a.grownBy w row) (n : Nat) : a.grownBy (w.drewN n) row := ⟨h.os, h.tape, h.output, h.size, h.block⟩
theorem only_refl (a : World) (row : Option Nat) : a.grownBy a row := ⟨rfl, rfl, rfl, Nat.le_refl _, fun _ _ _ => rfl⟩
theorem only_trans {a b c : World} {row : Option Nat} (h : a.grownBy b row) (k : b.grownBy c row) : a.grownBy c row :=
  ⟨k.os.trans h.os, k.tape.trans h.tape, k.output.trans h.output, Nat.le_trans h.size k.size, fun i hi hne => (k.block i (Nat.lt_of_lt_of_le hi h.size) hne).trans (h.block i hi hne)⟩
theorem only_alloc {a w : World} {row : Option Nat} (h : a.grownBy w row) (o : Obj) : a.grownBy (w.alloc o) row :=
  ⟨h.os, h.tape, h.output, Nat.le_trans h.size (by simp), fun i hi hne => (Below.heap_alloc w o i (Nat.lt_of_lt_of_le hi h.size)).trans (h.block i hi hne)⟩
theorem only_setCell {a w : World} {g : Nat} (h : a.grownBy w (some g)) {p : Addr} (hp : p.block = g ∨ a.heap.size ≤ p.block) (u : Value) : a.grownBy (w.setCell p u) (some g) :=
  ⟨h.os, h.tape, h.output, by simpa [World.setCell] using h.size, fun i hi hne => (Below.heap_setCell w p u i (by
    rintro rfl
    rcases hp with hp | hp
    · exact hne (by rw [hp])
    · omega)).trans (h.block i hi hne)⟩
theorem only_setRow {a w : World} {g : Nat} (h : a.grownBy w (some g)) (cs : Array Value) : a.grownBy (w.setRow g cs) (some g) :=
  ⟨h.os, h.tape, h.output, by simpa using h.size, fun i hi hne => (setRow_other w g i _ (fun e => hne (by rw [e]))).trans (h.block i hi hne)⟩
theorem only_of_below {a w : World} (h : Below a.heap.size a w) (row : Option Nat) : a.grownBy w row := ⟨h.os, h.tape, h.output, h.size, fun i hi _ => h.block i hi⟩
/-- what only one block among the new ones has turned in is 'Below' for whoever stands before that block -/
theorem below_only {B : Nat} {a b c : World} {g : Nat} (h : Below B a b) (k : b.grownBy c (some g)) (hB : B ≤ b.heap.size) (hg : B ≤ g) : Below B a c :=
  h.grown k hB (fun k hk => by injection hk with hk; omega)
theorem blk_lt {w : World} {g : Nat} {o : Obj} (h : w.heap[g]? = some o) : g < w.heap.size := by
  rcases Nat.lt_or_ge g w.heap.size with hlt | hge
  · exact hlt
  · rw [Array.getElem?_eq_none hge] at h; cases h
theorem blk_set {w : World} {g : Nat} {t : TypeId} {cs : Array Value} (h : w.heap[g]? = some (.cells cs t (0, 0))) (i : Nat) (u : Value) : (w.setCell ⟨g, i, none⟩ u).heap[g]? = some (.cells (cs.setIfInBounds i u) t (0, 0)) := by
  simp [World.setCell, Array.getElem?_modify, h]
theorem blk_drew {w : World} {g : Nat} {o : Obj} (h : w.heap[g]? = some o) : w.drew.heap[g]? = some o := h
theorem blk_drewN {w : World} {g : Nat} {o : Obj} (h : w.heap[g]? = some o) (n : Nat) : (w.drewN n).heap[g]? = some o := h
theorem blk_far {w : World} {g : Nat} {o : Obj} (h : w.heap[g]? = some o) {p : Addr} (hp : g ≠ p.block) (u : Value) : (w.setCell p u).heap[g]? = some o := (Below.heap_setCell w p u g hp).trans h
theorem blk_row {w : World} {g : Nat} {t : TypeId} {cs : Array Value} (h : w.heap[g]? = some (.cells cs t (0, 0))) (cs' : Array Value) : (w.setRow g cs').heap[g]? = some (.cells cs' t (0, 0)) := setRow_heap w g cs cs' t _ h
theorem blk_alloc {w : World} {g : Nat} {o o' : Obj} (h : w.heap[g]? = some o) : (w.alloc o').heap[g]? = some o := (Below.heap_alloc w o' g (blk_lt h)).trans h
theorem blk_below {B : Nat} {w w' : World} {g : Nat} {o : Obj} (h : w.heap[g]? = some o) (hb : Below B w w') (hg : g < B) : w'.heap[g]? = some o := (hb.block g hg).trans h
theorem blk_only {w w' : World} {g : Nat} {o : Obj} {row : Option Nat} (h : w.heap[g]? = some o) (hb : w.grownBy w' row) (hg : some g ≠ row) : w'.heap[g]? = some o := (hb.block g (blk_lt h) hg).trans h

theorem extract_tail (s : ByteArray) (n : Nat) : (s.extract n s.size).data.toList = s.data.toList.drop n := by
  simp only [ByteArray.data_extract, Array.toList_extract, List.extract_eq_take_drop]
  exact List.take_of_length_le (by simp)
/-- bytes as cells -/
def bytesV (l : List UInt8) : List Value := l.map fun c => Value.int .u8 (c.toNat : Int)
theorem bytesV_length (l : List UInt8) : (bytesV l).length = l.length := by simp [bytesV]
theorem bytesV_one (l : List UInt8) : ∀ v ∈ bytesV l, v.oneCell' = true := by
  intro v hv
  simp only [bytesV, List.mem_map] at hv
  obtain ⟨c, _, rfl⟩ := hv
  rfl
/-- 'copy(row[o:], text)' -/
theorem run_copy_str {P : Program} (w : World) (dT sT ty elem : TypeId) (g o dLen dCap : Nat) (s : ByteArray) (cur : Array Value) (t : TypeId) (n : Nat)
    (hu : P.underlying dT = some (.slice elem)) (hs : (P.info? elem).map (·.size) = some 1) (hg : w.heap[g]? = some (.cells cur t (0, 0)))
    (hn : n = Nat.min s.size dLen) (hfit : o + n ≤ cur.size) :
    (Builtin.copy_ #[dT, sT] ty #[.slice (some ⟨g, o, none⟩) dLen dCap, .string s]).run P w =
      .ok (goInt n) (w.setRow g (cur.toList.take o ++ bytesV (s.data.toList.take n) ++ cur.toList.drop (o + n)).toArray) := by
  have hle : n ≤ s.data.toList.length := by
    have : s.data.toList.length = s.size := by simp
    rw [this, hn]; exact Nat.min_le_left _ _
  have hl : (bytesV (s.data.toList.take n)).length = n := by rw [bytesV_length, List.length_take]; omega
  have hst := run_storeCells_at P g o t (bytesV (s.data.toList.take n)) 0 cur w hg (by rw [hl]; simpa using hfit) (bytesV_one _)
  simp only [Nat.add_zero, hl] at hst
  have hcells : ((s.extract 0 n).data.map fun b => Value.int IntKind.u8 (b.toNat : Int)).toList = bytesV (s.data.toList.take n) := by
    simp [bytesV, List.extract_eq_take_drop]
  cases hq : P.info? elem with
  | none => simp [hq] at hs
  | some i =>
    simp [Builtin.copy_, run_underlying hu, Builtin.lenOf, Builtin.firstCells, sizeOf, typeInfo, hq, ← hn]
    have e : List.take n (List.map (fun b : UInt8 => Value.int IntKind.u8 (b.toNat : Int)) s.data.toList) = bytesV (s.data.toList.take n) := by simp [bytesV]
    rw [e, hst]
    simp
theorem setRow_alloc (w : World) (cs cs' : Array Value) (t : TypeId) : (w.alloc (.cells cs t)).setRow w.heap.size cs' = w.alloc (.cells cs' t) := by
  have e : (w.heap.push (.cells cs t)).modify w.heap.size (fun | .cells _ t fr => .cells cs' t fr | o => o) = w.heap.push (.cells cs' t) := by
    apply Array.ext_getElem?
    intro k
    rw [Array.getElem?_modify, Array.getElem?_push, Array.getElem?_push]
    by_cases hk : k = w.heap.size
    · subst hk; simp
    · rw [if_neg hk, if_neg hk, if_neg (fun e => hk e.symm)]
  exact congrArg (fun hp : Array Obj => ({ w with heap := hp } : World)) e
theorem setRow_alloc' (w : World) (cs cs' : Array Value) (t : TypeId) (g : Nat) (hg : g = w.heap.size) : (w.alloc (.cells cs t)).setRow g cs' = w.alloc (.cells cs' t) := by
  subst hg; exact setRow_alloc w cs cs' t
theorem heap_alloc_at (w : World) (o : Obj) (g : Nat) (hg : g = w.heap.size) : (w.alloc o).heap[g]? = some o := by subst hg; exact heap_alloc_new w o
/-- v owns the bytes l (a []byte of the call's own, in a block from B on) -/
def OwnB (w : World) (B T : Nat) (v : Value) (l : List UInt8) : Prop := w.ownsRow B T 1 v l.length (bytesV l)
/-- one append of bytes to it, as an equation of the run -/
theorem append_bytes {P : Program} {w : World} {B T S ty : Nat} {v : Value} {l x : List UInt8} (h : OwnB w B T v l) (hu : P.underlying S = some (.slice T)) (hi : (P.info? T).map (fun i => (i.zero, i.size, i.bytes)) = some (some (.int .u8 0), 1, 1))
    (hB : B ≤ w.heap.size) (hl : l.length + x.length ≤ 140737488355328) :
    ∃ v' w', (Builtin.append_ #[S, S] ty #[v, .slice (some ⟨w.heap.size, 0, none⟩) x.length x.length]).run P (w.alloc (.cells (bytesV x).toArray T)) = .ok v' w' ∧ OwnB w' B T v' (l ++ x) ∧ w.grownBy w' v.ownBlock ∧ (0 < l.length + x.length → ∃ g c, v' = .slice (some ⟨g, 0, none⟩) (l.length + x.length) c) := by
  obtain ⟨i, hi0, hz, hs, hb⟩ := info_parts hi
  obtain ⟨v', w', hr, ho, hg, _⟩ := run_append_own (P := P) (w.alloc (.cells (bytesV x).toArray T)) B S ty T i (.int .u8 0) 1 1 hu hi0 hz hs hb rfl (by omega) v l.length (bytesV l) (World.ownsRow.alloc h _) ⟨w.heap.size, 0, none⟩ x.length x.length (bytesV x)
    (by simp [bytesV_length]) (fun j u hj => by
      have hadd : (⟨w.heap.size, 0, none⟩ : Addr).add j = ⟨w.heap.size, j, none⟩ := by unfold Addr.add; split <;> simp_all
      rw [hadd, World.cell?_alloc_at _ _ _ _ rfl]; simpa using hj) (bytesV_one _) (by simp only [maxLen]; omega) (by omega) (by simp; omega)
  refine ⟨v', w', hr, ?_, ⟨hg.os, hg.tape, hg.output, Nat.le_trans (by simp) hg.size, fun k hk hne => (hg.block k (by simp; omega) hne).trans (Below.heap_alloc _ _ _ hk)⟩, fun hp => ?_⟩
  · unfold OwnB
    rw [List.length_append, show bytesV (l ++ x) = bytesV l ++ bytesV x from by simp [bytesV]]
    exact ho
  · rcases ho.2 with ⟨_, h0⟩ | ⟨g, c, _, hv, _⟩
    · omega
    · exact ⟨g, c, hv⟩
theorem run_make_rowN {P : Program} (t e : TypeId) (i : TypeInfo) (z : Value) (ht : P.underlying t = some (.slice e)) (hi : P.info? e = some i) (hz : i.zero = some z)
    (kl kc : IntKind) (n c : Nat) (hnc : n ≤ c) (hbytes : i.bytes * c ≤ 281474976710656) (h63 : c ≤ 9223372036854775807) (w : World) :
    (Instr.makeSlice t (.int kl (n : Int)) (.int kc (c : Int))).run P w = .ok (.slice (some ⟨w.heap.size, 0, none⟩) n c) (w.alloc (.cells (madeCells z.cells (c * i.size)) e)) := by
  have hb : (i.bytes : Int) * (c : Int) ≤ 281474976710656 := by
    have h : ((i.bytes * c : Nat) : Int) ≤ 281474976710656 := by omega
    rwa [Int.natCast_mul] at h
  have hr := run_make (P := P) w t e i z ht hi hz kl kc n c (by omega) (by omega) hb (by omega)
  simp only [Int.toNat_natCast] at hr
  exact hr
/-- the same as a law of the walk: behind 'at_builtin' -/
theorem wpList_appendB {P : Program} {ops : Array Oper} {rest : List Oper} {o : Oper} {a : Act} {Q : Exit → Act → World → Prop} {W : World} {cs : Array Value} {T S : TypeId} (hgd : o.guard = none) (s x : Operand)
    (ho : o.op = .call { callee := .builtin .append, args := #[s, x], argTypes := #[S, S] }) (hu : P.underlying S = some (.slice T)) (hi : (P.info? T).map (fun i => (i.zero, i.size, i.bytes)) = some (some (.int .u8 0), 1, 1))
    {B : Nat} {v : Value} {l : List UInt8} (xs : List UInt8) (N : Nat) {n : Nat} (hs : a.eval s = v) (hx : a.eval x = .slice (some ⟨W.heap.size, 0, none⟩) n n) (hown : OwnB W B T v l) (hcs : cs = (bytesV xs).toArray) (hn : n = xs.length)
    {C : Nat} {w0 : World} (hb : Below C w0 W) (hCB : C ≤ B) (hB : B ≤ W.heap.size) (hN : N = l.length + xs.length) (hpos : 0 < N) (hl : N ≤ 140737488355328)
    (h : ∀ (g c : Nat) w', OwnB w' B T (.slice (some ⟨g, 0, none⟩) N c) (l ++ xs) → Below C w0 w' → W.heap.size ≤ w'.heap.size → wpList P ops Q rest (a.put o.dst (.slice (some ⟨g, 0, none⟩) N c)) w') :
    wpList P ops Q (o :: rest) a (W.alloc (.cells cs T)) := by
  subst hcs hn hN
  obtain ⟨v', w', hrun, h2, h3, h4⟩ := append_bytes (P := P) (S := S) (ty := o.type) (x := xs) hown hu hi hB hl
  obtain ⟨g, c, rfl⟩ := h4 hpos
  refine wpList_plain hgd fun _ hK => ?_
  unfold Oper.wp execOp
  simp only [ho, resolve, invoke, builtin, Sem.run_bind, Sem.run_pure, Result.andThen_ok, List.map_toArray, List.map_cons, List.map_nil, hs, hx, hrun]
  exact hK _ _ (h g c w' h2 (hb.grown h3 (by omega) (fun k hk => by have := World.ownsRow.lt hown k hk; omega)) h3.size)
theorem byte_cell (n : Nat) : ((n : Int) % 256) = ((UInt8.ofNat n).toNat : Int) := by simp [UInt8.toNat_ofNat']
theorem own_cell {w : World} {B T g N c : Nat} {l : List UInt8} (h : OwnB w B T (.slice (some ⟨g, 0, none⟩) N c) l) (j : Nat) (hj : j < l.length) : w.cell? ⟨g, j, none⟩ = some (.int .u8 (l[j].toNat : Int)) := by
  have h1 := World.ownsRow.cells h (g := g) rfl j (.int .u8 (l[j].toNat : Int)) (by simp [bytesV, hj])
  have hadd : (⟨g, 0, none⟩ : Addr).add j = ⟨g, j, none⟩ := by unfold Addr.add; split <;> simp_all
  rwa [hadd] at h1
theorem own_len {w : World} {B T g N c : Nat} {l : List UInt8} (h : OwnB w B T (.slice (some ⟨g, 0, none⟩) N c) l) : N = l.length := by
  rcases h.2 with ⟨h1, _⟩ | ⟨g', cap, cur, h1, _⟩
  · cases h1
  · injection h1
/-- 'string(b)' of what is owned -/
theorem own_string {P : Program} {w : World} {B S T D g N c : Nat} {l : List UInt8} (hs : P.underlying S = some (.slice T)) (he : P.underlying T = some (.int .u8)) (hd : P.underlying D = some .string)
    (h : OwnB w B T (.slice (some ⟨g, 0, none⟩) N c) l) : (convert S D (.slice (some ⟨g, 0, none⟩) N c)).run P w = .ok (.string ⟨l.toArray⟩) w := by
  have hn := own_len h
  subst hn
  exact run_convert_bytes_back w S D T ⟨g, 0, none⟩ c l hs he hd fun j hj => by
    have hadd : (⟨g, 0, none⟩ : Addr).add j = ⟨g, j, none⟩ := by unfold Addr.add; split <;> simp_all
    rw [hadd]; exact own_cell h j hj
/-- a literal built of constants, under its name -/
theorem wpList_build_as {P : Program} {ops : Array Oper} {rest : List Oper} {o : Oper} {a : Act} {w : World} {Q : Exit → Act → World → Prop} (hg : o.guard = none) (t : TypeId) (parts : Array (Nat × Operand)) (ho : o.op = .build t parts)
    (cs : Array Value) (hb : P.built t (parts.map fun (i, x) => (i, a.eval x)).toList = some cs)
    (h : wpList P ops Q rest (a.put o.dst (.agg cs)) w) : wpList P ops Q (o :: rest) a w :=
  wpList_build hg t parts ho (by rw [hb]; rfl) (by rw [hb]; exact h)
/-- make([]byte, n, c) -/
theorem make_bytes {P : Program} (S T : TypeId) (hu : P.underlying S = some (.slice T)) (hi : (P.info? T).map (fun i => (i.zero, i.size, i.bytes)) = some (some (.int .u8 0), 1, 1))
    (n c : Nat) (hnc : n ≤ c) (hc : c ≤ 281474976710656) (w : World) :
    (Instr.makeSlice S (.int .i64 (n : Int)) (.int .i64 (c : Int))).run P w = .ok (.slice (some ⟨w.heap.size, 0, none⟩) n c) (w.alloc (.cells (madeCells #[.int .u8 0] c) T)) := by
  obtain ⟨i, hi0, hz, hs, hb⟩ := info_parts hi
  have h := run_make_rowN (P := P) S T i (.int .u8 0) hu hi0 hz .i64 .i64 n c hnc (by rw [hb]; omega) (by omega) w
  rw [hs, Nat.mul_one] at h
  exact h
theorem madeCells_bytes (c : Nat) : madeCells #[Value.int .u8 0] c = (bytesV (List.replicate c 0)).toArray := by
  apply Array.ext'
  rw [toList_madeCells_one]
  simp [bytesV]
theorem own_made (w : World) (B T n c : Nat) (l : List UInt8) (hl : l.length = c) (hB : B ≤ w.heap.size) (hnc : n ≤ c) (hc : c ≤ 281474976710656) :
    OwnB (w.alloc (.cells (bytesV l).toArray T)) B T (.slice (some ⟨w.heap.size, 0, none⟩) n c) (l.take n) := by
  refine ⟨by simp [bytesV_length], .inr ⟨w.heap.size, c, (bytesV l).toArray, by simp [hl, Nat.min_eq_left hnc], hB, heap_alloc_new w _, by simp; omega, by simp only [maxLen]; omega, by simp [bytesV_length, hl], ?_⟩⟩
  simp [bytesV, List.map_take, hl, Nat.min_eq_left hnc]
theorem own_of_blk {w : World} {g T n : Nat} {l : List UInt8} (h : w.heap[g]? = some (.cells (bytesV l).toArray T (0, 0))) (hn : n = l.length) (hl : l.length ≤ 281474976710656) : OwnB w g T (.slice (some ⟨g, 0, none⟩) n n) l := by
  subst hn
  exact ⟨by simp [bytesV_length], .inr ⟨g, l.length, (bytesV l).toArray, rfl, Nat.le_refl _, h, Nat.le_refl _, by simp only [maxLen]; omega, by simp [bytesV_length], by simp [bytesV_length, List.take_of_length_le]⟩⟩
end Go.Scr
