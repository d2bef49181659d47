/- Worlds of which only blocks of some colours have turned; a struct of rows, each in blocks of its own colour; lists in blocks of their colours. -/
import Derived.Test.YtafookdllnhdaaaDoorMa1
namespace Go.Scr
open Go.RowKit
set_option linter.unusedVariables false

/-- w' is w but for blocks whose colour is in S, and new ones -/
structure Only (col : Nat → Nat) (S : Nat → Prop) (w w' : World) : Prop where
  os : w'.os = w.os
  tape : w'.tape = w.tape
  output : w'.output = w.output
  size : w.heap.size ≤ w'.heap.size
  block : ∀ g, g < w.heap.size → ¬ S (col g) → w'.heap[g]? = w.heap[g]?
theorem Only.refl (col : Nat → Nat) (S : Nat → Prop) (w : World) : Only col S w w := ⟨rfl, rfl, rfl, Nat.le_refl _, fun _ _ _ => rfl⟩
theorem Only.trans {col col' : Nat → Nat} {S : Nat → Prop} {a b c : World} (h : Only col S a b) (k : Only col' S b c) (hc : ∀ g, g < a.heap.size → col' g = col g) : Only col S a c :=
  ⟨k.os.trans h.os, k.tape.trans h.tape, k.output.trans h.output, Nat.le_trans h.size k.size, fun g hg hn => (k.block g (Nat.lt_of_lt_of_le hg h.size) (by rw [hc g hg]; exact hn)).trans (h.block g hg hn)⟩
theorem Only.trans' {col : Nat → Nat} {S : Nat → Prop} {a b c : World} (h : Only col S a b) (k : Only col S b c) : Only col S a c := h.trans k fun _ _ => rfl
theorem Only.mono {col : Nat → Nat} {S S' : Nat → Prop} {a b : World} (h : Only col S a b) (hs : ∀ c, S c → S' c) : Only col S' a b :=
  ⟨h.os, h.tape, h.output, h.size, fun g hg hn => h.block g hg fun hs' => hn (hs _ hs')⟩
theorem Only.recol {col col' : Nat → Nat} {S : Nat → Prop} {a b : World} (h : Only col S a b) (hc : ∀ g, g < a.heap.size → col' g = col g) : Only col' S a b :=
  ⟨h.os, h.tape, h.output, h.size, fun g hg hn => h.block g hg (by rw [← hc g hg]; exact hn)⟩
theorem only_of_below' {col : Nat → Nat} {S : Nat → Prop} {w w' : World} (h : Below w.heap.size w w') : Only col S w w' := ⟨h.os, h.tape, h.output, h.size, fun g hg _ => h.block g hg⟩
theorem only_of_grown {col : Nat → Nat} {S : Nat → Prop} {w w' : World} {row : Option Nat} (h : w.grownBy w' row) (hs : ∀ g, row = some g → S (col g)) : Only col S w w' :=
  ⟨h.os, h.tape, h.output, h.size, fun g hg hn => h.block g hg fun e => hn (hs g e.symm)⟩
theorem only_setCell' {col : Nat → Nat} {S : Nat → Prop} {w : World} {p : Addr} (hs : S (col p.block)) (u : Value) : Only col S w (w.setCell p u) :=
  ⟨rfl, rfl, rfl, by simp [World.setCell], fun g hg hn => Below.heap_setCell w p u g (fun e => hn (by rw [e]; exact hs))⟩
theorem Only.drewN {col : Nat → Nat} {S : Nat → Prop} {w w' : World} (h : Only col S w w') (n : Nat) : Only col S w (w'.drewN n) := ⟨h.os, h.tape, h.output, h.size, h.block⟩
/-- colours other than 0 lie from B on: what lay below B stays -/
theorem Only.below {col : Nat → Nat} {S : Nat → Prop} {w w' : World} {B : Nat} (h : Only col S w w') (h0 : ¬ S 0) (hb : ∀ g, col g ≠ 0 → B ≤ g) (hB : B ≤ w.heap.size) : Below B w w' :=
  ⟨h.os, h.tape, h.output, h.size, fun g hg => h.block g (Nat.lt_of_lt_of_le hg hB) (fun hs => by
    have : col g ≠ 0 := fun e => h0 (by rw [← e]; exact hs)
    have := hb g this
    omega)⟩

/-- the colours, once the block of v has one -/
def dyeV (col : Nat → Nat) (v : Value) (c : Nat) : Nat → Nat := fun g => if v.ownBlock = some g then c else col g
theorem dyeV_old {col : Nat → Nat} {v : Value} {c g : Nat} (h : v.ownBlock = some g → col g = c) : dyeV col v c g = col g := by
  unfold dyeV
  split
  · rename_i he; exact (h he).symm
  · rfl
theorem dyeV_at {col : Nat → Nat} {v : Value} {c g : Nat} (h : v.ownBlock = some g) : dyeV col v c g = c := if_pos h
theorem dyeV_ne {col : Nat → Nat} {v : Value} {c g : Nat} (h : dyeV col v c g ≠ 0) : v.ownBlock = some g ∨ col g ≠ 0 := by
  unfold dyeV at h
  split at h
  · exact .inl ‹_›
  · exact .inr h

/-- a struct of N rows: the k-th lies in blocks of the colour 2 + k, the struct itself in one of the colour 1 -/
structure Rec (w : World) (B b : Nat) (col : Nat → Nat) (T N : Nat) (ty : Nat → TypeId) (V : Nat → Value) (R : Nat → List Value) : Prop where
  box : w.heap[b]? = some (.cells ((List.range N).map V).toArray T (0, 0))
  row : ∀ k, k < N → Held w (ty k) 1 (V k) (R k).length (R k)
  cb : col b = 1
  cr : ∀ k, k < N → ∀ g, (V k).ownBlock = some g → col g = 2 + k
  lo : ∀ g, col g ≠ 0 → B ≤ g ∧ g < w.heap.size
theorem Rec.cell {w : World} {B b T N : Nat} {col : Nat → Nat} {ty : Nat → TypeId} {V : Nat → Value} {R : Nat → List Value} (h : Rec w B b col T N ty V R) {k : Nat} (hk : k < N) : w.cell? ⟨b, k, none⟩ = some (V k) := by
  rw [cell_of_row w b k _ _ _ h.box]
  simp [hk]
theorem Rec.frozen {w : World} {B b T N : Nat} {col : Nat → Nat} {ty : Nat → TypeId} {V : Nat → Value} {R : Nat → List Value} (h : Rec w B b col T N ty V R) (k : Nat) : w.frozen? ⟨b, k, none⟩ = false := frozen_of_row w b k _ _ h.box
theorem Rec.move {w w' : World} {B b T N : Nat} {col col' : Nat → Nat} {ty : Nat → TypeId} {V : Nat → Value} {R : Nat → List Value} (h : Rec w B b col T N ty V R)
    (hk : ∀ g, g < w.heap.size → 1 ≤ col g → col g < 2 + N → w'.heap[g]? = w.heap[g]?) (hc : ∀ g, g < w.heap.size → col' g = col g) (hl : ∀ g, col' g ≠ 0 → B ≤ g ∧ g < w'.heap.size) : Rec w' B b col' T N ty V R := by
  have hb := blk_lt h.box
  refine ⟨(hk b hb (by rw [h.cb]; omega) (by rw [h.cb]; omega)).trans h.box, fun k hkN => ?_, (hc b hb).trans h.cb, fun k hkN g hg => ?_, hl⟩
  · refine (h.row k hkN).keep fun g hg => hk g ((h.row k hkN).lt hg) ?_ ?_ <;> have := h.cr k hkN g hg <;> omega
  · exact (hc g ((h.row k hkN).lt hg)).trans (h.cr k hkN g hg)
def put1 {α : Type} (f : Nat → α) (k : Nat) (x : α) : Nat → α := fun i => if i = k then x else f i
theorem put1_at {α : Type} (f : Nat → α) (k : Nat) (x : α) : put1 f k x k = x := if_pos rfl
theorem put1_ne {α : Type} {f : Nat → α} {k i : Nat} {x : α} (h : i ≠ k) : put1 f k x i = f i := if_neg h
theorem box_set (V : Nat → Value) (N k : Nat) (v : Value) : ((List.range N).map V).toArray.setIfInBounds k v = ((List.range N).map (put1 V k v)).toArray := by
  apply Array.ext_getElem?
  intro i
  simp only [Array.getElem?_setIfInBounds, List.getElem?_toArray, List.getElem?_map, List.size_toArray, List.length_map, List.length_range, List.getElem?_range]
  by_cases hik : k = i
  · subst hik
    by_cases hk : k < N
    · rw [if_pos rfl, if_pos hk, List.getElem?_range hk]; simp [put1]
    · rw [if_pos rfl, if_neg hk, List.getElem?_eq_none (by simp; omega)]; rfl
  · rw [if_neg hik]
    by_cases hi : i < N
    · rw [List.getElem?_range hi]; simp [put1, Ne.symm hik]
    · rw [List.getElem?_eq_none (by simp; omega)]; rfl
/-- the k-th row was grown, and laid into the struct -/
theorem Rec.grew {w w1 : World} {B b T N : Nat} {col : Nat → Nat} {ty : Nat → TypeId} {V : Nat → Value} {R : Nat → List Value} (h : Rec w B b col T N ty V R) {k : Nat} (hk : k < N) {v' : Value} {X : List Value}
    (hown : Held w1 (ty k) 1 v' X.length X) (hg : w.grownBy w1 (V k).ownBlock) (hat : v'.ownBlock = (V k).ownBlock ∨ ∃ H, v'.ownBlock = some H ∧ w.heap.size ≤ H) (hB : B ≤ w.heap.size) :
    Rec (w1.setCell ⟨b, k, none⟩ v') B b (dyeV col v' (2 + k)) T N ty (put1 V k v') (put1 R k X) ∧ Only col (fun c => c = 1 ∨ c = 2 + k) w (w1.setCell ⟨b, k, none⟩ v') ∧ ∀ g, g < w.heap.size → dyeV col v' (2 + k) g = col g := by
  have hold : ∀ g, g < w.heap.size → dyeV col v' (2 + k) g = col g := fun g hgw => dyeV_old fun he => by
    rcases hat with h1 | ⟨H, h1, h2⟩
    · exact h.cr k hk g (by rw [← h1]; exact he)
    · rw [he] at h1; cases h1; omega
  have hb := blk_lt h.box
  have hbk : some b ≠ (V k).ownBlock := fun e => by have := h.cr k hk b e.symm; have := h.cb; omega
  have hbox1 := blk_only h.box hg hbk
  have hvb : v'.ownBlock ≠ some b := fun e => by
    rcases hat with h1 | ⟨H, h1, h2⟩
    · exact hbk (by rw [← h1]; exact e.symm)
    · rw [e] at h1; cases h1; omega
  have hfar : ∀ g, g ≠ b → (w1.setCell ⟨b, k, none⟩ v').heap[g]? = w1.heap[g]? := fun g hne => Below.heap_setCell w1 ⟨b, k, none⟩ v' g hne
  refine ⟨⟨?_, fun j hj => ?_, (hold b hb).trans h.cb, fun j hj g hgj => ?_, fun g hne => ?_⟩, ⟨hg.os, hg.tape, hg.output, by simpa [World.setCell] using hg.size, fun g hgw hn => ?_⟩, hold⟩
  · rw [← box_set]; exact blk_set hbox1 k v'
  · by_cases hjk : j = k
    · subst hjk
      rw [put1_at, put1_at]
      exact hown.keep fun g hgv => hfar g (fun e => hvb (by rw [← e]; exact hgv))
    · rw [put1_ne hjk, put1_ne hjk]
      refine (h.row j hj).keep fun g hgv => ?_
      have hcj := h.cr j hj g hgv
      have hgw := (h.row j hj).lt hgv
      rw [hfar g (fun e => by rw [e] at hcj; have := h.cb; omega)]
      exact hg.block g hgw (fun e => by have := h.cr k hk g e.symm; omega)
  · by_cases hjk : j = k
    · subst hjk
      rw [put1_at] at hgj
      exact dyeV_at hgj
    · rw [put1_ne hjk] at hgj
      exact (hold g ((h.row j hj).lt hgj)).trans (h.cr j hj g hgj)
  · have hsz : (w1.setCell ⟨b, k, none⟩ v').heap.size = w1.heap.size := by simp [World.setCell]
    rw [hsz]
    rcases dyeV_ne hne with he | he
    · refine ⟨?_, hown.lt he⟩
      rcases hat with h1 | ⟨H, h1, h2⟩
      · exact (h.lo g (by rw [h.cr k hk g (by rw [← h1]; exact he)]; omega)).1
      · rw [he] at h1; cases h1; omega
    · have := h.lo g he; have := hg.size; omega
  · show (w1.setCell ⟨b, k, none⟩ v').heap[g]? = w.heap[g]?
    rw [hfar g (fun e => hn (.inl (by rw [e]; exact h.cb)))]
    exact hg.block g hgw (fun e => hn (.inr (h.cr k hk g e.symm)))
theorem Rec.congr {w : World} {B b T N : Nat} {col : Nat → Nat} {ty : Nat → TypeId} {V : Nat → Value} {R R' : Nat → List Value} (h : Rec w B b col T N ty V R) (hr : ∀ k, k < N → R k = R' k) : Rec w B b col T N ty V R' :=
  ⟨h.box, fun k hk => by rw [← hr k hk]; exact h.row k hk, h.cb, h.cr, h.lo⟩
theorem Rec.box_grew {w w1 : World} {B b T N : Nat} {col : Nat → Nat} {ty : Nat → TypeId} {V : Nat → Value} {R : Nat → List Value} (h : Rec w B b col T N ty V R) {k : Nat} (hk : k < N) (hg : w.grownBy w1 (V k).ownBlock) {j : Nat} (hj : j < N) :
    w1.cell? ⟨b, j, none⟩ = some (V j) ∧ w1.frozen? ⟨b, j, none⟩ = false := by
  have hb := blk_only h.box hg (fun e => by have := h.cr k hk b e.symm; have := h.cb; omega)
  refine ⟨?_, frozen_of_row w1 b j _ _ hb⟩
  rw [cell_of_row w1 b j _ _ _ hb]
  simp [hj]
/-- the k-th row becomes nil -/
theorem Rec.none {w : World} {B b T N : Nat} {col : Nat → Nat} {ty : Nat → TypeId} {V : Nat → Value} {R : Nat → List Value} (h : Rec w B b col T N ty V R) {k : Nat} (hk : k < N) (hB : B ≤ w.heap.size) :
    Rec (w.setCell ⟨b, k, Option.none⟩ (.slice Option.none 0 0)) B b col T N ty (put1 V k (.slice Option.none 0 0)) (put1 R k []) ∧ Only col (fun c => c = 1) w (w.setCell ⟨b, k, Option.none⟩ (.slice Option.none 0 0)) := by
  have hfar : ∀ g, g ≠ b → (w.setCell ⟨b, k, Option.none⟩ (.slice Option.none 0 0)).heap[g]? = w.heap[g]? := fun g hne => Below.heap_setCell w ⟨b, k, Option.none⟩ _ g hne
  refine ⟨⟨?_, fun j hj => ?_, h.cb, fun j hj g hgj => ?_, fun g hne => ?_⟩, only_setCell' h.cb _⟩
  · rw [← box_set]; exact blk_set h.box k _
  · by_cases hjk : j = k
    · subst hjk
      rw [put1_at, put1_at]
      exact ⟨rfl, .inl ⟨rfl, rfl⟩⟩
    · rw [put1_ne hjk, put1_ne hjk]
      exact (h.row j hj).keep fun g hgv => hfar g (fun e => by have := h.cr j hj g hgv; rw [e] at this; have := h.cb; omega)
  · by_cases hjk : j = k
    · subst hjk
      rw [put1_at] at hgj
      cases hgj
    · rw [put1_ne hjk] at hgj
      exact h.cr j hj g hgj
  · have := h.lo g hne
    simpa [World.setCell] using this

/-- lists in blocks of their colours: the i-th of colour K + i -/
def Items {α : Type} (enc : α → Value) (w : World) (col : Nat → Nat) (T : TypeId) (K : Nat) (l : List (Value × List α)) : Prop :=
  ∀ i p, l[i]? = some p → Held w T 1 p.1 p.2.length (p.2.map enc) ∧ p.2.length ≤ 4194304 ∧ ∀ g, p.1.ownBlock = some g → col g = K + i
theorem Items.move {α : Type} {enc : α → Value} {w w' : World} {col col' : Nat → Nat} {T K : Nat} {l : List (Value × List α)} (h : Items enc w col T K l) (hk : ∀ g, g < w.heap.size → K ≤ col g → w'.heap[g]? = w.heap[g]?) (hc : ∀ g, g < w.heap.size → col' g = col g) : Items enc w' col' T K l := by
  intro i p hp
  obtain ⟨h1, h2, h3⟩ := h i p hp
  exact ⟨h1.keep fun g hg => hk g (h1.lt hg) (by have := h3 g hg; omega), h2, fun g hg => (hc g (h1.lt hg)).trans (h3 g hg)⟩
theorem Items.nil {α : Type} (enc : α → Value) (w : World) (col : Nat → Nat) (T K : Nat) : Items enc w col T K [] := fun i p hp => by simp at hp
theorem Items.snoc {α : Type} {enc : α → Value} {w : World} {col : Nat → Nat} {T K : Nat} {l : List (Value × List α)} (h : Items enc w col T K l) {v : Value} {L : List α} (hv : Held w T 1 v L.length (L.map enc)) (hl : L.length ≤ 4194304) (hc : ∀ g, v.ownBlock = some g → col g = K + l.length) : Items enc w col T K (l ++ [(v, L)]) := by
  intro i p hp
  by_cases hi : i < l.length
  · rw [List.getElem?_append_left hi] at hp; exact h i p hp
  · rw [List.getElem?_append_right (by omega)] at hp
    obtain ⟨hj, rfl⟩ := List.getElem?_eq_some_iff.mp hp
    have : i = l.length := by simp at hj; omega
    subst this
    simpa using ⟨hv, hl, hc⟩
theorem Items.cat {α : Type} {enc : α → Value} {w : World} {col : Nat → Nat} {T K : Nat} {l m : List (Value × List α)} (h : Items enc w col T K l) (h2 : Items enc w col T (K + l.length) m) : Items enc w col T K (l ++ m) := by
  intro i p hp
  by_cases hi : i < l.length
  · rw [List.getElem?_append_left hi] at hp; exact h i p hp
  · rw [List.getElem?_append_right (by omega)] at hp
    obtain ⟨a, b, c⟩ := h2 _ p hp
    exact ⟨a, b, fun g hg => by have := c g hg; omega⟩
theorem Cols.move {w w' : World} {col col' : Nat → Nat} {T K : Nat} {mk : Nat → List Value} {l : List (Value × Nat)} (h : Cols w col T K mk l) (hk : ∀ g, g < w.heap.size → K ≤ col g → w'.heap[g]? = w.heap[g]?) (hc : ∀ g, g < w.heap.size → col' g = col g) : Cols w' col' T K mk l :=
  fun p hp => ⟨(h p hp).1.keep fun g hg => hk g ((h p hp).1.lt hg) (by have := (h p hp).2 g hg; omega), fun g hg => (hc g ((h p hp).1.lt hg)).trans ((h p hp).2 g hg)⟩
theorem txts_held {w : World} {T n : Nat} {v : Value} {L : List ByteArray} (h : Held w T 1 v n (L.map Value.string)) (hn : n = L.length) : ∃ p c, v = .slice p n c ∧ n ≤ c ∧ ∀ j s, L[j]? = some s → ∃ a, p = some a ∧ w.cell? (a.add j) = some (.string s) := by
  obtain ⟨p, c, rfl, h1, h2, h3⟩ := h.cells
  refine ⟨p, c, rfl, h1, fun j s hs => ?_⟩
  obtain ⟨a, ha, _, hc⟩ := h3 j (.string s) (by rw [List.getElem?_map, hs]; rfl)
  exact ⟨a, ha, hc⟩
/-- what was laid and then appended -/
theorem grown_alloc {w w' : World} {o : Obj} {row : Option Nat} (h : (w.alloc o).grownBy w' row) : w.grownBy w' row :=
  ⟨h.os, h.tape, h.output, Nat.le_trans (by simp) h.size, fun k hk hne => (h.block k (by simp; omega) hne).trans (Below.heap_alloc _ _ _ hk)⟩
theorem Grew.at' {T sz : Nat} {w w' : World} {o : Obj} {v v' : Value} {n m : Nat} {xs news : List Value} (h : Grew T sz (w.alloc o) v n m xs news v' w') : v'.ownBlock = v.ownBlock ∨ ∃ H, v'.ownBlock = some H ∧ w.heap.size ≤ H := by
  rcases h.at with ⟨h1, _⟩ | ⟨h1, _⟩
  · exact .inl h1
  · exact .inr ⟨_, h1, by simp⟩
theorem Held.grown {w w' : World} {T sz n : Nat} {v : Value} {xs : List Value} (h : Held w T sz v n xs) (hg : w.grownBy w' none) : Held w' T sz v n xs :=
  h.keep fun g hgv => hg.block g (h.lt hgv) (by simp)
/-- append(nil, a list) as a step of a region that draws its order -/
theorem run_copied {P : Program} (w : World) (t ty e : TypeId) (i : TypeInfo) (z : Value) (size bytes : Nat) (ht : P.underlying t = some (.slice e)) (hi : P.info? e = some i) (hz : i.zero = some z)
    (hsize : i.size = size) (hby : i.bytes = bytes) (hzs : z.cells.size = size) (hsz : 0 < size) (u : Value) (m : Nat) (xs : List Value) (hsrc : Held w e size u m xs) (h1 : ∀ u ∈ xs, u.oneCell' = true) (h63 : m ≤ maxLen) (hbytes : m * bytes ≤ 140737488355328) :
    ∃ v' w', (Builtin.append_ #[t, t] ty #[.slice none 0 0, u]).run P w = .ok v' w' ∧ Held w' e size v' m xs ∧ w.grownBy w' none ∧ (v'.ownBlock = none ∨ v'.ownBlock = some w.heap.size) := by
  by_cases hm : m = 0
  · subst hm
    have hxs : xs = [] := List.eq_nil_of_length_eq_zero (by simpa using hsrc.1)
    subst hxs
    refine ⟨.slice none 0 0, w, ?_, ⟨by simp, .inl ⟨rfl, rfl⟩⟩, only_refl _ _, .inl rfl⟩
    rcases hsrc.2 with ⟨rfl, _⟩ | ⟨g, cap, cur, rfl, hg, h1, h2, h3, h4⟩
    · simp [Builtin.append_, run_underlying ht, sizeOf, typeInfo, hi, Builtin.lenOf, Builtin.firstCells]
    · simp [Builtin.append_, run_underlying ht, sizeOf, typeInfo, hi, Builtin.lenOf, Builtin.firstCells, loadCells, loadCellsFrom]
  · rcases hsrc.2 with ⟨rfl, h0⟩ | ⟨g, cap, cur, rfl, hg, k1, k2, k3, k4⟩
    · exact absurd h0 hm
    · obtain ⟨v', w', hr, hgr⟩ := run_append_grew (P := P) w t ty e i z size bytes ht hi hz hsize hby hzs hsz (.slice none 0 0) 0 [] ⟨by simp, .inl ⟨rfl, rfl⟩⟩ ⟨g, 0, none⟩ m cap xs (by omega) hsrc.1
        (fun j u hj => by
          have hadd : (⟨g, 0, none⟩ : Addr).add j = ⟨g, j, none⟩ := by unfold Addr.add; split <;> simp_all
          rw [hadd, cell_of_row w g j _ _ _ hg, ← Array.getElem?_toList]
          rw [← k4, List.getElem?_take] at hj
          split at hj
          · exact hj
          · cases hj) h1 (by rw [Nat.zero_add]; exact h63) (by rw [Nat.zero_add]; exact hbytes)
      refine ⟨v', w', hr, ?_, hgr.grown, ?_⟩
      · have := hgr.held
        rwa [Nat.zero_add, List.nil_append] at this
      · rcases hgr.at with ⟨h1, _⟩ | ⟨h1, _⟩
        · exact .inl h1
        · exact .inr h1
theorem step_copied {P : Program} {ops : Array Oper} {o : Oper} {a : Act} {w : World} {K : Act → World → Prop} {Q : Exit → Act → World → Prop} {E : Prop} {T S : TypeId}
    (hg : o.guard = none) (s x : Operand) (hop : o.op = Op.call { callee := Callee.builtin Builtin.append, args := #[s, x], argTypes := #[S, S] })
    (hu : P.underlying S = some (.slice T)) (z : Value) (sz : Nat) {byt : Nat} (hi : (P.info? T).map (fun i => (i.zero, i.size, i.bytes)) = some (some z, sz, byt)) (hzs : z.cells.size = sz) (hsz : 0 < sz)
    {u : Value} {m : Nat} (xs : List Value) (hs : a.eval s = .slice none 0 0) (hx : a.eval x = u) (hsrc : Held w T sz u m xs) (hone : ∀ u ∈ xs, u.oneCell' = true) (hl : m * byt ≤ 140737488355328) (hl2 : m ≤ 140737488355328)
    (hK : ∀ v' w', Held w' T sz v' m xs → w.grownBy w' none → (v'.ownBlock = none ∨ v'.ownBlock = some w.heap.size) → K (a.put o.dst v') w') :
    if Region.wanted o (yielded ops a.tmps) = true then Oper.wp P o a w K Q else E := by
  have hw : Region.wanted o (yielded ops a.tmps) = true := by simp [Region.wanted, hg]
  rw [if_pos hw]
  obtain ⟨i, hi0, hz, hsi, hbi⟩ := info_parts hi
  obtain ⟨v', w', hrun, r1, r2, r3⟩ := run_copied (P := P) w S o.type T i z sz byt hu hi0 hz hsi hbi hzs hsz u m xs hsrc hone (by simp only [maxLen]; omega) hl
  unfold Oper.wp
  simp [execOp, hop, resolve, invoke, builtin, hs, hx, hrun, Result.andThen]
  exact hK v' w' r1 r2 r3
theorem wpList_copied' {P : Program} {ops : Array Oper} {rest : List Oper} {o : Oper} {a : Act} {Q : Exit → Act → World → Prop} {w : World} {T S : TypeId} (hgd : o.guard = none) (s x : Operand)
    (ho : o.op = .call { callee := .builtin .append, args := #[s, x], argTypes := #[S, S] }) (hu : P.underlying S = some (.slice T)) (z : Value) (sz : Nat) {byt : Nat} (hi : (P.info? T).map (fun i => (i.zero, i.size, i.bytes)) = some (some z, sz, byt))
    (hzs : z.cells.size = sz) (hsz : 0 < sz) {u : Value} {m : Nat} (xs : List Value) (hs : a.eval s = .slice none 0 0) (hx : a.eval x = u) (hsrc : Held w T sz u m xs)
    (hone : ∀ u ∈ xs, u.oneCell' = true) (hl : m * byt ≤ 140737488355328) (hl2 : m ≤ 140737488355328)
    (h : ∀ v' w', Held w' T sz v' m xs → w.grownBy w' none → (v'.ownBlock = none ∨ v'.ownBlock = some w.heap.size) → wpList P ops Q rest (a.put o.dst v') w') :
    wpList P ops Q (o :: rest) a w := by
  obtain ⟨i, hi0, hz, hsi, hbi⟩ := info_parts hi
  obtain ⟨v', w', hrun, r1, r2, r3⟩ := run_copied (P := P) w S o.type T i z sz byt hu hi0 hz hsi hbi hzs hsz u m xs hsrc hone (by simp only [maxLen]; omega) hl
  refine wpList_plain hgd fun _ hK => ?_
  unfold Oper.wp execOp
  simp only [ho, resolve, invoke, builtin, Sem.run_bind, Sem.run_pure, Result.andThen_ok, List.map_toArray, List.map_cons, List.map_nil, hs, hx, hrun]
  exact hK _ _ (h v' w' r1 r2 r3)
/-- a list appended to a list, as a step of a region that draws its order: where it lies -/
theorem run_cat {P : Program} (w : World) (t ty e : TypeId) (i : TypeInfo) (z : Value) (size bytes : Nat) (ht : P.underlying t = some (.slice e)) (hi : P.info? e = some i) (hz : i.zero = some z)
    (hsize : i.size = size) (hby : i.bytes = bytes) (hzs : z.cells.size = size) (hsz : 0 < size) (v u : Value) (n m : Nat) (l xs : List Value) (hown : Held w e size v n l) (hsrc : Held w e size u m xs) (h1 : ∀ u ∈ xs, u.oneCell' = true) (h63 : n + m ≤ maxLen) (hbytes : (n + m) * bytes ≤ 140737488355328) :
    ∃ v' w', (Builtin.append_ #[t, t] ty #[v, u]).run P w = .ok v' w' ∧ Held w' e size v' (n + m) (l ++ xs) ∧ w.grownBy w' v.ownBlock ∧ (v'.ownBlock = v.ownBlock ∨ v'.ownBlock = some w.heap.size) := by
  by_cases hm : m = 0
  · subst hm
    have hxs : xs = [] := List.eq_nil_of_length_eq_zero (by simpa using hsrc.1)
    subst hxs
    refine ⟨v, w, ?_, by simpa using hown, only_refl _ _, .inl rfl⟩
    have hv : ∃ p c, v = .slice p n c ∧ n ≤ c := by
      obtain ⟨p, c, h1, h2, _⟩ := hown.cells
      exact ⟨p, c, h1, h2⟩
    obtain ⟨p, c, rfl, hnc⟩ := hv
    obtain ⟨q, d, rfl, _⟩ := hsrc.cells
    cases p <;> cases q <;> simp [Builtin.append_, run_underlying ht, sizeOf, typeInfo, hi, Builtin.lenOf, Builtin.firstCells, loadCells, loadCellsFrom, storeCells, hnc]
  · rcases hsrc.2 with ⟨rfl, h0⟩ | ⟨g, cap, cur, rfl, hg, k1, k2, k3, k4⟩
    · exact absurd h0 hm
    · obtain ⟨v', w', hr, hgr⟩ := run_append_grew (P := P) w t ty e i z size bytes ht hi hz hsize hby hzs hsz v n l hown ⟨g, 0, none⟩ m cap xs (by omega) hsrc.1
        (fun j u hj => by
          have hadd : (⟨g, 0, none⟩ : Addr).add j = ⟨g, j, none⟩ := by unfold Addr.add; split <;> simp_all
          rw [hadd, cell_of_row w g j _ _ _ hg, ← Array.getElem?_toList]
          rw [← k4, List.getElem?_take] at hj
          split at hj
          · exact hj
          · cases hj) h1 h63 hbytes
      refine ⟨v', w', hr, hgr.held, hgr.grown, ?_⟩
      rcases hgr.at with ⟨h1, _⟩ | ⟨h1, _⟩
      · exact .inl h1
      · exact .inr h1
theorem step_cat {P : Program} {ops : Array Oper} {o : Oper} {a : Act} {w : World} {K : Act → World → Prop} {Q : Exit → Act → World → Prop} {E : Prop} {T S : TypeId}
    (hg : o.guard = none) (s x : Operand) (hop : o.op = Op.call { callee := Callee.builtin Builtin.append, args := #[s, x], argTypes := #[S, S] })
    (hu : P.underlying S = some (.slice T)) (z : Value) (sz : Nat) {byt : Nat} (hi : (P.info? T).map (fun i => (i.zero, i.size, i.bytes)) = some (some z, sz, byt)) (hzs : z.cells.size = sz) (hsz : 0 < sz)
    {v u : Value} {n m : Nat} (l xs : List Value) (hs : a.eval s = v) (hx : a.eval x = u) (hown : Held w T sz v n l) (hsrc : Held w T sz u m xs) (hone : ∀ u ∈ xs, u.oneCell' = true) (hl : (n + m) * byt ≤ 140737488355328) (hl2 : n + m ≤ 140737488355328)
    (hK : ∀ v' w', Held w' T sz v' (n + m) (l ++ xs) → w.grownBy w' v.ownBlock → (v'.ownBlock = v.ownBlock ∨ v'.ownBlock = some w.heap.size) → K (a.put o.dst v') w') :
    if Region.wanted o (yielded ops a.tmps) = true then Oper.wp P o a w K Q else E := by
  have hw : Region.wanted o (yielded ops a.tmps) = true := by simp [Region.wanted, hg]
  rw [if_pos hw]
  obtain ⟨i, hi0, hz, hsi, hbi⟩ := info_parts hi
  obtain ⟨v', w', hrun, r1, r2, r3⟩ := run_cat (P := P) w S o.type T i z sz byt hu hi0 hz hsi hbi hzs hsz v u n m l xs hown hsrc hone (by simp only [maxLen]; omega) hl
  unfold Oper.wp
  simp [execOp, hop, resolve, invoke, builtin, hs, hx, hrun, Result.andThen]
  exact hK v' w' r1 r2 r3
end Go.Scr
/- Lists in blocks of their colours are written over, element by element, and become lists of marks. -/
namespace Go.Scr
open Go.RowKit
set_option linter.unusedVariables false

theorem Held.block {w : World} {T n : Nat} {v : Value} {xs : List Value} (h : Held w T 1 v n xs) (hn : 0 < n) : ∃ g cap cur, v = .slice (some ⟨g, 0, none⟩) n cap ∧ w.heap[g]? = some (.cells cur T (0, 0)) ∧ n ≤ cap ∧ cap ≤ cur.size ∧ cur.toList.take n = xs := by
  rcases h.2 with ⟨_, h0⟩ | ⟨g, cap, cur, rfl, hg, h1, _, h3, h4⟩
  · omega
  · exact ⟨g, cap, cur, rfl, hg, h1, by omega, by rw [← h4, Nat.mul_one]⟩
theorem Held.set {w : World} {T n : Nat} {v : Value} {xs : List Value} (h : Held w T 1 v n xs) {g : Nat} (hg : v.ownBlock = some g) (k : Nat) (u : Value) : Held (w.setCell ⟨g, k, none⟩ u) T 1 v n (xs.set k u) := by
  refine ⟨by rw [List.length_set]; exact h.1, ?_⟩
  rcases h.2 with ⟨rfl, _⟩ | ⟨g', cap, cur, rfl, hg', h1, h2, h3, h4⟩
  · cases hg
  · cases hg
    refine .inr ⟨g', cap, cur.setIfInBounds k u, rfl, blk_set hg' k u, h1, h2, by rw [Array.size_setIfInBounds]; exact h3, ?_⟩
    rw [← h4]
    apply List.ext_getElem?
    intro j
    simp only [List.getElem?_take, List.getElem?_set, Array.getElem?_toList, Array.getElem?_setIfInBounds, List.length_take, Array.length_toList]
    by_cases hj : j < n * 1
    · rw [if_pos hj]
      by_cases hkj : k = j
      · subst hkj
        rw [if_pos rfl, if_pos rfl]
        by_cases hs : k < cur.size
        · rw [if_pos hs, if_pos (by omega)]
        · rw [if_neg hs, if_neg (by omega)]
      · rw [if_neg hkj, if_neg hkj, if_pos hj]
    · rw [if_neg hj]
      by_cases hkj : k = j
      · subst hkj
        rw [if_pos rfl, if_neg (by omega)]
      · rw [if_neg hkj, if_neg hj]
/-- one element of the i-th list is written -/
theorem Items.mark {α : Type} {enc : α → Value} {w : World} {col : Nat → Nat} {T K : Nat} {l : List (Value × List α)} (h : Items enc w col T K l) {i g : Nat} {p : Value × List α} (hp : l[i]? = some p) (hg : p.1.ownBlock = some g) (k : Nat) (s : α) :
    Items enc (w.setCell ⟨g, k, none⟩ (enc s)) col T K (l.set i (p.1, p.2.set k s)) ∧ Only col (fun c => c = K + i) w (w.setCell ⟨g, k, none⟩ (enc s)) := by
  refine ⟨fun j q hq => ?_, only_setCell' ((h i p hp).2.2 g hg) _⟩
  obtain ⟨h1, h2, h3⟩ := h i p hp
  have hil : i < l.length := (List.getElem?_eq_some_iff.mp hp).1
  rw [List.getElem?_set] at hq
  by_cases hij : i = j
  · subst hij
    rw [if_pos rfl, if_pos hil] at hq
    cases hq
    refine ⟨?_, by rw [List.length_set]; exact h2, h3⟩
    rw [List.length_set, List.map_set]
    exact h1.set hg k _
  · rw [if_neg hij] at hq
    obtain ⟨a, b, c⟩ := h j q hq
    refine ⟨a.keep fun g' hg' => Below.heap_setCell w ⟨g, k, none⟩ _ g' (fun e => ?_), b, c⟩
    have e1 := c g' hg'
    have e2 := h3 g hg
    rw [show g' = g from e] at e1
    omega
theorem map_set_fst {α β : Type} (l : List (α × β)) (i : Nat) (p q : α × β) (hp : l[i]? = some p) (hq : q.1 = p.1) : (l.set i q).map (·.1) = l.map (·.1) := by
  apply List.ext_getElem?
  intro j
  simp only [List.getElem?_map, List.getElem?_set]
  by_cases hij : i = j
  · subst hij
    have hil : i < l.length := (List.getElem?_eq_some_iff.mp hp).1
    rw [if_pos rfl, if_pos hil, hp]
    simp [hq]
  · rw [if_neg hij]
/-- a list of the mark, as one of colours -/
theorem items_col {α : Type} {enc : α → Value} {w : World} {col : Nat → Nat} {T K : Nat} {l : List (Value × List α)} (h : Items enc w col T K l) {i : Nat} {p : Value × List α} (hp : l[i]? = some p) {s : α} (hs : p.2 = List.replicate p.2.length s) :
    Held w T 1 p.1 p.2.length (marks [enc s] p.2.length) ∧ ∀ g, p.1.ownBlock = some g → col g = K + i := by
  obtain ⟨h1, _, h3⟩ := h i p hp
  refine ⟨?_, h3⟩
  have e : p.2.map enc = marks [enc s] p.2.length := by
    unfold marks
    rw [hs, List.length_replicate, List.map_replicate]
    generalize p.2.length = n
    induction n with
    | zero => rfl
    | succ n ih => rw [List.replicate_succ, List.replicate_succ, List.flatten_cons, ← ih]; rfl
  rw [← e]
  exact h1
end Go.Scr
