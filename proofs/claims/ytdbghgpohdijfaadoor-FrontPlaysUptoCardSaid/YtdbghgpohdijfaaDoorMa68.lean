/- The law 3's book: still, walked. -/
import Derived.Test.YtdbghgpohdijfaaDoorMa67
import Derived.Test.YtdbghgpohdijfaaDoorMa31
import Derived.Deep.CutBlock
namespace Go.Proofs.YtdbghgpohdijfaaDoor.Bk5
open Go.RowKit Go.Scr
set_option linter.unusedVariables false
theorem slice_of {w : World} {x : Value} {L : List ByteArray} {n : Nat} (h : Txts w x L) (hn : n = L.length) : ∃ p c, x = .slice p n c := by
  obtain ⟨p, c, hx, _⟩ := h
  exact ⟨p, c, by rw [hn]; exact hx⟩

/-- all lists from the first one on to the i-th are full of their marks -/
def Mkd (ls : List (Value × List ByteArray)) (i : Nat) : Prop := ∀ (j : Nat) (p : Value × List ByteArray), j < i → ls[j]? = some p → p.2 = List.replicate p.2.length (markS j)
/-- grown lists are not too long -/
def GL (gr : List (Value × Nat)) : Prop := ∀ p ∈ gr, ∃ q n c, p.1 = Value.slice q n c ∧ n ≤ 2097152
/-- the book behind still -/
def Stood (w w' : World) (B b : Nat) (col : Nat → Nat) (nl ng : Nat) : Prop :=
  ∃ col' V' ls' gr', BookI w' B b col' V' [] [] ls' gr' (gr'.map (·.2)) ∧ ls'.length = nl ∧ gr'.length = ng ∧ Mkd ls' nl ∧ (∀ p ∈ ls', p.2.length ≤ 1048576) ∧ GL gr' ∧ Only col (fun c => 1 ≤ c) w w' ∧ ∀ g, g < w.heap.size → col' g = col g
/-- the book in a loop of still -/
def StI (w w' : World) (B b : Nat) (col : Nat → Nat) (ls : List (Value × List ByteArray)) (gr : List (Value × Nat)) (wh : List Nat) : Prop :=
  ∃ col' V', BookI w' B b col' V' [] [] ls gr wh ∧ Only col (fun c => 1 ≤ c) w w' ∧ ∀ g, g < w.heap.size → col' g = col g
theorem StI.below {w w1 w' : World} {B b : Nat} {col : Nat → Nat} {ls : List (Value × List ByteArray)} {gr : List (Value × Nat)} {wh : List Nat} (h : StI w w1 B b col ls gr wh) (hb : Below w1.heap.size w1 w') : StI w w' B b col ls gr wh := by
  obtain ⟨c, V, h1, h2, h3⟩ := h
  refine ⟨c, V, h1.below hb, h2.trans (only_of_below' (col := c) hb) h3, h3⟩
/-- a row of the book, as the walk wants it -/
theorem rec_at {w : World} {B b T N : Nat} {col : Nat → Nat} {ty : Nat → TypeId} {V : Nat → Value} {R : Nat → List Value} (h : Rec w B b col T N ty V R) {k : Nat} (hk : k < N) : ∃ p c, w.cell? ⟨b, k, none⟩ = some (.slice p (R k).length c) ∧ V k = .slice p (R k).length c ∧ (R k).length ≤ c ∧ ∀ j u, (R k)[j]? = some u → ∃ a, p = some a ∧ w.cell? (a.add j) = some u := by
  obtain ⟨p, c, h1, h2, _, h3⟩ := (h.row k hk).cells
  refine ⟨p, c, by rw [← h1]; exact h.cell hk, h1, h2, fun j u hj => ?_⟩
  obtain ⟨a, ha, _, hc⟩ := h3 j u hj
  exact ⟨a, ha, hc⟩
theorem below_drew {w w2 : World} (h : Below w.drew.heap.size w.drew w2) : Below w.heap.size w w2 := (Below.refl _ _).drew.trans h
theorem items_one {α : Type} {enc : α → Value} {w : World} {col : Nat → Nat} {T : TypeId} {K : Nat} {l : List (Value × List α)} (h : Items enc w col T K l) : ∀ u ∈ l.map (·.1), u.oneCell' = true := by
  intro u hu
  obtain ⟨p, hp, rfl⟩ := List.mem_map.mp hu
  obtain ⟨i, hi⟩ := List.getElem?_of_mem hp
  obtain ⟨q, c, he, _⟩ := (h i p hi).1.cells
  rw [he]; rfl
theorem held_txts {w : World} {T : Nat} {v : Value} {L : List ByteArray} (h : Held w T 1 v L.length (L.map Value.string)) (hl : L.length ≤ 4194304) : Txts w v L := by
  obtain ⟨p, c, h1, h2, h3⟩ := txts_held h rfl
  exact ⟨p, c, h1, h2, by omega, h3⟩

theorem moved {w wr w5 : World} {B b : Nat} {col : Nat → Nat} {V : Nat → Value} {fr ls : List (Value × List ByteArray)} {wl : List Value} {gr : List (Value × Nat)} {wh : List Nat} {v5 : Value} (HI : Below w.heap.size w wr) (KB : BookI wr B b col V fr wl ls gr wh) (hB : B ≤ w.heap.size)
    (h5 : Held w5 22 1 v5 (ls.length + fr.length) (ls.map (·.1) ++ fr.map (·.1))) (hg : wr.drew.grownBy w5 (V 2).ownBlock) (hat : v5.ownBlock = (V 2).ownBlock ∨ v5.ownBlock = some wr.drew.heap.size) :
    StI w (((w5.setCell ⟨b, 2, none⟩ v5).setCell ⟨b, 0, none⟩ (.slice none 0 0)).setCell ⟨b, 1, none⟩ (.slice none 0 0)) B b col (ls ++ fr) gr wh ∧
      (w5.setCell ⟨b, 2, none⟩ v5).cell? ⟨b, 0, none⟩ = some (V 0) ∧ (w5.setCell ⟨b, 2, none⟩ v5).frozen? ⟨b, 0, none⟩ = false ∧
      ((w5.setCell ⟨b, 2, none⟩ v5).setCell ⟨b, 0, none⟩ (.slice none 0 0)).cell? ⟨b, 1, none⟩ = some (V 1) ∧ ((w5.setCell ⟨b, 2, none⟩ v5).setCell ⟨b, 0, none⟩ (.slice none 0 0)).frozen? ⟨b, 1, none⟩ = false := by
  have hB2 : B ≤ wr.drew.heap.size := Nat.le_trans hB HI.size
  have KD := KB.below (Below.refl wr.heap.size wr).drew
  have hat2 : v5.ownBlock = (V 2).ownBlock ∨ ∃ H, v5.ownBlock = some H ∧ wr.drew.heap.size ≤ H := hat.imp id fun e => ⟨_, e, Nat.le_refl _⟩
  obtain ⟨m1, m2, m3⟩ := KD.moveL h5 hg hat2 hB2
  obtain ⟨r1, r2, r3⟩ := KD.st.grew (k := 2) (by omega) (X := (ls ++ fr).map (·.1)) (by
    rw [List.map_append, List.length_append, List.length_map, List.length_map]
    exact h5) hg hat2 hB2
  have hs := r2.size
  obtain ⟨k1, _⟩ := r1.none (k := 0) (by omega) (by omega)
  exact ⟨⟨_, _, m1, (only_of_below' (S := fun c => 1 ≤ c) (HI.trans ((Below.refl _ _).drew.mono HI.size))).trans (m2.mono (fun c h => by omega)) (fun _ _ => rfl), fun g hg => m3 g (Nat.lt_of_lt_of_le hg HI.size)⟩, r1.cell (k := 0) (by omega), r1.frozen 0, k1.cell (k := 1) (by omega), k1.frozen 1⟩
/-- element k of list i is marked -/
theorem StI.mark {w w1 : World} {B b : Nat} {col : Nat → Nat} {ls : List (Value × List ByteArray)} {gr : List (Value × Nat)} {wh : List Nat} (h : StI w w1 B b col ls gr wh) {i g : Nat} {p : Value × List ByteArray} (hp : ls[i]? = some p) (hg : p.1.ownBlock = some g) (hi : ∀ q ∈ gr, q.2 < i) (k : Nat) (s : ByteArray) :
    StI w (w1.setCell ⟨g, k, none⟩ (.string s)) B b col (ls.set i (p.1, p.2.set k s)) gr wh := by
  obtain ⟨c, V, h1, h2, h3⟩ := h
  obtain ⟨m1, m2⟩ := h1.mark hp hg hi k s
  exact ⟨c, V, m1, h2.trans (m2.mono (fun c h => by omega)) h3, h3⟩
/-- what a loop reads of the book's lists -/
theorem StI.lists {w w1 : World} {B b : Nat} {col : Nat → Nat} {ls : List (Value × List ByteArray)} {gr : List (Value × Nat)} {wh : List Nat} (h : StI w w1 B b col ls gr wh) : ∃ p2 c2, w1.cell? ⟨b, 2, none⟩ = some (.slice p2 ls.length c2) ∧ ls.length ≤ c2 ∧
    ∀ i p, ls[i]? = some p → (∃ a, p2 = some a ∧ w1.cell? (a.add i) = some p.1) ∧ Held w1 9 1 p.1 p.2.length (p.2.map Value.string) ∧ p.2.length ≤ 4194304 := by
  obtain ⟨c, V, h1, h2, h3⟩ := h
  obtain ⟨p2, c2, k1, _, k2, k3⟩ := rec_at h1.st (k := 2) (by omega)
  have e : (bookR [] [] ls gr wh 2).length = ls.length := List.length_map _
  rw [e] at k1 k2
  refine ⟨p2, c2, k1, k2, fun i p hp => ⟨k3 i p.1 (by show (ls.map (·.1))[i]? = _; rw [List.getElem?_map, hp]; rfl), (h1.li i p hp).1, (h1.li i p hp).2.1⟩⟩
/-- the book, and a list that is being grown -/
structure BX (w0 w : World) (B b : Nat) (col0 col : Nat → Nat) (V : Nat → Value) (l : List (Value × List ByteArray)) (gr : List (Value × Nat)) (wh : List Nat) (x : Value) (n i : Nat) : Prop where
  bk : BookI w B b col V [] [] l gr wh
  on : Only col0 (fun c => 1 ≤ c) w0 w
  co : ∀ g, g < w0.heap.size → col g = col0 g
  he : Held w 9 1 x n (marks (mkV i) n)
  hc : ∀ g, x.ownBlock = some g → col g = 8 + i
  hB : B ≤ w.heap.size
theorem BX.below {w0 w w' : World} {B b : Nat} {col0 col : Nat → Nat} {V : Nat → Value} {l : List (Value × List ByteArray)} {gr : List (Value × Nat)} {wh : List Nat} {x : Value} {n i : Nat} (h : BX w0 w B b col0 col V l gr wh x n i) (hb : Below w.heap.size w w') : BX w0 w' B b col0 col V l gr wh x n i :=
  ⟨h.bk.below hb, h.on.trans (only_of_below' (col := col) hb) h.co, h.co, h.he.below hb, h.hc, Nat.le_trans h.hB hb.size⟩
theorem BX.grow {w0 w w' : World} {B b : Nat} {col0 col : Nat → Nat} {V : Nat → Value} {l : List (Value × List ByteArray)} {gr : List (Value × Nat)} {wh : List Nat} {x x' : Value} {n i : Nat} {news : List Value} {o : Obj} (h : BX w0 w B b col0 col V l gr wh x n i) (hm : Mkd l l.length) (hi : i < l.length) (hn : news = mkV i)
    (hg : Grew 9 1 (w.alloc o) x n 1 (marks (mkV i) n) news x' w') : BX w0 w' B b col0 (dyeV col x' (8 + i)) V l gr wh x' (n + 1) i := by
  subst hn
  have hbel : Below w.heap.size w (w.alloc o) := (Below.refl _ _).alloc (Nat.le_refl _) _
  have h' := h.below hbel
  obtain ⟨a1, ⟨a2, a3⟩, a4, a5⟩ := h'.bk.grow (fun j p hp => hm j p (List.getElem?_eq_some_iff.mp hp).1 hp) hi h'.hc hg (fun g he => h'.he.lt he) h'.hB
  have hs := h'.on.size
  have hs2 := hg.size
  have hh := hg.held
  have e : marks (mkV i) n ++ mkV i = marks (mkV i) (n + 1) := marks_snoc _ _
  rw [e] at hh
  exact ⟨a1, h'.on.trans (a4.mono (fun c h => by omega)) h'.co, fun g hg => (a5 g (by omega)).trans (h'.co g hg), hh, a3, Nat.le_trans h'.hB hs2⟩
theorem BX.addG {w0 w w1 : World} {B b : Nat} {col0 col : Nat → Nat} {V : Nat → Value} {l : List (Value × List ByteArray)} {gr : List (Value × Nat)} {wh : List Nat} {x v' : Value} {n i ng : Nat} {o : Obj} (h : BX w0 w B b col0 col V l gr wh x n i) (hi : i < l.length) (hng : ng = gr.length)
    (hg : Grew 22 1 (w.alloc o) (V 3) ng 1 (gr.map (·.1)) [x] v' w1) : BX w0 (w1.setCell ⟨b, 3, none⟩ v') B b col0 (dyeV col v' 5) (put1 V 3 v') l (gr ++ [(x, i)]) wh x n i := by
  subst hng
  obtain ⟨a1, a2, a3⟩ := h.bk.addG (x := x) (v' := v') (c := i) hg.held (grown_alloc hg.grown) hg.at' h.hB (held_full (M := mkV i) h.he) h.hc hi
  have hs := h.on.size
  have hs2 := a2.size
  exact ⟨a1, h.on.trans (a2.mono (fun c h => by omega)) h.co, fun g hg => (a3 g (by omega)).trans (h.co g hg), h.he.keep fun g he => a2.block g (h.he.lt he) (by have := h.hc g he; omega), fun g he => (a3 g (h.he.lt he)).trans (h.hc g he), Nat.le_trans h.hB hs2⟩
theorem BX.addH {w0 w w1 : World} {B b : Nat} {col0 col : Nat → Nat} {V : Nat → Value} {l : List (Value × List ByteArray)} {gr : List (Value × Nat)} {wh : List Nat} {x v' : Value} {n i ng : Nat} {o : Obj} (h : BX w0 w B b col0 col V l gr wh x n i) (hng : ng = wh.length)
    (hg : Grew 3 1 (w.alloc o) (V 4) ng 1 (wh.map fun c => Value.int .i64 ((c : Nat) : Int)) [Value.int .i64 (i : Int)] v' w1) : BX w0 (w1.setCell ⟨b, 4, none⟩ v') B b col0 (dyeV col v' 6) (put1 V 4 v') l gr (wh ++ [i]) x n i := by
  subst hng
  obtain ⟨a1, a2, a3⟩ := h.bk.addH (v' := v') (c := i) hg.held (grown_alloc hg.grown) hg.at' h.hB
  have hs := h.on.size
  have hs2 := a2.size
  exact ⟨a1, h.on.trans (a2.mono (fun c h => by omega)) h.co, fun g hg => (a3 g (by omega)).trans (h.co g hg), h.he.keep fun g he => a2.block g (h.he.lt he) (by have := h.hc g he; omega), fun g he => (a3 g (h.he.lt he)).trans (h.hc g he), Nat.le_trans h.hB hs2⟩
theorem BX.row {w0 w : World} {B b : Nat} {col0 col : Nat → Nat} {V : Nat → Value} {l : List (Value × List ByteArray)} {gr : List (Value × Nat)} {wh : List Nat} {x : Value} {n i : Nat} (h : BX w0 w B b col0 col V l gr wh x n i) : w.cell? ⟨b, 3, none⟩ = some (V 3) ∧ Held w 22 1 (V 3) gr.length (gr.map (·.1)) ∧ w.cell? ⟨b, 4, none⟩ = some (V 4) ∧ Held w 3 1 (V 4) wh.length (wh.map fun c => Value.int .i64 ((c : Nat) : Int)) := by
  have r3 := h.bk.st.row 3 (by omega)
  have r4 := h.bk.st.row 4 (by omega)
  have e3 : (bookR [] [] l gr wh 3).length = gr.length := List.length_map _
  have e4 : (bookR [] [] l gr wh 4).length = wh.length := List.length_map _
  rw [e3] at r3
  rw [e4] at r4
  exact ⟨h.bk.st.cell (k := 3) (by omega), r3, h.bk.st.cell (k := 4) (by omega), r4⟩
theorem BX.box {w0 w w1 : World} {B b : Nat} {col0 col : Nat → Nat} {V : Nat → Value} {l : List (Value × List ByteArray)} {gr : List (Value × Nat)} {wh : List Nat} {x : Value} {n i : Nat} (h : BX w0 w B b col0 col V l gr wh x n i) {k : Nat} (hk : k < 5) (hg : w.grownBy w1 (V k).ownBlock) : w1.cell? ⟨b, k, none⟩ = some (V k) ∧ w1.frozen? ⟨b, k, none⟩ = false := h.bk.st.box_grew hk hg hk
theorem BX.begin {w w1 : World} {B b : Nat} {col : Nat → Nat} {l : List (Value × List ByteArray)} {gr : List (Value × Nat)} {wh : List Nat} (h : StI w w1 B b col l gr wh) {i : Nat} {p : Value × List ByteArray} (hp : l[i]? = some p) (hm : Mkd l l.length) (hB : B ≤ w1.heap.size) : ∃ col' V', BX w w1 B b col col' V' l gr wh p.1 p.2.length i := by
  obtain ⟨c, V, h1, h2, h3⟩ := h
  obtain ⟨b1, b2⟩ := items_col h1.li hp (hm i p (List.getElem?_eq_some_iff.mp hp).1 hp)
  exact ⟨c, V, h1, h2, h3, b1, b2, hB⟩
theorem BX.st {w0 w : World} {B b : Nat} {col0 col : Nat → Nat} {V : Nat → Value} {l : List (Value × List ByteArray)} {gr : List (Value × Nat)} {wh : List Nat} {x : Value} {n i : Nat} (h : BX w0 w B b col0 col V l gr wh x n i) : StI w0 w B b col0 l gr wh := ⟨col, V, h.bk, h.on, h.co⟩
theorem mkd_set {l : List (Value × List ByteArray)} {i m : Nat} {pv : Value} (h : Mkd l i) (hil : i < l.length) : Mkd (l.set i (pv, List.replicate m (markS i))) (i + 1) := by
  intro j p hj hp
  rw [List.getElem?_set] at hp
  by_cases hij : i = j
  · subst hij
    rw [if_pos rfl, if_pos hil] at hp
    cases hp
    simp
  · rw [if_neg hij] at hp
    exact h j p (by omega) hp
theorem rep_map (m : Nat) (s : ByteArray) : (List.replicate m s).map Value.string = marks [Value.string s] m := by
  unfold marks
  rw [List.map_replicate]
  induction m with
  | zero => rfl
  | succ n ih => rw [List.replicate_succ, List.replicate_succ, List.flatten_cons, ← ih]; rfl
/-- what the last loop reads -/
theorem StI.grown {w w1 : World} {B b : Nat} {col : Nat → Nat} {ls : List (Value × List ByteArray)} {gr : List (Value × Nat)} (h : StI w w1 B b col ls gr (gr.map (·.2))) (hgl : GL gr) : ∃ p3 c3 p4 c4, w1.cell? ⟨b, 3, none⟩ = some (.slice p3 gr.length c3) ∧ gr.length ≤ c3 ∧ w1.cell? ⟨b, 4, none⟩ = some (.slice p4 gr.length c4) ∧ gr.length ≤ c4 ∧
    ∀ i p, gr[i]? = some p → (∃ a, p3 = some a ∧ w1.cell? (a.add i) = some p.1) ∧ (∃ a, p4 = some a ∧ w1.cell? (a.add i) = some (.int .i64 ((p.2 : Nat) : Int))) ∧ p.2 < ls.length ∧ ∃ q n c, p.1 = .slice q n c ∧ n ≤ 2097152 ∧ Txts w1 (.slice q n c) (List.replicate n (markS p.2)) := by
  obtain ⟨c, V, h1, h2, h3⟩ := h
  obtain ⟨p3, c3, k1, _, k2, k3⟩ := rec_at h1.st (k := 3) (by omega)
  obtain ⟨p4, c4, m1, _, m2, m3⟩ := rec_at h1.st (k := 4) (by omega)
  have e : (bookR [] [] ls gr (gr.map (·.2)) 3).length = gr.length := List.length_map _
  have e4 : (bookR [] [] ls gr (gr.map (·.2)) 4).length = gr.length := by show ((gr.map (·.2)).map _).length = _; rw [List.length_map, List.length_map]
  rw [e] at k1 k2
  rw [e4] at m1 m2
  refine ⟨p3, c3, p4, c4, k1, k2, m1, m2, fun i p hp => ⟨k3 i p.1 (by show (gr.map (·.1))[i]? = _; rw [List.getElem?_map, hp]; rfl), m3 i _ (by show ((gr.map (·.2)).map fun c => Value.int .i64 ((c : Nat) : Int))[i]? = _; rw [List.getElem?_map, List.getElem?_map, hp]; rfl), h1.gb p (List.mem_of_getElem? hp), ?_⟩⟩
  obtain ⟨q, n, cc, hq, hn⟩ := hgl p (List.mem_of_getElem? hp)
  obtain ⟨n', hh⟩ := full_held (M := mkV p.2) (h1.gi p (List.mem_of_getElem? hp)).1
  have hn' : n' = n := by
    obtain ⟨q2, c2, e2, _⟩ := hh.cells
    rw [hq] at e2
    simp only [Value.slice.injEq] at e2
    exact e2.2.1.symm
  subst hn'
  refine ⟨q, n', cc, hq, hn, ?_⟩
  rw [← hq]
  have hh2 : Held w1 9 1 p.1 (List.replicate n' (markS p.2)).length ((List.replicate n' (markS p.2)).map Value.string) := by rw [List.length_replicate, rep_map]; exact hh
  exact held_txts hh2 (by rw [List.length_replicate]; omega)
theorem int_one' (i : Nat) : ∀ u ∈ [Value.int .i64 (i : Int)], u.oneCell' = true := by
  intro u hu; simp only [List.mem_singleton] at hu; rw [hu]; rfl
theorem set_same {α : Type} {l : List α} {i : Nat} {x : α} (h : l[i]? = some x) : l.set i x = l := by
  apply List.ext_getElem?
  intro j
  rw [List.getElem?_set]
  by_cases hij : i = j
  · subst hij
    rw [if_pos rfl, if_pos (List.getElem?_eq_some_iff.mp h).1, h]
  · rw [if_neg hij]
theorem rep_set {s : ByteArray} {pl : List ByteArray} {k : Nat} (hk : k < pl.length) : (List.replicate k s ++ pl.drop k).set k s = List.replicate (k + 1) s ++ pl.drop (k + 1) := by
  rw [List.set_append_right _ _ (by simp), List.length_replicate, Nat.sub_self, List.drop_eq_getElem_cons hk, List.set_cons_zero, List.replicate_succ', List.append_assoc]
  rfl
theorem rep_len {s : ByteArray} {pl : List ByteArray} {k : Nat} (hk : k ≤ pl.length) : (List.replicate k s ++ pl.drop k).length = pl.length := by
  rw [List.length_append, List.length_replicate, List.length_drop]; omega

set_option maxRecDepth 100000 in
set_option maxHeartbeats 4000000 in
theorem still_any (B b : Nat) (col : Nat → Nat) (V : Nat → Value) (fr ls : List (Value × List ByteArray)) (wl : List Value) (gr : List (Value × Nat)) (w : World) (h : BookI w B b col V fr wl ls gr (gr.map (·.2))) (hwl : wl.length = fr.length) (hm : Mkd ls ls.length)
    (hB : B ≤ w.heap.size) (hn1 : ls.length + fr.length ≤ 10000) (hn2 : gr.length ≤ 400000) (hlen : ∀ p ∈ fr, p.2.length ≤ 1048576) (hlen2 : ∀ p ∈ ls, p.2.length ≤ 1048576) (hlg : GL gr) :
    Calls Tryd.prog 23 #[.pointer (some ⟨b, 0, none⟩)] w fun e w' => e = .returned (.bool true) ∧ Stood w w' B b col (ls.length + fr.length) (gr.length + 20 * fr.length) := by
  have H := Lib.hid h
  have HM := Lib.hid hm
  have HWL := Lib.hid hwl
  have HB := Lib.hid hB
  have HLEN := Lib.hid hlen
  have HLEN2 := Lib.hid hlen2
  have HLG := Lib.hid hlg
  obtain ⟨nf, hnf⟩ : ∃ x, x = fr.length := ⟨_, rfl⟩
  obtain ⟨nl, hnl⟩ : ∃ x, x = ls.length := ⟨_, rfl⟩
  obtain ⟨ng, hng⟩ : ∃ x, x = gr.length := ⟨_, rfl⟩
  rw [← hnf, ← hnl] at hn1
  rw [← hng] at hn2
  have HNF := Lib.hid hnf
  have HNL := Lib.hid hnl
  have HNG := Lib.hid hng
  obtain ⟨p0, cp0, c0, hV0, hle0, hc0⟩ := rec_at h.st (k := 0) (by omega)
  obtain ⟨p1, cp1, c1, hV1, hle1, hc1⟩ := rec_at h.st (k := 1) (by omega)
  obtain ⟨p2, cp2, c2, hV2, hle2, hc2⟩ := rec_at h.st (k := 2) (by omega)
  have q0 : (bookR fr wl ls gr (gr.map (·.2)) 0).length = nf := by rw [hnf]; exact List.length_map _
  have q1 : (bookR fr wl ls gr (gr.map (·.2)) 1).length = nf := by rw [hnf]; exact hwl
  have q2 : (bookR fr wl ls gr (gr.map (·.2)) 2).length = nl := by rw [hnl]; exact List.length_map _
  rw [q0] at c0 hV0 hle0
  rw [q1] at c1 hV1 hle1
  rw [q2] at c2 hV2 hle2
  have HV0 := Lib.hid hV0
  have HV1 := Lib.hid hV1
  have HV2 := Lib.hid hV2
  have HC0 := Lib.hid hc0
  have HC1 := Lib.hid hc1
  have HC2 := Lib.hid hc2
  have e0 := Lib.hid c0
  have e1 := Lib.hid c1
  have e2 := Lib.hid c2
  rw [← hnf, ← hnl, ← hng]
  clear h hwl hm hB hlen hlen2 hlg hnf hnl hng hV0 hV1 hV2 hc0 hc1 hc2 q0 q1 q2 c0 c1 c2
  go_enter Tryd.func23, Tryd.ntmps23
  go_wp2_with fail
  go_loopw [3, 4] (fun q _ wr => ∃ i : Nat, i ≤ nf ∧ q = .int .i64 i ∧ Hid (Below w.heap.size w wr)) (fun q _ _ => nf - (intOf q).toNat)
  case atStart => exact ⟨0, by omega, rfl, Lib.hid (Below.refl _ _)⟩
  case round =>
    obtain ⟨i, hi, rfl, hinv⟩ := hrel
    have HI := Lib.hid hinv.out
    clear hinv
    have KB := Lib.hid (H.out.below HI.out)
    have d0 : wr.cell? ⟨b, 0, none⟩ = some (.slice p0 nf cp0) := (HI.out.cell (block_lt_of_cell e0.out)).trans e0.out
    have d1 : wr.cell? ⟨b, 1, none⟩ = some (.slice p1 nf cp1) := (HI.out.cell (block_lt_of_cell e1.out)).trans e1.out
    by_cases hlt : i < nf
    · have hlti : (i : Int) < (nf : Int) := by omega
      have hi0 : (0 : Int) ≤ (i : Int) := by omega
      obtain ⟨⟨pv, pl⟩, hp⟩ : ∃ p, fr[i]? = some p := ⟨fr[i]'(by have := HNF.out; omega), List.getElem?_eq_getElem _⟩
      obtain ⟨x, hx⟩ : ∃ x, wl[i]? = some x := ⟨wl[i]'(by have := HNF.out; have := HWL.out; omega), List.getElem?_eq_getElem _⟩
      have hpl := HLEN.out (pv, pl) (List.mem_of_getElem? hp)
      have t1 : Txts wr pv pl := held_txts (KB.out.fi i (pv, pl) hp).1 (by exact Nat.le_trans hpl (by decide))
      have t2 : Txts wr x pl := held_txts (KB.out.wi i x (pv, pl) hx hp).1 (by exact Nat.le_trans hpl (by decide))
      obtain ⟨a0, rfl, hca⟩ := HC0.out i pv (by show (fr.map (·.1))[i]? = _; rw [List.getElem?_map, hp]; rfl)
      obtain ⟨a1, rfl, hcb⟩ := HC1.out i x hx
      have f0 := (HI.out.cell (block_lt_of_cell hca)).trans hca
      have f1 := (HI.out.cell (block_lt_of_cell hcb)).trans hcb
      obtain ⟨m, hmm⟩ : ∃ m, m = pl.length := ⟨_, rfl⟩
      obtain ⟨qa, ca, ha1⟩ := slice_of t1 hmm
      obtain ⟨qb, cb, hb1⟩ := slice_of t2 hmm
      subst ha1
      subst hb1
      have cs := same5_any _ _ pl pl wr.drew t1.drew t2.drew hpl hpl
      rw [decide_eq_true (rfl : pl = pl)] at cs
      have CS := Lib.hid cs
      have HLT := Lib.hid hlt
      clear hp hx hpl t1 t2 hca hcb hmm cs hlt
      go_upto_region 4 with fail
      go_still_tail 14, (by kernel_rfl)
      change wpList _ _ _ _ _ wr.drew
      go_wp2_with (go_at_call 25; with_reducible refine (CS.out).mono ?_; rintro r w2 ⟨rfl, hb⟩; have HB2 := Lib.hid (below_drew hb); clear hb)
      go_roundw
      case rel => exact ⟨i + 1, by have := HLT.out; omega, rfl, Lib.hid (below_from HI.out HB2.out HI.out.size)⟩
      case measure => show nf - ((i : Int) + 1).toNat < nf - (i : Int).toNat; have := HLT.out; omega
    · have hlti : ¬ ((i : Int) < (nf : Int)) := by omega
      have hf := H.out
      have HOWN : Hid (Held wr.drew 22 1 (.slice p2 nl cp2) nl (ls.map (·.1))) := Lib.hid (by
        have := (KB.out.below (Below.refl wr.heap.size wr).drew).st.row 2 (by omega)
        rw [show (bookR fr wl ls gr (gr.map (·.2)) 2).length = nl by rw [HNL.out]; exact List.length_map _, HV2.out] at this
        exact this)
      have HSRC : Hid (Held wr.drew 22 1 (.slice p0 nf cp0) nf (fr.map (·.1))) := Lib.hid (by
        have := (KB.out.below (Below.refl wr.heap.size wr).drew).st.row 0 (by omega)
        rw [show (bookR fr wl ls gr (gr.map (·.2)) 0).length = nf by rw [HNF.out]; exact List.length_map _, HV0.out] at this
        exact this)
      have HONE : Hid (∀ u ∈ fr.map (·.1), u.oneCell' = true) := Lib.hid (items_one H.out.fi)
      have d2 : wr.cell? ⟨b, 2, none⟩ = some (.slice p2 nl cp2) := (HI.out.cell (block_lt_of_cell e2.out)).trans e2.out
      have d0' : wr.drew.cell? ⟨b, 0, none⟩ = some (.slice p0 nf cp0) := d0
      have d2' : wr.drew.cell? ⟨b, 2, none⟩ = some (.slice p2 nl cp2) := d2
      have hl1 : (nl + nf) * 24 ≤ 140737488355328 := by omega
      have hl2 : nl + nf ≤ 140737488355328 := by omega
      have KD := Lib.hid (KB.out.below (Below.refl wr.heap.size wr).drew)
      clear hf hlt hi
      go_upto_region 8 with fail
      go_cut [5] from 46 to 57 (fun f wx => f = .int .i64 nl ∧ ∃ p5 cp5 w5, wx = w5.setCell ⟨b, 2, none⟩ (.slice p5 (nl + nf) cp5) ∧ Hid (Held w5 22 1 (.slice p5 (nl + nf) cp5) (nl + nf) (ls.map (·.1) ++ fr.map (·.1)) ∧ wr.drew.grownBy w5 (V 2).ownBlock ∧ ((Value.slice p5 (nl + nf) cp5).ownBlock = (V 2).ownBlock ∨ (Value.slice p5 (nl + nf) cp5).ownBlock = some wr.drew.heap.size)))
      case first =>
        go_region_law (first | (refine step_cat (v := .slice p2 nl cp2) (u := .slice p0 nf cp0) rfl (.tmp 50) (.tmp 54) rfl Tryd.underlying45 (.slice none 0 0) 1 info_list rfl (by decide) (ls.map (·.1)) (fr.map (·.1)) (by simp [Act.eval]) (by simp [Act.eval]) HOWN.out HSRC.out HONE.out hl1 hl2 ?_; intro v5 w5 hown5 hg5 hat5; obtain ⟨p5, cp5, rfl, _⟩ := hown5.cells; have hg6 : wr.drew.grownBy w5 (V 2).ownBlock := (by rw [HV2.out]; exact hg5); obtain ⟨hc5, hf5⟩ := KD.out.st.box_grew (k := 2) (by omega) hg6 (j := 2) (by omega); obtain ⟨hc6, hf6⟩ := KD.out.st.box_grew (k := 2) (by omega) hg6 (j := 0) (by omega); obtain ⟨hc7, hf7⟩ := KD.out.st.box_grew (k := 2) (by omega) hg6 (j := 1) (by omega); have HOWN5 := Lib.hid hown5; have HG6 := Lib.hid hg6; have HAT5 := Lib.hid hat5; clear hown5 hg5 hat5 hg6) | fail)
        all_goals
          go_wp2_with fail
          go_meet
          exact ⟨rfl, _, _, _, rfl, Lib.hid ⟨HOWN5.out, HG6.out, by rw [HV2.out]; exact HAT5.out⟩⟩
      case rest =>
        obtain ⟨rfl, p5, cp5, w5, rfl, h5⟩ := hcut
        have H5 := Lib.hid h5.out
        clear h5 d0 d1 d2 d0' d2' KD HOWN HSRC HONE hl1 hl2
        have hmv := moved (wh := gr.map (·.2)) HI.out KB.out HB.out (v5 := .slice p5 (nl + nf) cp5) (by rw [← HNL.out, ← HNF.out]; exact H5.out.1) H5.out.2.1 H5.out.2.2
        obtain ⟨hst, x1, x2, x3, x4⟩ := hmv
        have HST := Lib.hid hst
        clear hst
        go_upto_region 11 with fail
        clear x1 x2 x3 x4 H5
        generalize (((w5.setCell ⟨b, 2, none⟩ (.slice p5 (nl + nf) cp5)).setCell ⟨b, 0, none⟩ (.slice none 0 0)).setCell ⟨b, 1, none⟩ (.slice none 0 0)) = w6 at HST ⊢
        clear KB HI w5 hlti
        clear HC0 HC1 HC2 HV0 HV1 HV2 e0 e1 e2 hle0 hle1 hle2
        have HLB : Hid (∀ p ∈ ls ++ fr, p.2.length ≤ 1048576) := Lib.hid (fun p hp => by
          rcases List.mem_append.mp hp with h | h
          · exact HLEN2.out p h
          · exact HLEN.out p h)
        have HMK0 : Hid (Mkd (ls ++ fr) nl) := Lib.hid (fun j p hj hp => by
          rw [List.getElem?_append_left (by rw [← HNL.out]; exact hj)] at hp
          exact HM.out j p (by rw [← HNL.out]; exact hj) hp)
        have HGB : Hid (∀ q ∈ gr, q.2 < nl) := Lib.hid (fun q hq => by rw [HNL.out]; exact H.out.gb q hq)
        have HLL : Hid ((ls ++ fr).length = nl + nf) := Lib.hid (by rw [List.length_append, ← HNL.out, ← HNF.out])
        obtain ⟨w7, rfl⟩ : ∃ w7, w7 = wr := ⟨_, rfl⟩
        obtain ⟨i7, rfl⟩ : ∃ i7, i7 = i := ⟨_, rfl⟩
        go_upto_block 2 with fail
        go_cut [6, 7] from 65 to 96 (fun _ _ wx => Hid (∃ l : List (Value × List ByteArray), l.length = nl + nf ∧ Mkd l (nl + nf) ∧ (∀ p ∈ l, p.2.length ≤ 1048576) ∧ StI w wx B b col l gr (gr.map (·.2))))
        case first =>
          go_wp2_with fail
          go_loopw [6, 7] (fun q _ wr => ∃ i : Nat, nl ≤ i ∧ i ≤ nl + nf ∧ q = .int .i64 i ∧ Hid (∃ l : List (Value × List ByteArray), l.length = nl + nf ∧ Mkd l i ∧ (∀ p ∈ l, p.2.length ≤ 1048576) ∧ StI w wr B b col l gr (gr.map (·.2)))) (fun q _ _ => nl + nf - (intOf q).toNat)
          case atStart => exact ⟨nl, by omega, by omega, rfl, Lib.hid ⟨ls ++ fr, HLL.out, HMK0.out, HLB.out, HST.out⟩⟩
          case round =>
            clear HST HLB HMK0 HLL
            obtain ⟨i, hi1, hi2, rfl, hinv⟩ := hrel
            obtain ⟨l, hv⟩ := hinv.out
            have HV := Lib.hid hv
            clear hv
            clear hinv
            obtain ⟨p2, c2, k1, k2, k3⟩ := HV.out.2.2.2.lists
            rw [HV.out.1] at k1 k2
            have K3 := Lib.hid k3
            clear k3
            by_cases hlt : i < nl + nf
            · have hlti : (i : Int) < ((nl + nf : Nat) : Int) := by omega
              have hi0 : (0 : Int) ≤ (i : Int) := by omega
              obtain ⟨⟨pv, pl⟩, hp⟩ : ∃ p, l[i]? = some p := ⟨l[i]'(by have := HV.out.1; omega), List.getElem?_eq_getElem _⟩
              have hpl : pl.length ≤ 1048576 := HV.out.2.2.1 (pv, pl) (List.mem_of_getElem? hp)
              obtain ⟨m, hm⟩ : ∃ m, m = pl.length := ⟨_, rfl⟩
              rw [← hm] at hpl
              have HP := Lib.hid hp
              have HMM := Lib.hid hm
              have HLT := Lib.hid hlt
              have CM := Lib.hid (fun w' => mark_any i w' (by omega))
              obtain ⟨mk, hmk⟩ : ∃ x, x = markS i := ⟨_, rfl⟩
              rw [← hmk] at CM
              have HMK := Lib.hid hmk
              have HGI : Hid (∀ q ∈ gr, q.2 < i) := Lib.hid (fun q hq => Nat.lt_of_lt_of_le (HGB.out q hq) hi1)
              clear hp hm hlt hmk
              obtain ⟨w8, rfl⟩ : ∃ w8, w8 = wr := ⟨_, rfl⟩
              go_wp2_with fail
              go_loopw [7] (fun q wr => ∃ k : Nat, k ≤ m ∧ q = .int .i64 k ∧ Hid (StI w wr B b col (l.set i (pv, List.replicate k mk ++ pl.drop k)) gr (gr.map (·.2)))) (fun q _ => m - (intOf q).toNat)
              case atStart => exact ⟨0, by omega, rfl, Lib.hid (by rw [List.replicate_zero, List.nil_append, List.drop_zero, set_same HP.out]; exact HV.out.2.2.2)⟩
              case round =>
                clear k1 k2 K3
                obtain ⟨k, hk, rfl, hk2⟩ := hrel
                have hk4 := hk2.out
                obtain ⟨l2, hl2⟩ : ∃ x, x = l.set i (pv, List.replicate k mk ++ pl.drop k) := ⟨_, rfl⟩
                rw [← hl2] at hk4
                have hk3 : l2 = l.set i (pv, List.replicate k mk ++ pl.drop k) ∧ StI w wr B b col l2 gr (gr.map (·.2)) := ⟨hl2, hk4⟩
                have HK2 := Lib.hid hk3
                clear hk2 hk3 hk4 hl2
                have hl2i : l2[i]? = some (pv, List.replicate k mk ++ pl.drop k) := by rw [HK2.out.1, List.getElem?_set_self (by have := HV.out.1; have := HLT.out; omega)]
                have hl2l : l2.length = nl + nf := by rw [HK2.out.1, List.length_set]; exact HV.out.1
                obtain ⟨p3, c3, k1, k2, k3⟩ := HK2.out.2.lists
                rw [hl2l] at k1 k2
                obtain ⟨⟨a3, rfl, ka⟩, kh, _⟩ := k3 i _ hl2i
                have kl : (List.replicate k mk ++ pl.drop k).length = m := by rw [rep_len (by have := HMM.out; omega)]; exact HMM.out.symm
                have ka : wr.cell? (a3.add i) = some pv := ka
                have kh : Held wr 9 1 pv m ((List.replicate k mk ++ pl.drop k).map Value.string) := by rw [← kl]; exact kh
                have HKH := Lib.hid kh
                have HL2I := Lib.hid hl2i
                clear hl2i hl2l k3 kl
                have hlti2 := HLT.out
                by_cases hkm : k < m
                · have hkmi : (k : Int) < (m : Int) := by omega
                  have hk0 : (0 : Int) ≤ (k : Int) := by omega
                  obtain ⟨g, cap, cur, rfl, hgb, hcap, hcur, _⟩ := HKH.out.block (by omega)
                  have hown : (Value.slice (some ⟨g, 0, none⟩) m cap).ownBlock = some g := rfl
                  have HSET := Lib.hid (fun w' (h : StI w w' B b col l2 gr (gr.map (·.2))) => h.mark HL2I.out hown HGI.out k mk)
                  have HEQ : Hid (l2.set i (.slice (some ⟨g, 0, none⟩) m cap, (List.replicate k mk ++ pl.drop k).set k mk) = l.set i (.slice (some ⟨g, 0, none⟩) m cap, List.replicate (k + 1) mk ++ pl.drop (k + 1))) := Lib.hid (by
                    rw [HK2.out.1, List.set_set, rep_set (by have := HMM.out; omega)])
                  have HGB2 := Lib.hid hgb
                  have HCUR := Lib.hid (show k < cur.size by omega)
                  clear kh hown hgb hcur
                  go_upto_region 17 with fail
                  have hcd1 : wr.drew.cell? ⟨b, 2, none⟩ = some (.slice (some a3) (nl + nf) c3) := k1
                  have hcd2 : wr.drew.cell? (a3.add i) = some (.slice (some ⟨g, 0, none⟩) m cap) := ka
                  have HE : Hid (∀ w5, Below wr.drew.heap.size wr.drew w5 → w5.cell? ⟨b, 2, none⟩ = some (.slice (some a3) (nl + nf) c3) ∧ w5.cell? (a3.add i) = some (.slice (some ⟨g, 0, none⟩) m cap) ∧ (∃ u, w5.cell? ⟨g, k, none⟩ = some u) ∧ w5.frozen? ⟨g, k, none⟩ = false) := Lib.hid (fun w5 hb => by
                    have hgb5 := (hb.block g (blk_lt (w := wr.drew) HGB2.out)).trans HGB2.out
                    refine ⟨(hb.cell (block_lt_of_cell (w := wr.drew) k1)).trans k1, (hb.cell (block_lt_of_cell (w := wr.drew) ka)).trans ka, ⟨cur[k]'HCUR.out, ?_⟩, frozen_of_row w5 g k _ _ hgb5⟩
                    rw [cell_of_row w5 g k _ _ _ hgb5]
                    exact Array.getElem?_eq_getElem _)
                  go_region_law (first
                    | (go_simp; go_at_call 78; with_reducible refine (CM.out wr.drew).mono ?_; rintro r w5 ⟨rfl, hb⟩; obtain ⟨hx1, hx2, ⟨uu, hx3⟩, hx4⟩ := HE.out w5 hb; have HB5 := Lib.hid (below_drew hb); clear hb)
                    | fail)
                  all_goals
                    go_wp2_with fail
                    go_roundw
                    case rel => exact ⟨k + 1, by omega, rfl, Lib.hid (by rw [← HEQ.out]; exact HSET.out _ (HK2.out.2.below HB5.out))⟩
                    case measure => show m - ((k : Int) + 1).toNat < m - (k : Int).toNat; omega
                · have hkmi : ¬ ((k : Int) < (m : Int)) := by omega
                  have hkm2 : k = m := by omega
                  have HEQ : Hid (l2 = l.set i (pv, List.replicate m (markS i))) := Lib.hid (by
                    rw [HK2.out.1, hkm2, List.drop_eq_nil_of_le (by have := HMM.out; omega), List.append_nil, ← HMK.out])
                  obtain ⟨qv, cv, rfl, _⟩ := HKH.out.cells
                  clear kh hkm hkm2
                  have hfin : StI w wr B b col l2 gr (gr.map (·.2)) := HK2.out.2
                  have HFIN := Lib.hid hfin
                  clear hfin
                  go_wp2_with fail
                  exact ⟨⟨i + 1, by omega, by omega, rfl, Lib.hid ⟨l2, by rw [HEQ.out, List.length_set]; exact HV.out.1, by rw [HEQ.out]; exact mkd_set HV.out.2.1 (by have := HV.out.1; omega), fun p hp => (by
                    rw [HEQ.out] at hp
                    rcases List.mem_or_eq_of_mem_set hp with h | h
                    · exact HV.out.2.2.1 p h
                    · rw [h]; show (List.replicate m (markS i)).length ≤ _; rw [List.length_replicate]; exact hpl), HFIN.out⟩⟩, (by show nl + nf - ((i : Int) + 1).toNat < nl + nf - (i : Int).toNat; omega)⟩
            · have hlti : ¬ ((i : Int) < ((nl + nf : Nat) : Int)) := by omega
              have hie : i = nl + nf := by omega
              have HMN : Hid (Mkd l (nl + nf)) := Lib.hid (by rw [← hie]; exact HV.out.2.1)
              clear hlt hie K3
              go_wp2_with fail
              go_meet
              exact Lib.hid ⟨l, HV.out.1, HMN.out, HV.out.2.2⟩
        case rest =>
          obtain ⟨l, hl⟩ := hcut.out
          have HV := Lib.hid hl
          clear hl hcut HST HLB HMK0 HLL
          obtain ⟨N, hN⟩ : ∃ N, N = nl + nf := ⟨_, rfl⟩
          have HN := Lib.hid hN
          have hNb : N ≤ 10000 := by omega
          rw [← hN] at HV
          have HMA : Hid (Mkd l l.length) := Lib.hid (by rw [HV.out.1]; exact HV.out.2.1)
          have HBW : Hid (∀ w', StI w w' B b col l gr (gr.map (·.2)) → B ≤ w'.heap.size) := Lib.hid (fun w' h => by obtain ⟨c, V, h1, h2, _⟩ := h; exact Nat.le_trans HB.out h2.size)
          clear hN
          go_upto_block 6 with fail
          go_cut [8, 9, 10] from 98 to 142 (fun _ _ _ wx => Hid (∃ gr2 : List (Value × Nat), gr2.length = ng + 20 * nf ∧ GL gr2 ∧ StI w wx B b col l gr2 (gr2.map (·.2))))
          case first =>
            go_wp2_with fail
            go_loopw [8, 9, 10] (fun q _ _ wr => ∃ i : Nat, nl ≤ i ∧ i ≤ N ∧ q = .int .i64 i ∧ Hid (∃ gr2 : List (Value × Nat), gr2.length = ng + 20 * (i - nl) ∧ GL gr2 ∧ StI w wr B b col l gr2 (gr2.map (·.2)))) (fun q _ _ _ => N - (intOf q).toNat)
            case atStart => exact ⟨nl, by omega, by have := HN.out; omega, rfl, Lib.hid ⟨gr, by rw [Nat.sub_self]; exact HNG.out.symm, HLG.out, HV.out.2.2.2⟩⟩
            case round =>
              obtain ⟨i, hi1, hi2, rfl, hinv⟩ := hrel
              obtain ⟨gr2, hg1, hg2, hg3⟩ := hinv.out
              have HG1 := Lib.hid hg1
              have HG2 := Lib.hid hg2
              have HG3 := Lib.hid hg3
              clear hinv hg1 hg2 hg3
              obtain ⟨p2, c2, k1, k2, k3⟩ := HG3.out.lists
              rw [HV.out.1] at k1 k2
              by_cases hlt : i < N
              · have hlti : (i : Int) < (N : Int) := by omega
                have hi0 : (0 : Int) ≤ (i : Int) := by omega
                obtain ⟨⟨pv, pl⟩, hp⟩ : ∃ p, l[i]? = some p := ⟨l[i]'(by have := HV.out.1; omega), List.getElem?_eq_getElem _⟩
                have hpl : pl.length ≤ 1048576 := HV.out.2.2.1 (pv, pl) (List.mem_of_getElem? hp)
                obtain ⟨⟨a3, rfl, ka⟩, _, _⟩ := k3 i _ hp
                have ka : wr.cell? (a3.add i) = some pv := ka
                have hBr : B ≤ wr.heap.size := by obtain ⟨c, V, h1, h2, _⟩ := HG3.out; exact Nat.le_trans HB.out h2.size
                obtain ⟨colA, VA, hbx⟩ := BX.begin HG3.out hp HMA.out hBr
                have hbx : BX w wr B b col colA VA l gr2 (gr2.map (·.2)) pv pl.length i := hbx
                obtain ⟨m, hm⟩ : ∃ m, m = pl.length := ⟨_, rfl⟩
                rw [← hm] at hbx hpl
                obtain ⟨q0, c0, rfl, _⟩ := hbx.he.cells
                have HBX := Lib.hid hbx
                have CM := Lib.hid (fun w' => mark_any i w' (by omega))
                obtain ⟨mk, hmk⟩ : ∃ x, x = markS i := ⟨_, rfl⟩
                rw [← hmk] at CM
                have HMK : Hid ([Value.string mk] = mkV i) := Lib.hid (by rw [hmk]; rfl)
                have HIL : Hid (i < l.length) := Lib.hid (by rw [HV.out.1]; exact hlt)
                have HONE : Hid (∀ u ∈ [Value.string mk], u.oneCell' = true) := Lib.hid (by intro u hu; simp only [List.mem_singleton] at hu; rw [hu]; rfl)
                have hgb : gr2.length ≤ 600000 := by rw [HG1.out]; omega
                have HGBD := Lib.hid hgb
                clear hp hm hmk k3 hbx hBr hgb
                obtain ⟨w8, rfl⟩ : ∃ w8, w8 = wr := ⟨_, rfl⟩
                go_wp2_with fail
                go_loopw [9, 10] (fun x q wr => ∃ (k : Nat) (qx : Option Addr) (cx : Nat), k ≤ 20 ∧ q = .int .i64 k ∧ x = .slice qx (m + k) cx ∧ Hid (∃ colA VA gr3, gr3.length = ng + 20 * (i - nl) + k ∧ GL gr3 ∧ BX w wr B b col colA VA l gr3 (gr3.map (·.2)) (.slice qx (m + k) cx) (m + k) i)) (fun _ q _ => 20 - (intOf q).toNat)
                case atStart => exact ⟨0, q0, c0, by omega, rfl, rfl, Lib.hid ⟨colA, VA, gr2, HG1.out, HG2.out, HBX.out⟩⟩
                case round =>
                  clear HBX k1 k2 ka
                  obtain ⟨k, qx, cx, hk, rfl, rfl, hinv⟩ := hrel
                  obtain ⟨colB, VB, gr3, hg1, hg2, hg3⟩ := hinv.out
                  obtain ⟨n3, hn3⟩ : ∃ x, x = gr3.length := ⟨_, rfl⟩
                  obtain ⟨mkk, hmkk⟩ : ∃ x, x = m + k := ⟨_, rfl⟩
                  rw [← hmkk] at hg3 ⊢
                  have HN3 := Lib.hid hn3
                  have hn3b : n3 ≤ 600000 := by rw [hn3, hg1]; have := HN.out; omega
                  have HG1 := Lib.hid hg1
                  have HG2 := Lib.hid hg2
                  have HG3 := Lib.hid hg3
                  have HMKK := Lib.hid hmkk
                  have hb1 : (mkk + 1) * 16 ≤ 140737488355328 := by omega
                  have hb2 : mkk + 1 ≤ 140737488355328 := by omega
                  have hb3 : (n3 + 1) * 24 ≤ 140737488355328 := by omega
                  have hb4 : (n3 + 1) * 8 ≤ 140737488355328 := by omega
                  have hb5 : n3 + 1 ≤ 140737488355328 := by omega
                  clear hinv hg1 hg2 hg3 hn3 hmkk
                  by_cases hk20 : k < 20
                  · have hki : (k : Int) < 20 := by omega
                    go_wp2_with (first
                      | (go_at_call 78; with_reducible refine (CM.out wr).mono ?_; rintro r w2 ⟨rfl, hb⟩; have HX2 := Lib.hid (HG3.out.below hb); clear hb)
                      | (at_builtin; refine wpList_grew (v := .slice qx mkk cx) rfl _ _ rfl Tryd.underlying22 (.string ⟨#[]⟩) 1 info_str rfl (by decide) [Value.string mk] 1 (by simp [Act.eval]) (by simp [Act.eval]) HX2.out.he rfl rfl (by decide) HONE.out hb1 hb2 ?_; intro x3 w3 hg3; obtain ⟨p3, c3, rfl, _⟩ := hg3.held.cells; have HX3 := Lib.hid (HX2.out.grow HMA.out HIL.out HMK.out hg3); obtain ⟨r1, r2, r3, r4⟩ := HX3.out.row; have HR2 := Lib.hid r2; clear r2 r3 r4 hg3)
                      | (at_builtin; refine wpList_grew (v := VB 3) rfl _ _ rfl Tryd.underlying45 (.slice none 0 0) 1 info_list rfl (by decide) [Value.slice p3 (mkk + 1) c3] 1 (by simp [Act.eval]) (by simp [Act.eval]) HR2.out rfl rfl (by decide) (one_slice _ _ _) (by rw [← HN3.out]; exact hb3) (by rw [← HN3.out]; exact hb5) ?_; intro v5 w5 hg5; obtain ⟨hc5, hf5⟩ := HX3.out.box (k := 3) (by omega) (grown_alloc hg5.grown); obtain ⟨p5, c5, rfl, _⟩ := hg5.held.cells; have HX6 := Lib.hid (HX3.out.addG HIL.out rfl hg5); obtain ⟨r5, r6, r7, r8⟩ := HX6.out.row; rw [List.length_map] at r8; have HR8 := Lib.hid r8; clear r5 r6 r8 hg5)
                      | (at_builtin; refine wpList_grew (v := put1 VB 3 (Value.slice p5 (gr3.length + 1) c5) 4) rfl _ _ rfl Tryd.underlying46 (.int .i64 0) 1 info_int rfl (by decide) [Value.int .i64 (i : Int)] 1 (by simp [Act.eval]) (by simp [Act.eval]) HR8.out rfl rfl (by decide) (int_one' i) (by rw [← HN3.out]; exact hb4) (by rw [← HN3.out]; exact hb5) ?_; intro v7 w7 hg7; obtain ⟨hc7, hf7⟩ := HX6.out.box (k := 4) (by omega) (grown_alloc hg7.grown); obtain ⟨p7, c7, rfl, _⟩ := hg7.held.cells; have HX8 := Lib.hid (HX6.out.addH (List.length_map _).symm hg7); clear hg7))
                    exact ⟨⟨k + 1, p3, c3, by omega, rfl, by rw [HMKK.out]; rfl, Lib.hid ⟨_, _, gr3 ++ [(.slice p3 (mkk + 1) c3, i)], by rw [List.length_append, HG1.out]; rfl, fun p hp => (by
                      rcases List.mem_append.mp hp with h | h
                      · exact HG2.out p h
                      · obtain rfl : p = (.slice p3 (mkk + 1) c3, i) := by simpa using h
                        exact ⟨p3, mkk + 1, c3, rfl, by have := HMKK.out; omega⟩), by rw [List.map_append, ← Nat.add_assoc, ← HMKK.out]; exact HX8.out⟩⟩, (by show 20 - ((k : Int) + 1).toNat < 20 - (k : Int).toNat; omega)⟩
                  · have hki : ¬ ((k : Int) < 20) := by omega
                    have hke : k = 20 := by omega
                    have HST2 := Lib.hid HG3.out.st
                    clear hk20
                    go_wp2_with fail
                    exact ⟨⟨i + 1, by omega, by omega, rfl, Lib.hid ⟨gr3, by rw [HG1.out, hke]; omega, HG2.out, HST2.out⟩⟩, (by show N - ((i : Int) + 1).toNat < N - (i : Int).toNat; omega)⟩
              · have hlti : ¬ ((i : Int) < (N : Int)) := by omega
                have hie : i = N := by omega
                clear hlt k3
                go_wp2_with fail
                go_meet
                exact Lib.hid ⟨gr2, by rw [HG1.out, hie]; have := HN.out; omega, HG2.out, HG3.out⟩
          case rest =>
            obtain ⟨gr2, hg1, hg2, hg3⟩ := hcut.out
            have HG1 := Lib.hid hg1
            have HG2 := Lib.hid hg2
            have HG3 := Lib.hid hg3
            obtain ⟨w9, rfl⟩ : ∃ w9, w9 = wc := ⟨_, rfl⟩
            clear hcut hg1 hg2 hg3
            go_wp2_with fail
            go_loopw [11, 12] (fun q _ wr => ∃ i : Nat, i ≤ N ∧ q = .int .i64 i ∧ Hid (StI w wr B b col l gr2 (gr2.map (·.2)))) (fun q _ _ => N - (intOf q).toNat)
            case atStart => exact ⟨0, by omega, rfl, Lib.hid HG3.out⟩
            case round =>
              obtain ⟨i, hi, rfl, hinv⟩ := hrel
              have HS := Lib.hid hinv.out
              clear hinv
              obtain ⟨p2, c2, k1, k2, k3⟩ := HS.out.lists
              rw [HV.out.1] at k1 k2
              by_cases hlt : i < N
              · have hlti : (i : Int) < (N : Int) := by omega
                have hi0 : (0 : Int) ≤ (i : Int) := by omega
                obtain ⟨⟨pv, pl⟩, hp⟩ : ∃ p, l[i]? = some p := ⟨l[i]'(by have := HV.out.1; omega), List.getElem?_eq_getElem _⟩
                have hpl : pl.length ≤ 1048576 := HV.out.2.2.1 (pv, pl) (List.mem_of_getElem? hp)
                have hpm : pl = List.replicate pl.length (markS i) := HV.out.2.1 i (pv, pl) hlt hp
                obtain ⟨⟨a3, rfl, ka⟩, kh, _⟩ := k3 i _ hp
                have ka : wr.cell? (a3.add i) = some pv := ka
                have kt : Txts wr pv pl := held_txts kh (by omega)
                obtain ⟨m, hm⟩ : ∃ m, m = pl.length := ⟨_, rfl⟩
                obtain ⟨q0, c0, hx⟩ := slice_of kt hm
                subst hx
                rw [← hm] at hpm hpl
                rw [hpm] at kt
                obtain ⟨mk, hmk⟩ : ∃ x, x = markS i := ⟨_, rfl⟩
                have CM := Lib.hid (fun w' => mark_any i w' (by omega))
                rw [← hmk] at kt CM
                have CR : Hid (∀ w', Below wr.drew.heap.size wr.drew w' → _) := Lib.hid (fun w' hb => reads_any (.slice q0 m c0) mk m w' ((kt.drew).below hb (Nat.le_refl _)) (by omega))
                have HE : Hid (∀ w5, Below wr.drew.heap.size wr.drew w5 → w5.cell? ⟨b, 2, none⟩ = some (.slice (some a3) N c2) ∧ w5.cell? (a3.add i) = some (.slice q0 m c0)) := Lib.hid (fun w5 hb => ⟨(hb.cell (block_lt_of_cell (w := wr.drew) k1)).trans k1, (hb.cell (block_lt_of_cell (w := wr.drew) ka)).trans ka⟩)
                have hcd1 : wr.drew.cell? ⟨b, 2, none⟩ = some (.slice (some a3) N c2) := k1
                have hcd2 : wr.drew.cell? (a3.add i) = some (.slice q0 m c0) := ka
                have HLT := Lib.hid hlt
                clear hp hm hmk k3 kt kh hpl hpm hlt
                go_upto_region 31 with fail
                go_cut [12] from 152 to 161 (fun f wx => f = .bool true ∧ Hid (Below wr.heap.size wr wx))
                case first =>
                  go_region_law (first
                    | (go_simp; go_at_call 78; with_reducible refine (CM.out wr.drew).mono ?_; rintro r w5 ⟨rfl, hb⟩; obtain ⟨hx1, hx2⟩ := HE.out w5 hb; have HB5 := Lib.hid hb; clear hb)
                    | (go_simp; go_at_call 79; with_reducible refine (CR.out w5 HB5.out).mono ?_; rintro r w6 ⟨rfl, rfl⟩)
                    | fail)
                  all_goals
                    go_wp2_with fail
                    go_meet
                    exact ⟨rfl, Lib.hid (below_drew HB5.out)⟩
                case rest =>
                  obtain ⟨rfl, h5⟩ := hcut
                  have H5 := Lib.hid (HS.out.below h5.out)
                  clear h5 hcd1 hcd2 k1 k2 ka HE
                  go_wp2_with fail
                  exact ⟨⟨i + 1, by have := HLT.out; omega, rfl, Lib.hid H5.out⟩, (by show N - ((i : Int) + 1).toNat < N - (i : Int).toNat; have := HLT.out; omega)⟩
              · have hlti : ¬ ((i : Int) < (N : Int)) := by omega
                obtain ⟨w8, rfl⟩ : ∃ w8, w8 = wr := ⟨_, rfl⟩
                obtain ⟨M, hM⟩ : ∃ M, M = gr2.length := ⟨_, rfl⟩
                have HMM := Lib.hid hM
                have hMb : M ≤ 600000 := by rw [hM, HG1.out]; have := HN.out; omega
                clear hlt k3 hM
                go_wp2_with fail
                go_loopw [13, 14] (fun q _ wr => ∃ j : Nat, j ≤ M ∧ q = .int .i64 j ∧ Hid (StI w wr B b col l gr2 (gr2.map (·.2)))) (fun q _ _ => M - (intOf q).toNat)
                case atStart => exact ⟨0, by omega, rfl, Lib.hid HS.out⟩
                case round =>
                  clear k1 k2
                  obtain ⟨j, hj, rfl, hinv⟩ := hrel
                  have HS2 := Lib.hid hinv.out
                  clear hinv
                  obtain ⟨p3, c3, p4, c4, k1, k2, m1, m2, k3⟩ := HS2.out.grown HG2.out
                  rw [← HMM.out] at k1 k2 m1 m2
                  by_cases hlt : j < M
                  · have hlti2 : (j : Int) < (M : Int) := by omega
                    have hj0 : (0 : Int) ≤ (j : Int) := by omega
                    obtain ⟨⟨pv, c⟩, hp⟩ : ∃ p, gr2[j]? = some p := ⟨gr2[j]'(by have := HMM.out; omega), List.getElem?_eq_getElem _⟩
                    obtain ⟨⟨a3, rfl, ka⟩, ⟨a4, rfl, kb⟩, hcl, qv, n, cv, hqv, hnv, kt⟩ := k3 j _ hp
                    have ka : wr.cell? (a3.add j) = some pv := ka
                    have kb : wr.cell? (a4.add j) = some (.int .i64 (c : Int)) := kb
                    have hqv : pv = .slice qv n cv := hqv
                    have hcb : c < l.length := hcl
                    have hcb2 : c ≤ 1048576 := by have := HV.out.1; omega
                    subst hqv
                    have kt : Txts wr (.slice qv n cv) (List.replicate n (markS c)) := kt
                    obtain ⟨mk, hmk⟩ : ∃ x, x = markS c := ⟨_, rfl⟩
                    have CM := Lib.hid (fun w' => mark_any c w' hcb2)
                    rw [← hmk] at kt CM
                    have CR : Hid (∀ w', Below wr.drew.heap.size wr.drew w' → _) := Lib.hid (fun w' hb => reads_any (.slice qv n cv) mk n w' ((kt.drew).below hb (Nat.le_refl _)) (by omega))
                    have HE : Hid (∀ w5, Below wr.drew.heap.size wr.drew w5 → w5.cell? ⟨b, 3, none⟩ = some (.slice (some a3) M c3) ∧ w5.cell? (a3.add j) = some (.slice qv n cv)) := Lib.hid (fun w5 hb => ⟨(hb.cell (block_lt_of_cell (w := wr.drew) k1)).trans k1, (hb.cell (block_lt_of_cell (w := wr.drew) ka)).trans ka⟩)
                    have hcd1 : wr.drew.cell? ⟨b, 3, none⟩ = some (.slice (some a3) M c3) := k1
                    have hcd2 : wr.drew.cell? (a3.add j) = some (.slice qv n cv) := ka
                    have hcd3 : wr.drew.cell? ⟨b, 4, none⟩ = some (.slice (some a4) M c4) := m1
                    have hcd4 : wr.drew.cell? (a4.add j) = some (.int .i64 (c : Int)) := kb
                    have HLT := Lib.hid hlt
                    clear hp hmk k3 kt hlt hcl hcb hnv
                    go_upto_region 37 with fail
                    go_cut [14] from 173 to 188 (fun f wx => f = .bool true ∧ Hid (Below wr.heap.size wr wx))
                    case first =>
                      go_region_law (first
                        | (go_simp; go_at_call 78; with_reducible refine (CM.out wr.drew).mono ?_; rintro r w5 ⟨rfl, hb⟩; obtain ⟨hx1, hx2⟩ := HE.out w5 hb; have HB5 := Lib.hid hb; clear hb)
                        | (go_simp; go_at_call 79; with_reducible refine (CR.out w5 HB5.out).mono ?_; rintro r w6 ⟨rfl, rfl⟩)
                        | fail)
                      all_goals
                        go_wp2_with fail
                        go_meet
                        exact ⟨rfl, Lib.hid (below_drew HB5.out)⟩
                    case rest =>
                      obtain ⟨rfl, h5⟩ := hcut
                      have H5 := Lib.hid (HS2.out.below h5.out)
                      clear h5 hcd1 hcd2 hcd3 hcd4 k1 k2 m1 m2 ka kb HE
                      go_wp2_with fail
                      exact ⟨⟨j + 1, by have := HLT.out; omega, rfl, Lib.hid H5.out⟩, (by show M - ((j : Int) + 1).toNat < M - (j : Int).toNat; have := HLT.out; omega)⟩
                  · have hlti2 : ¬ ((j : Int) < (M : Int)) := by omega
                    clear hlt k3
                    go_wp2_with fail
                    go_ret
                    obtain ⟨c', V', hb1, hb2, hb3⟩ := HS2.out
                    exact ⟨rfl, c', V', l, gr2, hb1, by rw [HV.out.1]; exact HN.out, HG1.out, by rw [← HN.out]; exact HV.out.2.1, HV.out.2.2.1, HG2.out, hb2, hb3⟩
end Go.Proofs.YtdbghgpohdijfaaDoor.Bk5
