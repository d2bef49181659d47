/- Lists of digits that came out: each in blocks of its colour. -/
import Derived.Test.YtmkeifhfjhknjaaDoorWinB
import Derived.Test.YtmkeifhfjhknjaaDoorRcd1
namespace Go.Proofs.YtmkeifhfjhknjaaDoor
open Go.RowKit Go.Scr
set_option linter.unusedVariables false

/-- a block of texts -/
def SRowW (w : World) (g : Nat) (L : List ByteArray) : Prop := w.heap[g]? = some (.cells ((L.map Value.string).toArray) 9 (0, 0))
theorem SRowW.cell {w : World} {g : Nat} {L : List ByteArray} (h : SRowW w g L) {j : Nat} {s : ByteArray} (hs : L[j]? = some s) : w.cell? ⟨g, j, none⟩ = some (.string s) := by
  rw [cell_of_row w g j _ _ _ h]
  simp [hs]
theorem SRowW.lt {w : World} {g : Nat} {L : List ByteArray} (h : SRowW w g L) : g < w.heap.size := blk_lt h
theorem SRowW.below {w w' : World} {g B : Nat} {L : List ByteArray} (h : SRowW w g L) (hb : Below B w w') (hg : g < B) : SRowW w' g L := blk_below h hb hg
/-- the mark of the i-th list -/
def mkI (i : Nat) : List Value := [Value.int .i64 (-1 - (i : Int))]
theorem info_ints : (Tryd.prog.info? 25).map (fun i => (i.zero, i.size, i.bytes)) = some (some (.slice none 0 0), 1, 24) := by kernel_rfl
theorem info_intw : (Tryd.prog.info? 3).map (fun i => (i.zero, i.size, i.bytes)) = some (some (.int .i64 0), 1, 8) := by kernel_rfl
/-- what stands: a list of lists (lv, of colour 1), one of what they grew to (av, of colour 2), the lists themselves -/
structure WS (ga : Nat) (A : List ByteArray) (w0 w : World) (col : Nat → Nat) (lv av : Value) (ls : List (Value × List Int)) (gr : List (Value × Nat)) : Prop where
  lr : Held w 25 1 lv ls.length (ls.map (·.1))
  lc : ∀ g, lv.ownBlock = some g → col g = 1
  ar : Held w 25 1 av gr.length (gr.map (·.1))
  ac : ∀ g, av.ownBlock = some g → col g = 2
  li : Items (Value.int .i64) w col 3 8 ls
  gi : Cols w col 3 8 mkI gr
  lo : ∀ g, col g ≠ 0 → w0.heap.size ≤ g ∧ g < w.heap.size
  bl : Below w0.heap.size w0 w
  ask : SRowW w ga A
  az : col ga = 0
theorem WS.begin {ga : Nat} {A : List ByteArray} (w : World) (h : SRowW w ga A) : WS ga A w w (fun _ => 0) (.slice none 0 0) (.slice none 0 0) [] [] :=
  ⟨⟨rfl, .inl ⟨rfl, rfl⟩⟩, (fun g hg => by cases hg), ⟨rfl, .inl ⟨rfl, rfl⟩⟩, (fun g hg => by cases hg), Items.nil _ _ _ _ _, (fun p hp => by simp at hp), (fun g hg => absurd rfl hg), Below.refl _ _, h, rfl⟩
theorem WS.below {ga : Nat} {A : List ByteArray} {w0 w w' : World} {col : Nat → Nat} {lv av : Value} {ls : List (Value × List Int)} {gr : List (Value × Nat)} (h : WS ga A w0 w col lv av ls gr) (hb : Below w.heap.size w w') : WS ga A w0 w' col lv av ls gr :=
  ⟨h.lr.below hb, h.lc, h.ar.below hb, h.ac, h.li.move (fun g hg _ => hb.block g hg) (fun _ _ => rfl), h.gi.below hb, fun g hg => by have := h.lo g hg; have := hb.size; omega, below_from h.bl hb h.bl.size, h.ask.below hb h.ask.lt, h.az⟩
/-- one block has turned, of colour κ, and col' knows a new one -/
theorem WS.turn {ga : Nat} {A : List ByteArray} {w0 w w1 : World} {col : Nat → Nat} {lv av : Value} {ls : List (Value × List Int)} {gr : List (Value × Nat)} {r : Option Nat} {v' : Value} {κ : Nat} (h : WS ga A w0 w col lv av ls gr) (hg : w.grownBy w1 r) (hr : ∀ g, r = some g → col g = κ) (hk : κ ≠ 0) (hat : v'.ownBlock = r ∨ ∃ H, v'.ownBlock = some H ∧ w.heap.size ≤ H) (hlt : ∀ g, v'.ownBlock = some g → g < w1.heap.size) :
    (∀ g, g < w.heap.size → dyeV col v' κ g = col g) ∧ (∀ g, g < w.heap.size → col g ≠ κ → w1.heap[g]? = w.heap[g]?) ∧ (∀ g, dyeV col v' κ g ≠ 0 → w0.heap.size ≤ g ∧ g < w1.heap.size) ∧ Below w0.heap.size w0 w1 := by
  have hs := hg.size
  have hold : ∀ g, g < w.heap.size → dyeV col v' κ g = col g := fun g hgw => dyeV_old fun he => by
    rcases hat with h1 | ⟨H, h1, h2⟩
    · exact hr g (by rw [← h1]; exact he)
    · rw [he] at h1; cases h1; omega
  refine ⟨hold, fun g hgw hne => hg.block g hgw fun e => hne (hr g e.symm), fun g hne => ?_, h.bl.grown hg h.bl.size fun k e => (h.lo k (by rw [hr k e]; exact hk)).1⟩
  rcases dyeV_ne hne with he | he
  · refine ⟨?_, hlt g he⟩
    rcases hat with h1 | ⟨H, h1, h2⟩
    · exact (h.lo g (by rw [hr g (by rw [← h1]; exact he)]; exact hk)).1
    · rw [he] at h1; cases h1; have := h.bl.size; omega
  · have := h.lo g he; omega
theorem WS.dye {ga : Nat} {A : List ByteArray} {w0 w w' : World} {col : Nat → Nat} {lv av : Value} {ls : List (Value × List Int)} {gr : List (Value × Nat)} (h : WS ga A w0 w col lv av ls gr) (hb : Below w.heap.size w w') (v : Value) (k : Nat) (hv : ∀ g, v.ownBlock = some g → w.heap.size ≤ g ∧ g < w'.heap.size) :
    WS ga A w0 w' (dyeV col v k) lv av ls gr ∧ ∀ g, g < w.heap.size → dyeV col v k g = col g := by
  have hold : ∀ g, g < w.heap.size → dyeV col v k g = col g := fun g hg => dyeV_old fun he => by have := (hv g he).1; omega
  have h2 := h.below hb
  refine ⟨⟨h2.lr, fun g hg => (hold g (h.lr.lt hg)).trans (h.lc g hg), h2.ar, fun g hg => (hold g (h.ar.lt hg)).trans (h.ac g hg), h.li.move (fun g hg _ => hb.block g hg) hold, h.gi.move (fun g hg _ => hb.block g hg) hold, fun g hg => ?_, h2.bl, h2.ask, (hold ga h.ask.lt).trans h.az⟩, hold⟩
  rcases dyeV_ne hg with he | he
  · have := hv g he; have := h.bl.size; omega
  · have := h.lo g he; have := hb.size; omega
theorem WS.addL {ga : Nat} {A : List ByteArray} {w0 w w1 : World} {col : Nat → Nat} {lv lv' av v : Value} {ls : List (Value × List Int)} {gr : List (Value × Nat)} {n : Nat} {L : List Int} (h : WS ga A w0 w col lv av ls gr) (hn : n = ls.length) (hv : Held w 3 1 v L.length (L.map (Value.int .i64))) (hl : L.length ≤ 4194304) (hc : ∀ g, v.ownBlock = some g → col g = 8 + n)
    (hg : Grew 25 1 w lv n 1 (ls.map (·.1)) [v] lv' w1) : WS ga A w0 w1 (dyeV col lv' 1) lv' av (ls ++ [(v, L)]) gr := by
  subst hn
  obtain ⟨a1, a2, a3, a4⟩ := h.turn hg.grown h.lc (by omega) (hg.at.imp (·.1) fun e => ⟨_, e.1, Nat.le_refl _⟩) (fun g e => hg.held.lt e)
  refine ⟨?_, fun g e => dyeV_at e, h.ar.keep fun g e => a2 g (h.ar.lt e) (by have := h.ac g e; omega), fun g e => (a1 g (h.ar.lt e)).trans (h.ac g e), (h.li.move (fun g hg h1 => a2 g hg (by omega)) a1).snoc (hv.keep fun g e => a2 g (hv.lt e) (by have := hc g e; omega)) hl fun g e => (a1 g (hv.lt e)).trans (hc g e), h.gi.move (fun g hg h1 => a2 g hg (by omega)) a1, a3, a4, (a2 ga h.ask.lt (by rw [h.az]; omega)).trans h.ask, (a1 ga h.ask.lt).trans h.az⟩
  have e : (ls ++ [(v, L)]).map (·.1) = ls.map (·.1) ++ [v] := by simp
  rw [e, List.length_append]
  exact hg.held
theorem WS.addA {ga : Nat} {A : List ByteArray} {w0 w w1 : World} {col : Nat → Nat} {lv av av' x : Value} {ls : List (Value × List Int)} {gr : List (Value × Nat)} {n m c : Nat} (h : WS ga A w0 w col lv av ls gr) (hn : n = gr.length) (hx : Held w 3 1 x m (marks (mkI c) m)) (hc : ∀ g, x.ownBlock = some g → col g = 8 + c)
    (hg : Grew 25 1 w av n 1 (gr.map (·.1)) [x] av' w1) : WS ga A w0 w1 (dyeV col av' 2) lv av' ls (gr ++ [(x, c)]) ∧ Held w1 3 1 x m (marks (mkI c) m) ∧ ∀ g, x.ownBlock = some g → dyeV col av' 2 g = 8 + c := by
  subst hn
  obtain ⟨a1, a2, a3, a4⟩ := h.turn hg.grown h.ac (by omega) (hg.at.imp (·.1) fun e => ⟨_, e.1, Nat.le_refl _⟩) (fun g e => hg.held.lt e)
  have hx' : Held w1 3 1 x m (marks (mkI c) m) := hx.keep fun g e => a2 g (hx.lt e) (by have := hc g e; omega)
  have hc' : ∀ g, x.ownBlock = some g → dyeV col av' 2 g = 8 + c := fun g e => (a1 g (hx.lt e)).trans (hc g e)
  refine ⟨⟨h.lr.keep fun g e => a2 g (h.lr.lt e) (by have := h.lc g e; omega), fun g e => (a1 g (h.lr.lt e)).trans (h.lc g e), ?_, fun g e => dyeV_at e, h.li.move (fun g hg h1 => a2 g hg (by omega)) a1, fun q hq => ?_, a3, a4, (a2 ga h.ask.lt (by rw [h.az]; omega)).trans h.ask, (a1 ga h.ask.lt).trans h.az⟩, hx', hc'⟩
  · have e : (gr ++ [(x, c)]).map (·.1) = gr.map (·.1) ++ [x] := by simp
    rw [e, List.length_append]
    exact hg.held
  · rcases List.mem_append.mp hq with hq | hq
    · exact (h.gi.move (fun g hg h1 => a2 g hg (by omega)) a1) q hq
    · obtain rfl : q = (x, c) := by simpa using hq
      exact ⟨held_full (M := mkI c) hx', hc'⟩
theorem WS.mark {ga : Nat} {A : List ByteArray} {w0 w : World} {col : Nat → Nat} {lv av : Value} {ls : List (Value × List Int)} {i g : Nat} {p : Value × List Int} (h : WS ga A w0 w col lv av ls []) (hp : ls[i]? = some p) (hg : p.1.ownBlock = some g) (k : Nat) (z : Int) :
    WS ga A w0 (w.setCell ⟨g, k, none⟩ (.int .i64 z)) col lv av (ls.set i (p.1, p.2.set k z)) [] := by
  have hcg := (h.li i p hp).2.2 g hg
  obtain ⟨h1, h2⟩ := h.li.mark hp hg k z
  have hsz : (w.setCell ⟨g, k, none⟩ (.int .i64 z)).heap.size = w.heap.size := by simp [World.setCell]
  refine ⟨?_, h.lc, h.ar.keep fun g' e => h2.block g' (h.ar.lt e) (by have := h.ac g' e; omega), h.ac, h1, (fun q hq => by simp at hq), (fun g' hne => by rw [hsz]; exact h.lo g' hne), ?_, (h2.block ga h.ask.lt (by rw [h.az]; omega)).trans h.ask, h.az⟩
  · rw [List.length_set, map_set_fst ls i p (p.1, p.2.set k z) hp rfl]
    exact h.lr.keep fun g' e => h2.block g' (h.lr.lt e) (by have := h.lc g' e; omega)
  · exact h.bl.trans (h2.below (B := w0.heap.size) (by omega) (fun g' hne => (h.lo g' hne).1) h.bl.size)
/-- all lists below the i-th are full of their marks, all have 67 -/
def DS (ls : List (Value × List Int)) (i : Nat) : Prop := ∀ (j : Nat) (p : Value × List Int), ls[j]? = some p → p.2.length = 67 ∧ (j < i → p.2 = List.replicate 67 (-1 - (j : Int)))
/-- a list of marks is grown -/
theorem WS.grow {ga : Nat} {A : List ByteArray} {w0 w w1 : World} {col : Nat → Nat} {lv av v v' : Value} {ls : List (Value × List Int)} {gr : List (Value × Nat)} {c n : Nat} (h : WS ga A w0 w col lv av ls gr) (hm : DS ls ls.length) (hc : ∀ g, v.ownBlock = some g → col g = 8 + c)
    (hg : Grew 3 1 w v n 1 (marks (mkI c) n) (mkI c) v' w1) : WS ga A w0 w1 (dyeV col v' (8 + c)) lv av ls gr ∧ Held w1 3 1 v' (n + 1) (marks (mkI c) (n + 1)) ∧ ∀ g, v'.ownBlock = some g → dyeV col v' (8 + c) g = 8 + c := by
  obtain ⟨a1, a2, a3, a4⟩ := h.turn hg.grown hc (by omega) (hg.at.imp (·.1) fun e => ⟨_, e.1, Nat.le_refl _⟩) (fun g e => hg.held.lt e)
  refine ⟨⟨h.lr.keep fun g e => a2 g (h.lr.lt e) (by have := h.lc g e; omega), fun g e => (a1 g (h.lr.lt e)).trans (h.lc g e), h.ar.keep fun g e => a2 g (h.ar.lt e) (by have := h.ac g e; omega), fun g e => (a1 g (h.ar.lt e)).trans (h.ac g e), fun i p hp => ?_, fun q hq => ?_, a3, a4, (a2 ga h.ask.lt (by rw [h.az]; omega)).trans h.ask, (a1 ga h.ask.lt).trans h.az⟩, ?_, fun g e => dyeV_at e⟩
  · obtain ⟨b1, b2, b3⟩ := h.li i p hp
    refine ⟨?_, b2, fun g e => (a1 g (b1.lt e)).trans (b3 g e)⟩
    by_cases hic : i = c
    · subst hic
      have hrep : p.2 = List.replicate p.2.length (-1 - (i : Int)) := by
        obtain ⟨k1, k2⟩ := hm i p hp
        rw [k1]
        exact k2 (List.getElem?_eq_some_iff.mp hp).1
      obtain ⟨c1, _⟩ := items_col h.li hp hrep
      have hf := Full.grew (M := mkI i) Nat.zero_lt_one hg (held_full (M := mkI i) c1)
      obtain ⟨n', hn'⟩ := full_held hf
      have hnn : n' = p.2.length := by
        obtain ⟨q1, d1, e1, _⟩ := b1.cells
        obtain ⟨q2, d2, e2, _⟩ := hn'.cells
        rw [e1] at e2
        simp only [Value.slice.injEq] at e2
        exact e2.2.1.symm
      subst hnn
      have e : p.2.map (Value.int .i64) = marks (mkI i) p.2.length := by
        unfold marks mkI
        generalize hnl : p.2.length = n at hrep
        rw [hrep, List.map_replicate]
        clear hrep hnl
        induction n with
        | zero => rfl
        | succ n ih => rw [List.replicate_succ, List.replicate_succ, List.flatten_cons, ← ih]; rfl
      rw [e]
      exact hn'
    · exact b1.keep fun g e => a2 g (b1.lt e) (by have := b3 g e; omega)
  · obtain ⟨a, k⟩ := h.gi q hq
    refine ⟨?_, fun g e => (a1 g (a.lt e)).trans (k g e)⟩
    by_cases hqc : q.2 = c
    · rw [hqc] at a ⊢
      exact Full.grew (M := mkI c) Nat.zero_lt_one hg a
    · exact a.keep fun g e => a2 g (a.lt e) (by have := k g e; omega)
  · have hh := hg.held
    have e : marks (mkI c) n ++ mkI c = marks (mkI c) (n + 1) := marks_snoc _ _
    rw [e] at hh
    exact hh
/-- what the walk reads of a list of lists -/
theorem WS.row {ga : Nat} {A : List ByteArray} {w0 w : World} {col : Nat → Nat} {lv av : Value} {ls : List (Value × List Int)} {gr : List (Value × Nat)} (h : WS ga A w0 w col lv av ls gr) : ∃ p c, lv = .slice p ls.length c ∧ ls.length ≤ c ∧ ∀ i q, ls[i]? = some q → (∃ a, p = some a ∧ w.cell? (a.add i) = some q.1) ∧ Held w 3 1 q.1 q.2.length (q.2.map (Value.int .i64)) := by
  obtain ⟨p, c, h1, h2, _, h3⟩ := h.lr.cells
  refine ⟨p, c, h1, h2, fun i q hq => ⟨?_, (h.li i q hq).1⟩⟩
  obtain ⟨a, ha, _, hc⟩ := h3 i q.1 (by rw [List.getElem?_map, hq]; rfl)
  exact ⟨a, ha, hc⟩
theorem WS.all {ga : Nat} {A : List ByteArray} {w0 w : World} {col : Nat → Nat} {lv av : Value} {ls : List (Value × List Int)} {gr : List (Value × Nat)} (h : WS ga A w0 w col lv av ls gr) : ∃ p c, av = .slice p gr.length c ∧ gr.length ≤ c ∧ ∀ i q, gr[i]? = some q → (∃ a, p = some a ∧ w.cell? (a.add i) = some q.1) ∧ Full w 3 1 (mkI q.2) q.1 := by
  obtain ⟨p, c, h1, h2, _, h3⟩ := h.ar.cells
  refine ⟨p, c, h1, h2, fun i q hq => ⟨?_, (h.gi q (List.mem_of_getElem? hq)).1⟩⟩
  obtain ⟨a, ha, _, hc⟩ := h3 i q.1 (by rw [List.getElem?_map, hq]; rfl)
  exact ⟨a, ha, hc⟩
end Go.Proofs.YtmkeifhfjhknjaaDoor
