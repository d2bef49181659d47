/- Lists of texts that came out, each in blocks of its colour: marked, grown (law 11's owned). -/
import Derived.Test.YtafookdllnhdaaaDoorMa2
import Derived.Test.YtafookdllnhdaaaDoorMa11
namespace Go.Proofs.YtafookdllnhdaaaDoor
open Go.RowKit Go.Scr
set_option linter.unusedVariables false
def markO (i : Nat) : ByteArray := ⟨#[109, 97, 114, 107]⟩ ++ str [UInt8.ofNat ((i : Int) % 256).toNat]
def mkO (i : Nat) : List Value := [Value.string (markO i)]
theorem info_listO : (Tryd.prog.info? 52).map (fun i => (i.zero, i.size, i.bytes)) = some (some (.slice none 0 0), 1, 24) := by kernel_rfl
theorem info_intO : (Tryd.prog.info? 3).map (fun i => (i.zero, i.size, i.bytes)) = some (some (.int .i64 0), 1, 8) := by kernel_rfl
/-- what stands: the list of lists (lv, 1), what they grew to (av, 2), whose (wv, 3), the lists themselves (8 and more) -/
structure OW (w0 w : World) (B : Nat) (col0 col : Nat → Nat) (lv av wv : Value) (ls : List (Value × List ByteArray)) (gr : List (Value × Nat)) (wh : List Nat) : Prop where
  lr : Held w 52 1 lv ls.length (ls.map (·.1))
  lc : ∀ g, lv.ownBlock = some g → col g = 1
  ar : Held w 52 1 av gr.length (gr.map (·.1))
  ac : ∀ g, av.ownBlock = some g → col g = 2
  hr : Held w 3 1 wv wh.length (wh.map fun c => Value.int .i64 ((c : Nat) : Int))
  hc : ∀ g, wv.ownBlock = some g → col g = 3
  li : Items Value.string w col 9 8 ls
  gi : Cols w col 9 8 mkO gr
  lo : ∀ g, col g ≠ 0 → B ≤ g ∧ g < w.heap.size
  on : Only col0 (fun c => 1 ≤ c) w0 w
  co : ∀ g, g < w0.heap.size → col g = col0 g
  hB : B ≤ w0.heap.size
theorem OW.below {w0 w w' : World} {B : Nat} {col0 col : Nat → Nat} {lv av wv : Value} {ls : List (Value × List ByteArray)} {gr : List (Value × Nat)} {wh : List Nat} (h : OW w0 w B col0 col lv av wv ls gr wh) (hb : Below w.heap.size w w') : OW w0 w' B col0 col lv av wv ls gr wh :=
  ⟨h.lr.below hb, h.lc, h.ar.below hb, h.ac, h.hr.below hb, h.hc, h.li.move (fun g hg _ => hb.block g hg) (fun _ _ => rfl), h.gi.below hb, fun g hg => by have := h.lo g hg; have := hb.size; omega, h.on.trans' (only_of_below' (Below.mono hb (Nat.le_refl _))), h.co, h.hB⟩
theorem OW.turn {w0 w w1 : World} {B : Nat} {col0 col : Nat → Nat} {lv av wv : Value} {ls : List (Value × List ByteArray)} {gr : List (Value × Nat)} {wh : List Nat} {r : Option Nat} {v' : Value} {κ : Nat} (h : OW w0 w B col0 col lv av wv ls gr wh) (hg : w.grownBy w1 r) (hr : ∀ g, r = some g → col g = κ) (hk : κ ≠ 0) (hat : v'.ownBlock = r ∨ ∃ H, v'.ownBlock = some H ∧ w.heap.size ≤ H) (hlt : ∀ g, v'.ownBlock = some g → g < w1.heap.size) :
    (∀ g, g < w.heap.size → dyeV col v' κ g = col g) ∧ (∀ g, g < w.heap.size → col g ≠ κ → w1.heap[g]? = w.heap[g]?) ∧ (∀ g, dyeV col v' κ g ≠ 0 → B ≤ g ∧ g < w1.heap.size) ∧ Only col0 (fun c => 1 ≤ c) w0 w1 ∧ ∀ g, g < w0.heap.size → dyeV col v' κ g = col0 g := by
  have hs := hg.size
  have hs0 := h.on.size
  have hold : ∀ g, g < w.heap.size → dyeV col v' κ g = col g := fun g hgw => dyeV_old fun he => by
    rcases hat with h1 | ⟨H, h1, h2⟩
    · exact hr g (by rw [← h1]; exact he)
    · rw [he] at h1; cases h1; omega
  refine ⟨hold, fun g hgw hne => hg.block g hgw fun e => hne (hr g e.symm), fun g hne => ?_, ?_, fun g hg0 => (hold g (by omega)).trans (h.co g hg0)⟩
  · rcases dyeV_ne hne with he | he
    · refine ⟨?_, hlt g he⟩
      rcases hat with h1 | ⟨H, h1, h2⟩
      · exact (h.lo g (by rw [hr g (by rw [← h1]; exact he)]; exact hk)).1
      · rw [he] at h1; cases h1; have := h.hB; omega
    · have := h.lo g he; omega
  · exact h.on.trans (only_of_grown (col := col) hg (fun g e => by rw [hr g e]; omega)) h.co
theorem OW.addA {w0 w w1 : World} {B : Nat} {col0 col : Nat → Nat} {lv av av' wv x : Value} {ls : List (Value × List ByteArray)} {gr : List (Value × Nat)} {wh : List Nat} {n m c : Nat} (h : OW w0 w B col0 col lv av wv ls gr wh) (hn : n = gr.length) (hx : Held w 9 1 x m (marks (mkO c) m)) (hcc : ∀ g, x.ownBlock = some g → col g = 8 + c)
    (hg : Grew 52 1 w av n 1 (gr.map (·.1)) [x] av' w1) : OW w0 w1 B col0 (dyeV col av' 2) lv av' wv ls (gr ++ [(x, c)]) wh ∧ Held w1 9 1 x m (marks (mkO c) m) ∧ ∀ g, x.ownBlock = some g → dyeV col av' 2 g = 8 + c := by
  subst hn
  obtain ⟨a1, a2, a3, a4, a5⟩ := h.turn hg.grown h.ac (by omega) (hg.at.imp (·.1) fun e => ⟨_, e.1, Nat.le_refl _⟩) (fun g e => hg.held.lt e)
  have hx' : Held w1 9 1 x m (marks (mkO c) m) := hx.keep fun g e => a2 g (hx.lt e) (by have := hcc g e; omega)
  have hc' : ∀ g, x.ownBlock = some g → dyeV col av' 2 g = 8 + c := fun g e => (a1 g (hx.lt e)).trans (hcc g e)
  refine ⟨⟨h.lr.keep fun g e => a2 g (h.lr.lt e) (by have := h.lc g e; omega), fun g e => (a1 g (h.lr.lt e)).trans (h.lc g e), ?_, fun g e => dyeV_at e, h.hr.keep fun g e => a2 g (h.hr.lt e) (by have := h.hc g e; omega), fun g e => (a1 g (h.hr.lt e)).trans (h.hc g e), h.li.move (fun g hg h1 => a2 g hg (by omega)) a1, fun q hq => ?_, a3, a4, a5, h.hB⟩, hx', hc'⟩
  · have e : (gr ++ [(x, c)]).map (·.1) = gr.map (·.1) ++ [x] := by simp
    rw [e, List.length_append]
    exact hg.held
  · rcases List.mem_append.mp hq with hq | hq
    · exact (h.gi.move (fun g hg h1 => a2 g hg (by omega)) a1) q hq
    · obtain rfl : q = (x, c) := by simpa using hq
      exact ⟨held_full (M := mkO c) hx', hc'⟩
theorem OW.addH {w0 w w1 : World} {B : Nat} {col0 col : Nat → Nat} {lv av wv wv' : Value} {ls : List (Value × List ByteArray)} {gr : List (Value × Nat)} {wh : List Nat} {n c : Nat} (h : OW w0 w B col0 col lv av wv ls gr wh) (hn : n = wh.length)
    (hg : Grew 3 1 w wv n 1 (wh.map fun c => Value.int .i64 ((c : Nat) : Int)) [.int .i64 (c : Int)] wv' w1) : OW w0 w1 B col0 (dyeV col wv' 3) lv av wv' ls gr (wh ++ [c]) ∧ (∀ g, g < w.heap.size → dyeV col wv' 3 g = col g) ∧ ∀ g, g < w.heap.size → col g ≠ 3 → w1.heap[g]? = w.heap[g]? := by
  subst hn
  obtain ⟨a1, a2, a3, a4, a5⟩ := h.turn hg.grown h.hc (by omega) (hg.at.imp (·.1) fun e => ⟨_, e.1, Nat.le_refl _⟩) (fun g e => hg.held.lt e)
  refine ⟨⟨h.lr.keep fun g e => a2 g (h.lr.lt e) (by have := h.lc g e; omega), fun g e => (a1 g (h.lr.lt e)).trans (h.lc g e), h.ar.keep fun g e => a2 g (h.ar.lt e) (by have := h.ac g e; omega), fun g e => (a1 g (h.ar.lt e)).trans (h.ac g e), ?_, fun g e => dyeV_at e, h.li.move (fun g hg h1 => a2 g hg (by omega)) a1, h.gi.move (fun g hg h1 => a2 g hg (by omega)) a1, a3, a4, a5, h.hB⟩, a1, a2⟩
  rw [List.map_append, List.length_append]
  exact hg.held
theorem OW.mark {w0 w : World} {B : Nat} {col0 col : Nat → Nat} {lv av wv : Value} {ls : List (Value × List ByteArray)} {wh : List Nat} {i g : Nat} {p : Value × List ByteArray} (h : OW w0 w B col0 col lv av wv ls [] wh) (hp : ls[i]? = some p) (hg : p.1.ownBlock = some g) (k : Nat) (s : ByteArray) :
    OW w0 (w.setCell ⟨g, k, none⟩ (.string s)) B col0 col lv av wv (ls.set i (p.1, p.2.set k s)) [] wh := by
  have hcg := (h.li i p hp).2.2 g hg
  obtain ⟨h1, h2⟩ := h.li.mark hp hg k s
  have hsz : (w.setCell ⟨g, k, none⟩ (.string s)).heap.size = w.heap.size := by simp [World.setCell]
  refine ⟨?_, h.lc, h.ar.keep fun g' e => h2.block g' (h.ar.lt e) (by have := h.ac g' e; omega), h.ac, h.hr.keep fun g' e => h2.block g' (h.hr.lt e) (by have := h.hc g' e; omega), h.hc, h1, (fun q hq => by simp at hq), (fun g' hne => by rw [hsz]; exact h.lo g' hne), ?_, h.co, h.hB⟩
  · rw [List.length_set, map_set_fst ls i p (p.1, p.2.set k s) hp rfl]
    exact h.lr.keep fun g' e => h2.block g' (h.lr.lt e) (by have := h.lc g' e; omega)
  · exact h.on.trans (h2.mono fun c hc => by omega) h.co
/-- all lists below the i-th are full of their marks -/
def MkO (ls : List (Value × List ByteArray)) (i : Nat) : Prop := ∀ (j : Nat) (p : Value × List ByteArray), j < i → ls[j]? = some p → p.2 = List.replicate p.2.length (markO j)
/-- a list of marks is grown -/
theorem OW.grow {w0 w w1 : World} {B : Nat} {col0 col : Nat → Nat} {lv av wv v v' : Value} {ls : List (Value × List ByteArray)} {gr : List (Value × Nat)} {wh : List Nat} {c n : Nat} (h : OW w0 w B col0 col lv av wv ls gr wh) (hm : MkO ls ls.length) (hcc : ∀ g, v.ownBlock = some g → col g = 8 + c)
    (hg : Grew 9 1 w v n 1 (marks (mkO c) n) (mkO c) v' w1) : OW w0 w1 B col0 (dyeV col v' (8 + c)) lv av wv ls gr wh ∧ Held w1 9 1 v' (n + 1) (marks (mkO c) (n + 1)) ∧ ∀ g, v'.ownBlock = some g → dyeV col v' (8 + c) g = 8 + c := by
  obtain ⟨a1, a2, a3, a4, a5⟩ := h.turn hg.grown hcc (by omega) (hg.at.imp (·.1) fun e => ⟨_, e.1, Nat.le_refl _⟩) (fun g e => hg.held.lt e)
  refine ⟨⟨h.lr.keep fun g e => a2 g (h.lr.lt e) (by have := h.lc g e; omega), fun g e => (a1 g (h.lr.lt e)).trans (h.lc g e), h.ar.keep fun g e => a2 g (h.ar.lt e) (by have := h.ac g e; omega), fun g e => (a1 g (h.ar.lt e)).trans (h.ac g e), h.hr.keep fun g e => a2 g (h.hr.lt e) (by have := h.hc g e; omega), fun g e => (a1 g (h.hr.lt e)).trans (h.hc g e), fun i p hp => ?_, fun q hq => ?_, a3, a4, a5, h.hB⟩, ?_, fun g e => dyeV_at e⟩
  · obtain ⟨b1, b2, b3⟩ := h.li i p hp
    refine ⟨?_, b2, fun g e => (a1 g (b1.lt e)).trans (b3 g e)⟩
    by_cases hic : i = c
    · subst hic
      have hrep : p.2 = List.replicate p.2.length (markO i) := hm i p (List.getElem?_eq_some_iff.mp hp).1 hp
      obtain ⟨c1, _⟩ := items_col h.li hp hrep
      have hf := Full.grew (M := mkO i) Nat.zero_lt_one hg (held_full (M := mkO i) c1)
      obtain ⟨n', hn'⟩ := full_held hf
      have hnn : n' = p.2.length := by
        obtain ⟨q1, d1, e1, _⟩ := b1.cells
        obtain ⟨q2, d2, e2, _⟩ := hn'.cells
        rw [e1] at e2
        simp only [Value.slice.injEq] at e2
        exact e2.2.1.symm
      subst hnn
      have e : p.2.map Value.string = marks (mkO i) p.2.length := by
        unfold marks mkO
        generalize hnl : p.2.length = n at hrep
        rw [hrep, List.map_replicate]
        clear hrep hnl
        induction n with
        | zero => rfl
        | succ n ih => rw [List.replicate_succ, List.replicate_succ, List.flatten_cons, ← ih]; rfl
      rw [e]
      exact hn'
    · exact b1.keep fun g e => a2 g (b1.lt e) (by have := b3 g e; omega)
  · obtain ⟨a, k⟩ := h.gi q hq
    refine ⟨?_, fun g e => (a1 g (a.lt e)).trans (k g e)⟩
    by_cases hqc : q.2 = c
    · rw [hqc] at a ⊢
      exact Full.grew (M := mkO c) Nat.zero_lt_one hg a
    · exact a.keep fun g e => a2 g (a.lt e) (by have := k g e; omega)
  · have hh := hg.held
    have e : marks (mkO c) n ++ mkO c = marks (mkO c) (n + 1) := marks_snoc _ _
    rw [e] at hh
    exact hh
/-- what the walk reads -/
theorem OW.row {w0 w : World} {B : Nat} {col0 col : Nat → Nat} {lv av wv : Value} {ls : List (Value × List ByteArray)} {gr : List (Value × Nat)} {wh : List Nat} (h : OW w0 w B col0 col lv av wv ls gr wh) : ∃ p c, lv = .slice p ls.length c ∧ ls.length ≤ c ∧ ∀ i q, ls[i]? = some q → ∃ a, p = some a ∧ w.cell? (a.add i) = some q.1 := by
  obtain ⟨p, c, h1, h2, _, h3⟩ := h.lr.cells
  refine ⟨p, c, h1, h2, fun i q hq => ?_⟩
  obtain ⟨a, ha, _, hc⟩ := h3 i q.1 (by rw [List.getElem?_map, hq]; rfl)
  exact ⟨a, ha, hc⟩
theorem OW.all {w0 w : World} {B : Nat} {col0 col : Nat → Nat} {lv av wv : Value} {ls : List (Value × List ByteArray)} {gr : List (Value × Nat)} {wh : List Nat} (h : OW w0 w B col0 col lv av wv ls gr wh) : ∃ p c p2 c2, av = .slice p gr.length c ∧ gr.length ≤ c ∧ wv = .slice p2 wh.length c2 ∧ wh.length ≤ c2 ∧ (∀ i q, gr[i]? = some q → (∃ a, p = some a ∧ w.cell? (a.add i) = some q.1) ∧ Full w 9 1 (mkO q.2) q.1) ∧ ∀ i (q : Nat), wh[i]? = some q → ∃ a, p2 = some a ∧ w.cell? (a.add i) = some (.int .i64 (q : Int)) := by
  obtain ⟨p, c, h1, h2, _, h3⟩ := h.ar.cells
  obtain ⟨p2, c2, k1, k2, _, k3⟩ := h.hr.cells
  refine ⟨p, c, p2, c2, h1, h2, k1, k2, fun i q hq => ⟨?_, (h.gi q (List.mem_of_getElem? hq)).1⟩, fun i q hq => ?_⟩
  · obtain ⟨a, ha, _, hc⟩ := h3 i q.1 (by rw [List.getElem?_map, hq]; rfl)
    exact ⟨a, ha, hc⟩
  · obtain ⟨a, ha, _, hc⟩ := k3 i (.int .i64 (q : Int)) (by rw [List.getElem?_map, hq]; rfl)
    exact ⟨a, ha, hc⟩
/-- a full list reads its mark at each place -/
theorem full_get {w : World} {T i : Nat} {v : Value} (h : Full w T 1 (mkO i) v) : ∃ p n c, v = .slice p n c ∧ n ≤ c ∧ n ≤ maxLen ∧ ∀ j, j < n → ∃ a, p = some a ∧ w.cell? (a.add j) = some (.string (markO i)) := by
  obtain ⟨n, hn⟩ := full_held (M := mkO i) h
  obtain ⟨p, c, h1, h2, hml, h3⟩ := hn.cells
  refine ⟨p, n, c, h1, h2, Nat.le_trans h2 hml, fun j hj => ?_⟩
  obtain ⟨a, ha, _, hc⟩ := h3 j (.string (markO i)) (by rw [marks_get _ _ _ (by simpa [mkO] using hj)]; simp [mkO, Nat.mod_one])
  exact ⟨a, ha, hc⟩
end Go.Proofs.YtafookdllnhdaaaDoor
