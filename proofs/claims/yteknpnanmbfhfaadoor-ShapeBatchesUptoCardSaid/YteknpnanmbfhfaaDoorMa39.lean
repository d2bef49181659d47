/- The law 8's book: what stands in it (spans: colours from 16 on; nodes: from 1016 on; what they must be: 8). -/
import Derived.Test.YteknpnanmbfhfaaDoorMa24
import Derived.Test.YteknpnanmbfhfaaDoorMa2
import Derived.Test.YteknpnanmbfhfaaDoorMa16
import Derived.Test.YteknpnanmbfhfaaDoorMa31
import Derived.Test.YteknpnanmbfhfaaDoorMa27
namespace Go.Proofs.YteknpnanmbfhfaaDoor.Bk8
open Go.RowKit Go.Scr
set_option linter.unusedVariables false
/-- the mark of the c-th list -/
def mk2 (c : Nat) : List Value := [.int .i64 (-5 - 40 * (c : Int)), .int .i64 0]
theorem mk2_length (c : Nat) : (mk2 c).length = 2 := rfl
def Lst (w : World) (col : Nat → Nat) (T K i0 : Nat) (l : List (Value × List (Nat × Nat))) : Prop :=
  ∀ i p, i0 ≤ i → l[i]? = some p → Held w T 2 p.1 p.2.length (prsV p.2) ∧ p.2.length ≤ 1099511627776 ∧ ∀ g, p.1.ownBlock = some g → col g = K + i
def Wnt (w : World) (col : Nat → Nat) (T : Nat) (l : List (Value × List (Nat × Nat))) (wl : List Value) : Prop :=
  ∀ (i : Nat) (v : Value) (p : Value × List (Nat × Nat)), wl[i]? = some v → l[i]? = some p → Held w T 2 v p.2.length (prsV p.2) ∧ ∀ g, v.ownBlock = some g → col g = 8
structure Half (w : World) (col : Nat → Nat) (T K i0 : Nat) (l : List (Value × List (Nat × Nat))) (wl : List Value) (gr : List (Value × Nat)) : Prop where
  li : Lst w col T K i0 l
  wi : Wnt w col T l wl
  gi : Cols w col T K mk2 gr
  gq : ∀ q p, gr[q]? = some p → p.2 = q / 40
  gl : gr.length ≤ 40 * l.length
  ll : l.length ≤ 900
theorem Half.lt {w : World} {col : Nat → Nat} {T K i0 : Nat} {l : List (Value × List (Nat × Nat))} {wl : List Value} {gr : List (Value × Nat)} (h : Half w col T K i0 l wl gr) : ∀ p ∈ gr, p.2 < l.length := by
  intro p hp
  obtain ⟨q, hq⟩ := List.getElem?_of_mem hp
  have h1 := (List.getElem?_eq_some_iff.mp hq).1
  have h2 := h.gq q p hq
  have h3 := h.gl
  omega
theorem Lst.move {w w' : World} {col col' : Nat → Nat} {T K i0 : Nat} {l : List (Value × List (Nat × Nat))} (h : Lst w col T K i0 l) (hk : ∀ g, g < w.heap.size → K + i0 ≤ col g → col g < K + l.length → w'.heap[g]? = w.heap[g]?) (hc : ∀ g, g < w.heap.size → col' g = col g) : Lst w' col' T K i0 l := by
  intro i p hi hp
  obtain ⟨a, b, c⟩ := h i p hi hp
  have hl := (List.getElem?_eq_some_iff.mp hp).1
  exact ⟨a.keep fun g hg => hk g (a.lt hg) (by have := c g hg; omega) (by have := c g hg; omega), b, fun g hg => (hc g (a.lt hg)).trans (c g hg)⟩
theorem Wnt.move {w w' : World} {col col' : Nat → Nat} {T : Nat} {l : List (Value × List (Nat × Nat))} {wl : List Value} (h : Wnt w col T l wl) (hk : ∀ g, g < w.heap.size → col g = 8 → w'.heap[g]? = w.heap[g]?) (hc : ∀ g, g < w.heap.size → col' g = col g) : Wnt w' col' T l wl := by
  intro i v p hi hp
  obtain ⟨a, c⟩ := h i v p hi hp
  exact ⟨a.keep fun g hg => hk g (a.lt hg) (c g hg), fun g hg => (hc g (a.lt hg)).trans (c g hg)⟩
theorem cols_move {w w' : World} {col col' : Nat → Nat} {T K n : Nat} {gr : List (Value × Nat)} (h : Cols w col T K mk2 gr) (hn : ∀ p ∈ gr, p.2 < n) (hk : ∀ g, g < w.heap.size → K ≤ col g → col g < K + n → w'.heap[g]? = w.heap[g]?) (hc : ∀ g, g < w.heap.size → col' g = col g) : Cols w' col' T K mk2 gr := by
  intro p hp
  obtain ⟨a, c⟩ := h p hp
  have := hn p hp
  exact ⟨a.keep fun g hg => hk g (a.lt hg) (by have := c g hg; omega) (by have := c g hg; omega), fun g hg => (hc g (a.lt hg)).trans (c g hg)⟩
theorem Half.move {w w' : World} {col col' : Nat → Nat} {T K i0 : Nat} {l : List (Value × List (Nat × Nat))} {wl : List Value} {gr : List (Value × Nat)} (h : Half w col T K i0 l wl gr)
    (hk : ∀ g, g < w.heap.size → (col g = 8 ∨ (K ≤ col g ∧ col g < K + 900)) → w'.heap[g]? = w.heap[g]?) (hc : ∀ g, g < w.heap.size → col' g = col g) : Half w' col' T K i0 l wl gr :=
  ⟨h.li.move (fun g hg h1 h2 => hk g hg (.inr ⟨by omega, by have := h.ll; omega⟩)) hc, h.wi.move (fun g hg h1 => hk g hg (.inl h1)) hc, cols_move h.gi h.lt (fun g hg h1 h2 => hk g hg (.inr ⟨h1, by have := h.ll; omega⟩)) hc, h.gq, h.gl, h.ll⟩
def bkTy (k : Nat) : TypeId := if k < 3 then 31 else 32
def bkR (hs : List (Value × List (Nat × Nat))) (ws : List Value) (gs : List (Value × Nat)) (hn : List (Value × List (Nat × Nat))) (wn : List Value) (gn : List (Value × Nat)) : Nat → List Value
  | 0 => hs.map (·.1)
  | 1 => ws
  | 2 => gs.map (·.1)
  | 3 => hn.map (·.1)
  | 4 => wn
  | _ => gn.map (·.1)
structure BookI (W0 w : World) (b : Nat) (col : Nat → Nat) (V : Nat → Value) (is : Nat) (hs : List (Value × List (Nat × Nat))) (ws : List Value) (gs : List (Value × Nat)) (js : Nat) (hn : List (Value × List (Nat × Nat))) (wn : List Value) (gn : List (Value × Nat)) : Prop where
  st : Rec w W0.heap.size b col 27 6 bkTy V (bkR hs ws gs hn wn gn)
  s : Half w col 29 16 is hs ws gs
  n : Half w col 72 1016 js hn wn gn
  bel : Below W0.heap.size W0 w
theorem BookI.move {W0 w w' : World} {b : Nat} {col col' : Nat → Nat} {V : Nat → Value} {is js : Nat} {hs hn : List (Value × List (Nat × Nat))} {ws wn : List Value} {gs gn : List (Value × Nat)} (h : BookI W0 w b col V is hs ws gs js hn wn gn)
    (hk : ∀ g, g < w.heap.size → 1 ≤ col g → w'.heap[g]? = w.heap[g]?) (hc : ∀ g, g < w.heap.size → col' g = col g) (hl : ∀ g, col' g ≠ 0 → W0.heap.size ≤ g ∧ g < w'.heap.size) (hb : Below W0.heap.size W0 w') : BookI W0 w' b col' V is hs ws gs js hn wn gn :=
  ⟨h.st.move (fun g hg h1 _ => hk g hg h1) hc hl, h.s.move (fun g hg h1 => hk g hg (by omega)) hc, h.n.move (fun g hg h1 => hk g hg (by omega)) hc, hb⟩
theorem BookI.below {W0 w w' : World} {b : Nat} {col : Nat → Nat} {V : Nat → Value} {is js : Nat} {hs hn : List (Value × List (Nat × Nat))} {ws wn : List Value} {gs gn : List (Value × Nat)} (h : BookI W0 w b col V is hs ws gs js hn wn gn) (hb : Below w.heap.size w w') : BookI W0 w' b col V is hs ws gs js hn wn gn :=
  h.move (fun g hg _ => hb.block g hg) (fun _ _ => rfl) (fun g hg => by have := h.st.lo g hg; have := hb.size; omega) (below_onS h.bel hb h.bel.size)
theorem BookI.dye {W0 w w' : World} {b : Nat} {col : Nat → Nat} {V : Nat → Value} {is js : Nat} {hs hn : List (Value × List (Nat × Nat))} {ws wn : List Value} {gs gn : List (Value × Nat)} (h : BookI W0 w b col V is hs ws gs js hn wn gn) (hb : Below w.heap.size w w') {v : Value} (c : Nat) (hv : ∀ g, v.ownBlock = some g → w.heap.size ≤ g ∧ g < w'.heap.size) :
    BookI W0 w' b (dyeV col v c) V is hs ws gs js hn wn gn ∧ ∀ g, g < w.heap.size → dyeV col v c g = col g := by
  have hold : ∀ g, g < w.heap.size → dyeV col v c g = col g := fun g hg => dyeV_old fun he => by have := (hv g he).1; omega
  refine ⟨h.move (fun g hg _ => hb.block g hg) hold (fun g hg => ?_) (below_onS h.bel hb h.bel.size), hold⟩
  have hB := h.bel.size
  rcases dyeV_ne hg with he | he
  · have := hv g he; omega
  · have := h.st.lo g he; have := hb.size; omega
theorem info_listS : (Tryd.prog.info? 31).map (fun i => (i.zero, i.size, i.bytes)) = some (some (.slice none 0 0), 1, 24) := by kernel_rfl
theorem info_listN : (Tryd.prog.info? 32).map (fun i => (i.zero, i.size, i.bytes)) = some (some (.slice none 0 0), 1, 24) := by kernel_rfl
theorem marks_set {c k m : Nat} {xs : List Value} (hk : k < m) (hx : xs.length = m * 2) : ((marks (mk2 c) k ++ xs.drop (k * 2)).set (k * 2) (.int .i64 (-5 - 40 * (c : Int)))).set (k * 2 + 1) (.int .i64 0) = marks (mk2 c) (k + 1) ++ xs.drop ((k + 1) * 2) := by
  have hl : (marks (mk2 c) k).length = k * 2 := by rw [marks_length]; rfl
  rw [← marks_snoc]
  rw [List.set_append_right _ _ (by omega), hl, Nat.sub_self, List.set_append_right _ _ (by omega), hl, show k * 2 + 1 - k * 2 = 1 by omega, List.append_assoc]
  congr 1
  have h1 : k * 2 < xs.length := by omega
  have h2 : k * 2 + 1 < xs.length := by omega
  rw [List.drop_eq_getElem_cons h1, List.drop_eq_getElem_cons h2, show (k + 1) * 2 = k * 2 + 1 + 1 by omega]
  rfl
theorem marks_start {c m : Nat} {xs : List Value} : marks (mk2 c) 0 ++ xs.drop (0 * 2) = xs := by simp [marks]
theorem marks_end {c m : Nat} {xs : List Value} (hx : xs.length = m * 2) : marks (mk2 c) m ++ xs.drop (m * 2) = marks (mk2 c) m := by
  rw [List.drop_eq_nil_of_le (by omega), List.append_nil]
theorem full_of {w : World} {T n i : Nat} {v : Value} (h : Held w T 2 v n (marks (mk2 i) n)) : Full w T 2 (mk2 i) v := held_full (M := mk2 i) h
theorem BookI.markS {W0 w : World} {b : Nat} {col : Nat → Nat} {V : Nat → Value} {i j : Nat} {l ol : List (Value × List (Nat × Nat))} {wl owl : List Value} {gr ogr : List (Value × Nat)} (h : BookI W0 w b col V (i + 1) l wl gr j ol owl ogr) (hgr : ∀ p ∈ gr, p.2 ≠ i) (hi : i < l.length) {v : Value} {n : Nat} {xs : List Value} (hv : Held w 29 2 v n xs) {g : Nat} (hg : v.ownBlock = some g) (hc : col g = 16 + i) (k : Nat) (x y : Value) :
    BookI W0 ((w.setCell ⟨g, k * 2, none⟩ x).setCell ⟨g, k * 2 + 1, none⟩ y) b col V (i + 1) l wl gr j ol owl ogr ∧ Held ((w.setCell ⟨g, k * 2, none⟩ x).setCell ⟨g, k * 2 + 1, none⟩ y) 29 2 v n ((xs.set (k * 2) x).set (k * 2 + 1) y) ∧ ∀ g', g' < w.heap.size → col g' ≠ 16 + i → ((w.setCell ⟨g, k * 2, none⟩ x).setCell ⟨g, k * 2 + 1, none⟩ y).heap[g']? = w.heap[g']? := by
  have hll := h.s.ll
  have hsz : ((w.setCell ⟨g, k * 2, none⟩ x).setCell ⟨g, k * 2 + 1, none⟩ y).heap.size = w.heap.size := by simp [World.setCell]
  have hk : ∀ g', g' < w.heap.size → col g' ≠ 16 + i → ((w.setCell ⟨g, k * 2, none⟩ x).setCell ⟨g, k * 2 + 1, none⟩ y).heap[g']? = w.heap[g']? := by
    intro g' _ hne
    have hne2 : g' ≠ g := fun e => hne (by rw [e]; exact hc)
    exact (Below.heap_setCell _ _ _ _ hne2).trans (Below.heap_setCell _ _ _ _ hne2)
  have hB := (h.st.lo g (by omega)).1
  have hbel : Below W0.heap.size W0 ((w.setCell ⟨g, k * 2, none⟩ x).setCell ⟨g, k * 2 + 1, none⟩ y) := (h.bel.setCell (p := ⟨g, k * 2, none⟩) hB _).setCell (p := ⟨g, k * 2 + 1, none⟩) hB _
  have hst := h.st.move (col' := col) (fun g' hg' h1 h2 => hk g' hg' (by omega)) (fun _ _ => rfl) (fun g' hg' => by rw [hsz]; exact h.st.lo g' hg')
  have hoh := h.n.move (col' := col) (fun g' hg' h1 => hk g' hg' (by omega)) (fun _ _ => rfl)
  have hfh : Half ((w.setCell ⟨g, k * 2, none⟩ x).setCell ⟨g, k * 2 + 1, none⟩ y) col 29 16 (i + 1) l wl gr := ⟨h.s.li.move (fun g' hg' h1 h2 => hk g' hg' (by omega)) (fun _ _ => rfl), h.s.wi.move (fun g' hg' h1 => hk g' hg' (by omega)) (fun _ _ => rfl), fun p hp => ⟨(h.s.gi p hp).1.keep fun g' hg' => hk g' ((h.s.gi p hp).1.lt hg') (by have := (h.s.gi p hp).2 g' hg'; have := hgr p hp; omega), (h.s.gi p hp).2⟩, h.s.gq, h.s.gl, h.s.ll⟩
  exact ⟨⟨hst, hfh, hoh, hbel⟩, (hv.put hg _ _).put hg _ _, hk⟩
theorem BookI.growS {W0 w w1 : World} {b : Nat} {col : Nat → Nat} {V : Nat → Value} {i j : Nat} {l ol : List (Value × List (Nat × Nat))} {wl owl : List Value} {gr ogr : List (Value × Nat)} (h : BookI W0 w b col V (i + 1) l wl gr j ol owl ogr) (hi : i < l.length) {v v' : Value} {n : Nat} (hc : ∀ g, v.ownBlock = some g → col g = 16 + i)
    (hg : Grew 29 2 w v n 1 (marks (mk2 i) n) (mk2 i) v' w1) :
    BookI W0 w1 b (dyeV col v' (16 + i)) V (i + 1) l wl gr j ol owl ogr ∧ (Held w1 29 2 v' (n + 1) (marks (mk2 i) (n + 1)) ∧ ∀ g, v'.ownBlock = some g → dyeV col v' (16 + i) g = 16 + i) ∧ ∀ g, g < w.heap.size → dyeV col v' (16 + i) g = col g ∧ (col g ≠ 16 + i → w1.heap[g]? = w.heap[g]?) := by
  have hll := h.s.ll
  have hgr := hg.grown
  have hsz := hg.size
  have hB := h.bel.size
  have hold : ∀ g, g < w.heap.size → dyeV col v' (16 + i) g = col g := fun g hgw => dyeV_old fun he => by
    rcases hg.at with ⟨h1, _⟩ | ⟨h1, _⟩
    · exact hc g (by rw [← h1]; exact he)
    · rw [he] at h1; cases h1; omega
  have hfar : ∀ g, g < w.heap.size → col g ≠ 16 + i → w1.heap[g]? = w.heap[g]? := fun g hgw hne => hgr.block g hgw fun e => hne (hc g e.symm)
  have hlo : ∀ g, dyeV col v' (16 + i) g ≠ 0 → W0.heap.size ≤ g ∧ g < w1.heap.size := by
    intro g' hne
    rcases dyeV_ne hne with he | he
    · rcases hg.at with ⟨h1, h2⟩ | ⟨h1, h2⟩
      · have := h.st.lo g' (by rw [hc g' (by rw [← h1]; exact he)]; omega)
        omega
      · rw [he] at h1; cases h1; omega
    · have := h.st.lo g' he; omega
  have hbel : Below W0.heap.size W0 w1 := h.bel.grown hgr hB (fun g e => (h.st.lo g (by have := hc g e; omega)).1)
  have hst := h.st.move (col' := dyeV col v' (16 + i)) (fun g' hg' h1 h2 => hfar g' hg' (by omega)) hold hlo
  have hoh := h.n.move (col' := dyeV col v' (16 + i)) (fun g' hg' h1 => hfar g' hg' (by omega)) hold
  have hfh : Half w1 (dyeV col v' (16 + i)) 29 16 (i + 1) l wl gr := by
    refine ⟨h.s.li.move (fun g' hg' h1 h2 => hfar g' hg' (by omega)) hold, h.s.wi.move (fun g' hg' h1 => hfar g' hg' (by omega)) hold, fun q hq => ?_, h.s.gq, h.s.gl, h.s.ll⟩
    obtain ⟨a, k⟩ := h.s.gi q hq
    refine ⟨?_, fun g he => (hold g (a.lt he)).trans (k g he)⟩
    by_cases hqc : q.2 = i
    · rw [hqc] at a ⊢
      exact Full.grew (M := mk2 i) (by show 0 < 2; decide) hg a
    · exact a.keep fun g he => hfar g (a.lt he) (by have := k g he; omega)
  have hh := hg.held
  rw [marks_snoc] at hh
  exact ⟨⟨hst, hfh, hoh, hbel⟩, ⟨hh, fun g he => dyeV_at he⟩, fun g hg => ⟨hold g hg, hfar g hg⟩⟩
theorem BookI.addGS {W0 w w1 : World} {b : Nat} {col : Nat → Nat} {V : Nat → Value} {i j : Nat} {l ol : List (Value × List (Nat × Nat))} {wl owl : List Value} {gr ogr : List (Value × Nat)} (h : BookI W0 w b col V (i + 1) l wl gr j ol owl ogr) {x v' : Value}
    (hown : Held w1 31 1 v' (gr.length + 1) (gr.map (·.1) ++ [x])) (hg : w.grownBy w1 (V 2).ownBlock) (hat : v'.ownBlock = (V 2).ownBlock ∨ ∃ H, v'.ownBlock = some H ∧ w.heap.size ≤ H)
    (hx : Full w 29 2 (mk2 i) x) (hc : ∀ g, x.ownBlock = some g → col g = 16 + i) (hq : i = gr.length / 40) (hl : gr.length + 1 ≤ 40 * l.length) :
    BookI W0 (w1.setCell ⟨b, 2, none⟩ v') b (dyeV col v' (2 + 2)) (put1 V 2 v') (i + 1) l wl (gr ++ [(x, i)]) j ol owl ogr ∧ ∀ g, g < w.heap.size → dyeV col v' (2 + 2) g = col g ∧ ((col g = 0 ∨ 8 ≤ col g) → (w1.setCell ⟨b, 2, none⟩ v').heap[g]? = w.heap[g]?) := by
  have hll := h.s.ll
  obtain ⟨h1, h2, h3⟩ := h.st.grew (k := 2) (by omega) (X := (gr ++ [(x, i)]).map (·.1)) (by
    have e : ((gr ++ [(x, i)]).map (·.1)) = gr.map (·.1) ++ [x] := by simp
    rw [e, List.length_append, List.length_map]
    exact hown) hg hat h.bel.size
  have hk : ∀ g, g < w.heap.size → (col g = 0 ∨ 8 ≤ col g) → (w1.setCell ⟨b, 2, none⟩ v').heap[g]? = w.heap[g]? := fun g hgw hc7 => h2.block g hgw (by omega)
  have hbel : Below W0.heap.size W0 (w1.setCell ⟨b, 2, none⟩ v') := h.bel.trans (h2.below (by omega) (fun g hg => (h.st.lo g hg).1) h.bel.size)
  have hoh := h.n.move (fun g' hg' h1 => hk g' hg' (by omega)) h3
  have hf0 := h.s.move (fun g' hg' h1 => hk g' hg' (by omega)) h3
  have hfh : Half (w1.setCell ⟨b, 2, none⟩ v') (dyeV col v' (2 + 2)) 29 16 (i + 1) l wl (gr ++ [(x, i)]) := by
    refine ⟨hf0.li, hf0.wi, fun q hq => ?_, fun q p hp => ?_, by rw [List.length_append]; exact hl, hf0.ll⟩
    · rcases List.mem_append.mp hq with hq | hq
      · exact hf0.gi q hq
      · obtain rfl : q = (x, i) := by simpa using hq
        exact ⟨hx.keep fun g he => hk g (hx.lt he) (by have := hc g he; omega), fun g he => (h3 g (hx.lt he)).trans (hc g he)⟩
    · by_cases hlt : q < gr.length
      · rw [List.getElem?_append_left hlt] at hp
        exact hf0.gq q p hp
      · rw [List.getElem?_append_right (by omega)] at hp
        obtain ⟨hj, rfl⟩ := List.getElem?_eq_some_iff.mp hp
        have hq2 : q = gr.length := by simp at hj; omega
        subst hq2
        simpa using hq
  refine ⟨⟨h1.congr fun k hk => ?_, hfh, hoh, hbel⟩, fun g hg => ⟨h3 g hg, hk g hg⟩⟩
  match k, hk with
  | 0, _ => rfl
  | 1, _ => rfl
  | 2, _ => rfl
  | 3, _ => rfl
  | 4, _ => rfl
  | 5, _ => rfl
theorem BookI.addLS {W0 w w1 : World} {b : Nat} {col : Nat → Nat} {V : Nat → Value} {i j : Nat} {l ol : List (Value × List (Nat × Nat))} {wl owl : List Value} {gr ogr : List (Value × Nat)} (h : BookI W0 w b col V i l wl gr j ol owl ogr) {x v' : Value} {A : List (Nat × Nat)}
    (hown : Held w1 31 1 v' (l.length + 1) (l.map (·.1) ++ [x])) (hg : w.grownBy w1 (V 0).ownBlock) (hat : v'.ownBlock = (V 0).ownBlock ∨ ∃ H, v'.ownBlock = some H ∧ w.heap.size ≤ H)
    (hx : Held w 29 2 x A.length (prsV A)) (hA : A.length ≤ 1099511627776) (hc : ∀ g, x.ownBlock = some g → col g = 16 + l.length) (hl : l.length < 900) (hw : wl.length ≤ l.length) :
    BookI W0 (w1.setCell ⟨b, 0, none⟩ v') b (dyeV col v' (2 + 0)) (put1 V 0 v') i (l ++ [(x, A)]) wl gr j ol owl ogr ∧ ∀ g, g < w.heap.size → dyeV col v' (2 + 0) g = col g ∧ ((col g = 0 ∨ 8 ≤ col g) → (w1.setCell ⟨b, 0, none⟩ v').heap[g]? = w.heap[g]?) := by
  have hll := h.s.ll
  obtain ⟨h1, h2, h3⟩ := h.st.grew (k := 0) (by omega) (X := (l ++ [(x, A)]).map (·.1)) (by
    have e : ((l ++ [(x, A)]).map (·.1)) = l.map (·.1) ++ [x] := by simp
    rw [e, List.length_append, List.length_map]
    exact hown) hg hat h.bel.size
  have hk : ∀ g, g < w.heap.size → (col g = 0 ∨ 8 ≤ col g) → (w1.setCell ⟨b, 0, none⟩ v').heap[g]? = w.heap[g]? := fun g hgw hc7 => h2.block g hgw (by omega)
  have hbel : Below W0.heap.size W0 (w1.setCell ⟨b, 0, none⟩ v') := h.bel.trans (h2.below (by omega) (fun g hg => (h.st.lo g hg).1) h.bel.size)
  have hoh := h.n.move (fun g' hg' h1 => hk g' hg' (by omega)) h3
  have hf0 := h.s.move (fun g' hg' h1 => hk g' hg' (by omega)) h3
  have hfh : Half (w1.setCell ⟨b, 0, none⟩ v') (dyeV col v' (2 + 0)) 29 16 i (l ++ [(x, A)]) wl gr := by
    refine ⟨fun q p hi hp => ?_, fun q v p hv hp => ?_, hf0.gi, hf0.gq, by rw [List.length_append]; have := hf0.gl; omega, by rw [List.length_append, List.length_singleton]; omega⟩
    · by_cases hlt : q < l.length
      · rw [List.getElem?_append_left hlt] at hp
        exact hf0.li q p hi hp
      · rw [List.getElem?_append_right (by omega)] at hp
        obtain ⟨hj, rfl⟩ := List.getElem?_eq_some_iff.mp hp
        have hq2 : q = l.length := by simp at hj; omega
        subst hq2
        simp only [Nat.sub_self, List.getElem_cons_zero]
        exact ⟨hx.keep fun g he => hk g (hx.lt he) (by have := hc g he; omega), hA, fun g he => (h3 g (hx.lt he)).trans (hc g he)⟩
    · have hq2 : q < l.length := Nat.lt_of_lt_of_le (List.getElem?_eq_some_iff.mp hv).1 hw
      rw [List.getElem?_append_left hq2] at hp
      exact hf0.wi q v p hv hp
  refine ⟨⟨h1.congr fun k hk => ?_, hfh, hoh, hbel⟩, fun g hg => ⟨h3 g hg, hk g hg⟩⟩
  match k, hk with
  | 0, _ => rfl
  | 1, _ => rfl
  | 2, _ => rfl
  | 3, _ => rfl
  | 4, _ => rfl
  | 5, _ => rfl
theorem BookI.addWS {W0 w w1 : World} {b : Nat} {col : Nat → Nat} {V : Nat → Value} {i j : Nat} {l ol : List (Value × List (Nat × Nat))} {wl owl : List Value} {gr ogr : List (Value × Nat)} (h : BookI W0 w b col V i l wl gr j ol owl ogr) {x v' : Value} {p : Value × List (Nat × Nat)}
    (hown : Held w1 31 1 v' (wl.length + 1) (wl ++ [x])) (hg : w.grownBy w1 (V 1).ownBlock) (hat : v'.ownBlock = (V 1).ownBlock ∨ ∃ H, v'.ownBlock = some H ∧ w.heap.size ≤ H)
    (hp : l[wl.length]? = some p) (hx : Held w 29 2 x p.2.length (prsV p.2)) (hc : ∀ g, x.ownBlock = some g → col g = 8) :
    BookI W0 (w1.setCell ⟨b, 1, none⟩ v') b (dyeV col v' (2 + 1)) (put1 V 1 v') i l (wl ++ [x]) gr j ol owl ogr ∧ ∀ g, g < w.heap.size → dyeV col v' (2 + 1) g = col g ∧ ((col g = 0 ∨ 8 ≤ col g) → (w1.setCell ⟨b, 1, none⟩ v').heap[g]? = w.heap[g]?) := by
  have hll := h.s.ll
  obtain ⟨h1, h2, h3⟩ := h.st.grew (k := 1) (by omega) (X := wl ++ [x]) (by rw [List.length_append]; exact hown) hg hat h.bel.size
  have hk : ∀ g, g < w.heap.size → (col g = 0 ∨ 8 ≤ col g) → (w1.setCell ⟨b, 1, none⟩ v').heap[g]? = w.heap[g]? := fun g hgw hc7 => h2.block g hgw (by omega)
  have hbel : Below W0.heap.size W0 (w1.setCell ⟨b, 1, none⟩ v') := h.bel.trans (h2.below (by omega) (fun g hg => (h.st.lo g hg).1) h.bel.size)
  have hoh := h.n.move (fun g' hg' h1 => hk g' hg' (by omega)) h3
  have hf0 := h.s.move (fun g' hg' h1 => hk g' hg' (by omega)) h3
  have hfh : Half (w1.setCell ⟨b, 1, none⟩ v') (dyeV col v' (2 + 1)) 29 16 i l (wl ++ [x]) gr := by
    refine ⟨hf0.li, fun q v p' hv hp' => ?_, hf0.gi, hf0.gq, hf0.gl, hf0.ll⟩
    by_cases hlt : q < wl.length
    · rw [List.getElem?_append_left hlt] at hv
      exact hf0.wi q v p' hv hp'
    · rw [List.getElem?_append_right (by omega)] at hv
      obtain ⟨hj, he⟩ := List.getElem?_eq_some_iff.mp hv
      have hq2 : q = wl.length := by simp at hj; omega
      subst hq2
      rw [hp] at hp'
      cases hp'
      have he2 : x = v := by simpa using he
      subst he2
      exact ⟨hx.keep fun g he => hk g (hx.lt he) (by have := hc g he; omega), fun g he => (h3 g (hx.lt he)).trans (hc g he)⟩
  refine ⟨⟨h1.congr fun k hk => ?_, hfh, hoh, hbel⟩, fun g hg => ⟨h3 g hg, hk g hg⟩⟩
  match k, hk with
  | 0, _ => rfl
  | 1, _ => rfl
  | 2, _ => rfl
  | 3, _ => rfl
  | 4, _ => rfl
  | 5, _ => rfl
theorem BookI.markN {W0 w : World} {b : Nat} {col : Nat → Nat} {V : Nat → Value} {i j : Nat} {l ol : List (Value × List (Nat × Nat))} {wl owl : List Value} {gr ogr : List (Value × Nat)} (h : BookI W0 w b col V j ol owl ogr (i + 1) l wl gr) (hgr : ∀ p ∈ gr, p.2 ≠ i) (hi : i < l.length) {v : Value} {n : Nat} {xs : List Value} (hv : Held w 72 2 v n xs) {g : Nat} (hg : v.ownBlock = some g) (hc : col g = 1016 + i) (k : Nat) (x y : Value) :
    BookI W0 ((w.setCell ⟨g, k * 2, none⟩ x).setCell ⟨g, k * 2 + 1, none⟩ y) b col V j ol owl ogr (i + 1) l wl gr ∧ Held ((w.setCell ⟨g, k * 2, none⟩ x).setCell ⟨g, k * 2 + 1, none⟩ y) 72 2 v n ((xs.set (k * 2) x).set (k * 2 + 1) y) ∧ ∀ g', g' < w.heap.size → col g' ≠ 1016 + i → ((w.setCell ⟨g, k * 2, none⟩ x).setCell ⟨g, k * 2 + 1, none⟩ y).heap[g']? = w.heap[g']? := by
  have hll := h.n.ll
  have hsz : ((w.setCell ⟨g, k * 2, none⟩ x).setCell ⟨g, k * 2 + 1, none⟩ y).heap.size = w.heap.size := by simp [World.setCell]
  have hk : ∀ g', g' < w.heap.size → col g' ≠ 1016 + i → ((w.setCell ⟨g, k * 2, none⟩ x).setCell ⟨g, k * 2 + 1, none⟩ y).heap[g']? = w.heap[g']? := by
    intro g' _ hne
    have hne2 : g' ≠ g := fun e => hne (by rw [e]; exact hc)
    exact (Below.heap_setCell _ _ _ _ hne2).trans (Below.heap_setCell _ _ _ _ hne2)
  have hB := (h.st.lo g (by omega)).1
  have hbel : Below W0.heap.size W0 ((w.setCell ⟨g, k * 2, none⟩ x).setCell ⟨g, k * 2 + 1, none⟩ y) := (h.bel.setCell (p := ⟨g, k * 2, none⟩) hB _).setCell (p := ⟨g, k * 2 + 1, none⟩) hB _
  have hst := h.st.move (col' := col) (fun g' hg' h1 h2 => hk g' hg' (by omega)) (fun _ _ => rfl) (fun g' hg' => by rw [hsz]; exact h.st.lo g' hg')
  have hoh := h.s.move (col' := col) (fun g' hg' h1 => hk g' hg' (by omega)) (fun _ _ => rfl)
  have hfh : Half ((w.setCell ⟨g, k * 2, none⟩ x).setCell ⟨g, k * 2 + 1, none⟩ y) col 72 1016 (i + 1) l wl gr := ⟨h.n.li.move (fun g' hg' h1 h2 => hk g' hg' (by omega)) (fun _ _ => rfl), h.n.wi.move (fun g' hg' h1 => hk g' hg' (by omega)) (fun _ _ => rfl), fun p hp => ⟨(h.n.gi p hp).1.keep fun g' hg' => hk g' ((h.n.gi p hp).1.lt hg') (by have := (h.n.gi p hp).2 g' hg'; have := hgr p hp; omega), (h.n.gi p hp).2⟩, h.n.gq, h.n.gl, h.n.ll⟩
  exact ⟨⟨hst, hoh, hfh, hbel⟩, (hv.put hg _ _).put hg _ _, hk⟩
theorem BookI.growN {W0 w w1 : World} {b : Nat} {col : Nat → Nat} {V : Nat → Value} {i j : Nat} {l ol : List (Value × List (Nat × Nat))} {wl owl : List Value} {gr ogr : List (Value × Nat)} (h : BookI W0 w b col V j ol owl ogr (i + 1) l wl gr) (hi : i < l.length) {v v' : Value} {n : Nat} (hc : ∀ g, v.ownBlock = some g → col g = 1016 + i)
    (hg : Grew 72 2 w v n 1 (marks (mk2 i) n) (mk2 i) v' w1) :
    BookI W0 w1 b (dyeV col v' (1016 + i)) V j ol owl ogr (i + 1) l wl gr ∧ (Held w1 72 2 v' (n + 1) (marks (mk2 i) (n + 1)) ∧ ∀ g, v'.ownBlock = some g → dyeV col v' (1016 + i) g = 1016 + i) ∧ ∀ g, g < w.heap.size → dyeV col v' (1016 + i) g = col g ∧ (col g ≠ 1016 + i → w1.heap[g]? = w.heap[g]?) := by
  have hll := h.n.ll
  have hgr := hg.grown
  have hsz := hg.size
  have hB := h.bel.size
  have hold : ∀ g, g < w.heap.size → dyeV col v' (1016 + i) g = col g := fun g hgw => dyeV_old fun he => by
    rcases hg.at with ⟨h1, _⟩ | ⟨h1, _⟩
    · exact hc g (by rw [← h1]; exact he)
    · rw [he] at h1; cases h1; omega
  have hfar : ∀ g, g < w.heap.size → col g ≠ 1016 + i → w1.heap[g]? = w.heap[g]? := fun g hgw hne => hgr.block g hgw fun e => hne (hc g e.symm)
  have hlo : ∀ g, dyeV col v' (1016 + i) g ≠ 0 → W0.heap.size ≤ g ∧ g < w1.heap.size := by
    intro g' hne
    rcases dyeV_ne hne with he | he
    · rcases hg.at with ⟨h1, h2⟩ | ⟨h1, h2⟩
      · have := h.st.lo g' (by rw [hc g' (by rw [← h1]; exact he)]; omega)
        omega
      · rw [he] at h1; cases h1; omega
    · have := h.st.lo g' he; omega
  have hbel : Below W0.heap.size W0 w1 := h.bel.grown hgr hB (fun g e => (h.st.lo g (by have := hc g e; omega)).1)
  have hst := h.st.move (col' := dyeV col v' (1016 + i)) (fun g' hg' h1 h2 => hfar g' hg' (by omega)) hold hlo
  have hoh := h.s.move (col' := dyeV col v' (1016 + i)) (fun g' hg' h1 => hfar g' hg' (by omega)) hold
  have hfh : Half w1 (dyeV col v' (1016 + i)) 72 1016 (i + 1) l wl gr := by
    refine ⟨h.n.li.move (fun g' hg' h1 h2 => hfar g' hg' (by omega)) hold, h.n.wi.move (fun g' hg' h1 => hfar g' hg' (by omega)) hold, fun q hq => ?_, h.n.gq, h.n.gl, h.n.ll⟩
    obtain ⟨a, k⟩ := h.n.gi q hq
    refine ⟨?_, fun g he => (hold g (a.lt he)).trans (k g he)⟩
    by_cases hqc : q.2 = i
    · rw [hqc] at a ⊢
      exact Full.grew (M := mk2 i) (by show 0 < 2; decide) hg a
    · exact a.keep fun g he => hfar g (a.lt he) (by have := k g he; omega)
  have hh := hg.held
  rw [marks_snoc] at hh
  exact ⟨⟨hst, hoh, hfh, hbel⟩, ⟨hh, fun g he => dyeV_at he⟩, fun g hg => ⟨hold g hg, hfar g hg⟩⟩
theorem BookI.addGN {W0 w w1 : World} {b : Nat} {col : Nat → Nat} {V : Nat → Value} {i j : Nat} {l ol : List (Value × List (Nat × Nat))} {wl owl : List Value} {gr ogr : List (Value × Nat)} (h : BookI W0 w b col V j ol owl ogr (i + 1) l wl gr) {x v' : Value}
    (hown : Held w1 32 1 v' (gr.length + 1) (gr.map (·.1) ++ [x])) (hg : w.grownBy w1 (V 5).ownBlock) (hat : v'.ownBlock = (V 5).ownBlock ∨ ∃ H, v'.ownBlock = some H ∧ w.heap.size ≤ H)
    (hx : Full w 72 2 (mk2 i) x) (hc : ∀ g, x.ownBlock = some g → col g = 1016 + i) (hq : i = gr.length / 40) (hl : gr.length + 1 ≤ 40 * l.length) :
    BookI W0 (w1.setCell ⟨b, 5, none⟩ v') b (dyeV col v' (2 + 5)) (put1 V 5 v') j ol owl ogr (i + 1) l wl (gr ++ [(x, i)]) ∧ ∀ g, g < w.heap.size → dyeV col v' (2 + 5) g = col g ∧ ((col g = 0 ∨ 8 ≤ col g) → (w1.setCell ⟨b, 5, none⟩ v').heap[g]? = w.heap[g]?) := by
  have hll := h.n.ll
  obtain ⟨h1, h2, h3⟩ := h.st.grew (k := 5) (by omega) (X := (gr ++ [(x, i)]).map (·.1)) (by
    have e : ((gr ++ [(x, i)]).map (·.1)) = gr.map (·.1) ++ [x] := by simp
    rw [e, List.length_append, List.length_map]
    exact hown) hg hat h.bel.size
  have hk : ∀ g, g < w.heap.size → (col g = 0 ∨ 8 ≤ col g) → (w1.setCell ⟨b, 5, none⟩ v').heap[g]? = w.heap[g]? := fun g hgw hc7 => h2.block g hgw (by omega)
  have hbel : Below W0.heap.size W0 (w1.setCell ⟨b, 5, none⟩ v') := h.bel.trans (h2.below (by omega) (fun g hg => (h.st.lo g hg).1) h.bel.size)
  have hoh := h.s.move (fun g' hg' h1 => hk g' hg' (by omega)) h3
  have hf0 := h.n.move (fun g' hg' h1 => hk g' hg' (by omega)) h3
  have hfh : Half (w1.setCell ⟨b, 5, none⟩ v') (dyeV col v' (2 + 5)) 72 1016 (i + 1) l wl (gr ++ [(x, i)]) := by
    refine ⟨hf0.li, hf0.wi, fun q hq => ?_, fun q p hp => ?_, by rw [List.length_append]; exact hl, hf0.ll⟩
    · rcases List.mem_append.mp hq with hq | hq
      · exact hf0.gi q hq
      · obtain rfl : q = (x, i) := by simpa using hq
        exact ⟨hx.keep fun g he => hk g (hx.lt he) (by have := hc g he; omega), fun g he => (h3 g (hx.lt he)).trans (hc g he)⟩
    · by_cases hlt : q < gr.length
      · rw [List.getElem?_append_left hlt] at hp
        exact hf0.gq q p hp
      · rw [List.getElem?_append_right (by omega)] at hp
        obtain ⟨hj, rfl⟩ := List.getElem?_eq_some_iff.mp hp
        have hq2 : q = gr.length := by simp at hj; omega
        subst hq2
        simpa using hq
  refine ⟨⟨h1.congr fun k hk => ?_, hoh, hfh, hbel⟩, fun g hg => ⟨h3 g hg, hk g hg⟩⟩
  match k, hk with
  | 0, _ => rfl
  | 1, _ => rfl
  | 2, _ => rfl
  | 3, _ => rfl
  | 4, _ => rfl
  | 5, _ => rfl
theorem BookI.addLN {W0 w w1 : World} {b : Nat} {col : Nat → Nat} {V : Nat → Value} {i j : Nat} {l ol : List (Value × List (Nat × Nat))} {wl owl : List Value} {gr ogr : List (Value × Nat)} (h : BookI W0 w b col V j ol owl ogr i l wl gr) {x v' : Value} {A : List (Nat × Nat)}
    (hown : Held w1 32 1 v' (l.length + 1) (l.map (·.1) ++ [x])) (hg : w.grownBy w1 (V 3).ownBlock) (hat : v'.ownBlock = (V 3).ownBlock ∨ ∃ H, v'.ownBlock = some H ∧ w.heap.size ≤ H)
    (hx : Held w 72 2 x A.length (prsV A)) (hA : A.length ≤ 1099511627776) (hc : ∀ g, x.ownBlock = some g → col g = 1016 + l.length) (hl : l.length < 900) (hw : wl.length ≤ l.length) :
    BookI W0 (w1.setCell ⟨b, 3, none⟩ v') b (dyeV col v' (2 + 3)) (put1 V 3 v') j ol owl ogr i (l ++ [(x, A)]) wl gr ∧ ∀ g, g < w.heap.size → dyeV col v' (2 + 3) g = col g ∧ ((col g = 0 ∨ 8 ≤ col g) → (w1.setCell ⟨b, 3, none⟩ v').heap[g]? = w.heap[g]?) := by
  have hll := h.n.ll
  obtain ⟨h1, h2, h3⟩ := h.st.grew (k := 3) (by omega) (X := (l ++ [(x, A)]).map (·.1)) (by
    have e : ((l ++ [(x, A)]).map (·.1)) = l.map (·.1) ++ [x] := by simp
    rw [e, List.length_append, List.length_map]
    exact hown) hg hat h.bel.size
  have hk : ∀ g, g < w.heap.size → (col g = 0 ∨ 8 ≤ col g) → (w1.setCell ⟨b, 3, none⟩ v').heap[g]? = w.heap[g]? := fun g hgw hc7 => h2.block g hgw (by omega)
  have hbel : Below W0.heap.size W0 (w1.setCell ⟨b, 3, none⟩ v') := h.bel.trans (h2.below (by omega) (fun g hg => (h.st.lo g hg).1) h.bel.size)
  have hoh := h.s.move (fun g' hg' h1 => hk g' hg' (by omega)) h3
  have hf0 := h.n.move (fun g' hg' h1 => hk g' hg' (by omega)) h3
  have hfh : Half (w1.setCell ⟨b, 3, none⟩ v') (dyeV col v' (2 + 3)) 72 1016 i (l ++ [(x, A)]) wl gr := by
    refine ⟨fun q p hi hp => ?_, fun q v p hv hp => ?_, hf0.gi, hf0.gq, by rw [List.length_append]; have := hf0.gl; omega, by rw [List.length_append, List.length_singleton]; omega⟩
    · by_cases hlt : q < l.length
      · rw [List.getElem?_append_left hlt] at hp
        exact hf0.li q p hi hp
      · rw [List.getElem?_append_right (by omega)] at hp
        obtain ⟨hj, rfl⟩ := List.getElem?_eq_some_iff.mp hp
        have hq2 : q = l.length := by simp at hj; omega
        subst hq2
        simp only [Nat.sub_self, List.getElem_cons_zero]
        exact ⟨hx.keep fun g he => hk g (hx.lt he) (by have := hc g he; omega), hA, fun g he => (h3 g (hx.lt he)).trans (hc g he)⟩
    · have hq2 : q < l.length := Nat.lt_of_lt_of_le (List.getElem?_eq_some_iff.mp hv).1 hw
      rw [List.getElem?_append_left hq2] at hp
      exact hf0.wi q v p hv hp
  refine ⟨⟨h1.congr fun k hk => ?_, hoh, hfh, hbel⟩, fun g hg => ⟨h3 g hg, hk g hg⟩⟩
  match k, hk with
  | 0, _ => rfl
  | 1, _ => rfl
  | 2, _ => rfl
  | 3, _ => rfl
  | 4, _ => rfl
  | 5, _ => rfl
theorem BookI.addWN {W0 w w1 : World} {b : Nat} {col : Nat → Nat} {V : Nat → Value} {i j : Nat} {l ol : List (Value × List (Nat × Nat))} {wl owl : List Value} {gr ogr : List (Value × Nat)} (h : BookI W0 w b col V j ol owl ogr i l wl gr) {x v' : Value} {p : Value × List (Nat × Nat)}
    (hown : Held w1 32 1 v' (wl.length + 1) (wl ++ [x])) (hg : w.grownBy w1 (V 4).ownBlock) (hat : v'.ownBlock = (V 4).ownBlock ∨ ∃ H, v'.ownBlock = some H ∧ w.heap.size ≤ H)
    (hp : l[wl.length]? = some p) (hx : Held w 72 2 x p.2.length (prsV p.2)) (hc : ∀ g, x.ownBlock = some g → col g = 8) :
    BookI W0 (w1.setCell ⟨b, 4, none⟩ v') b (dyeV col v' (2 + 4)) (put1 V 4 v') j ol owl ogr i l (wl ++ [x]) gr ∧ ∀ g, g < w.heap.size → dyeV col v' (2 + 4) g = col g ∧ ((col g = 0 ∨ 8 ≤ col g) → (w1.setCell ⟨b, 4, none⟩ v').heap[g]? = w.heap[g]?) := by
  have hll := h.n.ll
  obtain ⟨h1, h2, h3⟩ := h.st.grew (k := 4) (by omega) (X := wl ++ [x]) (by rw [List.length_append]; exact hown) hg hat h.bel.size
  have hk : ∀ g, g < w.heap.size → (col g = 0 ∨ 8 ≤ col g) → (w1.setCell ⟨b, 4, none⟩ v').heap[g]? = w.heap[g]? := fun g hgw hc7 => h2.block g hgw (by omega)
  have hbel : Below W0.heap.size W0 (w1.setCell ⟨b, 4, none⟩ v') := h.bel.trans (h2.below (by omega) (fun g hg => (h.st.lo g hg).1) h.bel.size)
  have hoh := h.s.move (fun g' hg' h1 => hk g' hg' (by omega)) h3
  have hf0 := h.n.move (fun g' hg' h1 => hk g' hg' (by omega)) h3
  have hfh : Half (w1.setCell ⟨b, 4, none⟩ v') (dyeV col v' (2 + 4)) 72 1016 i l (wl ++ [x]) gr := by
    refine ⟨hf0.li, fun q v p' hv hp' => ?_, hf0.gi, hf0.gq, hf0.gl, hf0.ll⟩
    by_cases hlt : q < wl.length
    · rw [List.getElem?_append_left hlt] at hv
      exact hf0.wi q v p' hv hp'
    · rw [List.getElem?_append_right (by omega)] at hv
      obtain ⟨hj, he⟩ := List.getElem?_eq_some_iff.mp hv
      have hq2 : q = wl.length := by simp at hj; omega
      subst hq2
      rw [hp] at hp'
      cases hp'
      have he2 : x = v := by simpa using he
      subst he2
      exact ⟨hx.keep fun g he => hk g (hx.lt he) (by have := hc g he; omega), fun g he => (h3 g (hx.lt he)).trans (hc g he)⟩
  refine ⟨⟨h1.congr fun k hk => ?_, hoh, hfh, hbel⟩, fun g hg => ⟨h3 g hg, hk g hg⟩⟩
  match k, hk with
  | 0, _ => rfl
  | 1, _ => rfl
  | 2, _ => rfl
  | 3, _ => rfl
  | 4, _ => rfl
  | 5, _ => rfl
end Go.Proofs.YteknpnanmbfhfaaDoor.Bk8
/- Shape's calls in one form (any arguments): a list and an error. -/
namespace Go.Scr
def coverE (b e : Int) : Int := if b < 0 ∨ e < b ∨ 1099511627776 < e then 80 else 0
def coverL (b e : Int) : List (Nat × Nat) := if b < 0 ∨ e < b ∨ 1099511627776 < e then [] else coverT b.toNat e.toNat
def wayE (n i : Int) : Int := if n < 1 ∨ 1099511627776 < n then 81 else if i < 0 ∨ n ≤ i then 80 else 0
def wayL (n i : Int) : List (Nat × Nat) := if n < 1 ∨ 1099511627776 < n then [] else if i < 0 ∨ n ≤ i then [] else (pathT 0 n.toNat i.toNat).reverse
def prfE (f s : Int) : Int := if f < 1 ∨ s < f ∨ 1099511627776 < s then 81 else 0
def prfL (f s : Int) : List (Nat × Nat) := if f < 1 ∨ s < f ∨ 1099511627776 < s then [] else (proofT 0 s.toNat f.toNat).reverse
def runE (n b e : Int) : Int := if n < 1 ∨ 1099511627776 < n then 81 else if b < 0 ∨ e ≤ b ∨ n < e then 80 else 0
def runL (n b e : Int) : List (Nat × Nat) := if n < 1 ∨ 1099511627776 < n then [] else if b < 0 ∨ e ≤ b ∨ n < e then [] else restT (lookR b.toNat e.toNat) 0 n.toNat
end Go.Scr
namespace Go.Proofs.YteknpnanmbfhfaaDoor
open Go.RowKit Go.Scr Go.Shelf
set_option linter.unusedVariables false
noncomputable def batL (n : Int) (Z : List Int) : List (Nat × Nat) := if batE n Z = 0 then restT (lookZ Z) 0 n.toNat else []
/-- a list that came out new, and an error -/
def OutP (w : World) (T : Nat) (E : Int) (L : List (Nat × Nat)) (r : Ending) (w' : World) : Prop :=
  (∃ p c, r = .returned (.tuple #[.slice p L.length c, .int .i64 E]) ∧ Held w' T 2 (.slice p L.length c) L.length (prsV L) ∧ ∀ g, (Value.slice p L.length c).ownBlock = some g → w.heap.size ≤ g) ∧ Below w.heap.size w w'
theorem outP_nil {w w' : World} {T : Nat} {E : Int} {r : Ending} (h : r = .returned (.tuple #[.slice none 0 0, .int .i64 E])) (hb : Below w.heap.size w w') : OutP w T E [] r w' :=
  ⟨⟨none, 0, h, ⟨rfl, .inl ⟨rfl, rfl⟩⟩, fun g hg => by cases hg⟩, hb⟩
theorem scover_any (b e : Int) (w : World) : Calls Tryd.prog 12 #[.agg #[.int .i64 b, .int .i64 e]] w (OutP w 72 (coverE b e) (coverL b e)) := by
  by_cases h : b < 0 ∨ e < b ∨ 1099511627776 < e
  · unfold coverE coverL
    rw [if_pos h, if_pos h]
    refine (cover_noB b e w h).mono ?_
    rintro r w' ⟨h1, h2⟩
    exact outP_nil h1 h2
  · unfold coverE coverL
    rw [if_neg h, if_neg h]
    obtain ⟨x, rfl⟩ : ∃ x : Nat, b = (x : Int) := ⟨b.toNat, by omega⟩
    obtain ⟨y, rfl⟩ : ∃ x : Nat, e = (x : Int) := ⟨e.toNat, by omega⟩
    rw [Int.toNat_natCast, Int.toNat_natCast]
    refine (cover_yes x y w (by omega) (by omega)).mono ?_
    rintro r w' h
    exact h
theorem spath_any (n i : Int) (w : World) : Calls Tryd.prog 19 #[.int .i64 n, .int .i64 i] w (OutP w 29 (wayE n i) (wayL n i)) := by
  unfold wayE wayL
  by_cases h : n < 1 ∨ 1099511627776 < n
  · rw [if_pos h, if_pos h]
    refine (path_noS n i w h).mono ?_
    rintro r w' ⟨h1, h2⟩
    exact outP_nil h1 h2
  · rw [if_neg h, if_neg h]
    by_cases h2 : i < 0 ∨ n ≤ i
    · rw [if_pos h2, if_pos h2]
      refine (path_noI n i w (by omega) (by omega) h2).mono ?_
      rintro r w' ⟨h1, h2⟩
      exact outP_nil h1 h2
    · rw [if_neg h2, if_neg h2]
      obtain ⟨x, rfl⟩ : ∃ x : Nat, n = (x : Int) := ⟨n.toNat, by omega⟩
      obtain ⟨y, rfl⟩ : ∃ x : Nat, i = (x : Int) := ⟨i.toNat, by omega⟩
      rw [Int.toNat_natCast, Int.toNat_natCast]
      unfold OutP
      rw [List.length_reverse]
      refine (path_yes x y w (by omega) (by omega)).mono ?_
      rintro r w' h
      exact h
theorem sproof_any (f s : Int) (w : World) : Calls Tryd.prog 21 #[.int .i64 f, .int .i64 s] w (OutP w 29 (prfE f s) (prfL f s)) := by
  unfold prfE prfL
  by_cases h : f < 1 ∨ s < f ∨ 1099511627776 < s
  · rw [if_pos h, if_pos h]
    refine (proof_no f s w h).mono ?_
    rintro r w' ⟨h1, rfl⟩
    exact outP_nil h1 (Below.refl _ _)
  · rw [if_neg h, if_neg h]
    obtain ⟨x, rfl⟩ : ∃ x : Nat, f = (x : Int) := ⟨f.toNat, by omega⟩
    obtain ⟨y, rfl⟩ : ∃ x : Nat, s = (x : Int) := ⟨s.toNat, by omega⟩
    rw [Int.toNat_natCast, Int.toNat_natCast]
    by_cases h2 : x = y
    · subst h2
      rw [proofT_end, if_pos rfl]
      refine (proof_eq (x : Int) w (by omega) (by omega)).mono ?_
      rintro r w' ⟨h1, rfl⟩
      exact outP_nil h1 (Below.refl _ _)
    · unfold OutP
      rw [List.length_reverse]
      refine (proof_yes x y w (by omega) (by omega) (by omega)).mono ?_
      rintro r w' h
      exact h
theorem sbatch_any (n : Int) (v : Value) (Z : List Int) (w : World) (hv : Ints w v Z) : Calls Tryd.prog 31 #[.int .i64 n, v] w (OutP w 29 ((batE n Z : Nat) : Int) (batL n Z)) := by
  refine (batch_any n v Z w hv).mono ?_
  rintro r w' ⟨h1, h2, h3⟩
  unfold batL
  by_cases h : batE n Z = 0
  · rw [if_pos h]
    have := h2 h
    rw [h]
    exact ⟨this, h3⟩
  · rw [if_neg h]
    exact outP_nil (h1 h) h3
theorem rbatchP_any (n : Int) (v : Value) (Z : List Int) (w : World) (hv : Ints w v Z) : Calls Tryd.prog 29 #[.int .i64 n, v] w (OutP w 29 ((batE n Z : Nat) : Int) (batL n Z)) := by
  refine (rbatch_any n v Z w hv).mono ?_
  rintro r w' ⟨h1, h2, h3⟩
  unfold batL
  by_cases h : batE n Z = 0
  · rw [if_pos h]
    have := h2 h
    rw [h]
    exact ⟨this, h3⟩
  · rw [if_neg h]
    exact outP_nil (h1 h) h3
theorem srun_any (n b e : Int) (w : World) : Calls Tryd.prog 26 #[.int .i64 n, .agg #[.int .i64 b, .int .i64 e]] w (OutP w 29 (runE n b e) (runL n b e)) := by
  unfold runE runL
  by_cases h : n < 1 ∨ 1099511627776 < n
  · rw [if_pos h, if_pos h]
    refine (run_noS n b e w h).mono ?_
    rintro r w' ⟨h1, h2⟩
    exact outP_nil h1 h2
  · rw [if_neg h, if_neg h]
    have h1 : 1 ≤ n := by omega
    have h2 : n ≤ 1099511627776 := by omega
    by_cases hb : b < 0
    · rw [if_pos (.inl hb), if_pos (.inl hb)]
      refine (run_noB n b e w h1 h2 hb).mono ?_
      rintro r w' ⟨h1, h2⟩
      exact outP_nil h1 h2
    · by_cases he : e ≤ b
      · rw [if_pos (.inr (.inl he)), if_pos (.inr (.inl he))]
        refine (run_noE n b e w h1 h2 (by omega) he).mono ?_
        rintro r w' ⟨h1, h2⟩
        exact outP_nil h1 h2
      · by_cases hn : n < e
        · rw [if_pos (.inr (.inr hn)), if_pos (.inr (.inr hn))]
          refine (run_noN n b e w h1 h2 (by omega) (by omega) hn).mono ?_
          rintro r w' ⟨h1, h2⟩
          exact outP_nil h1 h2
        · rw [if_neg (by omega), if_neg (by omega)]
          obtain ⟨x, rfl⟩ : ∃ x : Nat, n = (x : Int) := ⟨n.toNat, by omega⟩
          obtain ⟨y, rfl⟩ : ∃ x : Nat, b = (x : Int) := ⟨b.toNat, by omega⟩
          obtain ⟨z, rfl⟩ : ∃ x : Nat, e = (x : Int) := ⟨e.toNat, by omega⟩
          rw [Int.toNat_natCast, Int.toNat_natCast, Int.toNat_natCast]
          refine (run_yes x y z w (by omega) (by omega) (by omega)).mono ?_
          rintro r w' h
          exact h
/-- a list that grows beside a span's box -/
structure AtI (A wr : World) (bx b e : Nat) (L : List (Nat × Nat)) (v : Value) : Prop where
  hd : Held wr 29 2 v L.length (prsV L)
  ow : ∀ g, v.ownBlock = some g → A.heap.size ≤ g
  nb : v.ownBlock ≠ some bx
  rb : spRow wr bx b e
  lb : A.heap.size ≤ bx
  bel : Below A.heap.size A wr
theorem AtI.later {A wr w' : World} {bx b e : Nat} {L : List (Nat × Nat)} {v : Value} (h : AtI A wr bx b e L v) (hb : Below wr.heap.size wr w') : AtI A w' bx b e L v :=
  ⟨h.hd.below hb, h.ow, h.nb, h.rb.keep (hb.block _ h.rb.lt), h.lb, below_onS h.bel hb h.bel.size⟩
theorem AtI.push {A wr w5 : World} {bx b e x y : Nat} {L : List (Nat × Nat)} {v v5 : Value} {o : Obj} (h : AtI A wr bx b e L v) (g : Grew 29 2 (wr.alloc o) v L.length 1 (prsV L) [.int .i64 (x : Int), .int .i64 (y : Int)] v5 w5) : AtI A w5 bx b e (L ++ [(x, y)]) v5 := by
  have hgr := grown_alloc g.grown
  have hat := grew_own g
  refine ⟨?_, ?_, ?_, h.rb.keep (hgr.block _ h.rb.lt (fun e => h.nb e.symm)), h.lb, h.bel.grown hgr h.bel.size h.ow⟩
  · rw [List.length_append, prsV_append]
    exact g.held
  · intro q hq
    rcases hat q hq with h3 | h3
    · exact h.ow q h3
    · have := h.bel.size; omega
  · intro hq
    rcases hat bx hq with h3 | h3
    · exact h.nb h3
    · have := h.rb.lt; omega
theorem AtI.set {A wr : World} {bx b e : Nat} {L : List (Nat × Nat)} {v : Value} (h : AtI A wr bx b e L v) (b' e' : Nat) : AtI A ((wr.setCell ⟨bx, 0, none⟩ (.int .i64 (b' : Int))).setCell ⟨bx, 1, none⟩ (.int .i64 (e' : Int))) bx b' e' L v := by
  refine ⟨h.hd.keep fun q hq => ?_, h.ow, h.nb, h.rb.set b' e', h.lb, (h.bel.setCell (p := ⟨bx, 0, none⟩) h.lb _).setCell (p := ⟨bx, 1, none⟩) h.lb _⟩
  have hne : q ≠ bx := fun e => h.nb (by rw [← e]; exact hq)
  exact (Below.heap_setCell _ _ _ _ hne).trans (Below.heap_setCell _ _ _ _ hne)
/-- the other way round -/
structure TuI (A wr : World) (L : List (Nat × Nat)) (v : Value) : Prop where
  hd : Held wr 29 2 v L.length (prsV L)
  ow : ∀ g, v.ownBlock = some g → A.heap.size ≤ g
  bel : Below A.heap.size A wr
theorem TuI.push {A wr w5 : World} {x y : Nat} {L : List (Nat × Nat)} {v v5 : Value} {o : Obj} (h : TuI A wr L v) (g : Grew 29 2 (wr.alloc o) v L.length 1 (prsV L) [.int .i64 (x : Int), .int .i64 (y : Int)] v5 w5) : TuI A w5 (L ++ [(x, y)]) v5 := by
  have hgr := grown_alloc g.grown
  have hat := grew_own g
  refine ⟨?_, ?_, h.bel.grown hgr h.bel.size h.ow⟩
  · rw [List.length_append, prsV_append]
    exact g.held
  · intro q hq
    rcases hat q hq with h3 | h3
    · exact h.ow q h3
    · have := h.bel.size; omega
set_option maxRecDepth 100000 in
set_option maxHeartbeats 2000000 in
theorem turned8_any (p : Option Addr) (n c : Nat) (L : List (Nat × Nat)) (w : World) (hn : n = L.length) (hv : Held w 29 2 (.slice p n c) n (prsV L)) (hL : L.length ≤ 1048576) :
    Calls Tryd.prog 54 #[.slice p n c] w fun r w' => (∃ q d, r = .returned (.slice q n d) ∧ Held w' 29 2 (.slice q n d) n (prsV L.reverse) ∧ ∀ g, (Value.slice q n d).ownBlock = some g → w.heap.size ≤ g) ∧ Below w.heap.size w w' := by
  have HV : Hid (n = L.length ∧ Held w 29 2 (.slice p n c) n (prsV L)) := Lib.hid ⟨hn, hv⟩
  have hnb : n ≤ 1048576 := by omega
  obtain ⟨_, _, e0, hnc, hcm, _⟩ := hv.cells
  cases e0
  clear hv hn hL
  go_enter Tryd.func54, Tryd.ntmps54
  go_wp2_with fail
  go_loopw [3, 4] (fun x y wr => ∃ z : Int, y = .int .i64 z ∧ -1 ≤ z ∧ z < (n : Int) ∧ Hid (TuI w wr (L.drop (z + 1).toNat).reverse x)) (fun _ y _ => (intOf y + 1).toNat)
  case atStart => exact ⟨(n : Int) - 1, rfl, by omega, by omega, Lib.hid (by
    rw [show ((n : Int) - 1 + 1).toNat = L.length by have := HV.out.1; omega, List.drop_length]
    exact ⟨⟨rfl, .inl ⟨rfl, rfl⟩⟩, (fun g hg => by cases hg), Below.refl _ _⟩)⟩
  case round =>
    obtain ⟨z, rfl, hz1, hz2, HI⟩ := hrel
    obtain ⟨q, d, rfl, _⟩ := HI.out.hd.cells
    obtain ⟨l, hl⟩ : ∃ l, l = (L.drop (z + 1).toNat).reverse.length := ⟨_, rfl⟩
    have HL : Hid (l = (L.drop (z + 1).toNat).reverse.length ∧ TuI w wr (L.drop (z + 1).toNat).reverse (.slice q l d)) := Lib.hid ⟨hl, by rw [hl]; exact HI.out⟩
    have hlv : l = n - (z + 1).toNat := by rw [hl, List.length_reverse, List.length_drop]; have := HV.out.1; omega
    rw [← hl]
    clear hl HI
    by_cases hz : 0 ≤ z
    · obtain ⟨i, rfl⟩ : ∃ i : Nat, z = (i : Int) := ⟨z.toNat, by omega⟩
      have hin : i < n := by omega
      obtain ⟨⟨x, y⟩, hx⟩ : ∃ u, L[i]? = some u := ⟨L[i]'(by have := HV.out.1; omega), List.getElem?_eq_getElem _⟩
      obtain ⟨q0, q1⟩ := prsV_get hx
      obtain ⟨g, hg, hgc⟩ := held_cell (HV.out.2.below HL.out.2.bel) (by omega)
      subst hg
      have k0 : wr.cell? ⟨g, i * 2, none⟩ = some (.int .i64 (x : Int)) := hgc _ _ q0
      have k1 : wr.cell? ⟨g, i * 2 + 1, none⟩ = some (.int .i64 (y : Int)) := hgc _ _ q1
      have hini : (i : Int) < (n : Int) := by omega
      have hi0 : (0 : Int) ≤ (i : Int) := by omega
      have HH : Hid (Held wr 29 2 (.slice q l d) l (prsV (L.drop ((i : Int) + 1).toNat).reverse)) := Lib.hid (by have := HL.out.2.hd; rwa [← HL.out.1] at this)
      have HD : Hid ((L.drop ((i : Int) - 1 + 1).toNat).reverse = (L.drop ((i : Int) + 1).toNat).reverse ++ [(x, y)]) := Lib.hid (by
        obtain ⟨hlt, he⟩ := List.getElem?_eq_some_iff.mp hx
        rw [show ((i : Int) - 1 + 1).toNat = i by omega, show ((i : Int) + 1).toNat = i + 1 by omega, List.drop_eq_getElem_cons hlt, List.reverse_cons, he])
      have HONE : Hid (∀ u ∈ [Value.int .i64 (x : Int), .int .i64 (y : Int)], u.oneCell' = true) := Lib.hid (fun u hu => by
        rcases List.mem_cons.1 hu with rfl | hu
        · rfl
        · rw [List.mem_singleton.1 hu]; rfl)
      have hz3 : (l + 1) * 16 ≤ 140737488355328 := by omega
      have hz4 : l + 1 ≤ 140737488355328 := by omega
      clear hx q0 q1 hgc hlv hz hz1 hz2
      go_wp2_with (at_builtin; refine wpList_grew (v := .slice q l d) (l := prsV (L.drop ((i : Int) + 1).toNat).reverse) rfl _ _ rfl Tryd.underlying31 (.agg #[.int .i64 0, .int .i64 0]) 2 info_spanP rfl (by decide) [.int .i64 (x : Int), .int .i64 (y : Int)] 1 (by simp [Act.eval]) (by simp [Act.eval]) HH.out rfl rfl (by decide) HONE.out hz3 hz4 ?_; intro v5 w5 hg5; have HG5 := Lib.hid hg5; clear hg5)
      refine ⟨⟨(i : Int) - 1, rfl, by omega, by omega, Lib.hid (by rw [HD.out]; exact HL.out.2.push (by rw [← HL.out.1]; exact HG5.out))⟩, ?_⟩
      show ((i : Int) - 1 + 1).toNat < ((i : Int) + 1).toNat
      omega
    · obtain rfl : z = -1 := by omega
      have HE : Hid (l = n ∧ TuI w wr L.reverse (.slice q l d)) := Lib.hid ⟨by omega, HL.out.2⟩
      clear hz hz1 hz2 hlv
      go_wp2_with fail
      go_ret
      have h := HE.out.2
      have hl := HE.out.1
      subst hl
      exact ⟨⟨q, d, rfl, by have := h.hd; rwa [List.length_reverse, ← HV.out.1] at this, h.ow⟩, h.bel⟩
end Go.Proofs.YteknpnanmbfhfaaDoor
