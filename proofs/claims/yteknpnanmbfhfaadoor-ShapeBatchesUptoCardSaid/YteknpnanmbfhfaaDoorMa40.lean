/- The law 8's book: holds, holdsNodes, walked. -/
import Derived.Test.YteknpnanmbfhfaaDoorMa39
namespace Go.Proofs.YteknpnanmbfhfaaDoor.Bk8
open Go.RowKit Go.Scr
set_option linter.unusedVariables false
/-- the book behind a call: what was coloured keeps its colour, what does not lie in the book's own rows stays -/
def HoldP (W0 w : World) (b : Nat) (col : Nat → Nat) (hs : List (Value × List (Nat × Nat))) (ws : List Value) (hn : List (Value × List (Nat × Nat))) (wn : List Value) (w' : World) : Prop :=
  ∃ col' V', BookI W0 w' b col' V' 0 hs ws [] 0 hn wn [] ∧ w.heap.size ≤ w'.heap.size ∧ ∀ g, g < w.heap.size → col' g = col g ∧ ((col g = 0 ∨ 8 ≤ col g) → w'.heap[g]? = w.heap[g]?)
theorem BookI.two {W0 w w1 w2 : World} {b : Nat} {col : Nat → Nat} {V : Nat → Value} {is js : Nat} {hs hn : List (Value × List (Nat × Nat))} {ws wn : List Value} {gs gn : List (Value × Nat)} (h : BookI W0 w b col V is hs ws gs js hn wn gn) (b1 : Below w.heap.size w w1) (b2 : Below w1.heap.size w1 w2) {v1 v2 : Value} (c1 c2 : Nat)
    (hv1 : ∀ g, v1.ownBlock = some g → w.heap.size ≤ g ∧ g < w1.heap.size) (hv2 : ∀ g, v2.ownBlock = some g → w1.heap.size ≤ g ∧ g < w2.heap.size) :
    ∃ col', BookI W0 w2 b col' V is hs ws gs js hn wn gn ∧ (∀ g, v1.ownBlock = some g → col' g = c1) ∧ (∀ g, v2.ownBlock = some g → col' g = c2) ∧ ∀ g, g < w.heap.size → col' g = col g := by
  obtain ⟨k1, k2⟩ := h.dye b1 (v := v1) c1 hv1
  obtain ⟨m1, m2⟩ := k1.dye b2 (v := v2) c2 hv2
  have := b1.size
  exact ⟨_, m1, fun g hg => (m2 g (hv1 g hg).2).trans (dyeV_at hg), fun g hg => dyeV_at hg, fun g hg => (m2 g (by omega)).trans (k2 g hg)⟩
/-- the book in a loop: what was laid between the book and the loop stays -/
structure LpI (W0 wL w : World) (b : Nat) (col : Nat → Nat) (V : Nat → Value) (hs : List (Value × List (Nat × Nat))) (ws : List Value) (hn : List (Value × List (Nat × Nat))) (wn : List Value) : Prop where
  bk : BookI W0 w b col V 0 hs ws [] 0 hn wn []
  sz : wL.heap.size ≤ w.heap.size
  kp : ∀ g, b < g → g < wL.heap.size → w.heap[g]? = wL.heap[g]? ∧ col g = 0
theorem LpI.later {W0 wL w w' : World} {b : Nat} {col : Nat → Nat} {V : Nat → Value} {hs hn : List (Value × List (Nat × Nat))} {ws wn : List Value} (h : LpI W0 wL w b col V hs ws hn wn) (hb : Below w.heap.size w w') : LpI W0 wL w' b col V hs ws hn wn :=
  ⟨h.bk.below hb, Nat.le_trans h.sz hb.size, fun g h1 h2 => ⟨(hb.block g (Nat.lt_of_lt_of_le h2 h.sz)).trans (h.kp g h1 h2).1, (h.kp g h1 h2).2⟩⟩
theorem LpI.two {W0 wL w w1 w2 : World} {b : Nat} {col : Nat → Nat} {V : Nat → Value} {hs hn : List (Value × List (Nat × Nat))} {ws wn : List Value} (h : LpI W0 wL w b col V hs ws hn wn) (b1 : Below w.heap.size w w1) (b2 : Below w1.heap.size w1 w2) {v1 v2 : Value} (c1 c2 : Nat)
    (hv1 : ∀ g, v1.ownBlock = some g → w.heap.size ≤ g ∧ g < w1.heap.size) (hv2 : ∀ g, v2.ownBlock = some g → w1.heap.size ≤ g ∧ g < w2.heap.size) :
    ∃ col', LpI W0 wL w2 b col' V hs ws hn wn ∧ (∀ g, v1.ownBlock = some g → col' g = c1) ∧ (∀ g, v2.ownBlock = some g → col' g = c2) ∧ ∀ g, g < w.heap.size → col' g = col g := by
  obtain ⟨col', k1, k2, k3, k4⟩ := h.bk.two b1 b2 c1 c2 hv1 hv2
  have hb := below_onS b1 b2 b1.size
  exact ⟨col', ⟨k1, Nat.le_trans h.sz hb.size, fun g h1 h2 => ⟨(hb.block g (Nat.lt_of_lt_of_le h2 h.sz)).trans (h.kp g h1 h2).1, (k4 g (Nat.lt_of_lt_of_le h2 h.sz)).trans (h.kp g h1 h2).2⟩⟩, k2, k3, k4⟩
theorem LpI.held {W0 wL w w' : World} {b : Nat} {col : Nat → Nat} {V : Nat → Value} {hs hn hs' hn' : List (Value × List (Nat × Nat))} {ws wn ws' wn' : List Value} (h : LpI W0 wL w b col V hs ws hn wn) (hp : HoldP W0 w b col hs' ws' hn' wn' w') :
    ∃ col' V', LpI W0 wL w' b col' V' hs' ws' hn' wn' ∧ ∀ g, g < w.heap.size → col' g = col g ∧ ((col g = 0 ∨ 8 ≤ col g) → w'.heap[g]? = w.heap[g]?) := by
  obtain ⟨col', V', k1, k2, k3⟩ := hp
  refine ⟨col', V', ⟨k1, Nat.le_trans h.sz k2, fun g h1 h2 => ?_⟩, k3⟩
  obtain ⟨m1, m2⟩ := h.kp g h1 h2
  obtain ⟨n1, n2⟩ := k3 g (Nat.lt_of_lt_of_le h2 h.sz)
  exact ⟨(n2 (.inl m2)).trans m1, n1.trans m2⟩
theorem book_new (W0 : World) : BookI W0 (W0.alloc (.cells #[.slice none 0 0, .slice none 0 0, .slice none 0 0, .slice none 0 0, .slice none 0 0, .slice none 0 0] 27)) W0.heap.size (fun g => if g = W0.heap.size then 1 else 0) (fun _ => .slice none 0 0) 0 [] [] [] 0 [] [] [] := by
  have hsz : (W0.alloc (.cells #[.slice none 0 0, .slice none 0 0, .slice none 0 0, .slice none 0 0, .slice none 0 0, .slice none 0 0] 27)).heap.size = W0.heap.size + 1 := by simp
  refine ⟨⟨heap_alloc_new W0 _, fun k hk => ?_, if_pos rfl, (fun k hk g hg => by cases hg), fun g hg => ?_⟩, ⟨(fun i p _ hp => by simp at hp), (fun i v p hv => by simp at hv), (fun p hp => by cases hp), (fun q p hp => by simp at hp), Nat.zero_le _, Nat.zero_le _⟩, ⟨(fun i p _ hp => by simp at hp), (fun i v p hv => by simp at hv), (fun p hp => by cases hp), (fun q p hp => by simp at hp), Nat.zero_le _, Nat.zero_le _⟩, (Below.refl _ _).alloc (Nat.le_refl _) _⟩
  · have e : bkR [] [] [] [] [] [] k = [] := by
      match k, hk with
      | 0, _ => rfl
      | 1, _ => rfl
      | 2, _ => rfl
      | 3, _ => rfl
      | 4, _ => rfl
      | 5, _ => rfl
    rw [e]
    exact ⟨rfl, .inl ⟨rfl, rfl⟩⟩
  · have : g = W0.heap.size := by
      by_cases e : g = W0.heap.size
      · exact e
      · exact absurd (if_neg e) hg
    rw [hsz]
    omega
theorem LpI.start {W0 w1 wL : World} {b : Nat} (hb : b = W0.heap.size) (hw : w1 = W0.alloc (.cells #[.slice none 0 0, .slice none 0 0, .slice none 0 0, .slice none 0 0, .slice none 0 0, .slice none 0 0] 27)) (hbl : Below w1.heap.size w1 wL) :
    ∃ col V, LpI W0 wL wL b col V [] [] [] [] := by
  subst hb hw
  exact ⟨_, _, (book_new W0).below hbl, Nat.le_refl _, fun g h1 _ => ⟨rfl, if_neg (by omega)⟩⟩
/-- a list of a known length that came out new, and an error -/
def OutQ (w : World) (T : Nat) (E : Int) (L : List (Nat × Nat)) (n : Nat) (r : Ending) (w' : World) : Prop :=
  (∃ p c, r = .returned (.tuple #[.slice p n c, .int .i64 E]) ∧ Held w' T 2 (.slice p n c) n (prsV L) ∧ ∀ g, (Value.slice p n c).ownBlock = some g → w.heap.size ≤ g) ∧ Below w.heap.size w w'
theorem outQ {w : World} {T n : Nat} {E : Int} {L : List (Nat × Nat)} (hn : n = L.length) {r : Ending} {w' : World} (h : OutP w T E L r w') : OutQ w T E L n r w' := by subst hn; exact h
theorem one_slice (p : Option Addr) (n c : Nat) : ∀ u ∈ [Value.slice p n c], u.oneCell' = true := by
  intro u hu; simp only [List.mem_singleton] at hu; rw [hu]; rfl
set_option maxRecDepth 100000 in
set_option maxHeartbeats 2000000 in
theorem holdsS_any {W0 w : World} {b : Nat} {col : Nat → Nat} {V : Nat → Value} {l ol : List (Value × List (Nat × Nat))} {wl owl : List Value} {p q : Option Addr} {n c d : Nat} {A : List (Nat × Nat)} (h : BookI W0 w b col V 0 l wl [] 0 ol owl []) (hwl : wl.length = l.length) (hl : l.length ≤ 800)
    (hn : n = A.length) (hA : A.length ≤ 1099511627776) (hx : Held w 29 2 (.slice p n c) n (prsV A)) (hcx : ∀ g, (Value.slice p n c).ownBlock = some g → col g = 16 + l.length) (hy : Held w 29 2 (.slice q n d) n (prsV A)) (hcy : ∀ g, (Value.slice q n d).ownBlock = some g → col g = 8) :
    Calls Tryd.prog 23 #[.pointer (some ⟨b, 0, none⟩), .slice p n c, .slice q n d] w fun r w' => r = .returned (.tuple #[]) ∧ HoldP W0 w b col (l ++ [(Value.slice p n c, A)]) (wl ++ [Value.slice q n d]) ol owl w' := by
  obtain ⟨nf, hnf⟩ : ∃ x, x = l.length := ⟨_, rfl⟩
  have c0 := h.st.cell (k := 0) (by omega)
  have hF : Held w 31 1 (V 0) nf (l.map (·.1)) := by
    have := h.st.row 0 (by omega)
    rw [show (bkR l wl [] ol owl [] 0).length = nf by rw [hnf]; exact List.length_map _] at this
    exact this
  have HF := Lib.hid hF
  have H := Lib.hid h
  have HX : Hid (n = A.length ∧ A.length ≤ 1099511627776 ∧ Held w 29 2 (.slice p n c) n (prsV A) ∧ (∀ g, (Value.slice p n c).ownBlock = some g → col g = 16 + l.length) ∧ Held w 29 2 (.slice q n d) n (prsV A) ∧ ∀ g, (Value.slice q n d).ownBlock = some g → col g = 8) := Lib.hid ⟨hn, hA, hx, hcx, hy, hcy⟩
  have HN : Hid (wl.length = l.length ∧ nf = l.length ∧ l.length ≤ 800) := Lib.hid ⟨hwl, hnf, hl⟩
  have hl1 : (nf + 1) * 24 ≤ 140737488355328 := by omega
  have hl2 : nf + 1 ≤ 140737488355328 := by omega
  clear h hwl hl hn hA hx hcx hy hcy hnf hF
  go_enter Tryd.func23, Tryd.ntmps23
  go_upto_region 1 with (at_builtin; refine wpList_grew rfl _ _ rfl Tryd.underlying24 (.slice none 0 0) 1 info_listS rfl (by decide) [Value.slice p n c] 1 rfl rfl HF.out rfl rfl (by decide) (one_slice _ _ _) hl1 hl2 ?_; intro v1 w1 hg1; obtain ⟨hc1, hf1⟩ := H.out.st.box_grew (k := 0) (by omega) (grown_alloc hg1.grown) (j := 0) (by omega); obtain ⟨p1, cp1, rfl, _⟩ := hg1.held.cells; have HG1 := Lib.hid hg1; clear hg1)
  obtain ⟨k1, k2⟩ := H.out.addLS (x := .slice p n c) (v' := .slice p1 (nf + 1) cp1) (A := A) (by rw [← HN.out.2.1]; exact HG1.out.held) (grown_alloc HG1.out.grown) HG1.out.at' (by rw [← HX.out.1]; exact HX.out.2.2.1) HX.out.2.1 HX.out.2.2.2.1 (by have := HN.out; omega) (Nat.le_of_eq HN.out.1)
  have hsz : w.heap.size ≤ w1.heap.size := (grown_alloc HG1.out.grown).size
  obtain ⟨w2, hw2⟩ : ∃ x, x = w1.setCell ⟨b, 0, none⟩ (.slice p1 (nf + 1) cp1) := ⟨_, rfl⟩
  have hsz2 : w.heap.size ≤ w2.heap.size := by rw [hw2]; simpa [World.setCell] using hsz
  rw [← hw2] at k1 k2 ⊢
  obtain ⟨col1, hcol1⟩ : ∃ x, x = dyeV col (.slice p1 (nf + 1) cp1) (2 + 0) := ⟨_, rfl⟩
  obtain ⟨V1, hV1⟩ : ∃ x, x = put1 V 0 (.slice p1 (nf + 1) cp1) := ⟨_, rfl⟩
  rw [← hcol1, ← hV1] at k1
  rw [← hcol1] at k2
  have c1 := k1.st.cell (k := 1) (by omega)
  have hW : Held w2 31 1 (V1 1) nf wl := by
    have := k1.st.row 1 (by omega)
    rw [show (bkR (l ++ [(Value.slice p n c, A)]) wl [] ol owl [] 1).length = nf from HN.out.1.trans HN.out.2.1.symm] at this
    exact this
  have HW := Lib.hid hW
  have K1 := Lib.hid k1
  have K2 : Hid (w.heap.size ≤ w2.heap.size ∧ ∀ g, g < w.heap.size → col1 g = col g ∧ ((col g = 0 ∨ 8 ≤ col g) → w2.heap[g]? = w.heap[g]?)) := Lib.hid ⟨hsz2, k2⟩
  clear hsz hsz2 hw2 hcol1 hV1 hc1 hf1 HG1 k1 k2 hW c0
  go_wp2_with (at_builtin; refine wpList_grew rfl _ _ rfl Tryd.underlying24 (.slice none 0 0) 1 info_listS rfl (by decide) [Value.slice q n d] 1 rfl rfl HW.out rfl rfl (by decide) (one_slice _ _ _) hl1 hl2 ?_; intro v3 w3 hg3; obtain ⟨hc3, hf3⟩ := K1.out.st.box_grew (k := 1) (by omega) (grown_alloc hg3.grown) (j := 1) (by omega); obtain ⟨p3, cp3, rfl, _⟩ := hg3.held.cells; have HG3 := Lib.hid hg3; clear hg3)
  go_end0
  refine ⟨rfl, ?_⟩
  have hlen : (l ++ [(Value.slice p n c, A)])[wl.length]? = some (Value.slice p n c, A) := by rw [HN.out.1]; simp
  have hy2 : Held w2 29 2 (.slice q n d) A.length (prsV A) := by
    rw [← HX.out.1]
    exact HX.out.2.2.2.2.1.keep fun g hg => (K2.out.2 g (HX.out.2.2.2.2.1.lt hg)).2 (by have := HX.out.2.2.2.2.2 g hg; omega)
  obtain ⟨m1, m2⟩ := K1.out.addWS (x := .slice q n d) (v' := .slice p3 (nf + 1) cp3) (p := (Value.slice p n c, A)) (by rw [HN.out.1, ← HN.out.2.1]; exact HG3.out.held) (grown_alloc HG3.out.grown) HG3.out.at' hlen hy2 (fun g hg => by
    have hlt := HX.out.2.2.2.2.1.lt hg
    rw [(K2.out.2 g hlt).1]
    exact HX.out.2.2.2.2.2 g hg)
  have hs3 : w2.heap.size ≤ (w3.setCell ⟨b, 1, none⟩ (.slice p3 (nf + 1) cp3)).heap.size := by simpa [World.setCell] using (grown_alloc HG3.out.grown).size
  refine ⟨_, _, m1, Nat.le_trans K2.out.1 hs3, fun g hg => ?_⟩
  have h1 := K2.out.2 g hg
  have h2 := m2 g (Nat.lt_of_lt_of_le hg K2.out.1)
  exact ⟨h2.1.trans h1.1, fun h8 => (h2.2 (by rw [h1.1]; exact h8)).trans (h1.2 h8)⟩
set_option maxRecDepth 100000 in
set_option maxHeartbeats 2000000 in
theorem holdsN_any {W0 w : World} {b : Nat} {col : Nat → Nat} {V : Nat → Value} {l ol : List (Value × List (Nat × Nat))} {wl owl : List Value} {p q : Option Addr} {n c d : Nat} {A : List (Nat × Nat)} (h : BookI W0 w b col V 0 ol owl [] 0 l wl []) (hwl : wl.length = l.length) (hl : l.length ≤ 800)
    (hn : n = A.length) (hA : A.length ≤ 1099511627776) (hx : Held w 72 2 (.slice p n c) n (prsV A)) (hcx : ∀ g, (Value.slice p n c).ownBlock = some g → col g = 1016 + l.length) (hy : Held w 72 2 (.slice q n d) n (prsV A)) (hcy : ∀ g, (Value.slice q n d).ownBlock = some g → col g = 8) :
    Calls Tryd.prog 14 #[.pointer (some ⟨b, 0, none⟩), .slice p n c, .slice q n d] w fun r w' => r = .returned (.tuple #[]) ∧ HoldP W0 w b col ol owl (l ++ [(Value.slice p n c, A)]) (wl ++ [Value.slice q n d]) w' := by
  obtain ⟨nf, hnf⟩ : ∃ x, x = l.length := ⟨_, rfl⟩
  have c0 := h.st.cell (k := 3) (by omega)
  have hF : Held w 32 1 (V 3) nf (l.map (·.1)) := by
    have := h.st.row 3 (by omega)
    rw [show (bkR ol owl [] l wl [] 3).length = nf by rw [hnf]; exact List.length_map _] at this
    exact this
  have HF := Lib.hid hF
  have H := Lib.hid h
  have HX : Hid (n = A.length ∧ A.length ≤ 1099511627776 ∧ Held w 72 2 (.slice p n c) n (prsV A) ∧ (∀ g, (Value.slice p n c).ownBlock = some g → col g = 1016 + l.length) ∧ Held w 72 2 (.slice q n d) n (prsV A) ∧ ∀ g, (Value.slice q n d).ownBlock = some g → col g = 8) := Lib.hid ⟨hn, hA, hx, hcx, hy, hcy⟩
  have HN : Hid (wl.length = l.length ∧ nf = l.length ∧ l.length ≤ 800) := Lib.hid ⟨hwl, hnf, hl⟩
  have hl1 : (nf + 1) * 24 ≤ 140737488355328 := by omega
  have hl2 : nf + 1 ≤ 140737488355328 := by omega
  clear h hwl hl hn hA hx hcx hy hcy hnf hF
  go_enter Tryd.func14, Tryd.ntmps14
  go_upto_region 1 with (at_builtin; refine wpList_grew rfl _ _ rfl Tryd.underlying25 (.slice none 0 0) 1 info_listN rfl (by decide) [Value.slice p n c] 1 rfl rfl HF.out rfl rfl (by decide) (one_slice _ _ _) hl1 hl2 ?_; intro v1 w1 hg1; obtain ⟨hc1, hf1⟩ := H.out.st.box_grew (k := 3) (by omega) (grown_alloc hg1.grown) (j := 3) (by omega); obtain ⟨p1, cp1, rfl, _⟩ := hg1.held.cells; have HG1 := Lib.hid hg1; clear hg1)
  obtain ⟨k1, k2⟩ := H.out.addLN (x := .slice p n c) (v' := .slice p1 (nf + 1) cp1) (A := A) (by rw [← HN.out.2.1]; exact HG1.out.held) (grown_alloc HG1.out.grown) HG1.out.at' (by rw [← HX.out.1]; exact HX.out.2.2.1) HX.out.2.1 HX.out.2.2.2.1 (by have := HN.out; omega) (Nat.le_of_eq HN.out.1)
  have hsz : w.heap.size ≤ w1.heap.size := (grown_alloc HG1.out.grown).size
  obtain ⟨w2, hw2⟩ : ∃ x, x = w1.setCell ⟨b, 3, none⟩ (.slice p1 (nf + 1) cp1) := ⟨_, rfl⟩
  have hsz2 : w.heap.size ≤ w2.heap.size := by rw [hw2]; simpa [World.setCell] using hsz
  rw [← hw2] at k1 k2 ⊢
  obtain ⟨col1, hcol1⟩ : ∃ x, x = dyeV col (.slice p1 (nf + 1) cp1) (2 + 3) := ⟨_, rfl⟩
  obtain ⟨V1, hV1⟩ : ∃ x, x = put1 V 3 (.slice p1 (nf + 1) cp1) := ⟨_, rfl⟩
  rw [← hcol1, ← hV1] at k1
  rw [← hcol1] at k2
  have c1 := k1.st.cell (k := 4) (by omega)
  have hW : Held w2 32 1 (V1 4) nf wl := by
    have := k1.st.row 4 (by omega)
    rw [show (bkR ol owl [] (l ++ [(Value.slice p n c, A)]) wl [] 4).length = nf from HN.out.1.trans HN.out.2.1.symm] at this
    exact this
  have HW := Lib.hid hW
  have K1 := Lib.hid k1
  have K2 : Hid (w.heap.size ≤ w2.heap.size ∧ ∀ g, g < w.heap.size → col1 g = col g ∧ ((col g = 0 ∨ 8 ≤ col g) → w2.heap[g]? = w.heap[g]?)) := Lib.hid ⟨hsz2, k2⟩
  clear hsz hsz2 hw2 hcol1 hV1 hc1 hf1 HG1 k1 k2 hW c0
  go_wp2_with (at_builtin; refine wpList_grew rfl _ _ rfl Tryd.underlying25 (.slice none 0 0) 1 info_listN rfl (by decide) [Value.slice q n d] 1 rfl rfl HW.out rfl rfl (by decide) (one_slice _ _ _) hl1 hl2 ?_; intro v3 w3 hg3; obtain ⟨hc3, hf3⟩ := K1.out.st.box_grew (k := 4) (by omega) (grown_alloc hg3.grown) (j := 4) (by omega); obtain ⟨p3, cp3, rfl, _⟩ := hg3.held.cells; have HG3 := Lib.hid hg3; clear hg3)
  go_end0
  refine ⟨rfl, ?_⟩
  have hlen : (l ++ [(Value.slice p n c, A)])[wl.length]? = some (Value.slice p n c, A) := by rw [HN.out.1]; simp
  have hy2 : Held w2 72 2 (.slice q n d) A.length (prsV A) := by
    rw [← HX.out.1]
    exact HX.out.2.2.2.2.1.keep fun g hg => (K2.out.2 g (HX.out.2.2.2.2.1.lt hg)).2 (by have := HX.out.2.2.2.2.2 g hg; omega)
  obtain ⟨m1, m2⟩ := K1.out.addWN (x := .slice q n d) (v' := .slice p3 (nf + 1) cp3) (p := (Value.slice p n c, A)) (by rw [HN.out.1, ← HN.out.2.1]; exact HG3.out.held) (grown_alloc HG3.out.grown) HG3.out.at' hlen hy2 (fun g hg => by
    have hlt := HX.out.2.2.2.2.1.lt hg
    rw [(K2.out.2 g hlt).1]
    exact HX.out.2.2.2.2.2 g hg)
  have hs3 : w2.heap.size ≤ (w3.setCell ⟨b, 4, none⟩ (.slice p3 (nf + 1) cp3)).heap.size := by simpa [World.setCell] using (grown_alloc HG3.out.grown).size
  refine ⟨_, _, m1, Nat.le_trans K2.out.1 hs3, fun g hg => ?_⟩
  have h1 := K2.out.2 g hg
  have h2 := m2 g (Nat.lt_of_lt_of_le hg K2.out.1)
  exact ⟨h2.1.trans h1.1, fun h8 => (h2.2 (by rw [h1.1]; exact h8)).trans (h1.2 h8)⟩
end Go.Proofs.YteknpnanmbfhfaaDoor.Bk8
