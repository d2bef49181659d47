/- What FrontRanges asks: each call's answer in one form, alike for the program and for the document. -/
import Derived.Test.YtdbghgpohdijfaaDoorMa67
import Derived.Test.YtdbghgpohdijfaaDoorMa66
import Derived.Test.YtdbghgpohdijfaaDoorMa40
import Derived.Test.YtdbghgpohdijfaaDoorMa68
import Derived.Test.YtdbghgpohdijfaaDoorMa13
import Derived.Lib.SmallJoins
import Derived.Deep.CutBlock
import Derived.Deep.RegionHeld3
namespace Go.Proofs.YtdbghgpohdijfaaDoor
open Go.RowKit Go.Scr
set_option linter.unusedVariables false
/-- a range and an error come out, the list is new -/
def RgQ (w : World) (b e : Int) (K : List ByteArray) (E : Int) (o : Ending) (w' : World) : Prop := ∃ p c, o = .returned (.tuple #[.agg #[.int .i64 b, .int .i64 e, .slice p K.length c], .int .i64 E]) ∧ Hid (LfI w w' (.slice p K.length c) K.length K)
theorem RgP.q {w : World} {b e : Int} {K : List ByteArray} {E : Int} {o : Ending} {w' : World} (h : RgP w b e K E o w') : RgQ w b e K E o w' := by
  obtain ⟨u, rfl, h⟩ := h
  obtain ⟨p, c, rfl, _⟩ := h.h.cells
  exact ⟨p, c, rfl, Lib.hid h⟩
/-- six calls, each with its one answer -/
structure Six (W : World) (f ab ae bb be : Int) (L A B : List ByteArray) (b1 e1 b2 e2 : Int) (K1 K2 : List ByteArray) (E1 E2 E3 : Int) (t3 : ByteArray) : Prop where
  cm : ∀ w v, Below W.heap.size W w → Txts w v L → Calls Tryd.prog 31 #[.int .i64 f, v] w (RgQ w b1 e1 K1 E1)
  cd : ∀ w v, Txts w v L → Calls Tryd.prog 32 #[.int .i64 f, v] w (RgQ w b1 e1 K1 E1)
  jn : ∀ w va vb, Below W.heap.size W w → Txts w va A → Txts w vb B → Calls Tryd.prog 33 #[.agg #[.int .i64 ab, .int .i64 ae, va], .agg #[.int .i64 bb, .int .i64 be, vb]] w (RgQ w b2 e2 K2 E2)
  jd : ∀ w va vb, Txts w va A → Txts w vb B → Calls Tryd.prog 34 #[.agg #[.int .i64 ab, .int .i64 ae, va], .agg #[.int .i64 bb, .int .i64 be, vb]] w (RgQ w b2 e2 K2 E2)
  rt : ∀ w va, Below W.heap.size W w → Txts w va A → Calls Tryd.prog 35 #[.agg #[.int .i64 ab, .int .i64 ae, va]] w fun o w' => o = .returned (.tuple #[.string t3, .int .i64 E3]) ∧ Below w.heap.size w w'
  rd : ∀ w va, Txts w va A → Calls Tryd.prog 36 #[.agg #[.int .i64 ab, .int .i64 ae, va]] w fun o w' => o = .returned (.tuple #[.string t3, .int .i64 E3]) ∧ Below w.heap.size w w'
  l1 : K1.length ≤ 80
  l2 : K2.length ≤ 80
theorem six_any {W : World} {C : Nat} (hB : Bas W C) (hC : C ≤ W.heap.size) (f ab ae bb be : Int) (L A B : List ByteArray) : ∃ b1 e1 b2 e2 K1 K2 E1 E2 E3 t3, Six W f ab ae bb be L A B b1 e1 b2 e2 K1 K2 E1 E2 E3 t3 := by
  have hW : ∀ w, Below W.heap.size W w → Bas w C := fun w hb => hB.below (hb.mono hC)
  obtain ⟨b1, e1, K1, h1⟩ : ∃ b e K, ((cmE f L ≠ 0 ∧ b = 0 ∧ e = 0 ∧ K = []) ∨ (cmE f L = 0 ∧ b = f ∧ e = f + L.length ∧ K = cmT f.toNat L)) := by
    by_cases h : cmE f L = 0
    · exact ⟨_, _, _, .inr ⟨h, rfl, rfl, rfl⟩⟩
    · exact ⟨_, _, _, .inl ⟨h, rfl, rfl, rfl⟩⟩
  obtain ⟨b2, e2, K2, h2⟩ : ∃ b e K, ((jnE ab ae A bb be B ≠ 0 ∧ b = 0 ∧ e = 0 ∧ K = []) ∨ (jnE ab ae A bb be B = 0 ∧ b = ab ∧ e = be ∧ K = jnT ab.toNat ae.toNat be.toNat A B)) := by
    by_cases h : jnE ab ae A bb be B = 0
    · exact ⟨_, _, _, .inr ⟨h, rfl, rfl, rfl⟩⟩
    · exact ⟨_, _, _, .inl ⟨h, rfl, rfl, rfl⟩⟩
  have u1 : ∀ (w : World) (o : Ending) (w' : World), (∃ (b e : Int) (K : List ByteArray), ((cmE f L ≠ 0 ∧ b = 0 ∧ e = 0 ∧ K = []) ∨ (cmE f L = 0 ∧ b = f ∧ e = f + L.length ∧ K = cmT f.toNat L)) ∧ RgP w b e K (cmE f L) o w') → RgQ w b1 e1 K1 (cmE f L) o w' := fun w o w' ⟨b, e, K, h, hp⟩ => by
    have : b = b1 ∧ e = e1 ∧ K = K1 := by
      rcases h with ⟨h0, rfl, rfl, rfl⟩ | ⟨h0, rfl, rfl, rfl⟩ <;> rcases h1 with ⟨g0, rfl, rfl, rfl⟩ | ⟨g0, rfl, rfl, rfl⟩ <;> first | exact ⟨rfl, rfl, rfl⟩ | exact absurd h0 g0 | exact absurd g0 h0
    obtain ⟨rfl, rfl, rfl⟩ := this
    exact hp.q
  have u2 : ∀ (w : World) (o : Ending) (w' : World), (∃ (b e : Int) (K : List ByteArray), ((jnE ab ae A bb be B ≠ 0 ∧ b = 0 ∧ e = 0 ∧ K = []) ∨ (jnE ab ae A bb be B = 0 ∧ b = ab ∧ e = be ∧ K = jnT ab.toNat ae.toNat be.toNat A B)) ∧ RgP w b e K (jnE ab ae A bb be B) o w') → RgQ w b2 e2 K2 (jnE ab ae A bb be B) o w' := fun w o w' ⟨b, e, K, h, hp⟩ => by
    have : b = b2 ∧ e = e2 ∧ K = K2 := by
      rcases h with ⟨h0, rfl, rfl, rfl⟩ | ⟨h0, rfl, rfl, rfl⟩ <;> rcases h2 with ⟨g0, rfl, rfl, rfl⟩ | ⟨g0, rfl, rfl, rfl⟩ <;> first | exact ⟨rfl, rfl, rfl⟩ | exact absurd h0 g0 | exact absurd g0 h0
    obtain ⟨rfl, rfl, rfl⟩ := this
    exact hp.q
  refine ⟨b1, e1, b2, e2, K1, K2, cmE f L, jnE ab ae A bb be B, rtE ab ae A, rtT ab ae A, ⟨fun w v hb hv => (fcompactW_any (hW w hb) hv).mono (u1 w), fun w v hv => (compact5_any hv).mono (u1 w), fun w va vb hb h3 h4 => (fjoinW_any (hW w hb) h3 h4).mono (u2 w), fun w va vb h3 h4 => (join5_any h3 h4).mono (u2 w), fun w va hb hv => frootofW_any (hW w hb) hv, fun w va hv => rootof5_any hv, ?_, ?_⟩⟩
  · rcases h1 with ⟨_, _, _, rfl⟩ | ⟨h0, _, _, rfl⟩
    · simp
    · obtain ⟨n, rfl, h3, h4, _⟩ := cmE_ok h0
      unfold cmT nodesA
      rw [List.length_map, rowA_length]
      exact cutA_80 (by simpa using h4)
  · rcases h2 with ⟨_, _, _, rfl⟩ | ⟨h0, _, _, rfl⟩
    · simp
    · obtain ⟨n, m, k, rfl, rfl, rfl, rfl, _, _, h5, _⟩ := jnE_ok h0
      unfold jnT nodesA
      rw [List.length_map, rowA_length]
      exact cutA_80 (by simpa using h5)
theorem LfI.tx {w w' : World} {v : Value} {n : Nat} {K : List ByteArray} (h : LfI w w' v n K) (hl : K.length ≤ 4194304) : Txts w' v K := by
  have hn : n = K.length := by have := h.h.1; simpa using this.symm
  subst hn
  obtain ⟨p, c, h1, h2, h3⟩ := txts_held h.h rfl
  exact ⟨p, c, h1, h2, by omega, h3⟩
theorem sameRange_yes {w : World} {b e : Int} {v v' : Value} {K : List ByteArray} (hv : Txts w v K) (hv' : Txts w v' K) (hl : K.length ≤ 80) :
    Calls Tryd.prog 37 #[.agg #[.int .i64 b, .int .i64 e, v], .agg #[.int .i64 b, .int .i64 e, v']] w fun o w' => o = .returned (.bool true) ∧ Below w.heap.size w w' := by
  have h := sameRange_any (b := b) (b' := b) (e := e) (e' := e) hv hv' (by omega) (by omega)
  have hs : srB K K b b e e = true := by unfold srB; simp
  rw [hs] at h
  exact h
/-- a range's box -/
def RBx (w : World) (x : Nat) (b e : Int) (v : Value) : Prop := w.heap[x]? = some (.cells #[.int .i64 b, .int .i64 e, v] 68 (0, 0))
theorem RBx.lt {w : World} {x : Nat} {b e : Int} {v : Value} (h : RBx w x b e v) : x < w.heap.size := blk_lt h
theorem RBx.below {w w' : World} {x : Nat} {b e : Int} {v : Value} (h : RBx w x b e v) (hb : Below w.heap.size w w') : RBx w' x b e v := blk_below h hb (blk_lt h)
theorem RBx.to {w w' : World} {x : Nat} {b e : Int} {v : Value} (h : RBx w x b e v) (hb : w'.heap[x]? = w.heap[x]?) : RBx w' x b e v := hb.trans h
theorem RBx.c {w : World} {x : Nat} {b e : Int} {v : Value} (h : RBx w x b e v) : w.cell? ⟨x, 0, none⟩ = some (.int .i64 b) ∧ w.cell? ⟨x, 1, none⟩ = some (.int .i64 e) ∧ w.cell? ⟨x, 2, none⟩ = some v := ⟨cellB h rfl, cellB h rfl, cellB h rfl⟩
theorem box_new (w : World) (b e : Int) (v : Value) : ∃ wa x, w.alloc (.cells #[.int .i64 b, .int .i64 e, v] 68) = wa ∧ w.heap.size = x ∧ Hid (RBx wa x b e v) ∧ Hid (Below w.heap.size w wa) :=
  ⟨_, _, rfl, rfl, Lib.hid (heap_alloc_new w _), Lib.hid ((Below.refl _ _).alloc (Nat.le_refl _) _)⟩
theorem fill5_turned (L : List ByteArray) : L.reverse ++ (fill5 L 8).drop L.length = fill5 L.reverse 8 := by
  unfold fill5
  rw [List.drop_left]
/-- append(nil, texts): what the walk wants -/
theorem one_txt (L : List ByteArray) : ∀ u ∈ L.map Value.string, u.oneCell' = true := fun u hu => by
  obtain ⟨x, _, rfl⟩ := List.mem_map.mp hu
  rfl
theorem held_none0 (w : World) : Held w 9 1 (.slice none 0 0) 0 [] := ⟨rfl, .inl ⟨rfl, rfl⟩⟩
end Go.Proofs.YtdbghgpohdijfaaDoor
/- What stands between two turns of FrontRanges: the book above an older world. -/
namespace Go.Proofs.YtdbghgpohdijfaaDoor
open Go.RowKit Go.Scr Bk5
set_option linter.unusedVariables false
/-- the book, m lists taken -/
structure BI (W0 : World) (b m : Nat) (wr : World) (col : Nat → Nat) (V : Nat → Value) (fr : List (Value × List ByteArray)) (wl : List Value) : Prop where
  bk : BookI wr W0.heap.size b col V fr wl [] [] []
  fl : fr.length = m
  wll : wl.length = fr.length
  ln : ∀ p ∈ fr, p.2.length ≤ 1048576
  bl : Below W0.heap.size W0 wr
def BIx (W0 : World) (b m : Nat) (wr : World) : Prop := ∃ col V fr wl, BI W0 b m wr col V fr wl
theorem BI.below {W0 wr w' : World} {b m : Nat} {col : Nat → Nat} {V : Nat → Value} {fr : List (Value × List ByteArray)} {wl : List Value} (h : BI W0 b m wr col V fr wl) (hb : Below wr.heap.size wr w') : BI W0 b m w' col V fr wl :=
  ⟨h.bk.below hb, h.fl, h.wll, h.ln, below_from h.bl hb h.bl.size⟩
theorem BI.dye {W0 wr w' : World} {b m : Nat} {col : Nat → Nat} {V : Nat → Value} {fr : List (Value × List ByteArray)} {wl : List Value} (h : BI W0 b m wr col V fr wl) (hb : Below wr.heap.size wr w') (v : Value) (k : Nat) (hv : ∀ g, v.ownBlock = some g → wr.heap.size ≤ g ∧ g < w'.heap.size) :
    BI W0 b m w' (dyeV col v k) V fr wl ∧ ∀ g, g < wr.heap.size → dyeV col v k g = col g := by
  have h2 := h.below hb
  obtain ⟨d1, d2⟩ := h.bk.dye hb h.bl.size k hv
  exact ⟨⟨d1, h2.fl, h2.wll, h2.ln, h2.bl⟩, d2⟩
/-- a list that waits to be taken -/
structure PL (w : World) (col : Nat → Nat) (v : Value) (L : List ByteArray) (k : Nat) : Prop where
  he : Held w 9 1 v L.length (L.map Value.string)
  co : ∀ g, v.ownBlock = some g → col g = k
  ln : L.length ≤ 1048576
  k4 : 4 ≤ k
theorem PL.below {w w' : World} {col : Nat → Nat} {v : Value} {L : List ByteArray} {k : Nat} (h : PL w col v L k) (hb : Below w.heap.size w w') : PL w' col v L k := ⟨h.he.below hb, h.co, h.ln, h.k4⟩
theorem PL.recol {w : World} {col col' : Nat → Nat} {v : Value} {L : List ByteArray} {k : Nat} (h : PL w col v L k) (hc : ∀ g, g < w.heap.size → col' g = col g) : PL w col' v L k := ⟨h.he, fun g hg => (hc g (h.he.lt hg)).trans (h.co g hg), h.ln, h.k4⟩
theorem PL.only {w w' : World} {col col' : Nat → Nat} {v : Value} {L : List ByteArray} {k : Nat} (h : PL w col v L k) (ho : Only col (fun c => 1 ≤ c ∧ c < 4) w w') (hc : ∀ g, g < w.heap.size → col' g = col g) : PL w' col' v L k :=
  ⟨h.he.keep fun g hg => ho.block g (h.he.lt hg) (by have := h.co g hg; have := h.k4; omega), fun g hg => (hc g (h.he.lt hg)).trans (h.co g hg), h.ln, h.k4⟩
theorem BI.took {W0 wr w' : World} {b m : Nat} {col : Nat → Nat} {V : Nat → Value} {fr : List (Value × List ByteArray)} {wl : List Value} {v : Value} {L : List ByteArray} (h : BI W0 b m wr col V fr wl) (hl : L.length ≤ 1048576)
    (hk : Took wr w' W0.heap.size b col (fr ++ [(v, L)]) wl [] [] []) : ∃ col' V' wl', BI W0 b (m + 1) w' col' V' (fr ++ [(v, L)]) wl' ∧ Only col (fun c => 1 ≤ c ∧ c < 4) wr w' ∧ ∀ g, g < wr.heap.size → col' g = col g := by
  obtain ⟨col', V', x, k1, k2, k3⟩ := hk
  refine ⟨col', V', wl ++ [x], ⟨k1, by rw [List.length_append, h.fl]; rfl, by rw [List.length_append, List.length_append, h.wll]; rfl, fun p hp => ?_, ?_⟩, k2, k3⟩
  · rcases List.mem_append.mp hp with hp | hp
    · exact h.ln p hp
    · obtain rfl : p = (v, L) := by simpa using hp
      exact hl
  · have hb := k2.below (B := W0.heap.size) (by omega) (fun g' hne => (h.bk.st.lo g' hne).1) h.bl.size
    exact h.bl.trans hb
/-- two lists that came out wait; what came last has no colour -/
theorem BI.two {W0 w2 wa wb wc we : World} {b m : Nat} {col : Nat → Nat} {V : Nat → Value} {fr : List (Value × List ByteArray)} {wl : List Value} {v1 v2 : Value} {L1 L2 : List ByteArray} (h : BI W0 b m w2 col V fr wl)
    (l1 : LfI w2 wa v1 L1.length L1) (b2 : Below wa.heap.size wa wb) (l2 : LfI wb wc v2 L2.length L2) (b4 : Below wc.heap.size wc we) (h1 : L1.length ≤ 80) (h2 : L2.length ≤ 80) :
    ∃ col', BI W0 b m we col' V fr wl ∧ PL we col' v1 L1 (8 + m) ∧ PL we col' v2 L2 (8 + (m + 1)) ∧ ∀ g, wc.heap.size ≤ g → col' g = 0 := by
  obtain ⟨d1, e1⟩ := h.dye l1.b v1 (8 + m) (fun g hg => ⟨l1.o g hg, l1.h.lt hg⟩)
  obtain ⟨d2, e2⟩ := (d1.below b2).dye l2.b v2 (8 + (m + 1)) (fun g hg => ⟨l2.o g hg, l2.h.lt hg⟩)
  have p1 : PL wa (dyeV col v1 (8 + m)) v1 L1 (8 + m) := ⟨l1.h, fun g hg => dyeV_at hg, by omega, by omega⟩
  have p2 : PL wc (dyeV (dyeV col v1 (8 + m)) v2 (8 + (m + 1))) v2 L2 (8 + (m + 1)) := ⟨l2.h, fun g hg => dyeV_at hg, by omega, by omega⟩
  refine ⟨_, d2.below b4, (((p1.below b2).recol e2).below l2.b).below b4, p2.below b4, fun g hg => ?_⟩
  by_cases hz : dyeV (dyeV col v1 (8 + m)) v2 (8 + (m + 1)) g = 0
  · exact hz
  · have := (d2.bk.st.lo g hz).2
    omega
/-- the contract of takes, as FrontRanges wants it -/
theorem BI.takes {W0 wr : World} {b m : Nat} {col : Nat → Nat} {V : Nat → Value} {fr : List (Value × List ByteArray)} {wl : List Value} {p : Option Addr} {k c : Nat} {L : List ByteArray} (h : BI W0 b m wr col V fr wl) (hp : PL wr col (.slice p k c) L (8 + m)) (hm : m ≤ 1000) :
    Calls Tryd.prog 38 #[.pointer (some ⟨b, 0, none⟩), .slice p k c] wr fun e w' => e = .returned (.tuple #[]) ∧ ∃ col' V' wl', BI W0 b (m + 1) w' col' V' (fr ++ [(.slice p k c, L)]) wl' ∧ Only col (fun c => 1 ≤ c ∧ c < 4) wr w' ∧ ∀ g, g < wr.heap.size → col' g = col g :=
  (takes_any W0.heap.size b col V fr [] wl [] [] p k c L wr h.bk h.wll hp.he (by have := hp.ln; omega) (fun g hg => by have := hp.co g hg; have := h.fl; simp only [List.length_nil]; omega) (by have := h.fl; omega) h.bl.size).mono fun e w' ⟨h1, h2⟩ => ⟨h1, h.took hp.ln h2⟩
/-- still, behind all -/
theorem BI.still {W0 w' : World} {b m : Nat} {col : Nat → Nat} {V : Nat → Value} {fr : List (Value × List ByteArray)} {wl : List Value} (h : BI W0 b m w' col V fr wl) (hm : m ≤ 1000) :
    Calls Tryd.prog 23 #[.pointer (some ⟨b, 0, none⟩)] w' fun e w'' => e = .returned (.bool true) ∧ Below W0.heap.size W0 w'' := by
  refine (still_any W0.heap.size b col V fr [] wl [] w' h.bk h.wll (fun j p hj => by simp at hj) h.bl.size (by have := h.fl; simp only [List.length_nil]; omega) (by simp) h.ln (fun p hp => by simp at hp) (fun p hp => by simp at hp)).mono fun e w'' ⟨h1, h2⟩ => ⟨h1, ?_⟩
  obtain ⟨_, _, _, _, _, _, _, _, _, _, ho, _⟩ := h2
  exact h.bl.trans (ho.below (B := W0.heap.size) (by omega) (fun g' hne => (h.bk.st.lo g' hne).1) h.bl.size)
/-- the new book -/
theorem BI.begin (wr : World) :
    BI wr wr.heap.size 0 (wr.alloc (.cells #[.slice none 0 0, .slice none 0 0, .slice none 0 0, .slice none 0 0, .slice none 0 0] 48)) (fun i => if i = wr.heap.size then 1 else 0) (fun _ => .slice none 0 0) [] [] := by
  have hbel : Below wr.heap.size wr (wr.alloc (.cells #[.slice none 0 0, .slice none 0 0, .slice none 0 0, .slice none 0 0, .slice none 0 0] 48)) := (Below.refl _ _).alloc (Nat.le_refl _) _
  refine ⟨⟨⟨heap_alloc_new wr _, fun k hk => ?_, if_pos rfl, (fun k hk g hg => by cases hg), fun g' hne' => ?_⟩, Items.nil _ _ _ _ _, wi_nil _ _, Items.nil _ _ _ _ _, (fun p hp => by simp at hp), (fun p hp => by simp at hp)⟩, rfl, rfl, (fun p hp => by simp at hp), hbel⟩
  · have : bookR [] [] [] [] [] k = [] := by
      match k, hk with
      | 0, _ => rfl
      | 1, _ => rfl
      | 2, _ => rfl
      | 3, _ => rfl
      | 4, _ => rfl
    rw [this]
    exact ⟨rfl, .inl ⟨rfl, rfl⟩⟩
  · have : g' = wr.heap.size := by
      by_cases h : g' = wr.heap.size
      · exact h
      · rw [if_neg h] at hne'; exact absurd rfl hne'
    subst this
    simp
end Go.Proofs.YtdbghgpohdijfaaDoor
/- A range by value: opened. -/
namespace Go.Proofs.YtdbghgpohdijfaaDoor
open Go.ChangeShapes Go.WideShapes Go.ChangeAt Go.RowKit Go.Scr
set_option linter.unusedVariables false
section
variable {H : Type} {enc : TypeId × Value → H} {W : World} {base b0 : Nat} {sp : Nat → Bool} {held : Bool}
set_option maxRecDepth 100000 in
theorem arg_range {v : Value} {d : DataW H} {ps : List MemPlace} (hval : Value.okWide Tryd.prog W .any b0 68 v) (h : DataW.Trod enc Tryd.prog W base sp held 68 v d ps) (hb : Rows.uptoBulk d ≤ 1048576) :
    ∃ (b e : Int) (u : Value) (L : List ByteArray), v = .agg #[.int .i64 b, .int .i64 e, u] ∧ Txts W u L ∧ L.length ≤ Rows.uptoBulk d := by
  obtain ⟨v0, v1, v2, y0, y1, y2, n, rfl, rfl, rfl, h0, h1, h2⟩ := Go.Joins.open_agg3 Tryd.underlying68 (by kernel_rfl) (show Tryd.prog.cellsOf 68 = 3 by kernel_rfl) hval h
  obtain ⟨sb, e0, rfl, wb⟩ := DataW.trod_int (show Tryd.prog.underlying 3 = some (.int .i64) by kernel_rfl) h0
  obtain ⟨se, e1, rfl, we⟩ := DataW.trod_int (show Tryd.prog.underlying 3 = some (.int .i64) by kernel_rfl) h1
  simp at e0 e1
  subst e0 e1
  have hb2 : Rows.uptoBulk y2.1 ≤ 1048576 ∧ Rows.uptoBulk y2.1 ≤ Rows.uptoBulk (DataW.agg [(DataW.lit (.int .i64 sb) : DataW H), .lit (.int .i64 se), y2.1]) := by
    have hx : Rows.uptoBulk (DataW.agg [(DataW.lit (.int .i64 sb) : DataW H), .lit (.int .i64 se), y2.1]) = _ := rfl
    simp only [Rows.uptoBulk, Rows.uptoBulkAll] at hb ⊢
    omega
  obtain ⟨a, l, c, hs⟩ := Go.Joins.slice_form Tryd.underlying22 h2
  injection hs with hs _
  subst hs
  obtain ⟨hb3, hb4⟩ := hb2
  rcases open_strings Tryd.underlying22 (show Tryd.prog.underlying 9 = some .string by kernel_rfl) (by kernel_rfl) h2 with ⟨hcs, hx⟩ | ⟨a', len, cap, zs, hcs, _, hl, hm, hz, hx, hcell, hw⟩
  · simp at hcs
    obtain ⟨rfl, rfl, rfl⟩ := hcs
    exact ⟨sb, se, _, [], rfl, ⟨none, 0, rfl, Nat.le_refl _, by simp, fun j z h => by simp at h⟩, by simp⟩
  · simp at hcs
    obtain ⟨rfl, rfl, rfl⟩ := hcs
    obtain ⟨yd, yp⟩ := y2
    simp only [Prod.mk.injEq] at hx
    simp only at hb3 hb4
    have hlen : l ≤ zs.length := by rw [hz]; split <;> omega
    have hl2 : (zs.take l).length = l := by rw [List.length_take]; omega
    have hbb : l + (cat (zs.take l)).length ≤ Rows.uptoBulk yd := by
      rw [hx.1]
      have h1 := bulk_elems (strs (H := H) (zs.take l)) (strs (zs.drop l))
      rw [bulk_strs] at h1
      omega
    refine ⟨sb, se, _, zs.take l, rfl, ⟨some a', c, by rw [hl2], by omega, by omega, fun j z hj => ?_⟩, Nat.le_trans (by omega) hb4⟩
    obtain ⟨hj1, rfl⟩ := List.getElem?_eq_some_iff.mp hj
    refine ⟨a', rfl, ?_⟩
    rw [hcell j (by omega), List.getElem_take, List.getD_eq_getElem?_getD, List.getElem?_eq_getElem (by omega)]
    rfl
end
end Go.Proofs.YtdbghgpohdijfaaDoor
/- Law 5's again, walked. -/
namespace Go.Proofs.YtdbghgpohdijfaaDoor
open Go.RowKit Go.Scr
set_option linter.unusedVariables false
/-- three rows -/
structure R3 (w : World) (gl gp gq : Nat) (L A B : List ByteArray) : Prop where
  rl : SRow w gl (fill5 L 8)
  rp : SRow w gp (fill5 A 8)
  rq : SRow w gq (fill5 B 8)
theorem R3.below {w w' : World} {gl gp gq : Nat} {L A B : List ByteArray} (h : R3 w gl gp gq L A B) (hb : Below w.heap.size w w') : R3 w' gl gp gq L A B := ⟨h.rl.below hb h.rl.lt, h.rp.below hb h.rp.lt, h.rq.below hb h.rq.lt⟩
/-- what stands in a turn of again -/
structure AgI (W : World) (gl gp gq x y : Nat) (ab ae bb be : Int) (n na nb n8 na8 nb8 : Nat) (w : World) (L A B : List ByteArray) : Prop where
  r : R3 w gl gp gq L A B
  bl : Below W.heap.size W w
  bx : RBx w x ab ae (.slice (some ⟨gp, 0, none⟩) na na8)
  by' : RBx w y bb be (.slice (some ⟨gq, 0, none⟩) nb nb8)
  lo : W.heap.size ≤ gl ∧ W.heap.size ≤ gp ∧ W.heap.size ≤ gq
  ne : gl ≠ gp ∧ gl ≠ gq ∧ gp ≠ gq ∧ gl ≠ x ∧ gl ≠ y ∧ gp ≠ x ∧ gp ≠ y ∧ gq ≠ x ∧ gq ≠ y
  ln : L.length = n ∧ A.length = na ∧ B.length = nb ∧ n8 = n + 8 ∧ na8 = na + 8 ∧ nb8 = nb + 8
  mx : n ≤ 1048576 ∧ na ≤ 1048576 ∧ nb ≤ 1048576
theorem AgI.below {W w w' : World} {gl gp gq x y : Nat} {ab ae bb be : Int} {n na nb n8 na8 nb8 : Nat} {L A B : List ByteArray} (h : AgI W gl gp gq x y ab ae bb be n na nb n8 na8 nb8 w L A B) (hb : Below w.heap.size w w') : AgI W gl gp gq x y ab ae bb be n na nb n8 na8 nb8 w' L A B :=
  ⟨h.r.below hb, below_from h.bl hb h.bl.size, h.bx.below hb, h.by'.below hb, h.lo, h.ne, h.ln, h.mx⟩
theorem AgI.tx {W w : World} {gl gp gq x y : Nat} {ab ae bb be : Int} {n na nb n8 na8 nb8 : Nat} {L A B : List ByteArray} (h : AgI W gl gp gq x y ab ae bb be n na nb n8 na8 nb8 w L A B) :
    Txts w (.slice (some ⟨gl, 0, none⟩) n n8) L ∧ Txts w (.slice (some ⟨gp, 0, none⟩) na na8) A ∧ Txts w (.slice (some ⟨gq, 0, none⟩) nb nb8) B := by
  obtain ⟨h1, h2, h3, rfl, rfl, rfl⟩ := h.ln
  have hm := h.mx
  have k1 := fill5_txts h.r.rl (by omega)
  have k2 := fill5_txts h.r.rp (by omega)
  have k3 := fill5_txts h.r.rq (by omega)
  rw [h1] at k1
  rw [h2] at k2
  rw [h3] at k3
  exact ⟨k1, k2, k3⟩
theorem row_off {w w' : World} {g k : Nat} {L : List ByteArray} (h : SRow w g L) (hg : w.grownBy w' (some k)) (hne : g ≠ k) : SRow w' g L := blk_only h hg (fun e => hne (Option.some.inj e))
theorem rbx_off {w w' : World} {x k : Nat} {b e : Int} {v : Value} (h : RBx w x b e v) (hg : w.grownBy w' (some k)) (hne : k ≠ x) : RBx w' x b e v := blk_only h hg (fun e => hne (Option.some.inj e).symm)
theorem AgI.turnL {W w w' : World} {gl gp gq x y : Nat} {ab ae bb be : Int} {n na nb n8 na8 nb8 : Nat} {L A B : List ByteArray} (h : AgI W gl gp gq x y ab ae bb be n na nb n8 na8 nb8 w L A B) (hr : SRow w' gl (L.reverse ++ (fill5 L 8).drop L.length)) (hg : w.grownBy w' (some gl)) : AgI W gl gp gq x y ab ae bb be n na nb n8 na8 nb8 w' L.reverse A B := by
  rw [fill5_turned] at hr
  exact ⟨⟨hr, row_off h.r.rp hg h.ne.1.symm, row_off h.r.rq hg h.ne.2.1.symm⟩, h.bl.grown hg h.bl.size (fun k e => by cases e; exact h.lo.1), rbx_off h.bx hg h.ne.2.2.2.1, rbx_off h.by' hg h.ne.2.2.2.2.1, h.lo, h.ne, by rw [List.length_reverse]; exact h.ln, h.mx⟩
theorem AgI.turnP {W w w' : World} {gl gp gq x y : Nat} {ab ae bb be : Int} {n na nb n8 na8 nb8 : Nat} {L A B : List ByteArray} (h : AgI W gl gp gq x y ab ae bb be n na nb n8 na8 nb8 w L A B) (hr : SRow w' gp (A.reverse ++ (fill5 A 8).drop A.length)) (hg : w.grownBy w' (some gp)) : AgI W gl gp gq x y ab ae bb be n na nb n8 na8 nb8 w' L A.reverse B := by
  rw [fill5_turned] at hr
  exact ⟨⟨row_off h.r.rl hg h.ne.1, hr, row_off h.r.rq hg h.ne.2.2.1.symm⟩, h.bl.grown hg h.bl.size (fun k e => by cases e; exact h.lo.2.1), rbx_off h.bx hg h.ne.2.2.2.2.2.1, rbx_off h.by' hg h.ne.2.2.2.2.2.2.1, h.lo, h.ne, by rw [List.length_reverse]; exact h.ln, h.mx⟩
theorem AgI.turnQ {W w w' : World} {gl gp gq x y : Nat} {ab ae bb be : Int} {n na nb n8 na8 nb8 : Nat} {L A B : List ByteArray} (h : AgI W gl gp gq x y ab ae bb be n na nb n8 na8 nb8 w L A B) (hr : SRow w' gq (B.reverse ++ (fill5 B 8).drop B.length)) (hg : w.grownBy w' (some gq)) : AgI W gl gp gq x y ab ae bb be n na nb n8 na8 nb8 w' L A B.reverse := by
  rw [fill5_turned] at hr
  exact ⟨⟨row_off h.r.rl hg h.ne.2.1, row_off h.r.rp hg h.ne.2.2.1, hr⟩, h.bl.grown hg h.bl.size (fun k e => by cases e; exact h.lo.2.2), rbx_off h.bx hg h.ne.2.2.2.2.2.2.2.1, rbx_off h.by' hg h.ne.2.2.2.2.2.2.2.2, h.lo, h.ne, by rw [List.length_reverse]; exact h.ln, h.mx⟩
theorem heap_set3 (w : World) {b g : Nat} (h : g ≠ b) (x y z : Value) : (((w.setCell ⟨b, 0, none⟩ x).setCell ⟨b, 1, none⟩ y).setCell ⟨b, 2, none⟩ z).heap[g]? = w.heap[g]? := by
  rw [Below.heap_setCell _ ⟨b, 2, none⟩ _ g h, Below.heap_setCell _ ⟨b, 1, none⟩ _ g h, Below.heap_setCell _ ⟨b, 0, none⟩ _ g h]
theorem box_newD (w : World) (b e : Int) (v : Value) : ∃ wa x, (w.alloc (.cells #[.int .i64 b, .int .i64 e, v] 68)).drew = wa ∧ w.heap.size = x ∧ Hid (RBx wa x b e v) ∧ Hid (Below w.heap.size w wa) :=
  ⟨_, _, rfl, rfl, Lib.hid (heap_alloc_new w _), Lib.hid ((Below.refl _ _).alloc (Nat.le_refl _) _).drew⟩
/-- a list that lies from B on -/
structure Lf (B : Nat) (w : World) (v : Value) (n : Nat) (K : List ByteArray) : Prop where
  h : Held w 9 1 v n (K.map Value.string)
  o : ∀ g, v.ownBlock = some g → B ≤ g
theorem Lf.below {B : Nat} {w w' : World} {v : Value} {n : Nat} {K : List ByteArray} (h : Lf B w v n K) (hb : Below w.heap.size w w') : Lf B w' v n K := ⟨h.h.below hb, h.o⟩
theorem Lf.off {B g : Nat} {w w' : World} {v : Value} {n : Nat} {K : List ByteArray} (h : Lf B w v n K) (hg : w.grownBy w' (some g)) (hlt : g < B) : Lf B w' v n K :=
  ⟨h.h.keep fun k hk => hg.block k (h.h.lt hk) (fun e => by have := h.o k hk; have := Option.some.inj e; omega), h.o⟩
theorem Lf.tx {B : Nat} {w : World} {v : Value} {n : Nat} {K : List ByteArray} (h : Lf B w v n K) (hl : n ≤ 1048576) : Txts w v K := by
  have hn : n = K.length := by have := h.h.1; simpa using this.symm
  subst hn
  obtain ⟨p, c, h1, h2, h3⟩ := txts_held h.h rfl
  exact ⟨p, c, h1, h2, by omega, h3⟩
theorem Lf.far {B g : Nat} {w : World} {v : Value} {n : Nat} {K : List ByteArray} (h : Lf B w v n K) (hg : g < B) : ∀ a k c, v = .slice (some a) k c → a.block ≠ g := by
  intro a k c e hb
  rcases h.h.2 with ⟨rfl, _⟩ | ⟨g', cap, cur, rfl, _⟩
  · cases e
  · cases e
    have := h.o g' rfl
    have hb : g' = g := hb
    omega
theorem LfI.lf {B : Nat} {w w' : World} {v : Value} {n : Nat} {K : List ByteArray} (h : LfI w w' v n K) (hB : B ≤ w.heap.size) : Lf B w' v n K := ⟨h.h, fun g hg => Nat.le_trans hB (h.o g hg)⟩
set_option maxRecDepth 100000 in
set_option maxHeartbeats 4000000 in
theorem again5_any {W w : World} {C : Nat} (hB : Bas W C) (hC : C ≤ W.heap.size) (gl gp gq : Nat) (f ab ae bb be : Int) (n na nb n8 na8 nb8 : Nat) (L0 A0 B0 : List ByteArray) (hr : R3 w gl gp gq L0 A0 B0) (hbl : Below W.heap.size W w)
    (hlo : W.heap.size ≤ gl ∧ W.heap.size ≤ gp ∧ W.heap.size ≤ gq) (hne : gl ≠ gp ∧ gl ≠ gq ∧ gp ≠ gq) (hln : L0.length = n ∧ A0.length = na ∧ B0.length = nb ∧ n8 = n + 8 ∧ na8 = na + 8 ∧ nb8 = nb + 8) (hmx : n ≤ 1048576 ∧ na ≤ 1048576 ∧ nb ≤ 1048576) :
    Calls Tryd.prog 41 #[.int .i64 f, .slice (some ⟨gl, 0, none⟩) n n8, .agg #[.int .i64 ab, .int .i64 ae, .slice (some ⟨gp, 0, none⟩) na na8], .agg #[.int .i64 bb, .int .i64 be, .slice (some ⟨gq, 0, none⟩) nb nb8]] w fun o w' => o = .returned (.bool true) ∧ Below W.heap.size W w' := by
  obtain ⟨w2, hw2⟩ : ∃ x, x = (w.alloc (.cells #[.int .i64 ab, .int .i64 ae, .slice (some ⟨gp, 0, none⟩) na na8] 68)).alloc (.cells #[.int .i64 bb, .int .i64 be, .slice (some ⟨gq, 0, none⟩) nb nb8] 68) := ⟨_, rfl⟩
  obtain ⟨x0, x1, x2⟩ := two_blocks w #[.int .i64 ab, .int .i64 ae, .slice (some ⟨gp, 0, none⟩) na na8] #[.int .i64 bb, .int .i64 be, .slice (some ⟨gq, 0, none⟩) nb nb8] 68 68
  rw [← hw2] at x0 x1 x2
  obtain ⟨x, hx⟩ : ∃ x, x = w.heap.size := ⟨_, rfl⟩
  obtain ⟨y, hy⟩ : ∃ x, x = w.heap.size + 1 := ⟨_, rfl⟩
  rw [← hx] at x0
  rw [← hy] at x1
  have g1 := hr.rl.lt
  have g2 := hr.rp.lt
  have g3 := hr.rq.lt
  have h0 : AgI W gl gp gq x y ab ae bb be n na nb n8 na8 nb8 w2 L0 A0 B0 := ⟨hr.below x2, below_from hbl x2 hbl.size, x0, x1, hlo, ⟨hne.1, hne.2.1, hne.2.2, by omega, by omega, by omega, by omega, by omega, by omega⟩, hln, hmx⟩
  have H0 := Lib.hid h0
  have HW2 := Lib.hid hw2
  have HX := Lib.hid hx
  have HY := Lib.hid hy
  have HBAS := Lib.hid hB
  have hb1 : (0 + n) * 16 ≤ 140737488355328 := by omega
  have hb2 : 0 + n ≤ 140737488355328 := by omega
  have hb3 : (0 + na) * 16 ≤ 140737488355328 := by omega
  have hb4 : 0 + na ≤ 140737488355328 := by omega
  have hb5 : (0 + nb) * 16 ≤ 140737488355328 := by omega
  have hb6 : 0 + nb ≤ 140737488355328 := by omega
  clear hr hbl hlo hne hln hmx hw2 x0 x1 x2 hx hy g1 g2 g3 h0 hB
  go_enter Tryd.func41, Tryd.ntmps41
  go_upto_region 1 with fail
  rw [← HW2.out, ← HY.out, ← HX.out]
  clear HW2 HX HY
  go_wp2_with fail
  go_loopw [9, 10, 11, 12, 13, 14, 15, 16, 17, 18, 19, 20, 21, 22, 23, 24, 25, 26] (fun x9 _ _ _ _ _ _ _ _ _ _ _ _ _ _ _ _ _ wr => ∃ t : Nat, t ≤ 3 ∧ x9 = .int .i64 t ∧ Hid (∃ L A B, AgI W gl gp gq x y ab ae bb be n na nb n8 na8 nb8 wr L A B)) (fun x9 _ _ _ _ _ _ _ _ _ _ _ _ _ _ _ _ _ _ => 3 - (intOf x9).toNat)
  case atStart => exact ⟨0, by omega, rfl, Lib.hid ⟨_, _, _, H0.out⟩⟩
  case round =>
    clear H0
    obtain ⟨t, ht, rfl, hinv⟩ := hrel
    by_cases ht3 : t < 3
    · have hti : (t : Int) < 3 := by omega
      go_wp2_with fail
      go_loopw [10, 11, 12, 13, 14, 15, 16, 17, 18, 19, 20, 21, 22, 23, 24, 25, 26] (fun x9 _ _ _ _ _ _ _ _ _ _ _ _ _ _ _ _ wr => ∃ u : Nat, u ≤ 2 ∧ x9 = .int .i64 u ∧ Hid (∃ L A B, AgI W gl gp gq x y ab ae bb be n na nb n8 na8 nb8 wr L A B)) (fun x9 _ _ _ _ _ _ _ _ _ _ _ _ _ _ _ _ _ => 2 - (intOf x9).toNat)
      case atStart => exact ⟨0, by omega, rfl, hinv⟩
      case round =>
        clear hinv
        obtain ⟨u, hu, rfl, hinv⟩ := hrel
        by_cases hu2 : u < 2
        · have hui : (u : Int) < 2 := by omega
          obtain ⟨L, A, B, hi⟩ := hinv.out
          have HI := Lib.hid hi
          clear hinv hi
          obtain ⟨b1, e1, b2, e2, K1, K2, E1, E2, E3, t3, h6⟩ := six_any HBAS.out hC f ab ae bb be L A B
          have H6 := Lib.hid h6
          clear h6
          have HTL := Lib.hid (txts_src HI.out.tx.1)
          have HHZ := Lib.hid (held_none0 wr)
          have HLN := Lib.hid HI.out.ln
          go_upto_region 8 with (at_builtin; refine wpList_catC (v := .slice none 0 0) (n := 0) rfl _ _ rfl Tryd.underlying22 (.string ⟨#[]⟩) 1 info_strT rfl (by decide) [] (L.map Value.string) rfl rfl HHZ.out HTL.out.1 HTL.out.2.1 HTL.out.2.2 (one_txt L) hb1 hb2 ?_; intro v5 w5 hh hg ho; rw [Nat.zero_add, List.nil_append] at hh; obtain ⟨p5, c5, rfl, _⟩ := hh.cells; have HL5 : Hid (LfI wr w5 (.slice p5 n c5) n L) := Lib.hid (lf_new hh hg ho); clear hh hg ho)
          have HI5 := Lib.hid (HI.out.below HL5.out.b)
          have HCX : Hid (∀ w', Below w5.heap.size w5 w' → _) := Lib.hid (fun w' hb => (HI5.out.below hb).bx.c)
          have HTX : Hid (∀ w', Below w5.heap.size w5 w' → _) := Lib.hid (fun w' hb => (HI5.out.below hb).tx.2.1)
          clear HTL
          go_upto_region 8 with fail
          go_cut [12] from 37 to 44 (fun xs wx => ∃ (x : Nat) (p : Option Addr) (c : Nat), xs = .pointer (some ⟨x, 0, none⟩) ∧ Hid (RBx wx x ab ae (.slice p na c)) ∧ Hid (LfI w5 wx (.slice p na c) na A) ∧ Hid (w5.heap.size ≤ x))
          case first =>
            have HB0 : Hid (Below w5.heap.size w5 w5.drew) := Lib.hid (Below.refl _ _).drew
            refine wp_region_held_drew (S := fun w' => w'.cell? ⟨x, 0, none⟩ = some (.int .i64 ab) ∧ w'.cell? ⟨x, 1, none⟩ = some (.int .i64 ae) ∧ w'.cell? ⟨x, 2, none⟩ = some (.slice (some ⟨gp, 0, none⟩) na na8)) (by kernel_rfl) (by exact HCX.out _ (by first | exact HBz.out | exact HBy.out | exact HB0.out)) (fun hHeld => ?_)
            refine wpAnyH_take (i := 0) (oi := ⟨_, _, _, _, _, _⟩) (v := ?_) rfl (by kernel_rfl) (by kernel_rfl) (by kernel_rfl) (fun _ _ _ h => h) (Or.inl ⟨by rfl, ?_⟩) hHeld ?_
            rotate_left
            · ((intro w hSw; (try dsimp only at hSw); go_simp) <;> with_reducible rfl)
            try simp only [Act.put, List.setIfInBounds_toArray, List.set_cons_zero, List.set_cons_succ]
            refine wpAnyH_take (i := 1) (oi := ⟨_, _, _, _, _, _⟩) (v := ?_) rfl (by kernel_rfl) (by kernel_rfl) (by kernel_rfl) (fun _ _ _ h => h) (Or.inl ⟨by rfl, ?_⟩) hHeld ?_
            rotate_left
            · ((intro w hSw; (try dsimp only at hSw); go_simp) <;> with_reducible rfl)
            try simp only [Act.put, List.setIfInBounds_toArray, List.set_cons_zero, List.set_cons_succ]
            refine wpAnyH_take (i := 2) (oi := ⟨_, _, _, _, _, _⟩) (v := ?_) rfl (by kernel_rfl) (by kernel_rfl) (by kernel_rfl) (fun _ _ _ h => h) (Or.inl ⟨by rfl, ?_⟩) hHeld ?_
            rotate_left
            · ((intro w hSw; (try dsimp only at hSw); go_simp) <;> with_reducible rfl)
            try simp only [Act.put, List.setIfInBounds_toArray, List.set_cons_zero, List.set_cons_succ]
            refine wpAnyH_take (i := 3) (oi := ⟨_, _, _, _, _, _⟩) (v := ?_) rfl (by kernel_rfl) (by kernel_rfl) (by kernel_rfl) (fun _ _ _ h => h) (Or.inl ⟨by rfl, ?_⟩) hHeld ?_
            rotate_left
            · ((intro w hSw; (try dsimp only at hSw); go_simp) <;> with_reducible rfl)
            try simp only [Act.put, List.setIfInBounds_toArray, List.set_cons_zero, List.set_cons_succ]
            refine wpAnyH_take (i := 4) (oi := ⟨_, _, _, _, _, _⟩) (v := ?_) rfl (by kernel_rfl) (by kernel_rfl) (by kernel_rfl) (fun _ _ _ h => h) (Or.inl ⟨by rfl, ?_⟩) hHeld ?_
            rotate_left
            · ((intro w hSw; (try dsimp only at hSw); go_simp) <;> with_reducible rfl)
            try simp only [Act.put, List.setIfInBounds_toArray, List.set_cons_zero, List.set_cons_succ]
            refine wpAnyH_take (i := 5) (oi := ⟨_, _, _, _, _, _⟩) (v := ?_) rfl (by kernel_rfl) (by kernel_rfl) (by kernel_rfl) (fun _ _ _ h => h) (Or.inl ⟨by rfl, ?_⟩) hHeld ?_
            rotate_left
            · ((intro w hSw; (try dsimp only at hSw); go_simp) <;> with_reducible rfl)
            try simp only [Act.put, List.setIfInBounds_toArray, List.set_cons_zero, List.set_cons_succ]
            refine wpAnyH_ready (rs := [6, 8]) (by kernel_rfl) (by simp) ?_
            refine AllReadyH.cons (o := ⟨_, _, _, _, _, _⟩) rfl (fun K hK => ?_) ?_
            rotate_left
            refine AllReadyH.cons (o := ⟨_, _, _, _, _, _⟩) rfl (fun K hK => ?_) ?_
            rotate_left
            · exact AllReadyH.nil
            · have HTa := Lib.hid (txts_src (HTX.out w5.drew HB0.out))
              have HHa := Lib.hid (held_none0 w5.drew)
              refine step_catC (v := .slice none 0 0) (n := 0) rfl _ _ rfl Tryd.underlying22 (.string ⟨#[]⟩) 1 info_strT rfl (by decide) [] (A.map Value.string) rfl rfl HHa.out HTa.out.1 HTa.out.2.1 HTa.out.2.2 (one_txt A) hb3 hb4 ?_
              intro vq wq hh hg ho
              rw [Nat.zero_add, List.nil_append] at hh
              obtain ⟨pq, cq, rfl, _⟩ := hh.cells
              have HLq : Hid (LfI w5.drew wq (.slice pq na cq) na A) := Lib.hid (lf_new hh hg ho)
              clear hh hg ho HTa HHa
              have HBz : Hid (Below w5.heap.size w5 wq) := Lib.hid (HB0.out.trans HLq.out.b)
              refine hK.out _ _ (by exact HCX.out _ (by first | exact HBz.out | exact HBy.out | exact HB0.out)) (fun hHeld => ?_)
              clear hK K
              try simp only [Act.put, List.setIfInBounds_toArray, List.set_cons_zero, List.set_cons_succ]
              refine wpAnyH_take (i := 7) (oi := ⟨_, _, _, _, _, _⟩) (v := ?_) rfl (by kernel_rfl) (by kernel_rfl) (by kernel_rfl) (fun _ _ _ h => h) (Or.inl ⟨by rfl, ?_⟩) hHeld ?_
              rotate_left
              · ((intro w hSw; (try dsimp only at hSw); go_simp) <;> with_reducible rfl)
              try simp only [Act.put, List.setIfInBounds_toArray, List.set_cons_zero, List.set_cons_succ]
              refine wpAnyH_ready (rs := [8]) (by kernel_rfl) (by simp) ?_
              refine AllReadyH.cons (o := ⟨_, _, _, _, _, _⟩) rfl (fun K hK => ?_) ?_
              rotate_left
              · exact AllReadyH.nil
              go_simp
              obtain ⟨wz, xz, e1, e2, HXq, HBx⟩ := box_new wq 0 0 (.slice none 0 0)
              rw [e1, e2]
              have HE2 := Lib.hid e2
              clear e1 e2
              have HBy : Hid (Below w5.heap.size w5 wz) := Lib.hid (below_from HBz.out HBx.out HBz.out.size)
              clear HBz
              have HBz := HBy
              refine hK.out _ _ (by exact HCX.out _ (by first | exact HBz.out | exact HBy.out | exact HB0.out)) (fun hHeld => ?_)
              clear hK K
              try simp only [Act.put, List.setIfInBounds_toArray, List.set_cons_zero, List.set_cons_succ]
              have HLOq : Hid (w5.heap.size ≤ xz) := Lib.hid (by rw [← HE2.out]; exact Nat.le_trans HLq.out.b.size (Nat.le_refl _))
              refine wpAnyH_ready (rs := [9]) (by kernel_rfl) (by simp) ?_
              refine AllReadyH.cons (o := ⟨_, _, _, _, _, _⟩) rfl (fun K hK => ?_) ?_
              rotate_left
              · exact AllReadyH.nil
              obtain ⟨k0, k1, k2⟩ := HXq.out.c
              have f0 : wz.frozen? ⟨xz, 0, none⟩ = false := frozB HXq.out
              have f1 : wz.frozen? ⟨xz, 1, none⟩ = false := frozB HXq.out
              have f2 : wz.frozen? ⟨xz, 2, none⟩ = false := frozB HXq.out
              go_simp
              have HXs : Hid (RBx _ xz ab ae (.slice pq na cq)) := Lib.hid (blk_set3 HXq.out)
              have HBs : Hid (Below w5.heap.size w5 _) := Lib.hid (zero3_end (bs := xz) HBz.out (Below.refl _ _) HLOq.out (.int .i64 ab) (.int .i64 ae) (.slice pq na cq))
              refine hK.out _ _ (by exact HCX.out _ HBs.out) (fun hHeld => ?_)
              clear hK K k0 k1 k2 f0 f1 f2
              try simp only [Act.put, List.setIfInBounds_toArray, List.set_cons_zero, List.set_cons_succ]
              refine wpAnyH_done (by kernel_rfl) ?_ _
              go_wp2_with fail
              go_meet
              refine ⟨xz, pq, cq, rfl, HXs, Lib.hid ⟨HBs.out, ?_, HLq.out.o⟩, HLOq⟩
              exact (HLq.out.h.below HBx.out).keep fun g hg => heap_set3 _ (by have := HLq.out.h.lt hg; rw [HE2.out] at this; omega) _ _ _
            · go_simp
              obtain ⟨wz, xz, e1, e2, HXz, HBx⟩ := box_newD w5 0 0 (.slice none 0 0)
              rw [e1, e2]
              have HE2 := Lib.hid e2
              clear e1 e2
              have HBy := HBx
              refine hK.out _ _ (by exact HCX.out _ (by first | exact HBz.out | exact HBy.out | exact HB0.out)) (fun hHeld => ?_)
              clear hK K
              try simp only [Act.put, List.setIfInBounds_toArray, List.set_cons_zero, List.set_cons_succ]
              refine wpAnyH_ready (rs := [6]) (by kernel_rfl) (by simp) ?_
              refine AllReadyH.cons (o := ⟨_, _, _, _, _, _⟩) rfl (fun K hK => ?_) ?_
              rotate_left
              · exact AllReadyH.nil
              have HTa := Lib.hid (txts_src (HTX.out wz HBy.out))
              have HHa := Lib.hid (held_none0 wz)
              refine step_catC (v := .slice none 0 0) (n := 0) rfl _ _ rfl Tryd.underlying22 (.string ⟨#[]⟩) 1 info_strT rfl (by decide) [] (A.map Value.string) rfl rfl HHa.out HTa.out.1 HTa.out.2.1 HTa.out.2.2 (one_txt A) hb3 hb4 ?_
              intro vq wq hh hg ho
              rw [Nat.zero_add, List.nil_append] at hh
              obtain ⟨pq, cq, rfl, _⟩ := hh.cells
              have HLq : Hid (LfI wz wq (.slice pq na cq) na A) := Lib.hid (lf_new hh hg ho)
              clear hh hg ho HTa HHa
              have HBz : Hid (Below w5.heap.size w5 wq) := Lib.hid (below_from HBy.out HLq.out.b HBy.out.size)
              have HXq := Lib.hid (HXz.out.below HLq.out.b)
              refine hK.out _ _ (by exact HCX.out _ (by first | exact HBz.out | exact HBy.out | exact HB0.out)) (fun hHeld => ?_)
              clear hK K
              try simp only [Act.put, List.setIfInBounds_toArray, List.set_cons_zero, List.set_cons_succ]
              refine wpAnyH_take (i := 7) (oi := ⟨_, _, _, _, _, _⟩) (v := ?_) rfl (by kernel_rfl) (by kernel_rfl) (by kernel_rfl) (fun _ _ _ h => h) (Or.inl ⟨by rfl, ?_⟩) hHeld ?_
              rotate_left
              · ((intro w hSw; (try dsimp only at hSw); go_simp) <;> with_reducible rfl)
              try simp only [Act.put, List.setIfInBounds_toArray, List.set_cons_zero, List.set_cons_succ]
              have HLOq : Hid (w5.heap.size ≤ xz) := Lib.hid (by rw [← HE2.out]; exact Nat.le_refl _)
              refine wpAnyH_ready (rs := [9]) (by kernel_rfl) (by simp) ?_
              refine AllReadyH.cons (o := ⟨_, _, _, _, _, _⟩) rfl (fun K hK => ?_) ?_
              rotate_left
              · exact AllReadyH.nil
              obtain ⟨k0, k1, k2⟩ := HXq.out.c
              have f0 : wq.frozen? ⟨xz, 0, none⟩ = false := frozB HXq.out
              have f1 : wq.frozen? ⟨xz, 1, none⟩ = false := frozB HXq.out
              have f2 : wq.frozen? ⟨xz, 2, none⟩ = false := frozB HXq.out
              go_simp
              have HXs : Hid (RBx _ xz ab ae (.slice pq na cq)) := Lib.hid (blk_set3 HXq.out)
              have HBs : Hid (Below w5.heap.size w5 _) := Lib.hid (zero3_end (bs := xz) HBz.out (Below.refl _ _) HLOq.out (.int .i64 ab) (.int .i64 ae) (.slice pq na cq))
              refine hK.out _ _ (by exact HCX.out _ HBs.out) (fun hHeld => ?_)
              clear hK K k0 k1 k2 f0 f1 f2
              try simp only [Act.put, List.setIfInBounds_toArray, List.set_cons_zero, List.set_cons_succ]
              refine wpAnyH_done (by kernel_rfl) ?_ _
              go_wp2_with fail
              go_meet
              refine ⟨xz, pq, cq, rfl, HXs, Lib.hid ⟨HBs.out, ?_, fun g hg => Nat.le_trans HBy.out.size (HLq.out.o g hg)⟩, HLOq⟩
              exact HLq.out.h.keep fun g hg => heap_set3 _ (by have h1 := HLq.out.o g hg; have h2 := HXz.out.lt; omega) _ _ _
          case rest =>
            obtain ⟨x12, p6, c6, rfl, HX12, HL7, HLO7⟩ := hcut
            clear HCX HTX
            obtain ⟨w7, rfl⟩ : ∃ z, z = wc := ⟨_, rfl⟩
            have HI7 := Lib.hid (HI5.out.below HL7.out.b)
            have HCY : Hid (∀ w', Below w7.heap.size w7 w' → _) := Lib.hid (fun w' hb => (HI7.out.below hb).by'.c)
            have HTY : Hid (∀ w', Below w7.heap.size w7 w' → _) := Lib.hid (fun w' hb => (HI7.out.below hb).tx.2.2)
            go_upto_region 9 with fail
            go_cut [13] from 45 to 52 (fun xs wx => ∃ (x : Nat) (p : Option Addr) (c : Nat), xs = .pointer (some ⟨x, 0, none⟩) ∧ Hid (RBx wx x bb be (.slice p nb c)) ∧ Hid (LfI w7 wx (.slice p nb c) nb B) ∧ Hid (w7.heap.size ≤ x))
            case first =>
              have HB0 : Hid (Below w7.heap.size w7 w7.drew) := Lib.hid (Below.refl _ _).drew
              refine wp_region_held_drew (S := fun w' => w'.cell? ⟨y, 0, none⟩ = some (.int .i64 bb) ∧ w'.cell? ⟨y, 1, none⟩ = some (.int .i64 be) ∧ w'.cell? ⟨y, 2, none⟩ = some (.slice (some ⟨gq, 0, none⟩) nb nb8)) (by kernel_rfl) (by exact HCY.out _ (by first | exact HBz.out | exact HBy.out | exact HB0.out)) (fun hHeld => ?_)
              refine wpAnyH_take (i := 0) (oi := ⟨_, _, _, _, _, _⟩) (v := ?_) rfl (by kernel_rfl) (by kernel_rfl) (by kernel_rfl) (fun _ _ _ h => h) (Or.inl ⟨by rfl, ?_⟩) hHeld ?_
              rotate_left
              · ((intro w hSw; (try dsimp only at hSw); go_simp) <;> with_reducible rfl)
              try simp only [Act.put, List.setIfInBounds_toArray, List.set_cons_zero, List.set_cons_succ]
              refine wpAnyH_take (i := 1) (oi := ⟨_, _, _, _, _, _⟩) (v := ?_) rfl (by kernel_rfl) (by kernel_rfl) (by kernel_rfl) (fun _ _ _ h => h) (Or.inl ⟨by rfl, ?_⟩) hHeld ?_
              rotate_left
              · ((intro w hSw; (try dsimp only at hSw); go_simp) <;> with_reducible rfl)
              try simp only [Act.put, List.setIfInBounds_toArray, List.set_cons_zero, List.set_cons_succ]
              refine wpAnyH_take (i := 2) (oi := ⟨_, _, _, _, _, _⟩) (v := ?_) rfl (by kernel_rfl) (by kernel_rfl) (by kernel_rfl) (fun _ _ _ h => h) (Or.inl ⟨by rfl, ?_⟩) hHeld ?_
              rotate_left
              · ((intro w hSw; (try dsimp only at hSw); go_simp) <;> with_reducible rfl)
              try simp only [Act.put, List.setIfInBounds_toArray, List.set_cons_zero, List.set_cons_succ]
              refine wpAnyH_take (i := 3) (oi := ⟨_, _, _, _, _, _⟩) (v := ?_) rfl (by kernel_rfl) (by kernel_rfl) (by kernel_rfl) (fun _ _ _ h => h) (Or.inl ⟨by rfl, ?_⟩) hHeld ?_
              rotate_left
              · ((intro w hSw; (try dsimp only at hSw); go_simp) <;> with_reducible rfl)
              try simp only [Act.put, List.setIfInBounds_toArray, List.set_cons_zero, List.set_cons_succ]
              refine wpAnyH_take (i := 4) (oi := ⟨_, _, _, _, _, _⟩) (v := ?_) rfl (by kernel_rfl) (by kernel_rfl) (by kernel_rfl) (fun _ _ _ h => h) (Or.inl ⟨by rfl, ?_⟩) hHeld ?_
              rotate_left
              · ((intro w hSw; (try dsimp only at hSw); go_simp) <;> with_reducible rfl)
              try simp only [Act.put, List.setIfInBounds_toArray, List.set_cons_zero, List.set_cons_succ]
              refine wpAnyH_take (i := 5) (oi := ⟨_, _, _, _, _, _⟩) (v := ?_) rfl (by kernel_rfl) (by kernel_rfl) (by kernel_rfl) (fun _ _ _ h => h) (Or.inl ⟨by rfl, ?_⟩) hHeld ?_
              rotate_left
              · ((intro w hSw; (try dsimp only at hSw); go_simp) <;> with_reducible rfl)
              try simp only [Act.put, List.setIfInBounds_toArray, List.set_cons_zero, List.set_cons_succ]
              refine wpAnyH_ready (rs := [6, 8]) (by kernel_rfl) (by simp) ?_
              refine AllReadyH.cons (o := ⟨_, _, _, _, _, _⟩) rfl (fun K hK => ?_) ?_
              rotate_left
              refine AllReadyH.cons (o := ⟨_, _, _, _, _, _⟩) rfl (fun K hK => ?_) ?_
              rotate_left
              · exact AllReadyH.nil
              · have HTa := Lib.hid (txts_src (HTY.out w7.drew HB0.out))
                have HHa := Lib.hid (held_none0 w7.drew)
                refine step_catC (v := .slice none 0 0) (n := 0) rfl _ _ rfl Tryd.underlying22 (.string ⟨#[]⟩) 1 info_strT rfl (by decide) [] (B.map Value.string) rfl rfl HHa.out HTa.out.1 HTa.out.2.1 HTa.out.2.2 (one_txt B) hb5 hb6 ?_
                intro vq wq hh hg ho
                rw [Nat.zero_add, List.nil_append] at hh
                obtain ⟨pq, cq, rfl, _⟩ := hh.cells
                have HLq : Hid (LfI w7.drew wq (.slice pq nb cq) nb B) := Lib.hid (lf_new hh hg ho)
                clear hh hg ho HTa HHa
                have HBz : Hid (Below w7.heap.size w7 wq) := Lib.hid (HB0.out.trans HLq.out.b)
                refine hK.out _ _ (by exact HCY.out _ (by first | exact HBz.out | exact HBy.out | exact HB0.out)) (fun hHeld => ?_)
                clear hK K
                try simp only [Act.put, List.setIfInBounds_toArray, List.set_cons_zero, List.set_cons_succ]
                refine wpAnyH_take (i := 7) (oi := ⟨_, _, _, _, _, _⟩) (v := ?_) rfl (by kernel_rfl) (by kernel_rfl) (by kernel_rfl) (fun _ _ _ h => h) (Or.inl ⟨by rfl, ?_⟩) hHeld ?_
                rotate_left
                · ((intro w hSw; (try dsimp only at hSw); go_simp) <;> with_reducible rfl)
                try simp only [Act.put, List.setIfInBounds_toArray, List.set_cons_zero, List.set_cons_succ]
                refine wpAnyH_ready (rs := [8]) (by kernel_rfl) (by simp) ?_
                refine AllReadyH.cons (o := ⟨_, _, _, _, _, _⟩) rfl (fun K hK => ?_) ?_
                rotate_left
                · exact AllReadyH.nil
                go_simp
                obtain ⟨wz, xz, e1, e2, HXq, HBx⟩ := box_new wq 0 0 (.slice none 0 0)
                rw [e1, e2]
                have HE2 := Lib.hid e2
                clear e1 e2
                have HBy : Hid (Below w7.heap.size w7 wz) := Lib.hid (below_from HBz.out HBx.out HBz.out.size)
                clear HBz
                have HBz := HBy
                refine hK.out _ _ (by exact HCY.out _ (by first | exact HBz.out | exact HBy.out | exact HB0.out)) (fun hHeld => ?_)
                clear hK K
                try simp only [Act.put, List.setIfInBounds_toArray, List.set_cons_zero, List.set_cons_succ]
                have HLOq : Hid (w7.heap.size ≤ xz) := Lib.hid (by rw [← HE2.out]; exact Nat.le_trans HLq.out.b.size (Nat.le_refl _))
                refine wpAnyH_ready (rs := [9]) (by kernel_rfl) (by simp) ?_
                refine AllReadyH.cons (o := ⟨_, _, _, _, _, _⟩) rfl (fun K hK => ?_) ?_
                rotate_left
                · exact AllReadyH.nil
                obtain ⟨k0, k1, k2⟩ := HXq.out.c
                have f0 : wz.frozen? ⟨xz, 0, none⟩ = false := frozB HXq.out
                have f1 : wz.frozen? ⟨xz, 1, none⟩ = false := frozB HXq.out
                have f2 : wz.frozen? ⟨xz, 2, none⟩ = false := frozB HXq.out
                go_simp
                have HXs : Hid (RBx _ xz bb be (.slice pq nb cq)) := Lib.hid (blk_set3 HXq.out)
                have HBs : Hid (Below w7.heap.size w7 _) := Lib.hid (zero3_end (bs := xz) HBz.out (Below.refl _ _) HLOq.out (.int .i64 bb) (.int .i64 be) (.slice pq nb cq))
                refine hK.out _ _ (by exact HCY.out _ HBs.out) (fun hHeld => ?_)
                clear hK K k0 k1 k2 f0 f1 f2
                try simp only [Act.put, List.setIfInBounds_toArray, List.set_cons_zero, List.set_cons_succ]
                refine wpAnyH_done (by kernel_rfl) ?_ _
                go_wp2_with fail
                go_meet
                refine ⟨xz, pq, cq, rfl, HXs, Lib.hid ⟨HBs.out, ?_, HLq.out.o⟩, HLOq⟩
                exact (HLq.out.h.below HBx.out).keep fun g hg => heap_set3 _ (by have := HLq.out.h.lt hg; rw [HE2.out] at this; omega) _ _ _
              · go_simp
                obtain ⟨wz, xz, e1, e2, HXz, HBx⟩ := box_newD w7 0 0 (.slice none 0 0)
                rw [e1, e2]
                have HE2 := Lib.hid e2
                clear e1 e2
                have HBy := HBx
                refine hK.out _ _ (by exact HCY.out _ (by first | exact HBz.out | exact HBy.out | exact HB0.out)) (fun hHeld => ?_)
                clear hK K
                try simp only [Act.put, List.setIfInBounds_toArray, List.set_cons_zero, List.set_cons_succ]
                refine wpAnyH_ready (rs := [6]) (by kernel_rfl) (by simp) ?_
                refine AllReadyH.cons (o := ⟨_, _, _, _, _, _⟩) rfl (fun K hK => ?_) ?_
                rotate_left
                · exact AllReadyH.nil
                have HTa := Lib.hid (txts_src (HTY.out wz HBy.out))
                have HHa := Lib.hid (held_none0 wz)
                refine step_catC (v := .slice none 0 0) (n := 0) rfl _ _ rfl Tryd.underlying22 (.string ⟨#[]⟩) 1 info_strT rfl (by decide) [] (B.map Value.string) rfl rfl HHa.out HTa.out.1 HTa.out.2.1 HTa.out.2.2 (one_txt B) hb5 hb6 ?_
                intro vq wq hh hg ho
                rw [Nat.zero_add, List.nil_append] at hh
                obtain ⟨pq, cq, rfl, _⟩ := hh.cells
                have HLq : Hid (LfI wz wq (.slice pq nb cq) nb B) := Lib.hid (lf_new hh hg ho)
                clear hh hg ho HTa HHa
                have HBz : Hid (Below w7.heap.size w7 wq) := Lib.hid (below_from HBy.out HLq.out.b HBy.out.size)
                have HXq := Lib.hid (HXz.out.below HLq.out.b)
                refine hK.out _ _ (by exact HCY.out _ (by first | exact HBz.out | exact HBy.out | exact HB0.out)) (fun hHeld => ?_)
                clear hK K
                try simp only [Act.put, List.setIfInBounds_toArray, List.set_cons_zero, List.set_cons_succ]
                refine wpAnyH_take (i := 7) (oi := ⟨_, _, _, _, _, _⟩) (v := ?_) rfl (by kernel_rfl) (by kernel_rfl) (by kernel_rfl) (fun _ _ _ h => h) (Or.inl ⟨by rfl, ?_⟩) hHeld ?_
                rotate_left
                · ((intro w hSw; (try dsimp only at hSw); go_simp) <;> with_reducible rfl)
                try simp only [Act.put, List.setIfInBounds_toArray, List.set_cons_zero, List.set_cons_succ]
                have HLOq : Hid (w7.heap.size ≤ xz) := Lib.hid (by rw [← HE2.out]; exact Nat.le_refl _)
                refine wpAnyH_ready (rs := [9]) (by kernel_rfl) (by simp) ?_
                refine AllReadyH.cons (o := ⟨_, _, _, _, _, _⟩) rfl (fun K hK => ?_) ?_
                rotate_left
                · exact AllReadyH.nil
                obtain ⟨k0, k1, k2⟩ := HXq.out.c
                have f0 : wq.frozen? ⟨xz, 0, none⟩ = false := frozB HXq.out
                have f1 : wq.frozen? ⟨xz, 1, none⟩ = false := frozB HXq.out
                have f2 : wq.frozen? ⟨xz, 2, none⟩ = false := frozB HXq.out
                go_simp
                have HXs : Hid (RBx _ xz bb be (.slice pq nb cq)) := Lib.hid (blk_set3 HXq.out)
                have HBs : Hid (Below w7.heap.size w7 _) := Lib.hid (zero3_end (bs := xz) HBz.out (Below.refl _ _) HLOq.out (.int .i64 bb) (.int .i64 be) (.slice pq nb cq))
                refine hK.out _ _ (by exact HCY.out _ HBs.out) (fun hHeld => ?_)
                clear hK K k0 k1 k2 f0 f1 f2
                try simp only [Act.put, List.setIfInBounds_toArray, List.set_cons_zero, List.set_cons_succ]
                refine wpAnyH_done (by kernel_rfl) ?_ _
                go_wp2_with fail
                go_meet
                refine ⟨xz, pq, cq, rfl, HXs, Lib.hid ⟨HBs.out, ?_, fun g hg => Nat.le_trans HBy.out.size (HLq.out.o g hg)⟩, HLOq⟩
                exact HLq.out.h.keep fun g hg => heap_set3 _ (by have h1 := HLq.out.o g hg; have h2 := HXz.out.lt; omega) _ _ _
            case rest =>
              obtain ⟨x13, p8, c8, rfl, HX13, HL9, HLO9⟩ := hcut
              clear HCY HTY
              obtain ⟨w9, rfl⟩ : ∃ z, z = wc := ⟨_, rfl⟩
              have HB79 : Hid (Below w5.heap.size w5 w9) := Lib.hid (below_from HL7.out.b HL9.out.b HL7.out.b.size)
              have HI9 := Lib.hid (HI5.out.below HB79.out)
              have HC9 : Hid (Lf wr.heap.size w9 (.slice p5 n c5) n L) := Lib.hid ((HL5.out.lf (Nat.le_refl _)).below HB79.out)
              have HA9 : Hid (Lf wr.heap.size w9 (.slice p6 na c6) na A) := Lib.hid ((HL7.out.lf HL5.out.b.size).below HL9.out.b)
              have HBB9 : Hid (Lf wr.heap.size w9 (.slice p8 nb c8) nb B) := Lib.hid (HL9.out.lf (Nat.le_trans HL5.out.b.size HL7.out.b.size))
              have HX12 := Lib.hid (HX12.out.below HL9.out.b)
              have HLT : Hid (gl < wr.heap.size ∧ gp < wr.heap.size ∧ gq < wr.heap.size ∧ wr.heap.size ≤ x12 ∧ wr.heap.size ≤ x13) := Lib.hid ⟨HI.out.r.rl.lt, HI.out.r.rp.lt, HI.out.r.rq.lt, by have := HL5.out.b.size; have := HLO7.out; omega, by have := HL5.out.b.size; have := HL7.out.b.size; have := HLO9.out; omega⟩
              clear HL5 HL7 HL9 HLO7 HLO9 HI5 HI7 HI HB79
              go_upto_block 4 with fail
              go_cut [14, 15, 16, 17, 18, 19, 20, 21, 22, 23, 24, 25, 26] from 54 to 115 (fun x14 _ _ _ _ _ _ _ _ _ _ _ _ wx => x14 = .bool true ∧ Hid (Below w9.heap.size w9 wx))
              case first =>
                rcases (show t = 0 ∨ t = 1 ∨ t = 2 by omega) with rfl | rfl | rfl
                · have HTc := Lib.hid (HC9.out.tx HI9.out.mx.1)
                  go_upto_region 17 with (go_at_call 32; (with_reducible refine (H6.out.cd w9 _ HTc.out).mono ?_); rintro r wA ⟨pA, cA, rfl, hA⟩; have HA := hA; clear hA)
                  obtain ⟨wB, x15, e7, ex15, HX15, HBB⟩ := box_new wA b1 e1 (.slice pA K1.length cA)
                  rw [e7, ex15]
                  clear e7 ex15
                  have HB9B : Hid (Below w9.heap.size w9 wB) := Lib.hid (below_from HA.out.b HBB.out HA.out.b.size)
                  have HIB := Lib.hid (HI9.out.below HB9B.out)
                  go_upto_region 18 with (go_at_call 31; (with_reducible refine (H6.out.cm wB _ HIB.out.bl HIB.out.tx.1).mono ?_); rintro r wC ⟨pC, cC, rfl, hC⟩; have HCC := hC; clear hC)
                  obtain ⟨wD, x17, e7, ex17, HX17, HBD⟩ := box_new wC b1 e1 (.slice pC K1.length cC)
                  rw [e7, ex17]
                  clear e7 ex17
                  have HBCD : Hid (Below wB.heap.size wB wD) := Lib.hid (below_from HCC.out.b HBD.out HCC.out.b.size)
                  obtain ⟨c0, c1, c2⟩ := HX17.out.c
                  obtain ⟨k0, k1, k2⟩ := (HX15.out.below HBCD.out).c
                  have CS := Lib.hid (sameRange_yes (b := b1) (e := e1) ((HCC.out.tx (by have := H6.out.l1; omega)).below HBD.out (Nat.le_refl _)) ((HA.out.tx (by have := H6.out.l1; omega)).below (below_from HBB.out HBCD.out HBB.out.size) (Nat.le_refl _)) H6.out.l1)
                  go_wp2_with (go_at_call 37; (with_reducible refine (CS.out).mono ?_); rintro r wE ⟨rfl, hE⟩; have HE := Lib.hid hE; clear hE)
                  go_meet
                  exact ⟨rfl, Lib.hid (below_from (below_from HB9B.out HBCD.out HB9B.out.size) HE.out (Nat.le_trans HB9B.out.size HBCD.out.size))⟩
                · have HTa := Lib.hid (HA9.out.tx HI9.out.mx.2.1)
                  have HTb := Lib.hid (HBB9.out.tx HI9.out.mx.2.2)
                  obtain ⟨c0, c1, c2⟩ := HX12.out.c
                  obtain ⟨k0, k1, k2⟩ := HX13.out.c
                  go_upto_region 21 with (go_at_call 34; (with_reducible refine (H6.out.jd w9 _ _ HTa.out HTb.out).mono ?_); rintro r wA ⟨pA, cA, rfl, hA⟩; have HA := hA; clear hA)
                  obtain ⟨wB, x15, e7, ex15, HX15, HBB⟩ := box_new wA b2 e2 (.slice pA K2.length cA)
                  rw [e7, ex15]
                  clear e7 ex15 c0 c1 c2 k0 k1 k2
                  have HB9B : Hid (Below w9.heap.size w9 wB) := Lib.hid (below_from HA.out.b HBB.out HA.out.b.size)
                  have HIB := Lib.hid (HI9.out.below HB9B.out)
                  obtain ⟨c0, c1, c2⟩ := HIB.out.bx.c
                  obtain ⟨k0, k1, k2⟩ := HIB.out.by'.c
                  go_upto_region 22 with (go_at_call 33; (with_reducible refine (H6.out.jn wB _ _ HIB.out.bl HIB.out.tx.2.1 HIB.out.tx.2.2).mono ?_); rintro r wC ⟨pC, cC, rfl, hC⟩; have HCC := hC; clear hC)
                  obtain ⟨wD, x17, e7, ex17, HX17, HBD⟩ := box_new wC b2 e2 (.slice pC K2.length cC)
                  rw [e7, ex17]
                  clear e7 ex17 c0 c1 c2 k0 k1 k2
                  have HBCD : Hid (Below wB.heap.size wB wD) := Lib.hid (below_from HCC.out.b HBD.out HCC.out.b.size)
                  obtain ⟨c0, c1, c2⟩ := HX17.out.c
                  obtain ⟨k0, k1, k2⟩ := (HX15.out.below HBCD.out).c
                  have CS := Lib.hid (sameRange_yes (b := b2) (e := e2) ((HCC.out.tx (by have := H6.out.l2; omega)).below HBD.out (Nat.le_refl _)) ((HA.out.tx (by have := H6.out.l2; omega)).below (below_from HBB.out HBCD.out HBB.out.size) (Nat.le_refl _)) H6.out.l2)
                  go_wp2_with (go_at_call 37; (with_reducible refine (CS.out).mono ?_); rintro r wE ⟨rfl, hE⟩; have HE := Lib.hid hE; clear hE)
                  go_meet
                  exact ⟨rfl, Lib.hid (below_from (below_from HB9B.out HBCD.out HB9B.out.size) HE.out (Nat.le_trans HB9B.out.size HBCD.out.size))⟩
                · have HTa := Lib.hid (HA9.out.tx HI9.out.mx.2.1)
                  obtain ⟨c0, c1, c2⟩ := HX12.out.c
                  go_upto_region 13 with (go_at_call 36; (with_reducible refine (H6.out.rd w9 _ HTa.out).mono ?_); rintro r wA ⟨rfl, hA⟩; have HA := Lib.hid hA; clear hA)
                  clear c0 c1 c2
                  have HIA := Lib.hid (HI9.out.below HA.out)
                  obtain ⟨c0, c1, c2⟩ := HIA.out.bx.c
                  go_wp2_with (go_at_call 35; (with_reducible refine (H6.out.rt wA _ HIA.out.bl HIA.out.tx.2.1).mono ?_); rintro r wC ⟨rfl, hC⟩; have HCC := Lib.hid hC; clear hC)
                  go_meet
                  exact ⟨rfl, Lib.hid (below_from HA.out HCC.out HA.out.size)⟩
              case rest =>
                obtain ⟨rfl, hb9⟩ := hcut
                have HIc := Lib.hid (HI9.out.below hb9.out)
                have HCc := Lib.hid (HC9.out.below hb9.out)
                have HAc := Lib.hid (HA9.out.below hb9.out)
                have HBc := Lib.hid (HBB9.out.below hb9.out)
                have HX12c := Lib.hid (HX12.out.below hb9.out)
                have HX13c := Lib.hid (HX13.out.below hb9.out)
                clear hb9 HI9 HC9 HA9 HBB9 HX12 HX13
                have hlen := HIc.out.ln
                have hmx := HIc.out.mx
                have CT1 : Hid (Calls Tryd.prog 40 #[.slice (some ⟨gl, 0, none⟩) n n8, .slice p5 n c5] wc _) := Lib.hid (turned5_any (HCc.out.tx hmx.1) (fun _ _ _ => HCc.out.far HLT.out.1) HIc.out.r.rl (by rw [fill5_length L 8 (by omega)]; omega) (by omega) (by omega))
                obtain ⟨w12, rfl⟩ : ∃ z, z = wc := ⟨_, rfl⟩
                clear hlen hmx
                go_upto_region 26 with (go_at_call 40; (with_reducible refine (CT1.out).mono ?_); rintro r wd ⟨rfl, hr, hg⟩; have HRd := Lib.hid hr; have HGd := Lib.hid hg; clear hr hg)
                have HId := Lib.hid (HIc.out.turnL HRd.out HGd.out)
                have HAd := Lib.hid (HAc.out.off HGd.out HLT.out.1)
                have HBd := Lib.hid (HBc.out.off HGd.out HLT.out.1)
                have HX12d := Lib.hid (rbx_off HX12c.out HGd.out (by have := HLT.out; omega))
                have HX13d := Lib.hid (rbx_off HX13c.out HGd.out (by have := HLT.out; omega))
                clear HIc HCc HAc HBc HX12c HX13c HRd HGd CT1
                have hlen := HId.out.ln
                have hmx := HId.out.mx
                have CT2 : Hid (Calls Tryd.prog 40 #[.slice (some ⟨gp, 0, none⟩) na na8, .slice p6 na c6] wd _) := Lib.hid (turned5_any (HAd.out.tx hmx.2.1) (fun _ _ _ => HAd.out.far HLT.out.2.1) HId.out.r.rp (by rw [fill5_length A 8 (by omega)]; omega) (by omega) (by omega))
                have c2 := HId.out.bx.c.2.2
                have k2 := HX12d.out.c.2.2
                clear hlen hmx
                go_upto_region 27 with (go_at_call 40; (with_reducible refine (CT2.out).mono ?_); rintro r we ⟨rfl, hr, hg⟩; have HRe := Lib.hid hr; have HGe := Lib.hid hg; clear hr hg)
                have HIe := Lib.hid (HId.out.turnP HRe.out HGe.out)
                have HBe := Lib.hid (HBd.out.off HGe.out HLT.out.2.1)
                have HX13e := Lib.hid (rbx_off HX13d.out HGe.out (by have := HLT.out; omega))
                clear HId HAd HBd HX12d HX13d HRe HGe CT2 c2 k2
                have hlen := HIe.out.ln
                have hmx := HIe.out.mx
                have CT3 : Hid (Calls Tryd.prog 40 #[.slice (some ⟨gq, 0, none⟩) nb nb8, .slice p8 nb c8] we _) := Lib.hid (turned5_any (HBe.out.tx hmx.2.2) (fun _ _ _ => HBe.out.far HLT.out.2.2.1) HIe.out.r.rq (by rw [fill5_length B 8 (by omega)]; omega) (by omega) (by omega))
                have c2 := HIe.out.by'.c.2.2
                have k2 := HX13e.out.c.2.2
                clear hlen hmx
                go_wp2_with (go_at_call 40; (with_reducible refine (CT3.out).mono ?_); rintro r wf ⟨rfl, hr, hg⟩; have HIf := Lib.hid (HIe.out.turnQ hr hg); clear hr hg)
                exact ⟨⟨u + 1, by omega, rfl, Lib.hid ⟨_, _, _, HIf.out⟩⟩, (by show 2 - ((u : Int) + 1).toNat < 2 - (u : Int).toNat; omega)⟩
        · have hui : ¬ (u : Int) < 2 := by omega
          go_wp2_with fail
          exact ⟨⟨t + 1, by omega, rfl, hinv⟩, (by show 3 - ((t : Int) + 1).toNat < 3 - (t : Int).toNat; omega)⟩
    · have hti : ¬ (t : Int) < 3 := by omega
      obtain ⟨L, A, B, hi⟩ := hinv.out
      have HI := Lib.hid hi
      clear hinv hi
      go_wp2_with fail
      go_ret
      exact ⟨rfl, HI.out.bl⟩
end Go.Proofs.YtdbghgpohdijfaaDoor
