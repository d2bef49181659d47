/- What FrontRanges asks: each call's answer in one form, alike for the program and for the document. -/
import Derived.Test.YtdbghgpohdijfaaDoorMa67
import Derived.Test.YtdbghgpohdijfaaDoorMa66
import Derived.Test.YtdbghgpohdijfaaDoorMa40
import Derived.Test.YtdbghgpohdijfaaDoorMa68
namespace Go.Proofs.YtdbghgpohdijfaaDoor
open Go.RowKit Go.Scr
set_option linter.unusedVariables false
/-- a range and an error come out, the list is new -/
def RgQ (w : World) (b e : Int) (K : List ByteArray) (E : Int) (o : Ending) (w' : World) : Prop := ∃ p c, o = .returned (.tuple #[.agg #[.int .i64 b, .int .i64 e, .slice p K.length c], .int .i64 E]) ∧ Hid (LfI w w' (.slice p K.length c) K.length K)
theorem RgP.q {w : World} {b e : Int} {K : List ByteArray} {E : Int} {o : Ending} {w' : World} (h : RgP w b e K E o w') : RgQ w b e K E o w' := by
  obtain ⟨u, rfl, h⟩ := h
  obtain ⟨p, c, rfl, _⟩ := h.h.cells
  exact ⟨p, c, rfl, Lib.hid h⟩
theorem LfI.tx {w w' : World} {v : Value} {n : Nat} {K : List ByteArray} (h : LfI w w' v n K) (hl : K.length ≤ 4194304) : Txts w' v K := by
  have hn : n = K.length := by have := h.h.1; simpa using this.symm
  subst hn
  obtain ⟨p, c, h1, h2, h3⟩ := txts_held h.h rfl
  exact ⟨p, c, h1, h2, by omega, h3⟩
/-- a range's box -/
def RBx (w : World) (x : Nat) (b e : Int) (v : Value) : Prop := w.heap[x]? = some (.cells #[.int .i64 b, .int .i64 e, v] 68 (0, 0))
theorem RBx.lt {w : World} {x : Nat} {b e : Int} {v : Value} (h : RBx w x b e v) : x < w.heap.size := blk_lt h
theorem RBx.below {w w' : World} {x : Nat} {b e : Int} {v : Value} (h : RBx w x b e v) (hb : Below w.heap.size w w') : RBx w' x b e v := blk_below h hb (blk_lt h)
theorem RBx.to {w w' : World} {x : Nat} {b e : Int} {v : Value} (h : RBx w x b e v) (hb : w'.heap[x]? = w.heap[x]?) : RBx w' x b e v := hb.trans h
theorem RBx.c {w : World} {x : Nat} {b e : Int} {v : Value} (h : RBx w x b e v) : w.cell? ⟨x, 0, none⟩ = some (.int .i64 b) ∧ w.cell? ⟨x, 1, none⟩ = some (.int .i64 e) ∧ w.cell? ⟨x, 2, none⟩ = some v := ⟨cellB h rfl, cellB h rfl, cellB h rfl⟩
/-- append(nil, texts): what the walk wants -/
theorem one_txt (L : List ByteArray) : ∀ u ∈ L.map Value.string, u.oneCell' = true := fun u hu => by
  obtain ⟨x, _, rfl⟩ := List.mem_map.mp hu
  rfl
end Go.Proofs.YtdbghgpohdijfaaDoor
/- What stands between two turns of FrontRanges: the book above an older world. -/
namespace Go.Proofs.YtdbghgpohdijfaaDoor
open Go.RowKit Go.Scr Bk5
set_option linter.unusedVariables false
/-- the book, m lists taken -/
structure BI (W0 : World) (b m : Nat) (wr : World) (col : Nat → Nat) (V : Nat → Value) (fr : List (Value × List ByteArray)) (wl : List Value) : Prop where
  bk : BookI wr W0.heap.size b col V fr wl [] [] []
  fl : fr.length = m
  wll : wl.length = fr.length
  ln : ∀ p ∈ fr, p.2.length ≤ 1048576
  bl : Below W0.heap.size W0 wr
theorem BI.below {W0 wr w' : World} {b m : Nat} {col : Nat → Nat} {V : Nat → Value} {fr : List (Value × List ByteArray)} {wl : List Value} (h : BI W0 b m wr col V fr wl) (hb : Below wr.heap.size wr w') : BI W0 b m w' col V fr wl :=
  ⟨h.bk.below hb, h.fl, h.wll, h.ln, below_from h.bl hb h.bl.size⟩
theorem BI.dye {W0 wr w' : World} {b m : Nat} {col : Nat → Nat} {V : Nat → Value} {fr : List (Value × List ByteArray)} {wl : List Value} (h : BI W0 b m wr col V fr wl) (hb : Below wr.heap.size wr w') (v : Value) (k : Nat) (hv : ∀ g, v.ownBlock = some g → wr.heap.size ≤ g ∧ g < w'.heap.size) :
    BI W0 b m w' (dyeV col v k) V fr wl ∧ ∀ g, g < wr.heap.size → dyeV col v k g = col g := by
  have h2 := h.below hb
  obtain ⟨d1, d2⟩ := h.bk.dye hb h.bl.size k hv
  exact ⟨⟨d1, h2.fl, h2.wll, h2.ln, h2.bl⟩, d2⟩
/-- a list that waits to be taken -/
structure PL (w : World) (col : Nat → Nat) (v : Value) (L : List ByteArray) (k : Nat) : Prop where
  he : Held w 9 1 v L.length (L.map Value.string)
  co : ∀ g, v.ownBlock = some g → col g = k
  ln : L.length ≤ 1048576
  k4 : 4 ≤ k
theorem PL.below {w w' : World} {col : Nat → Nat} {v : Value} {L : List ByteArray} {k : Nat} (h : PL w col v L k) (hb : Below w.heap.size w w') : PL w' col v L k := ⟨h.he.below hb, h.co, h.ln, h.k4⟩
theorem PL.recol {w : World} {col col' : Nat → Nat} {v : Value} {L : List ByteArray} {k : Nat} (h : PL w col v L k) (hc : ∀ g, g < w.heap.size → col' g = col g) : PL w col' v L k := ⟨h.he, fun g hg => (hc g (h.he.lt hg)).trans (h.co g hg), h.ln, h.k4⟩
theorem PL.only {w w' : World} {col col' : Nat → Nat} {v : Value} {L : List ByteArray} {k : Nat} (h : PL w col v L k) (ho : Only col (fun c => 1 ≤ c ∧ c < 4) w w') (hc : ∀ g, g < w.heap.size → col' g = col g) : PL w' col' v L k :=
  ⟨h.he.keep fun g hg => ho.block g (h.he.lt hg) (by have := h.co g hg; have := h.k4; omega), fun g hg => (hc g (h.he.lt hg)).trans (h.co g hg), h.ln, h.k4⟩
theorem BI.took {W0 wr w' : World} {b m : Nat} {col : Nat → Nat} {V : Nat → Value} {fr : List (Value × List ByteArray)} {wl : List Value} {v : Value} {L : List ByteArray} (h : BI W0 b m wr col V fr wl) (hl : L.length ≤ 1048576)
    (hk : Took wr w' W0.heap.size b col (fr ++ [(v, L)]) wl [] [] []) : ∃ col' V' wl', BI W0 b (m + 1) w' col' V' (fr ++ [(v, L)]) wl' ∧ Only col (fun c => 1 ≤ c ∧ c < 4) wr w' ∧ ∀ g, g < wr.heap.size → col' g = col g := by
  obtain ⟨col', V', x, k1, k2, k3⟩ := hk
  refine ⟨col', V', wl ++ [x], ⟨k1, by rw [List.length_append, h.fl]; rfl, by rw [List.length_append, List.length_append, h.wll]; rfl, fun p hp => ?_, ?_⟩, k2, k3⟩
  · rcases List.mem_append.mp hp with hp | hp
    · exact h.ln p hp
    · obtain rfl : p = (v, L) := by simpa using hp
      exact hl
  · have hb := k2.below (B := W0.heap.size) (by omega) (fun g' hne => (h.bk.st.lo g' hne).1) h.bl.size
    exact h.bl.trans hb
/-- two lists that came out wait; what came last has no colour -/
theorem BI.two {W0 w2 wa wb wc we : World} {b m : Nat} {col : Nat → Nat} {V : Nat → Value} {fr : List (Value × List ByteArray)} {wl : List Value} {v1 v2 : Value} {L1 L2 : List ByteArray} (h : BI W0 b m w2 col V fr wl)
    (l1 : LfI w2 wa v1 L1.length L1) (b2 : Below wa.heap.size wa wb) (l2 : LfI wb wc v2 L2.length L2) (b4 : Below wc.heap.size wc we) (h1 : L1.length ≤ 80) (h2 : L2.length ≤ 80) :
    ∃ col', BI W0 b m we col' V fr wl ∧ PL we col' v1 L1 (8 + m) ∧ PL we col' v2 L2 (8 + (m + 1)) ∧ ∀ g, wc.heap.size ≤ g → col' g = 0 := by
  obtain ⟨d1, e1⟩ := h.dye l1.b v1 (8 + m) (fun g hg => ⟨l1.o g hg, l1.h.lt hg⟩)
  obtain ⟨d2, e2⟩ := (d1.below b2).dye l2.b v2 (8 + (m + 1)) (fun g hg => ⟨l2.o g hg, l2.h.lt hg⟩)
  have p1 : PL wa (dyeV col v1 (8 + m)) v1 L1 (8 + m) := ⟨l1.h, fun g hg => dyeV_at hg, by omega, by omega⟩
  have p2 : PL wc (dyeV (dyeV col v1 (8 + m)) v2 (8 + (m + 1))) v2 L2 (8 + (m + 1)) := ⟨l2.h, fun g hg => dyeV_at hg, by omega, by omega⟩
  refine ⟨_, d2.below b4, (((p1.below b2).recol e2).below l2.b).below b4, p2.below b4, fun g hg => ?_⟩
  by_cases hz : dyeV (dyeV col v1 (8 + m)) v2 (8 + (m + 1)) g = 0
  · exact hz
  · have := (d2.bk.st.lo g hz).2
    omega
/-- the contract of takes, as FrontRanges wants it -/
theorem BI.takes {W0 wr : World} {b m : Nat} {col : Nat → Nat} {V : Nat → Value} {fr : List (Value × List ByteArray)} {wl : List Value} {p : Option Addr} {k c : Nat} {L : List ByteArray} (h : BI W0 b m wr col V fr wl) (hp : PL wr col (.slice p k c) L (8 + m)) (hm : m ≤ 1000) :
    Calls Tryd.prog 38 #[.pointer (some ⟨b, 0, none⟩), .slice p k c] wr fun e w' => e = .returned (.tuple #[]) ∧ ∃ col' V' wl', BI W0 b (m + 1) w' col' V' (fr ++ [(.slice p k c, L)]) wl' ∧ Only col (fun c => 1 ≤ c ∧ c < 4) wr w' ∧ ∀ g, g < wr.heap.size → col' g = col g :=
  (takes_any W0.heap.size b col V fr [] wl [] [] p k c L wr h.bk h.wll hp.he (by have := hp.ln; omega) (fun g hg => by have := hp.co g hg; have := h.fl; simp only [List.length_nil]; omega) (by have := h.fl; omega) h.bl.size).mono fun e w' ⟨h1, h2⟩ => ⟨h1, h.took hp.ln h2⟩
/-- still, behind all -/
theorem BI.still {W0 w' : World} {b m : Nat} {col : Nat → Nat} {V : Nat → Value} {fr : List (Value × List ByteArray)} {wl : List Value} (h : BI W0 b m w' col V fr wl) (hm : m ≤ 1000) :
    Calls Tryd.prog 23 #[.pointer (some ⟨b, 0, none⟩)] w' fun e w'' => e = .returned (.bool true) ∧ Below W0.heap.size W0 w'' := by
  refine (still_any W0.heap.size b col V fr [] wl [] w' h.bk h.wll (fun j p hj => by simp at hj) h.bl.size (by have := h.fl; simp only [List.length_nil]; omega) (by simp) h.ln (fun p hp => by simp at hp) (fun p hp => by simp at hp)).mono fun e w'' ⟨h1, h2⟩ => ⟨h1, ?_⟩
  obtain ⟨_, _, _, _, _, _, _, _, _, _, ho, _⟩ := h2
  exact h.bl.trans (ho.below (B := W0.heap.size) (by omega) (fun g' hne => (h.bk.st.lo g' hne).1) h.bl.size)
/-- the new book -/
theorem BI.begin (wr : World) :
    BI wr wr.heap.size 0 (wr.alloc (.cells #[.slice none 0 0, .slice none 0 0, .slice none 0 0, .slice none 0 0, .slice none 0 0] 48)) (fun i => if i = wr.heap.size then 1 else 0) (fun _ => .slice none 0 0) [] [] := by
  have hbel : Below wr.heap.size wr (wr.alloc (.cells #[.slice none 0 0, .slice none 0 0, .slice none 0 0, .slice none 0 0, .slice none 0 0] 48)) := (Below.refl _ _).alloc (Nat.le_refl _) _
  refine ⟨⟨⟨heap_alloc_new wr _, fun k hk => ?_, if_pos rfl, (fun k hk g hg => by cases hg), fun g' hne' => ?_⟩, Items.nil _ _ _ _ _, wi_nil _ _, Items.nil _ _ _ _ _, (fun p hp => by simp at hp), (fun p hp => by simp at hp)⟩, rfl, rfl, (fun p hp => by simp at hp), hbel⟩
  · have : bookR [] [] [] [] [] k = [] := by
      match k, hk with
      | 0, _ => rfl
      | 1, _ => rfl
      | 2, _ => rfl
      | 3, _ => rfl
      | 4, _ => rfl
    rw [this]
    exact ⟨rfl, .inl ⟨rfl, rfl⟩⟩
  · have : g' = wr.heap.size := by
      by_cases h : g' = wr.heap.size
      · exact h
      · rw [if_neg h] at hne'; exact absurd rfl hne'
    subst this
    simp
end Go.Proofs.YtdbghgpohdijfaaDoor
