/- Some hashers, each with what it has taken, in a list; the same texts in a list beside it. -/
import Derived.Test.YtmkeifhfjhknjaaDoorNod0
import Derived.Test.YtmkeifhfjhknjaaDoorStr
import Derived.Test.YtmkeifhfjhknjaaDoorRcd1
namespace Go.Proofs.YtmkeifhfjhknjaaDoor
open Go.RowKit Go.Scr
set_option linter.unusedVariables false

def ptrV (h : Nat) : Value := .pointer (some ⟨h, 0, none⟩)
theorem info_ptrH : (Tryd.prog.info? 30).map (fun i => (i.zero, i.size, i.bytes)) = some (some (.pointer none), 1, 8) := by kernel_rfl
structure HI (w0 w : World) (col : Nat → Nat) (hv tv : Value) (hl : List Nat) (tl : List ByteArray) (ml : List (List UInt8)) : Prop where
  hr : Held w 30 1 hv hl.length (hl.map ptrV)
  hc : ∀ g, hv.ownBlock = some g → col g = 1
  tr : Held w 9 1 tv tl.length (tl.map Value.string)
  tc : ∀ g, tv.ownBlock = some g → col g = 2
  ln : ml.length = hl.length
  hm : ∀ i h, hl[i]? = some h → col h = 8 + i ∧ ∃ m, ml[i]? = some m ∧ Hm w h m
  lo : ∀ g, col g ≠ 0 → w0.heap.size ≤ g ∧ g < w.heap.size
  bl : Below w0.heap.size w0 w
theorem Hm.at {w w' : World} {h : Nat} {m : List UInt8} (hm : Hm w h m) (hk : w'.heap[h]? = w.heap[h]?) : Hm w' h m := by
  obtain ⟨rest, h1, h2, h3⟩ := hm
  exact ⟨rest, h1, h2, hk.trans h3⟩
theorem HI.below {w0 w w' : World} {col : Nat → Nat} {hv tv : Value} {hl : List Nat} {tl : List ByteArray} {ml : List (List UInt8)} (h : HI w0 w col hv tv hl tl ml) (hb : Below w.heap.size w w') : HI w0 w' col hv tv hl tl ml :=
  ⟨h.hr.below hb, h.hc, h.tr.below hb, h.tc, h.ln, fun i q hq => by
    obtain ⟨a, m, b, c⟩ := h.hm i q hq
    exact ⟨a, m, b, c.below hb c.lt⟩, fun g hg => by have := h.lo g hg; have := hb.size; omega, below_from h.bl hb h.bl.size⟩
theorem HI.recol {w0 w : World} {col col' : Nat → Nat} {hv tv : Value} {hl : List Nat} {tl : List ByteArray} {ml : List (List UInt8)} (h : HI w0 w col hv tv hl tl ml) (hk : ∀ g, g < w.heap.size → col' g = col g) (hlo : ∀ g, col' g ≠ 0 → w0.heap.size ≤ g ∧ g < w.heap.size) : HI w0 w col' hv tv hl tl ml :=
  ⟨h.hr, fun g hg => (hk g (h.hr.lt hg)).trans (h.hc g hg), h.tr, fun g hg => (hk g (h.tr.lt hg)).trans (h.tc g hg), h.ln, fun i q hq => by
    obtain ⟨a, m, b, c⟩ := h.hm i q hq
    exact ⟨(hk q c.lt).trans a, m, b, c⟩, hlo, h.bl⟩
/-- one hasher has taken more -/
theorem HI.wrote {w0 w w1 : World} {col : Nat → Nat} {hv tv : Value} {hl : List Nat} {tl : List ByteArray} {ml : List (List UInt8)} (h : HI w0 w col hv tv hl tl ml) {k q : Nat} {m : List UInt8} (hq : hl[k]? = some q) (hg : w.grownBy w1 (some q)) (hm : Hm w1 q m) : HI w0 w1 col hv tv hl tl (ml.set k m) := by
  obtain ⟨a, m0, b, c⟩ := h.hm k q hq
  have hk : ∀ g, g < w.heap.size → col g ≠ 8 + k → w1.heap[g]? = w.heap[g]? := fun g hgw hne => hg.block g hgw fun e => hne (by rw [Option.some.inj e]; exact a)
  refine ⟨h.hr.keep fun g e => hk g (h.hr.lt e) (by have := h.hc g e; omega), h.hc, h.tr.keep fun g e => hk g (h.tr.lt e) (by have := h.tc g e; omega), h.tc, by rw [List.length_set]; exact h.ln, fun i p hp => ?_, fun g hne => by have := h.lo g hne; have := hg.size; omega, h.bl.grown hg h.bl.size fun j e => by rw [← Option.some.inj e]; exact (h.lo q (by omega)).1⟩
  obtain ⟨a', m', b', c'⟩ := h.hm i p hp
  have hil : i < ml.length := by rw [h.ln]; exact (List.getElem?_eq_some_iff.mp hp).1
  by_cases hik : k = i
  · subst hik
    rw [hq] at hp
    cases hp
    exact ⟨a', m, by rw [List.getElem?_set_self hil], hm⟩
  · exact ⟨a', m', by rw [List.getElem?_set_ne hik]; exact b', c'.at (hk p c'.lt (by omega))⟩
/-- one text is written -/
theorem HI.text {w0 w : World} {col : Nat → Nat} {hv tv : Value} {hl : List Nat} {tl : List ByteArray} {ml : List (List UInt8)} (h : HI w0 w col hv tv hl tl ml) {g : Nat} (hg : tv.ownBlock = some g) (k : Nat) (s : ByteArray) : HI w0 (w.setCell ⟨g, k, none⟩ (.string s)) col hv tv hl (tl.set k s) ml := by
  have hcg := h.tc g hg
  have hsz : (w.setCell ⟨g, k, none⟩ (.string s)).heap.size = w.heap.size := by simp [World.setCell]
  have hk : ∀ q, col q ≠ 2 → (w.setCell ⟨g, k, none⟩ (.string s)).heap[q]? = w.heap[q]? := fun q hne => Below.heap_setCell w _ _ q (fun e => hne (by rw [show q = g from e]; exact hcg))
  refine ⟨h.hr.keep fun q e => hk q (by have := h.hc q e; omega), h.hc, ?_, h.tc, h.ln, fun i p hp => ?_, fun q hne => by rw [hsz]; exact h.lo q hne, h.bl.trans ((only_setCell' (S := fun c => c = 2) hcg _).below (by omega) (fun q hne => (h.lo q hne).1) h.bl.size)⟩
  · rw [List.length_set, List.map_set]
    exact h.tr.set hg k _
  · obtain ⟨a, m, b, c⟩ := h.hm i p hp
    exact ⟨a, m, b, c.at (hk p (by omega))⟩
/-- one block has turned, of colour κ -/
theorem HI.turn {w0 w w1 : World} {col : Nat → Nat} {hv tv : Value} {hl : List Nat} {tl : List ByteArray} {ml : List (List UInt8)} {r : Option Nat} {v' : Value} {κ : Nat} (h : HI w0 w col hv tv hl tl ml) (hg : w.grownBy w1 r) (hr : ∀ g, r = some g → col g = κ) (hk : κ ≠ 0) (hat : v'.ownBlock = r ∨ ∃ H, v'.ownBlock = some H ∧ w.heap.size ≤ H) (hlt : ∀ g, v'.ownBlock = some g → g < w1.heap.size) :
    (∀ g, g < w.heap.size → dyeV col v' κ g = col g) ∧ (∀ g, g < w.heap.size → col g ≠ κ → w1.heap[g]? = w.heap[g]?) ∧ (∀ g, dyeV col v' κ g ≠ 0 → w0.heap.size ≤ g ∧ g < w1.heap.size) ∧ Below w0.heap.size w0 w1 := by
  have hs := hg.size
  have hold : ∀ g, g < w.heap.size → dyeV col v' κ g = col g := fun g hgw => dyeV_old fun he => by
    rcases hat with h1 | ⟨H, h1, h2⟩
    · exact hr g (by rw [← h1]; exact he)
    · rw [he] at h1; cases h1; omega
  refine ⟨hold, fun g hgw hne => hg.block g hgw fun e => hne (hr g e.symm), fun g hne => ?_, h.bl.grown hg h.bl.size fun k e => (h.lo k (by rw [hr k e]; exact hk)).1⟩
  rcases dyeV_ne hne with he | he
  · refine ⟨?_, hlt g he⟩
    rcases hat with h1 | ⟨H, h1, h2⟩
    · exact (h.lo g (by rw [hr g (by rw [← h1]; exact he)]; exact hk)).1
    · rw [he] at h1; cases h1; have := h.bl.size; omega
  · have := h.lo g he; omega
/-- one hasher more -/
theorem HI.addH {w0 w w1 : World} {col : Nat → Nat} {hv hv' tv : Value} {hl : List Nat} {tl : List ByteArray} {ml : List (List UInt8)} {n c : Nat} {m : List UInt8} (h : HI w0 w col hv tv hl tl ml) (hn : n = hl.length) (hm : Hm w c m) (hc : col c = 8 + n)
    (hg : Grew 30 1 w hv n 1 (hl.map ptrV) [ptrV c] hv' w1) : HI w0 w1 (dyeV col hv' 1) hv' tv (hl ++ [c]) tl (ml ++ [m]) := by
  subst hn
  obtain ⟨a1, a2, a3, a4⟩ := h.turn hg.grown h.hc (by omega) (hg.at.imp (·.1) fun e => ⟨_, e.1, Nat.le_refl _⟩) (fun g e => hg.held.lt e)
  refine ⟨?_, fun g e => dyeV_at e, h.tr.keep fun g e => a2 g (h.tr.lt e) (by have := h.tc g e; omega), fun g e => (a1 g (h.tr.lt e)).trans (h.tc g e), by simp [h.ln], fun i p hp => ?_, a3, a4⟩
  · rw [List.map_append, List.length_append]
    exact hg.held
  · by_cases hi : i < hl.length
    · rw [List.getElem?_append_left hi] at hp
      obtain ⟨a, m', b, d⟩ := h.hm i p hp
      exact ⟨(a1 p d.lt).trans a, m', by rw [List.getElem?_append_left (by rw [h.ln]; exact hi)]; exact b, d.at (a2 p d.lt (by omega))⟩
    · rw [List.getElem?_append_right (by omega)] at hp
      obtain ⟨hi2, rfl⟩ := List.getElem?_eq_some_iff.mp hp
      have hie : i = hl.length := by simp at hi2; omega
      subst hie
      simp only [Nat.sub_self, List.getElem_cons_zero]
      exact ⟨(a1 c hm.lt).trans hc, m, by rw [← h.ln]; simp, hm.at (a2 c hm.lt (by omega))⟩
/-- one text more -/
theorem HI.addT {w0 w w1 : World} {col : Nat → Nat} {hv tv tv' : Value} {hl : List Nat} {tl : List ByteArray} {ml : List (List UInt8)} {n : Nat} {s : ByteArray} (h : HI w0 w col hv tv hl tl ml) (hn : n = tl.length)
    (hg : Grew 9 1 w tv n 1 (tl.map Value.string) [.string s] tv' w1) : HI w0 w1 (dyeV col tv' 2) hv tv' hl (tl ++ [s]) ml := by
  subst hn
  obtain ⟨a1, a2, a3, a4⟩ := h.turn hg.grown h.tc (by omega) (hg.at.imp (·.1) fun e => ⟨_, e.1, Nat.le_refl _⟩) (fun g e => hg.held.lt e)
  refine ⟨h.hr.keep fun g e => a2 g (h.hr.lt e) (by have := h.hc g e; omega), fun g e => (a1 g (h.hr.lt e)).trans (h.hc g e), ?_, fun g e => dyeV_at e, h.ln, fun i p hp => ?_, a3, a4⟩
  · rw [List.map_append, List.length_append]
    exact hg.held
  · obtain ⟨a, m', b, d⟩ := h.hm i p hp
    exact ⟨(a1 p d.lt).trans a, m', b, d.at (a2 p d.lt (by omega))⟩
/-- a hasher more stands beside them (not yet in the list) -/
theorem HI.stand {w0 w w' : World} {col : Nat → Nat} {hv tv : Value} {hl : List Nat} {tl : List ByteArray} {ml : List (List UInt8)} (h : HI w0 w col hv tv hl tl ml) (hb : Below w.heap.size w w') {c : Nat} (hc : w.heap.size ≤ c) (hc2 : c < w'.heap.size) (k : Nat) : HI w0 w' (dye col c k) hv tv hl tl ml ∧ dye col c k c = k := by
  refine ⟨?_, dye_at _ _ _⟩
  have h0 := h.below hb
  have hold : ∀ g, g < w.heap.size → dye col c k g = col g := fun g hg => dye_old (by omega)
  exact ⟨h0.hr, fun g hg => (hold g (h.hr.lt hg)).trans (h.hc g hg), h0.tr, fun g hg => (hold g (h.tr.lt hg)).trans (h.tc g hg), h.ln, fun i q hq => by
    obtain ⟨a, m, b, d⟩ := h.hm i q hq
    exact ⟨(hold q d.lt).trans a, m, b, d.below hb d.lt⟩, fun g hg => by
      by_cases hgc : g = c
      · subst hgc; have := h.bl.size; omega
      · have : dye col c k g = col g := if_neg hgc
        rw [this] at hg; have := h.lo g hg; have := hb.size; omega, h0.bl⟩
/-- what is read of them -/
theorem HI.at {w0 w : World} {col : Nat → Nat} {hv tv : Value} {hl : List Nat} {tl : List ByteArray} {ml : List (List UInt8)} (h : HI w0 w col hv tv hl tl ml) {k q : Nat} (hq : hl[k]? = some q) : ∃ m, ml[k]? = some m ∧ Hm w q m ∧ w0.heap.size ≤ q := by
  obtain ⟨a, m, b, c⟩ := h.hm k q hq
  exact ⟨m, b, c, (h.lo q (by omega)).1⟩
theorem HI.begin {w0 w : World} {h : Nat} (hb : Below w0.heap.size w0 w) (hh : w0.heap.size ≤ h) (hm : Hm w h []) (T : TypeId) (hT : T = 30) :
    HI w0 ((w.alloc (.cells #[ptrV h] T)).alloc (.cells #[.string ⟨#[]⟩] 9)) (dye (dye (dye (fun _ => 0) h 8) w.heap.size 1) (w.heap.size + 1) 2) (.slice (some ⟨w.heap.size, 0, none⟩) 1 1) (.slice (some ⟨w.heap.size + 1, 0, none⟩) 1 1) [h] [⟨#[]⟩] [[]] := by
  subst hT
  have hlt := hm.lt
  have e1 : (w.alloc (.cells #[ptrV h] 30)).heap.size = w.heap.size + 1 := by simp
  have b1 : ((w.alloc (.cells #[ptrV h] 30)).alloc (.cells #[.string ⟨#[]⟩] 9)).heap[w.heap.size]? = some (.cells #[ptrV h] 30 (0, 0)) := by
    refine ((Below.refl _ _).alloc (Nat.le_refl _) _).block _ (by omega) |>.trans ?_
    exact heap_alloc_new w _
  have b2 : ((w.alloc (.cells #[ptrV h] 30)).alloc (.cells #[.string ⟨#[]⟩] 9)).heap[w.heap.size + 1]? = some (.cells #[.string ⟨#[]⟩] 9 (0, 0)) := by
    have := heap_alloc_new (w.alloc (.cells #[ptrV h] 30)) (.cells #[.string ⟨#[]⟩] 9)
    rwa [e1] at this
  have hbb : Below w.heap.size w ((w.alloc (.cells #[ptrV h] 30)).alloc (.cells #[.string ⟨#[]⟩] 9)) := ((Below.refl _ _).alloc (Nat.le_refl _) _).alloc (by omega) _
  have d1 : dye (dye (dye (fun _ => 0) h 8) w.heap.size 1) (w.heap.size + 1) 2 h = 8 := by
    rw [dye_old (by omega), dye_old (by omega), dye_at]
  refine ⟨⟨rfl, .inr ⟨w.heap.size, 1, _, rfl, b1, Nat.le_refl _, by decide, Nat.le_refl _, rfl⟩⟩, fun g e => ?_, ⟨rfl, .inr ⟨w.heap.size + 1, 1, _, rfl, b2, Nat.le_refl _, by decide, Nat.le_refl _, rfl⟩⟩, fun g e => ?_, rfl, fun i q hq => ?_, fun g hg => ?_, below_from hb hbb hb.size⟩
  · have e' : w.heap.size = g := Option.some.inj e
    subst e'
    rw [dye_old (by omega), dye_at]
  · have e' : w.heap.size + 1 = g := Option.some.inj e
    subst e'
    exact dye_at _ _ _
  · match i, hq with
    | 0, hq =>
      cases hq
      exact ⟨d1, [], rfl, hm.below hbb hlt⟩
  · have hs : ((w.alloc (.cells #[ptrV h] 30)).alloc (.cells #[.string ⟨#[]⟩] 9)).heap.size = w.heap.size + 2 := by simp
    have := hb.size
    rw [hs]
    unfold dye at hg
    by_cases c1 : g = w.heap.size + 1
    · omega
    · rw [if_neg c1] at hg
      by_cases c2 : g = w.heap.size
      · omega
      · rw [if_neg c2] at hg
        by_cases c3 : g = h
        · omega
        · rw [if_neg c3] at hg; exact absurd rfl hg
end Go.Proofs.YtmkeifhfjhknjaaDoor
