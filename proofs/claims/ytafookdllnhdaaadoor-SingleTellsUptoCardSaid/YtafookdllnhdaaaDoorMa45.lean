/- What stands in SingleTells: the tree, the document's tree, two lists of lists. -/
import Derived.Test.YtafookdllnhdaaaDoorMa41
import Derived.Test.YtafookdllnhdaaaDoorMa42
import Derived.Test.YtafookdllnhdaaaDoorMa28
namespace Go.Proofs.YtafookdllnhdaaaDoor
open Go.RowKit Go.Scr Go.ChangeMaps Go.MapKept
set_option linter.unusedVariables false
theorem held_apartQ {w : World} {S T n m s t g : Nat} {v u : Value} {xs ys : List Value} (hST : S ≠ T) (h : Held w S s v n xs) (k : Held w T t u m ys) (hv : v.ownBlock = some g) : u.ownBlock ≠ some g := by
  intro hu
  rcases h.2 with ⟨rfl, _⟩ | ⟨a, c1, cur, rfl, hg, _⟩
  · cases hv
  rcases k.2 with ⟨rfl, _⟩ | ⟨b, c2, cur2, rfl, hg2, _⟩
  · cases hu
  cases hv
  cases hu
  rw [hg] at hg2
  injection hg2 with e
  injection e with e1 e2
  exact hST e2
theorem below_chg7 {B : Nat} {Q : Nat → Prop} {w a c : World} (h : Below B w a) (g : Chg Q a c) (hq : ∀ i, Q i → B ≤ i) (hB : B ≤ a.heap.size) : Below B w c :=
  ⟨g.os.trans h.os, g.tape.trans h.tape, g.output.trans h.output, Nat.le_trans h.size g.size, fun i hi => (g.same i (Nat.lt_of_lt_of_le hi hB) (fun e => by have := hq i e; omega)).trans (h.block i hi)⟩
theorem TreeU.keepQ {w w' : World} {B tb h : Nat} {L : List ByteArray} {col : Col} (t : TreeU w B tb h L col) (hk : ∀ g, col g ≠ none → w'.heap[g]? = w.heap[g]?) (hs : w.heap.size ≤ w'.heap.size) : TreeU w' B tb h L col := by
  refine ⟨?_, t.b, t.z, t.n⟩
  obtain ⟨r, ex, G, V, es, clk, t0, hex⟩ := t.t
  exact ⟨r, ex, G, V, es, clk, t0.keep hk hs, hex⟩
structure SeI (W w : World) (B tb h xb : Nat) (ca : Col) (oc : Nat → Nat) (L M : List ByteArray) (v7 lv wv : Value) (ls ms : List (Value × List ByteArray)) : Prop where
  bl : Below W.heap.size W w
  t : TreeU w B tb h L ca
  tl : ∀ g, ca g ≠ none → W.heap.size ≤ g
  dj : ∀ g, oc g ≠ 0 → ca g = none
  ol : ∀ g, oc g ≠ 0 → W.heap.size ≤ g ∧ g < w.heap.size
  x : D7I w xb 1 M v7
  xo : ∀ g, bxQ xb v7 g → oc g = 6
  lr : Held w 52 1 lv ls.length (ls.map (·.1))
  lo : ∀ g, lv.ownBlock = some g → oc g = 1
  wr : Held w 52 1 wv ms.length (ms.map (·.1))
  wo : ∀ g, wv.ownBlock = some g → oc g = 4
  li : Items Value.string w oc 9 8 ls
  mi : ∀ p ∈ ms, Held w 9 1 p.1 p.2.length (p.2.map Value.string) ∧ (∀ g, p.1.ownBlock = some g → oc g = 5) ∧ p.2.length ≤ 4194304
theorem SeI.below {W w w' : World} {B tb h xb : Nat} {ca : Col} {oc : Nat → Nat} {L M : List ByteArray} {v7 lv wv : Value} {ls ms : List (Value × List ByteArray)} (H : SeI W w B tb h xb ca oc L M v7 lv wv ls ms) (hb : Below w.heap.size w w') : SeI W w' B tb h xb ca oc L M v7 lv wv ls ms :=
  ⟨below_from H.bl hb H.bl.size, H.t.below hb, H.tl, H.dj, fun g hg => by have := H.ol g hg; have := hb.size; omega, H.x.below hb, H.xo, H.lr.below hb, H.lo, H.wr.below hb, H.wo, H.li.move (fun g hg _ => hb.block g hg) (fun _ _ => rfl), fun p hp => ⟨(H.mi p hp).1.below hb, (H.mi p hp).2.1, (H.mi p hp).2.2⟩⟩
/-- the tree has taken a leaf -/
theorem SeI.mvT {W w w' : World} {B tb h xb : Nat} {ca ca' : Col} {oc : Nat → Nat} {L L' M : List ByteArray} {v7 lv wv : Value} {ls ms : List (Value × List ByteArray)} (H : SeI W w B tb h xb ca oc L M v7 lv wv ls ms) (t' : TreeU w' B tb h L' ca') (hc : ChT ca w w') (hq : ∀ q, q < w.heap.size → ca' q = ca q) : SeI W w' B tb h xb ca' oc L' M v7 lv wv ls ms := by
  have hk : ∀ g, oc g ≠ 0 → w'.heap[g]? = w.heap[g]? := fun g hg => hc.block g (H.ol g hg).2 (H.dj g hg)
  refine ⟨H.bl.trans (hc.low H.tl H.bl.size), t', low_of' H.tl H.bl.size hq, fun g hg => (hq g (H.ol g hg).2).trans (H.dj g hg), fun g hg => by have := H.ol g hg; have := hc.size; omega, H.x.keep fun g hg => hk g (by rw [H.xo g hg]; decide), H.xo, H.lr.keep fun g hg => hk g (by rw [H.lo g hg]; decide), H.lo, H.wr.keep fun g hg => hk g (by rw [H.wo g hg]; decide), H.wo, H.li.move (fun g hg h1 => hk g (by omega)) (fun _ _ => rfl), fun p hp => ?_⟩
  obtain ⟨a, b, c⟩ := H.mi p hp
  exact ⟨a.keep fun g hg => hk g (by rw [b g hg]; decide), b, c⟩
/-- the document's tree has taken a leaf -/
theorem SeI.mvX {W w w' : World} {B tb h xb : Nat} {ca : Col} {oc : Nat → Nat} {L M M' : List ByteArray} {v7 v7' lv wv : Value} {ls ms : List (Value × List ByteArray)} (H : SeI W w B tb h xb ca oc L M v7 lv wv ls ms) (x' : D7I w' xb 1 M' v7') (hc : Chg (bxQ xb v7) w w') (ho : ∀ q, v7'.ownBlock = some q → v7.ownBlock = some q ∨ w.heap.size ≤ q) :
    ∃ oc', SeI W w' B tb h xb ca oc' L M' v7' lv wv ls ms ∧ ∀ g, oc' g ≠ 0 → oc g ≠ 0 ∨ w.heap.size ≤ g := by
  have hk : ∀ g, g < w.heap.size → oc g ≠ 6 → w'.heap[g]? = w.heap[g]? := fun g hg hne => hc.same g hg fun a => hne (H.xo g a)
  have hco : ∀ g, g < w.heap.size → dyeV oc v7' 6 g = oc g := fun g hg => dyeV_old fun he => by
    rcases ho g he with e | e
    · exact H.xo g (.inr e)
    · omega
  have hlo : ∀ g, bxQ xb v7 g → W.heap.size ≤ g := fun g hg => (H.ol g (by rw [H.xo g hg]; decide)).1
  have hol : ∀ g, oc g ≠ 0 → g < w.heap.size := fun g hg => (H.ol g hg).2
  refine ⟨dyeV oc v7' 6, ⟨below_chg7 H.bl hc hlo H.bl.size, H.t.keepQ (fun g hg => ?_) hc.size, H.tl, fun g hg => ?_, fun g hg => ?_, x', fun g hg => ?_, H.lr.keep fun g hg => hk g (H.lr.lt hg) (by rw [H.lo g hg]; decide), fun g hg => (hco g (H.lr.lt hg)).trans (H.lo g hg), H.wr.keep fun g hg => hk g (H.wr.lt hg) (by rw [H.wo g hg]; decide), fun g hg => (hco g (H.wr.lt hg)).trans (H.wo g hg), H.li.move (fun g hg h1 => hk g hg (by omega)) hco, fun p hp => ?_⟩, fun g hg => ?_⟩
  · exact hc.same g (H.t.t.lo g hg) fun a => hg (H.dj g (by rw [H.xo g a]; decide))
  · rcases dyeV_ne hg with he | he
    · rcases ho g he with e | e
      · exact H.dj g (by rw [H.xo g (.inr e)]; decide)
      · exact H.t.t.far e
    · exact H.dj g he
  · rcases dyeV_ne hg with he | he
    · refine ⟨?_, x'.hd.lt he⟩
      rcases ho g he with e | e
      · exact hlo g (.inr e)
      · have := H.bl.size; omega
    · have := H.ol g he; have := hc.size; omega
  · rcases hg with rfl | hg
    · rw [hco _ (blk_lt H.x.box)]; exact H.xo _ (.inl rfl)
    · exact dyeV_at hg
  · obtain ⟨a, b, c⟩ := H.mi p hp
    exact ⟨a.keep fun g hg => hk g (a.lt hg) (by rw [b g hg]; decide), fun g hg => (hco g (a.lt hg)).trans (b g hg), c⟩
  · rcases dyeV_ne hg with he | he
    · rcases ho g he with e | e
      · exact .inl (by rw [H.xo g (.inr e)]; decide)
      · exact .inr e
    · exact .inl he
/-- a list that has just come out -/
structure NuL (w : World) (oc : Nat → Nat) (ca : Col) (W : World) (v : Value) (P : List ByteArray) : Prop where
  he : Held w 9 1 v P.length (P.map Value.string)
  ou : ∀ g, v.ownBlock = some g → oc g = 0 ∧ ca g = none ∧ W.heap.size ≤ g
  ln : P.length ≤ 4194304
/-- two lists are put behind those that came out -/
theorem SeI.pushL {W w w1 : World} {B tb h xb n : Nat} {ca : Col} {oc : Nat → Nat} {L M : List ByteArray} {v7 lv lv' wv va vb : Value} {ls ms : List (Value × List ByteArray)} {A C : List ByteArray} {o : Obj} (H : SeI W w B tb h xb ca oc L M v7 lv wv ls ms) (a : NuL w oc ca W va A) (b : NuL w oc ca W vb C) (hab : ∀ g, va.ownBlock = some g → vb.ownBlock ≠ some g) (hn : n = ls.length)
    (hg : Grew 52 1 (w.alloc o) lv n 2 (ls.map (·.1)) [va, vb] lv' w1) : ∃ oc', SeI W w1 B tb h xb ca oc' L M v7 lv' wv (ls ++ [(va, A), (vb, C)]) ms ∧ ∀ g, oc' g ≠ 0 → oc g ≠ 0 ∨ va.ownBlock = some g ∨ vb.ownBlock = some g ∨ w.heap.size ≤ g := by
  subst hn
  have hgw := grown_alloc hg.grown
  have hat := hg.at'
  have hh := hg.held
  have hk : ∀ g, g < w.heap.size → oc g ≠ 1 → w1.heap[g]? = w.heap[g]? := fun g hgl hne => hgw.block g hgl fun e => hne (H.lo g e.symm)
  have hla : ∀ g, va.ownBlock = some g → lv'.ownBlock ≠ some g := fun g hg' e => held_apartQ (by decide) (a.he.keep fun q hq => hk q (a.he.lt hq) (by rw [(a.ou q hq).1]; decide)) hh hg' e
  have hlb : ∀ g, vb.ownBlock = some g → lv'.ownBlock ≠ some g := fun g hg' e => held_apartQ (by decide) (b.he.keep fun q hq => hk q (b.he.lt hq) (by rw [(b.ou q hq).1]; decide)) hh hg' e
  obtain ⟨oc', hoc⟩ : ∃ oc', oc' = dyeV (dyeV (dyeV oc vb (8 + ls.length + 1)) va (8 + ls.length)) lv' 1 := ⟨_, rfl⟩
  have o1 : ∀ g, lv'.ownBlock = some g → oc' g = 1 := fun g e => by rw [hoc]; exact dyeV_at e
  have oa : ∀ g, va.ownBlock = some g → oc' g = 8 + ls.length := fun g e => by
    rw [hoc]
    show (if _ then _ else _) = _
    rw [if_neg (hla g e)]
    exact dyeV_at e
  have ob : ∀ g, vb.ownBlock = some g → oc' g = 8 + ls.length + 1 := fun g e => by
    rw [hoc]
    show (if _ then _ else _) = _
    rw [if_neg (hlb g e)]
    show (if _ then _ else _) = _
    rw [if_neg (fun e2 => hab g e2 e)]
    exact dyeV_at e
  have oz : ∀ g, oc' g ≠ 0 → oc g ≠ 0 ∨ va.ownBlock = some g ∨ vb.ownBlock = some g ∨ lv'.ownBlock = some g := fun g hne => by
    rw [hoc] at hne
    rcases dyeV_ne hne with e | e
    · exact .inr (.inr (.inr e))
    · rcases dyeV_ne e with e | e
      · exact .inr (.inl e)
      · rcases dyeV_ne e with e | e
        · exact .inr (.inr (.inl e))
        · exact .inl e
  have oo : ∀ g, oc g ≠ 0 → oc' g = oc g := fun g hne => by
    by_cases e : lv'.ownBlock = some g
    · rw [o1 g e]
      rcases hat with e2 | ⟨G, e2, hG⟩
      · rw [e2] at e; exact (H.lo g e).symm
      · rw [e] at e2; have := Option.some.inj e2; have := (H.ol g hne).2; omega
    · rw [hoc]
      show (if _ then _ else _) = _
      rw [if_neg e]
      show (if _ then _ else _) = _
      rw [if_neg (fun e2 => hne (a.ou g e2).1)]
      show (if _ then _ else _) = _
      rw [if_neg (fun e2 => hne (b.ou g e2).1)]
  have hown : ∀ g, lv'.ownBlock = some g → (lv.ownBlock = some g ∨ w.heap.size ≤ g) := fun g e => by
    rcases hat with e2 | ⟨G, e2, hG⟩
    · rw [e2] at e; exact .inl e
    · rw [e] at e2; have := Option.some.inj e2; exact .inr (by omega)
  refine ⟨oc', ⟨?_, H.t.keepQ (fun g hne => ?_) hgw.size, H.tl, fun g hne => ?_, fun g hne => ?_, H.x.keep fun g hg' => hk g (H.x.q_lt hg') (by rw [H.xo g hg']; decide), fun g hg' => ?_, ?_, o1, H.wr.keep fun g hg' => hk g (H.wr.lt hg') (by rw [H.wo g hg']; decide), fun g hg' => ?_, ?_, fun p hp => ?_⟩, fun g hne => ?_⟩
  · have hb2 : Below W.heap.size w w1 := ⟨hgw.os, hgw.tape, hgw.output, hgw.size, fun i hi => hgw.block i (Nat.lt_of_lt_of_le hi H.bl.size) (fun e => by have := (H.ol i (by rw [H.lo i e.symm]; decide)).1; omega)⟩
    exact H.bl.trans hb2
  · exact hk g (H.t.t.lo g hne) (fun e => hne (H.dj g (by rw [e]; decide)))
  · rcases oz g hne with e | e | e | e
    · exact H.dj g e
    · exact (a.ou g e).2.1
    · exact (b.ou g e).2.1
    · rcases hown g e with e2 | e2
      · exact H.dj g (by rw [H.lo g e2]; decide)
      · exact H.t.t.far e2
  · rcases oz g hne with e | e | e | e
    · have := H.ol g e; have := hgw.size; omega
    · have := (a.ou g e).2.2; have := a.he.lt e; have := hgw.size; omega
    · have := (b.ou g e).2.2; have := b.he.lt e; have := hgw.size; omega
    · refine ⟨?_, hh.lt e⟩
      rcases hown g e with e2 | e2
      · exact (H.ol g (by rw [H.lo g e2]; decide)).1
      · have := H.bl.size; omega
  · rw [oo g (by rw [H.xo g hg']; decide)]; exact H.xo g hg'
  · have e : (ls ++ [(va, A), (vb, C)]).map (·.1) = ls.map (·.1) ++ [va, vb] := by simp
    rw [e, List.length_append]
    exact hh
  · rw [oo g (by rw [H.wo g hg']; decide)]; exact H.wo g hg'
  · intro i p hp
    rw [List.getElem?_append] at hp
    split at hp
    · obtain ⟨b1, b2, b3⟩ := H.li i p hp
      exact ⟨b1.keep fun g hg' => hk g (b1.lt hg') (by have := b3 g hg'; omega), b2, fun g hg' => by rw [oo g (by rw [b3 g hg']; omega)]; exact b3 g hg'⟩
    · rename_i hi
      match hj : i - ls.length, hp with
      | 0, hp =>
        obtain rfl : (va, A) = p := by simpa using hp
        have hii : i = ls.length := by omega
        exact ⟨a.he.keep fun g hg' => hk g (a.he.lt hg') (by rw [(a.ou g hg').1]; decide), a.ln, fun g hg' => by rw [oa g hg', hii]⟩
      | 1, hp =>
        obtain rfl : (vb, C) = p := by simpa using hp
        have hii : i = ls.length + 1 := by omega
        exact ⟨b.he.keep fun g hg' => hk g (b.he.lt hg') (by rw [(b.ou g hg').1]; decide), b.ln, fun g hg' => by rw [ob g hg', hii]; omega⟩
      | k + 2, hp => simp at hp
  · obtain ⟨b1, b2, b3⟩ := H.mi p hp
    exact ⟨b1.keep fun g hg' => hk g (b1.lt hg') (by rw [b2 g hg']; decide), fun g hg' => by rw [oo g (by rw [b2 g hg']; decide)]; exact b2 g hg', b3⟩
  · rcases oz g hne with e | e | e | e
    · exact .inl e
    · exact .inr (.inl e)
    · exact .inr (.inr (.inl e))
    · rcases hown g e with e2 | e2
      · exact .inl (by rw [H.lo g e2]; decide)
      · exact .inr (.inr (.inr e2))
/-- two lists are put behind those that are wanted -/
theorem SeI.pushW {W w w1 : World} {B tb h xb n : Nat} {ca : Col} {oc : Nat → Nat} {L M : List ByteArray} {v7 lv wv wv' va vb : Value} {ls ms : List (Value × List ByteArray)} {A C : List ByteArray} {o : Obj} (H : SeI W w B tb h xb ca oc L M v7 lv wv ls ms) (a : NuL w oc ca W va A) (b : NuL w oc ca W vb C) (hn : n = ms.length)
    (hg : Grew 52 1 (w.alloc o) wv n 2 (ms.map (·.1)) [va, vb] wv' w1) : ∃ oc', SeI W w1 B tb h xb ca oc' L M v7 lv wv' ls (ms ++ [(va, A), (vb, C)]) ∧ ∀ g, oc' g ≠ 0 → oc g ≠ 0 ∨ va.ownBlock = some g ∨ vb.ownBlock = some g ∨ w.heap.size ≤ g := by
  subst hn
  have hgw := grown_alloc hg.grown
  have hat := hg.at'
  have hh := hg.held
  have hk : ∀ g, g < w.heap.size → oc g ≠ 4 → w1.heap[g]? = w.heap[g]? := fun g hgl hne => hgw.block g hgl fun e => hne (H.wo g e.symm)
  have hla : ∀ g, va.ownBlock = some g → wv'.ownBlock ≠ some g := fun g hg' e => held_apartQ (by decide) (a.he.keep fun q hq => hk q (a.he.lt hq) (by rw [(a.ou q hq).1]; decide)) hh hg' e
  have hlb : ∀ g, vb.ownBlock = some g → wv'.ownBlock ≠ some g := fun g hg' e => held_apartQ (by decide) (b.he.keep fun q hq => hk q (b.he.lt hq) (by rw [(b.ou q hq).1]; decide)) hh hg' e
  obtain ⟨oc', hoc⟩ : ∃ oc', oc' = dyeV (dyeV (dyeV oc vb 5) va 5) wv' 4 := ⟨_, rfl⟩
  have o1 : ∀ g, wv'.ownBlock = some g → oc' g = 4 := fun g e => by rw [hoc]; exact dyeV_at e
  have oa : ∀ g, va.ownBlock = some g → oc' g = 5 := fun g e => by
    rw [hoc]
    show (if _ then _ else _) = _
    rw [if_neg (hla g e)]
    exact dyeV_at e
  have ob : ∀ g, vb.ownBlock = some g → oc' g = 5 := fun g e => by
    rw [hoc]
    show (if _ then _ else _) = _
    rw [if_neg (hlb g e)]
    show (if _ then _ else _) = _
    by_cases e2 : va.ownBlock = some g
    · rw [if_pos e2]
    · rw [if_neg e2]
      exact dyeV_at e
  have oz : ∀ g, oc' g ≠ 0 → oc g ≠ 0 ∨ va.ownBlock = some g ∨ vb.ownBlock = some g ∨ wv'.ownBlock = some g := fun g hne => by
    rw [hoc] at hne
    rcases dyeV_ne hne with e | e
    · exact .inr (.inr (.inr e))
    · rcases dyeV_ne e with e | e
      · exact .inr (.inl e)
      · rcases dyeV_ne e with e | e
        · exact .inr (.inr (.inl e))
        · exact .inl e
  have oo : ∀ g, oc g ≠ 0 → oc' g = oc g := fun g hne => by
    by_cases e : wv'.ownBlock = some g
    · rw [o1 g e]
      rcases hat with e2 | ⟨G, e2, hG⟩
      · rw [e2] at e; exact (H.wo g e).symm
      · rw [e] at e2; have := Option.some.inj e2; have := (H.ol g hne).2; omega
    · rw [hoc]
      show (if _ then _ else _) = _
      rw [if_neg e]
      show (if _ then _ else _) = _
      rw [if_neg (fun e2 => hne (a.ou g e2).1)]
      show (if _ then _ else _) = _
      rw [if_neg (fun e2 => hne (b.ou g e2).1)]
  have hown : ∀ g, wv'.ownBlock = some g → (wv.ownBlock = some g ∨ w.heap.size ≤ g) := fun g e => by
    rcases hat with e2 | ⟨G, e2, hG⟩
    · rw [e2] at e; exact .inl e
    · rw [e] at e2; have := Option.some.inj e2; exact .inr (by omega)
  refine ⟨oc', ⟨?_, H.t.keepQ (fun g hne => ?_) hgw.size, H.tl, fun g hne => ?_, fun g hne => ?_, H.x.keep fun g hg' => hk g (H.x.q_lt hg') (by rw [H.xo g hg']; decide), fun g hg' => ?_, H.lr.keep fun g hg' => hk g (H.lr.lt hg') (by rw [H.lo g hg']; decide), fun g hg' => ?_, ?_, o1, ?_, fun p hp => ?_⟩, fun g hne => ?_⟩
  · have hb2 : Below W.heap.size w w1 := ⟨hgw.os, hgw.tape, hgw.output, hgw.size, fun i hi => hgw.block i (Nat.lt_of_lt_of_le hi H.bl.size) (fun e => by have := (H.ol i (by rw [H.wo i e.symm]; decide)).1; omega)⟩
    exact H.bl.trans hb2
  · exact hk g (H.t.t.lo g hne) (fun e => hne (H.dj g (by rw [e]; decide)))
  · rcases oz g hne with e | e | e | e
    · exact H.dj g e
    · exact (a.ou g e).2.1
    · exact (b.ou g e).2.1
    · rcases hown g e with e2 | e2
      · exact H.dj g (by rw [H.wo g e2]; decide)
      · exact H.t.t.far e2
  · rcases oz g hne with e | e | e | e
    · have := H.ol g e; have := hgw.size; omega
    · have := (a.ou g e).2.2; have := a.he.lt e; have := hgw.size; omega
    · have := (b.ou g e).2.2; have := b.he.lt e; have := hgw.size; omega
    · refine ⟨?_, hh.lt e⟩
      rcases hown g e with e2 | e2
      · exact (H.ol g (by rw [H.wo g e2]; decide)).1
      · have := H.bl.size; omega
  · rw [oo g (by rw [H.xo g hg']; decide)]; exact H.xo g hg'
  · rw [oo g (by rw [H.lo g hg']; decide)]; exact H.lo g hg'
  · have e : (ms ++ [(va, A), (vb, C)]).map (·.1) = ms.map (·.1) ++ [va, vb] := by simp
    rw [e, List.length_append]
    exact hh
  · intro i p hp
    obtain ⟨b1, b2, b3⟩ := H.li i p hp
    exact ⟨b1.keep fun g hg' => hk g (b1.lt hg') (by have := b3 g hg'; omega), b2, fun g hg' => by rw [oo g (by rw [b3 g hg']; omega)]; exact b3 g hg'⟩
  · rcases List.mem_append.1 hp with hp | hp
    · obtain ⟨b1, b2, b3⟩ := H.mi p hp
      exact ⟨b1.keep fun g hg' => hk g (b1.lt hg') (by rw [b2 g hg']; decide), fun g hg' => by rw [oo g (by rw [b2 g hg']; decide)]; exact b2 g hg', b3⟩
    · rcases List.mem_cons.1 hp with rfl | hp
      · exact ⟨a.he.keep fun g hg' => hk g (a.he.lt hg') (by rw [(a.ou g hg').1]; decide), oa, a.ln⟩
      · rw [List.mem_singleton.1 hp]
        exact ⟨b.he.keep fun g hg' => hk g (b.he.lt hg') (by rw [(b.ou g hg').1]; decide), ob, b.ln⟩
  · rcases oz g hne with e | e | e | e
    · exact .inl e
    · exact .inr (.inl e)
    · exact .inr (.inr (.inl e))
    · rcases hown g e with e2 | e2
      · exact .inl (by rw [H.wo g e2]; decide)
      · exact .inr (.inr (.inr e2))
end Go.Proofs.YtafookdllnhdaaaDoor
