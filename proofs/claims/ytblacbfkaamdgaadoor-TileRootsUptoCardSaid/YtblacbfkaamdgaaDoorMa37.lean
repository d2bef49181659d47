/- Two trees beside two lists. -/
import Derived.Test.YtblacbfkaamdgaaDoorMa35
import Derived.Test.YtblacbfkaamdgaaDoorMa32
namespace Go.Proofs.YtblacbfkaamdgaaDoor
open Go.RowKit Go.Scr Go.ChangeMaps Go.MapKept
set_option linter.unusedVariables false
theorem TreeU.keep {w w' : World} {B tb h : Nat} {L : List ByteArray} {col : Col} (t : TreeU w B tb h L col) (hk : ∀ g, col g ≠ none → w'.heap[g]? = w.heap[g]?) (hs : w.heap.size ≤ w'.heap.size) : TreeU w' B tb h L col := by
  refine ⟨?_, t.b, t.z, t.n⟩
  obtain ⟨r, ex, G, V, es, clk, t0, hex⟩ := t.t
  exact ⟨r, ex, G, V, es, clk, t0.keep hk hs, hex⟩
theorem TreeU.clone {w : World} {B tb h : Nat} {L : List ByteArray} {col : Col} (t : TreeU w B tb h L col) (hB : B ≤ w.heap.size) :
    Calls Tryd.prog 24 #[bpT tb] w fun o w' => ∃ nb col2, o = .returned (bpT nb) ∧ TreeU w' B nb h L col2 ∧ (∀ g, col2 g ≠ none → w.heap.size ≤ g) ∧ Below w.heap.size w w' := by
  obtain ⟨r, ex, G, V, es, clk, t0, hex⟩ := t.t
  refine (tclone_any t0).mono ?_
  rintro o w' ⟨nb, r2, ex2, col2, G2, V2, es2, clk2, rfl, t2, he, hl, hb⟩
  exact ⟨nb, col2, rfl, ⟨⟨r2, ex2, G2, V2, es2, clk2, t2, fun lv ix => (he lv ix).trans (hex lv ix)⟩, fun g hg => Nat.le_trans hB (hl g hg), t.z, t.n⟩, hl, hb⟩
structure CT (W w : World) (B ta tb h : Nat) (L M A C : List ByteArray) (va vc : Value) (ca cb : Col) : Prop where
  b : Below W.heap.size W w
  ta : TreeU w B ta h L ca
  tb : TreeU w B tb h M cb
  dj : ∀ g, ca g = none ∨ cb g = none
  la : ∀ g, ca g ≠ none → W.heap.size ≤ g
  lb : ∀ g, cb g ≠ none → W.heap.size ≤ g
  ha : Held w 9 1 va A.length (A.map Value.string)
  oa : ∀ g, va.ownBlock = some g → W.heap.size ≤ g ∧ ca g = none ∧ cb g = none
  hc : Held w 9 1 vc C.length (C.map Value.string)
  oc : ∀ g, vc.ownBlock = some g → W.heap.size ≤ g ∧ ca g = none ∧ cb g = none
  ac : ∀ g, va.ownBlock = some g → vc.ownBlock ≠ some g
theorem CT.swap {W w : World} {B ta tb h : Nat} {L M A C : List ByteArray} {va vc : Value} {ca cb : Col} (H : CT W w B ta tb h L M A C va vc ca cb) : CT W w B tb ta h M L C A vc va cb ca :=
  ⟨H.b, H.tb, H.ta, fun g => (H.dj g).symm, H.lb, H.la, H.hc, fun g hg => ⟨(H.oc g hg).1, (H.oc g hg).2.2, (H.oc g hg).2.1⟩, H.ha, fun g hg => ⟨(H.oa g hg).1, (H.oa g hg).2.2, (H.oa g hg).2.1⟩, fun g hg h2 => H.ac g h2 hg⟩
theorem CT.below {W w w' : World} {B ta tb h : Nat} {L M A C : List ByteArray} {va vc : Value} {ca cb : Col} (H : CT W w B ta tb h L M A C va vc ca cb) (hb : Below w.heap.size w w') : CT W w' B ta tb h L M A C va vc ca cb :=
  ⟨H.b.trans (hb.mono H.b.size), H.ta.below hb, H.tb.below hb, H.dj, H.la, H.lb, H.ha.below hb, H.oa, H.hc.below hb, H.oc, H.ac⟩
theorem CT.addA {W w : World} {B ta tb h : Nat} {L M A C : List ByteArray} {va vc : Value} {ca cb : Col} (H : CT W w B ta tb h L M A C va vc ca cb) (hB : Bas W B) {x : ByteArray} (hx : x.size = 32) (hn : L.length < 1048576) :
    Calls Tryd.prog 26 #[bpT ta, .string x] w fun o w' => o = .returned (.int .i64 0) ∧ ∃ ca', CT W w' B ta tb h (L ++ [x]) M A C va vc ca' cb := by
  refine (add_any H.ta (hB.below (H.b.mono hB.le)) hx hn).mono ?_
  rintro o w' ⟨rfl, ca', t', hc', hq'⟩
  have hs := H.b.size
  have hlo : ∀ g, ca' g ≠ none → W.heap.size ≤ g := low_of' H.la hs hq'
  have hst := hc'.size
  refine ⟨rfl, ca', H.b.trans (hc'.low H.la hs), t', H.tb.keep (fun g hg => ?_) hst, fun g => ?_, hlo, H.lb, H.ha.keep (fun g hg => ?_), fun g hg => ?_, H.hc.keep (fun g hg => ?_), fun g hg => ?_, H.ac⟩
  · exact hc'.block g (H.tb.t.lo g hg) ((H.dj g).resolve_right hg)
  · by_cases e : g < w.heap.size
    · rw [hq' g e]; exact H.dj g
    · exact .inr (H.tb.t.far (by omega))
  · exact hc'.block g (H.ha.lt hg) (H.oa g hg).2.1
  · exact ⟨(H.oa g hg).1, by rw [hq' g (H.ha.lt hg)]; exact (H.oa g hg).2.1, (H.oa g hg).2.2⟩
  · exact hc'.block g (H.hc.lt hg) (H.oc g hg).2.1
  · exact ⟨(H.oc g hg).1, by rw [hq' g (H.hc.lt hg)]; exact (H.oc g hg).2.1, (H.oc g hg).2.2⟩
theorem CT.addB {W w : World} {B ta tb h : Nat} {L M A C : List ByteArray} {va vc : Value} {ca cb : Col} (H : CT W w B ta tb h L M A C va vc ca cb) (hB : Bas W B) {x : ByteArray} (hx : x.size = 32) (hn : M.length < 1048576) :
    Calls Tryd.prog 26 #[bpT tb, .string x] w fun o w' => o = .returned (.int .i64 0) ∧ ∃ cb', CT W w' B ta tb h L (M ++ [x]) A C va vc ca cb' := by
  refine (H.swap.addA hB hx hn).mono ?_
  rintro o w' ⟨rfl, cb', h'⟩
  exact ⟨rfl, cb', h'.swap⟩
theorem CT.pushA {W w w1 : World} {B ta tb h n : Nat} {L M A C : List ByteArray} {va vc va' : Value} {ca cb : Col} {o : Obj} {x : ByteArray} (H : CT W w B ta tb h L M A C va vc ca cb) (hn : n = A.length)
    (g : Grew 9 1 (w.alloc o) va n 1 (A.map Value.string) [.string x] va' w1) : CT W w1 B ta tb h L M (A ++ [x]) C va' vc ca cb := by
  subst hn
  have hs := H.b.size
  have hgr := grown_alloc g.grown
  have hst := hgr.size
  have hb2 : Below W.heap.size W (w.alloc o) := H.b.alloc hs o
  have hown := grewT_own g
  have hfar : ∀ q, va'.ownBlock = some q → W.heap.size ≤ q ∧ ca q = none ∧ cb q = none := fun q hq => by
    rcases hown q hq with h1 | h1
    · exact H.oa q h1
    · exact ⟨by omega, H.ta.t.far h1, H.tb.t.far h1⟩
  refine ⟨hb2.grown g.grown (by simp; omega) (fun k hk => (H.oa k hk).1), H.ta.keep (fun q hq => ?_) hst, H.tb.keep (fun q hq => ?_) hst, H.dj, H.la, H.lb, ?_, hfar, H.hc.keep (fun q hq => ?_), H.oc, fun q hq h2 => ?_⟩
  · exact hgr.block q (H.ta.t.lo q hq) (fun e => hq (H.oa q e.symm).2.1)
  · exact hgr.block q (H.tb.t.lo q hq) (fun e => hq (H.oa q e.symm).2.2)
  · have := g.held
    rw [List.map_append, List.length_append]
    exact this
  · exact hgr.block q (H.hc.lt hq) (fun e => H.ac q e.symm hq)
  · rcases hown q hq with h1 | h1
    · exact H.ac q h1 h2
    · have := H.hc.lt h2
      omega
theorem CT.pushC {W w w1 : World} {B ta tb h n : Nat} {L M A C : List ByteArray} {va vc vc' : Value} {ca cb : Col} {o : Obj} {x : ByteArray} (H : CT W w B ta tb h L M A C va vc ca cb) (hn : n = C.length)
    (g : Grew 9 1 (w.alloc o) vc n 1 (C.map Value.string) [.string x] vc' w1) : CT W w1 B ta tb h L M A (C ++ [x]) va vc' ca cb := (H.swap.pushA hn g).swap
theorem CT.trA {W w : World} {B ta tb h : Nat} {L M A C : List ByteArray} {va vc : Value} {ca cb : Col} (H : CT W w B ta tb h L M A C va vc ca cb) : TrU W w B ta h L := ⟨H.b, ca, H.ta, H.la⟩
theorem CT.trB {W w : World} {B ta tb h : Nat} {L M A C : List ByteArray} {va vc : Value} {ca cb : Col} (H : CT W w B ta tb h L M A C va vc ca cb) : TrU W w B tb h M := ⟨H.b, cb, H.tb, H.lb⟩
end Go.Proofs.YtblacbfkaamdgaaDoor
