/- SingleTells: all that stands with the sizes asked for; two lists at a time are put behind. -/
import Derived.Test.YtafookdllnhdaaaDoorMa45
import Derived.Test.YtafookdllnhdaaaDoorMa44
import Derived.Test.YtafookdllnhdaaaDoorMa46
import Derived.Test.YtafookdllnhdaaaDoorMa39
namespace Go.Proofs.YtafookdllnhdaaaDoor
open Go.RowKit Go.Scr Go.ChangeMaps Go.MapKept
set_option linter.unusedVariables false
theorem inS_len {L : List ByteArray} (hL : L.length ≤ 4096) (z i : Int) : (inS L z i).2.length ≤ 4096 := by
  unfold inS
  split
  · exact Nat.zero_le _
  split
  · exact Nat.zero_le _
  · obtain ⟨zn, rfl⟩ : ∃ zn : Nat, z = zn := ⟨z.toNat, by omega⟩
    obtain ⟨k, rfl⟩ : ∃ k : Nat, i = k := ⟨i.toNat, by omega⟩
    show (pathR (Int.toNat (k : Int)) (L.take (Int.toNat (zn : Int)))).length ≤ 4096
    rw [Int.toNat_natCast, Int.toNat_natCast]
    have hp := path_sec L zn 0 k (by omega) (by omega)
    rw [List.drop_zero] at hp
    rw [hp]
    unfold partsL
    rw [List.length_map, List.length_reverse]
    have := pathT_leK zn 0 k
    omega
theorem coS_len {L : List ByteArray} (hL : L.length ≤ 4096) (f z : Int) : (coS L f z).2.length ≤ 4096 := by
  unfold coS
  split
  · exact Nat.zero_le _
  · obtain ⟨zn, rfl⟩ : ∃ zn : Nat, z = zn := ⟨z.toNat, by omega⟩
    obtain ⟨k, rfl⟩ : ∃ k : Nat, f = k := ⟨f.toNat, by omega⟩
    show (proofR (Int.toNat (k : Int)) (L.take (Int.toNat (zn : Int))) true).length ≤ 4096
    rw [Int.toNat_natCast, Int.toNat_natCast]
    have hp := proof_sec L zn 0 k (by omega) (by omega) (by omega)
    rw [List.drop_zero] at hp
    have e0 : decide (0 = 0) = true := rfl
    rw [e0] at hp
    rw [hp]
    unfold partsL
    rw [List.length_map, List.length_reverse]
    have := proofT_leK zn 0 k (by omega) (by omega)
    omega
def askV (A : List Int) : Obj := .cells (A.map fun z => Value.int .i64 z).toArray 3 (0, 0)
/-- all that stands, the block of the sizes asked for too -/
structure SSe (W w : World) (B tb h xb ab : Nat) (A : List Int) (L M : List ByteArray) (lv wv : Value) (ls ms : List (Value × List ByteArray)) : Prop where
  ex : ∃ ca oc v7, SeI W w B tb h xb ca oc L M v7 lv wv ls ms ∧ ca ab = none ∧ oc ab = 0
  k : w.heap[ab]? = some (askV A)
structure SSx (W w : World) (B tb h xb ab n : Nat) (A : List Int) (L M : List ByteArray) (lv wv : Value) (ls ms : List (Value × List ByteArray)) : Prop where
  e : SSe W w B tb h xb ab A L M lv wv ls ms
  n : n = ls.length
  m : ms.map (·.2) = ls.map (·.2)
  l : ∀ p ∈ ls, p.2.length ≤ 4096
theorem SSx.mlen {W w : World} {B tb h xb ab n : Nat} {A : List Int} {L M : List ByteArray} {lv wv : Value} {ls ms : List (Value × List ByteArray)} (H : SSx W w B tb h xb ab n A L M lv wv ls ms) : n = ms.length := by
  have := congrArg List.length H.m
  rw [List.length_map, List.length_map] at this
  rw [H.n, this]
theorem SSe.below {W w w' : World} {B tb h xb ab : Nat} {A : List Int} {L M : List ByteArray} {lv wv : Value} {ls ms : List (Value × List ByteArray)} (H : SSe W w B tb h xb ab A L M lv wv ls ms) (hb : Below w.heap.size w w') : SSe W w' B tb h xb ab A L M lv wv ls ms := by
  obtain ⟨ca, oc, v7, a, b, c⟩ := H.ex
  exact ⟨⟨ca, oc, v7, a.below hb, b, c⟩, blk_below H.k hb (blk_lt H.k)⟩
theorem SSx.below {W w w' : World} {B tb h xb ab n : Nat} {A : List Int} {L M : List ByteArray} {lv wv : Value} {ls ms : List (Value × List ByteArray)} (H : SSx W w B tb h xb ab n A L M lv wv ls ms) (hb : Below w.heap.size w w') : SSx W w' B tb h xb ab n A L M lv wv ls ms := ⟨H.e.below hb, H.n, H.m, H.l⟩
theorem SSx.bl {W w : World} {B tb h xb ab n : Nat} {A : List Int} {L M : List ByteArray} {lv wv : Value} {ls ms : List (Value × List ByteArray)} (H : SSx W w B tb h xb ab n A L M lv wv ls ms) : Below W.heap.size W w := by
  obtain ⟨ca, oc, v7, a, b, c⟩ := H.e.ex
  exact a.bl
theorem SSx.ask {W w : World} {B tb h xb ab n j : Nat} {A : List Int} {L M : List ByteArray} {lv wv : Value} {ls ms : List (Value × List ByteArray)} {y : Int} (H : SSx W w B tb h xb ab n A L M lv wv ls ms) (hy : A[j]? = some y) : w.cell? ⟨ab, j, none⟩ = some (.int .i64 y) := by
  have hj : j < A.length := (List.getElem?_eq_some_iff.1 hy).1
  refine cellB H.e.k ?_
  rw [List.getElem?_toArray, List.getElem?_map, hy]
  rfl
/-- the tree takes a leaf -/
theorem SSx.addT {W w : World} {B tb h xb ab n : Nat} {A : List Int} {L M : List ByteArray} {lv wv : Value} {ls ms : List (Value × List ByteArray)} {s : ByteArray} (H : SSx W w B tb h xb ab n A L M lv wv ls ms) (hB : Bas w B) (hs : s.size = 32) (hL : L.length ≤ 4095) :
    Calls Tryd.prog 19 #[bpT tb, .string s] w fun o w' => o = .returned (.int .i64 0) ∧ SSx W w' B tb h xb ab n A (L ++ [s]) M lv wv ls ms := by
  obtain ⟨ca, oc, v7, a, b, c⟩ := H.e.ex
  refine (add_any a.t hB hs (by omega)).mono ?_
  rintro o w' ⟨rfl, ca', t', hc, hq⟩
  have hab := blk_lt H.e.k
  exact ⟨rfl, ⟨⟨ca', oc, v7, a.mvT t' hc hq, (hq ab hab).trans b, c⟩, (hc.block ab hab b).trans H.e.k⟩, H.n, H.m, H.l⟩
/-- the document's tree takes a leaf -/
theorem SSx.addX {W w : World} {B tb h xb ab n : Nat} {A : List Int} {L M : List ByteArray} {lv wv : Value} {ls ms : List (Value × List ByteArray)} {s : ByteArray} (H : SSx W w B tb h xb ab n A L M lv wv ls ms) (hs : s.size = 32) (hL : M.length ≤ 4095) :
    Calls Tryd.prog 17 #[.pointer (some ⟨xb, 0, none⟩), .string s] w fun o w' => o = .returned (.int .i64 0) ∧ SSx W w' B tb h xb ab n A L (M ++ [s]) lv wv ls ms := by
  obtain ⟨ca, oc, v7, a, b, c⟩ := H.e.ex
  refine (add7_any a.x hs (by omega)).mono ?_
  rintro o w' ⟨rfl, v7', x', hc, ho⟩
  have hab := blk_lt H.e.k
  obtain ⟨oc', a', hz⟩ := a.mvX x' hc ho
  refine ⟨rfl, ⟨⟨ca, oc', v7', a', b, ?_⟩, (hc.same ab hab fun e => ?_).trans H.e.k⟩, H.n, H.m, H.l⟩
  · refine Classical.byContradiction fun e => ?_
    rcases hz ab e with e2 | e2
    · exact e2 c
    · omega
  · have := a.xo ab e; omega
theorem NuL.of {W w0 w1 w : World} {oc : Nat → Nat} {ca : Col} {v : Value} {P : List ByteArray} {n : Nat} (f : LfI w0 w1 v n P) (hn : n = P.length) (hb : Below w1.heap.size w1 w) (ho : ∀ g, w0.heap.size ≤ g → oc g = 0 ∧ ca g = none ∧ W.heap.size ≤ g) (hP : P.length ≤ 4096) : NuL w oc ca W v P := by
  subst hn
  exact ⟨f.h.below hb, fun g hg => ho g (f.o g hg), by omega⟩
/-- four lists have come out -/
structure Rd (W w : World) (B tb h xb ab n : Nat) (A : List Int) (L : List ByteArray) (lv wv vp vq va vb : Value) (P Q : List ByteArray) (ls ms : List (Value × List ByteArray)) : Prop where
  ex : ∃ ca oc v7, SeI W w B tb h xb ca oc L L v7 lv wv ls ms ∧ ca ab = none ∧ oc ab = 0 ∧ NuL w oc ca W vp P ∧ NuL w oc ca W vq Q ∧ NuL w oc ca W va P ∧ NuL w oc ca W vb Q ∧
    (∀ g, va.ownBlock = some g → vb.ownBlock ≠ some g) ∧ (∀ g, vp.ownBlock = some g → va.ownBlock ≠ some g ∧ vb.ownBlock ≠ some g ∧ g ≠ ab) ∧ (∀ g, vq.ownBlock = some g → va.ownBlock ≠ some g ∧ vb.ownBlock ≠ some g ∧ g ≠ ab) ∧ va.ownBlock ≠ some ab ∧ vb.ownBlock ≠ some ab
  k : w.heap[ab]? = some (askV A)
  n : n = ls.length
  m : ms.map (·.2) = ls.map (·.2)
  l : ∀ p ∈ ls, p.2.length ≤ 4096
  lp : P.length ≤ 4096
  lq : Q.length ≤ 4096
theorem Rd.mk' {W w0 w1 w2 w3 w4 : World} {B tb h xb ab n np nq : Nat} {A : List Int} {L : List ByteArray} {lv wv vp vq va vb : Value} {P Q : List ByteArray} {ls ms : List (Value × List ByteArray)} (H : SSx W w0 B tb h xb ab n A L L lv wv ls ms)
    (f1 : LfI w0 w1 vp np P) (f2 : LfI w1 w2 vq nq Q) (f3 : LfI w2 w3 va np P) (f4 : LfI w3 w4 vb nq Q) (hnp : np = P.length) (hnq : nq = Q.length) (lp : P.length ≤ 4096) (lq : Q.length ≤ 4096) : Rd W w4 B tb h xb ab n A L lv wv vp vq va vb P Q ls ms := by
  obtain ⟨ca, oc, v7, a, b, c⟩ := H.e.ex
  have h34 := f4.b
  have h24 : Below w2.heap.size w2 w4 := f3.b.trans (h34.mono f3.b.size)
  have h14 : Below w1.heap.size w1 w4 := f2.b.trans (h24.mono f2.b.size)
  have h04 : Below w0.heap.size w0 w4 := f1.b.trans (h14.mono f1.b.size)
  have s1 := f1.b.size
  have s2 := f2.b.size
  have s3 := f3.b.size
  have s4 := f4.b.size
  have hab := blk_lt H.e.k
  have ho : ∀ g, w0.heap.size ≤ g → oc g = 0 ∧ ca g = none ∧ W.heap.size ≤ g := fun g hg => ⟨Classical.byContradiction fun e => by have := a.ol g e; omega, a.t.t.far hg, Nat.le_trans a.bl.size hg⟩
  refine ⟨⟨ca, oc, v7, a.below h04, b, c, NuL.of f1 hnp h14 ho lp, NuL.of f2 hnq h24 (fun g hg => ho g (by omega)) lq, NuL.of f3 hnp h34 (fun g hg => ho g (by omega)) lp, NuL.of f4 hnq (Below.refl _ _) (fun g hg => ho g (by omega)) lq, fun g e1 e2 => ?_, fun g e1 => ⟨fun e2 => ?_, fun e2 => ?_, fun e2 => ?_⟩, fun g e1 => ⟨fun e2 => ?_, fun e2 => ?_, fun e2 => ?_⟩, fun e2 => ?_, fun e2 => ?_⟩, blk_below H.e.k h04 hab, H.n, H.m, H.l, lp, lq⟩
  · have := f3.h.lt e1; have := f4.o g e2; omega
  · have := f1.h.lt e1; have := f3.o g e2; omega
  · have := f1.h.lt e1; have := f4.o g e2; omega
  · have := f1.o g e1; omega
  · have := f2.h.lt e1; have := f3.o g e2; omega
  · have := f2.h.lt e1; have := f4.o g e2; omega
  · have := f2.o g e1; omega
  · have := f3.o ab e2; omega
  · have := f4.o ab e2; omega
theorem Rd.lr {W w : World} {B tb h xb ab n : Nat} {A : List Int} {L : List ByteArray} {lv wv vp vq va vb : Value} {P Q : List ByteArray} {ls ms : List (Value × List ByteArray)} (H : Rd W w B tb h xb ab n A L lv wv vp vq va vb P Q ls ms) : Held w 52 1 lv n (ls.map (·.1)) := by
  obtain ⟨ca, oc, v7, a, _⟩ := H.ex
  rw [H.n]
  exact a.lr
theorem Rd.mlen {W w : World} {B tb h xb ab n : Nat} {A : List Int} {L : List ByteArray} {lv wv vp vq va vb : Value} {P Q : List ByteArray} {ls ms : List (Value × List ByteArray)} (H : Rd W w B tb h xb ab n A L lv wv vp vq va vb P Q ls ms) : n = ms.length := by
  have := congrArg List.length H.m
  rw [List.length_map, List.length_map] at this
  rw [H.n, this]
theorem Rd.wr {W w w1 : World} {B tb h xb ab n : Nat} {A : List Int} {L : List ByteArray} {lv lv' wv vp vq va vb : Value} {P Q : List ByteArray} {ls ms : List (Value × List ByteArray)} {o : Obj} (H : Rd W w B tb h xb ab n A L lv wv vp vq va vb P Q ls ms)
    (hg : Grew 52 1 (w.alloc o) lv n 2 (ls.map (·.1)) [va, vb] lv' w1) : Held w1 52 1 wv n (ms.map (·.1)) := by
  obtain ⟨ca, oc, v7, a, b, c, n1, n2, n3, n4, d1, _⟩ := H.ex
  obtain ⟨oc', a', _⟩ := a.pushL n3 n4 d1 H.n hg
  rw [H.mlen]
  exact a'.wr
theorem Rd.fin {W w w1 w2 : World} {B tb h xb ab n : Nat} {A : List Int} {L : List ByteArray} {lv lv' wv wv' vp vq va vb : Value} {P Q : List ByteArray} {ls ms : List (Value × List ByteArray)} {o o2 : Obj} (H : Rd W w B tb h xb ab n A L lv wv vp vq va vb P Q ls ms)
    (hg : Grew 52 1 (w.alloc o) lv n 2 (ls.map (·.1)) [va, vb] lv' w1) (hg2 : Grew 52 1 (w1.alloc o2) wv n 2 (ms.map (·.1)) [vp, vq] wv' w2) : SSx W w2 B tb h xb ab (n + 2) A L L lv' wv' (ls ++ [(va, P), (vb, Q)]) (ms ++ [(vp, P), (vq, Q)]) := by
  obtain ⟨ca, oc, v7, a, b, c, n1, n2, n3, n4, d1, d2, d3, d4, d5⟩ := H.ex
  obtain ⟨oc', a', hz⟩ := a.pushL n3 n4 d1 H.n hg
  have hgw := grown_alloc hg.grown
  have hgw2 := grown_alloc hg2.grown
  have hab := blk_lt H.k
  have z0 : ∀ g, g < w.heap.size → oc g = 0 → va.ownBlock ≠ some g → vb.ownBlock ≠ some g → oc' g = 0 := fun g h1 h2 h3 h4 => Classical.byContradiction fun e => by
    rcases hz g e with e2 | e2 | e2 | e2
    · exact e2 h2
    · exact h3 e2
    · exact h4 e2
    · omega
  have hc' : oc' ab = 0 := z0 ab hab c d4 d5
  have mv : ∀ {v : Value} {R : List ByteArray}, NuL w oc ca W v R → (∀ g, v.ownBlock = some g → va.ownBlock ≠ some g ∧ vb.ownBlock ≠ some g ∧ g ≠ ab) → NuL w1 oc' ca W v R := fun {v R} hn hd => ⟨hn.he.keep fun g e => hgw.block g (hn.he.lt e) fun e2 => by have := a.lo g e2.symm; have := (hn.ou g e).1; omega, fun g e => ⟨z0 g (hn.he.lt e) (hn.ou g e).1 (hd g e).1 (hd g e).2.1, (hn.ou g e).2⟩, hn.ln⟩
  have m1 := mv n1 d2
  have m2 := mv n2 d3
  obtain ⟨oc2, a2, hz2⟩ := a'.pushW m1 m2 H.mlen hg2
  have hab1 : ab < w1.heap.size := by have := hgw.size; omega
  refine ⟨⟨⟨ca, oc2, v7, a2, b, Classical.byContradiction fun e => ?_⟩, ?_⟩, by rw [List.length_append, ← H.n]; rfl, by rw [List.map_append, List.map_append, H.m]; rfl, fun p hp => ?_⟩
  · rcases hz2 ab e with e2 | e2 | e2 | e2
    · exact e2 hc'
    · exact (d2 ab e2).2.2 rfl
    · exact (d3 ab e2).2.2 rfl
    · omega
  · have e1 : w1.heap[ab]? = w.heap[ab]? := hgw.block ab hab fun e => by have := a.lo ab e.symm; omega
    have e2 : w2.heap[ab]? = w1.heap[ab]? := hgw2.block ab hab1 fun e => by have := a'.wo ab e.symm; omega
    exact (e2.trans e1).trans H.k
  · rcases List.mem_append.1 hp with hp | hp
    · exact H.l p hp
    · rcases List.mem_cons.1 hp with rfl | hp
      · exact H.lp
      · rw [List.mem_singleton.1 hp]; exact H.lq
/-- the i-th of both lists -/
theorem SSx.at {W w : World} {B tb h xb ab n i : Nat} {A : List Int} {L M : List ByteArray} {lv wv : Value} {ls ms : List (Value × List ByteArray)} (H : SSx W w B tb h xb ab n A L M lv wv ls ms) (hi : i < n) :
    ∃ p c q d x y va vb P, lv = .slice p n c ∧ n ≤ c ∧ wv = .slice q n d ∧ n ≤ d ∧ p = some x ∧ q = some y ∧ w.cell? (x.add i) = some va ∧ w.cell? (y.add i) = some vb ∧ Txts w va P ∧ Txts w vb P ∧ P.length ≤ 4096 := by
  obtain ⟨ca, oc, v7, a, _⟩ := H.e.ex
  have hm := H.mlen
  obtain ⟨p, c, h1, h2, _, h3⟩ := a.lr.cells
  obtain ⟨q, d, k1, k2, _, k3⟩ := a.wr.cells
  have hl : i < ls.length := by have := H.n; omega
  have hl2 : i < ms.length := by omega
  have e1 : ls[i]? = some ls[i] := List.getElem?_eq_getElem hl
  have e2 : ms[i]? = some ms[i] := List.getElem?_eq_getElem hl2
  obtain ⟨x, rfl, _, hx⟩ := h3 i _ (by rw [List.getElem?_map, e1]; rfl)
  obtain ⟨y, rfl, _, hy⟩ := k3 i _ (by rw [List.getElem?_map, e2]; rfl)
  have hP : ms[i].2 = ls[i].2 := by
    have := congrArg (fun l => l[i]?) H.m
    simp only [List.getElem?_map, e1, e2, Option.map_some] at this
    exact Option.some.inj this
  obtain ⟨b1, b2, _⟩ := a.li i _ e1
  obtain ⟨c1, _, c2⟩ := a.mi _ (List.mem_of_getElem? e2)
  refine ⟨_, c, _, d, x, y, _, _, ls[i].2, ?_, ?_, ?_, ?_, rfl, rfl, hx, hy, (held_txtsU b1 b2).2, ?_, H.l _ (List.mem_of_getElem? e1)⟩
  · rw [H.n]; exact h1
  · rw [H.n]; exact h2
  · rw [hm]; exact k1
  · rw [hm]; exact k2
  · rw [← hP]; exact (held_txtsU c1 c2).2
/-- the lists, for owned; then the trees stand still -/
theorem SSx.own {W w : World} {B tb h xb ab n : Nat} {A : List Int} {L M : List ByteArray} {lv wv : Value} {ls ms : List (Value × List ByteArray)} (H : SSx W w B tb h xb ab n A L M lv wv ls ms) (hn : n ≤ 20) :
    Calls Tryd.prog 25 #[lv] w fun o w' => o = .returned (.bool true) ∧ Below W.heap.size W w' ∧ (∃ ca, TreeU w' B tb h L ca) ∧ ∃ v7, D7I w' xb 1 M v7 := by
  obtain ⟨ca, oc, v7, a, _⟩ := H.e.ex
  obtain ⟨col0, hcol⟩ : ∃ c : Nat → Nat, c = fun g => if oc g = 1 ∨ 8 ≤ oc g then oc g else 0 := ⟨_, rfl⟩
  have hc0 : ∀ g, col0 g ≠ 0 → oc g ≠ 0 ∧ (oc g = 1 ∨ 8 ≤ oc g) := fun g hg => by
    rw [hcol] at hg
    by_cases e : oc g = 1 ∨ 8 ≤ oc g
    · exact ⟨by omega, e⟩
    · exact absurd (if_neg e) hg
  have hc1 : ∀ g, (oc g = 1 ∨ 8 ≤ oc g) → col0 g = oc g := fun g hg => by rw [hcol]; exact if_pos hg
  have hO : OW w w W.heap.size col0 col0 lv (.slice none 0 0) (.slice none 0 0) ls [] [] := ⟨a.lr, fun g hg => (hc1 g (.inl (a.lo g hg))).trans (a.lo g hg), ⟨rfl, .inl ⟨rfl, rfl⟩⟩, (fun g hg => nomatch hg), ⟨rfl, .inl ⟨rfl, rfl⟩⟩, (fun g hg => nomatch hg), fun i p hp => by
      obtain ⟨b1, b2, b3⟩ := a.li i p hp
      exact ⟨b1, b2, fun g hg => (hc1 g (.inr (by rw [b3 g hg]; omega))).trans (b3 g hg)⟩, (fun q hq => nomatch hq), fun g hg => a.ol g (hc0 g hg).1, Only.refl _ _ _, fun _ _ => rfl, a.bl.size⟩
  refine (owned_any hO H.n hn H.l).mono ?_
  rintro o w' ⟨rfl, ho⟩
  refine ⟨rfl, a.bl.trans (ho.below (by omega) (fun g hg => (a.ol g (hc0 g hg).1).1) a.bl.size), ⟨ca, a.t.keepQ (fun g hg => ho.block g (a.t.t.lo g hg) fun e => hg (a.dj g (hc0 g (by omega)).1)) ho.size⟩, v7, a.x.keep fun g hg => ho.block g (a.x.q_lt hg) fun e => ?_⟩
  have h1 := (hc0 g (by omega)).2
  have h2 := a.xo g hg
  omega
end Go.Proofs.YtafookdllnhdaaaDoor
/- Law 11: SingleTells, walked: the start and the leaves. -/
namespace Go.Proofs.YtafookdllnhdaaaDoor
open Go.RowKit Go.Scr Go.ChangeMaps Go.MapKept
set_option linter.unusedVariables false
/-- the first state: two trees, no list yet -/
theorem seI_first {W w1 w2 : World} {B tb h xb : Nat} {L : List ByteArray} {ca : Col} {v7 : Value} (hW : Below W.heap.size W w1) (t : TreeU w1 B tb h L ca) (tl : ∀ g, ca g ≠ none → W.heap.size ≤ g) (hb : Below w1.heap.size w1 w2) (x : D7I w2 xb 1 [] v7) (xl : ∀ g, bxQ xb v7 g → w1.heap.size ≤ g) :
    ∃ oc, SeI W w2 B tb h xb ca oc L [] v7 (.slice none 0 0) (.slice none 0 0) [] [] := by
  obtain ⟨oc, hoc⟩ : ∃ oc : Nat → Nat, oc = dyeV (fun g => if g = xb then 6 else 0) v7 6 := ⟨_, rfl⟩
  have hz : ∀ g, oc g ≠ 0 → bxQ xb v7 g := fun g hg => by
    rw [hoc] at hg
    rcases dyeV_ne hg with e | e
    · exact .inr e
    · by_cases e2 : g = xb
      · exact .inl e2
      · exact absurd (if_neg e2) e
  have hs := hW.size
  refine ⟨oc, ⟨hW.trans (hb.mono hs), t.below hb, tl, fun g hg => t.t.far (xl g (hz g hg)), fun g hg => ⟨Nat.le_trans hs (xl g (hz g hg)), x.q_lt (hz g hg)⟩, x, fun g hg => ?_, ⟨rfl, .inl ⟨rfl, rfl⟩⟩, (fun g hg => nomatch hg), ⟨rfl, .inl ⟨rfl, rfl⟩⟩, (fun g hg => nomatch hg), Items.nil _ _ _ _ _, (fun p hp => nomatch hp)⟩⟩
  rw [hoc]
  by_cases e : v7.ownBlock = some g
  · exact dyeV_at e
  · rcases hg with rfl | hg
    · exact (dyeV_old fun e2 => absurd e2 e).trans (if_pos rfl)
    · exact absurd hg e
/-- both trees stand, the document's has M -/
def St1 (W w : World) (tb h xb : Nat) (L M : List ByteArray) : Prop := ∃ ca oc v7, SeI W w W.heap.size tb h xb ca oc L M v7 (.slice none 0 0) (.slice none 0 0) [] []
theorem St1.below {W w w' : World} {tb h xb : Nat} {L M : List ByteArray} (H : St1 W w tb h xb L M) (hb : Below w.heap.size w w') : St1 W w' tb h xb L M := by
  obtain ⟨ca, oc, v7, a⟩ := H
  exact ⟨ca, oc, v7, a.below hb⟩
theorem St1.bl {W w : World} {tb h xb : Nat} {L M : List ByteArray} (H : St1 W w tb h xb L M) : Below W.heap.size W w := by
  obtain ⟨ca, oc, v7, a⟩ := H
  exact a.bl
theorem St1.add {W w : World} {tb h xb i : Nat} {L : List ByteArray} {s : ByteArray} (H : St1 W w tb h xb L (L.take i)) (hx : L[i]? = some s) (hs : s.size = 32) (hL : L.length ≤ 4095) :
    Calls Tryd.prog 17 #[.pointer (some ⟨xb, 0, none⟩), .string s] w fun o w' => o = .returned (.int .i64 0) ∧ St1 W w' tb h xb L (L.take (i + 1)) := by
  obtain ⟨ca, oc, v7, a⟩ := H
  refine (add7_any a.x hs (by rw [List.length_take]; omega)).mono ?_
  rintro o w' ⟨rfl, v7', x', hc, ho⟩
  obtain ⟨oc', a', hz⟩ := a.mvX x' hc ho
  have e : L.take (i + 1) = L.take i ++ [s] := by rw [List.take_add_one, hx]; rfl
  rw [e]
  exact ⟨rfl, ca, oc', v7', a'⟩
theorem St1.ask {W w : World} {tb h xb : Nat} {L M : List ByteArray} (H : St1 W w tb h xb L M) (A : List Int) : SSx W (w.alloc (askV A)) W.heap.size tb h xb w.heap.size 0 A L M (.slice none 0 0) (.slice none 0 0) [] [] := by
  obtain ⟨ca, oc, v7, a⟩ := H
  exact ⟨⟨⟨ca, oc, v7, a.below ((Below.refl _ _).alloc (Nat.le_refl _) _), a.t.t.far (Nat.le_refl _), Classical.byContradiction fun e => by have := (a.ol _ e).2; omega⟩, heap_alloc_new w _⟩, rfl, rfl, fun p hp => nomatch hp⟩
end Go.Proofs.YtafookdllnhdaaaDoor
