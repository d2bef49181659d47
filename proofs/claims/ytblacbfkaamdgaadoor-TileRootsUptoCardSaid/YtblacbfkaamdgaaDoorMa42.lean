/- Law 7: a span that there is. -/
import Derived.Test.YtblacbfkaamdgaaDoorMa31
import Derived.Test.YtblacbfkaamdgaaDoorMa41
import Derived.Test.YtblacbfkaamdgaaDoorMa32
import Derived.Test.YtblacbfkaamdgaaDoorMa36
namespace Go.Proofs.YtblacbfkaamdgaaDoor
open Go.RowKit Go.Scr Go.ChangeMaps Go.MapKept
set_option linter.unusedVariables false
def spB (c : Int) (n : Nat) : Nat := pickN c (n + 1)
def spE (c d : Int) (n : Nat) : Nat := spB c n + pickN d (n - spB c n + 1)
theorem spB_le (c : Int) (n : Nat) : spB c n ≤ n := by
  have := pickN_lt c (show 0 < n + 1 by omega)
  unfold spB
  omega
theorem spE_le (c d : Int) (n : Nat) : spB c n ≤ spE c d n ∧ spE c d n ≤ n := by
  have h1 := spB_le c n
  have h2 := pickN_lt d (show 0 < n - spB c n + 1 by omega)
  unfold spE
  omega
set_option maxRecDepth 100000 in
set_option maxHeartbeats 1000000 in
theorem spanV_any (c d : Int) (n : Nat) (w : World) (hn : n ≤ 1048576) (hc : -9223372036854775808 ≤ c ∧ c ≤ 9223372036854775807) (hd : -9223372036854775808 ≤ d ∧ d ≤ 9223372036854775807) :
    Calls Tryd.prog 31 #[.int .i64 c, .int .i64 d, .int .i64 (n : Int)] w fun o w' => o = .returned (.agg #[.int .i64 (spB c n : Int), .int .i64 (spE c d n : Int)]) ∧ Below w.heap.size w w' := by
  obtain ⟨n1, hn1⟩ : ∃ x, x = n + 1 := ⟨_, rfl⟩
  obtain ⟨b, hb⟩ : ∃ b, b = spB c n := ⟨_, rfl⟩
  obtain ⟨q, hq⟩ : ∃ x, x = n - b + 1 := ⟨_, rfl⟩
  obtain ⟨k, hk⟩ : ∃ x, x = pickN d q := ⟨_, rfl⟩
  obtain ⟨e, he⟩ : ∃ e, e = spE c d n := ⟨_, rfl⟩
  have hbn : b ≤ n := by rw [hb]; exact spB_le c n
  have hen : e ≤ n := by rw [he]; exact (spE_le c d n).2
  have C1 : Hid (∀ w', Calls Tryd.prog 17 #[.int .i64 c, .int .i64 (n1 : Int)] w' fun e w2 => e = .returned (.int .i64 (b : Int)) ∧ w2 = w') := Lib.hid (fun w' => by
    have := pickU_any c n1 w' (by omega) (by omega) hc
    rwa [show pickN c n1 = b by rw [hb, hn1]; rfl] at this)
  have C2 : Hid (∀ w', Calls Tryd.prog 17 #[.int .i64 d, .int .i64 (q : Int)] w' fun e w2 => e = .returned (.int .i64 (k : Int)) ∧ w2 = w') := Lib.hid (fun w' => by
    have := pickU_any d q w' (by omega) (by omega) hd
    rwa [← hk] at this)
  have hek : e = b + k := by rw [he, hk, hq, hb]; rfl
  have e1 : (n : Int) + 1 = (n1 : Int) := by omega
  have e2 : (n : Int) - (b : Int) + 1 = (q : Int) := by omega
  have e3 : (b : Int) + (k : Int) = (e : Int) := by omega
  rw [← hb, ← he]
  clear hn1 hb hq hk he hek hc hd
  go_enter Tryd.func31, Tryd.ntmps31
  go_wp2_with (first
    | (go_at_call 17; with_reducible refine (C1.out _).mono ?_; rintro o w' ⟨rfl, hww⟩; replace hww := hww.symm; subst hww)
    | (go_at_call 17; with_reducible refine (C2.out _).mono ?_; rintro o w' ⟨rfl, hww⟩; replace hww := hww.symm; subst hww))
  have hx := heap_alloc_new w (.cells #[.int .i64 (b : Int), .int .i64 (e : Int)] 56)
  have c0 : (w.alloc (.cells #[.int .i64 (b : Int), .int .i64 (e : Int)] 56)).cell? ⟨w.heap.size, 0, none⟩ = some (.int .i64 (b : Int)) := cellB hx rfl
  have c1 : (w.alloc (.cells #[.int .i64 (b : Int), .int .i64 (e : Int)] 56)).cell? ⟨w.heap.size, 1, none⟩ = some (.int .i64 (e : Int)) := cellB hx rfl
  refine bodyPost_ret (v := .agg #[.int .i64 (b : Int), .int .i64 (e : Int)]) (by simp [results, Tryd.results31, go_sem, c0, c1]) rfl ⟨rfl, (Below.refl _ _).alloc (Nat.le_refl _) _⟩
end Go.Proofs.YtblacbfkaamdgaaDoor
/- Law 7's TileRoots: an edge beside two lists of texts. -/
namespace Go.Proofs.YtblacbfkaamdgaaDoor
open Go.RowKit Go.Scr Go.ChangeMaps Go.MapKept
set_option linter.unusedVariables false
theorem LfI.keep {w wr w' : World} {v : Value} {n : Nat} {P : List ByteArray} (H : LfI w wr v n P) (hb : Below w.heap.size w w') (hk : ∀ g, v.ownBlock = some g → w'.heap[g]? = wr.heap[g]?) : LfI w w' v n P :=
  ⟨hb, H.h.keep hk, H.o⟩
theorem EdI.keep {W w w' : World} {eb : Nat} {L : List ByteArray} {v : Value} (H : EdI W w eb L v) (hb : Below W.heap.size W w') (hk : ∀ g, ebQ eb v g → w'.heap[g]? = w.heap[g]?) : EdI W w' eb L v :=
  ⟨hb, ⟨(hk eb (.inl rfl)).trans H.fr.box, H.fr.hd.keep (fun g hg => hk g (.inr hg)), H.fr.ne⟩, H.lo, H.n⟩
/-- an edge beside two lists -/
structure RtI (w1 w : World) (eb : Nat) (E : List ByteArray) (l : Value) (nl : Nat) (P : List ByteArray) (r : Value) (nr : Nat) (R : List ByteArray) : Prop where
  e : ∃ v, EdI w1 w eb E v ∧ (∀ g, l.ownBlock = some g → ¬ ebQ eb v g) ∧ (∀ g, r.ownBlock = some g → ¬ ebQ eb v g)
  hl : LfI w1 w l nl P
  hr : LfI w1 w r nr R
  a : ∀ g, l.ownBlock = some g → r.ownBlock ≠ some g
theorem RtI.below {w1 w w' : World} {eb : Nat} {E : List ByteArray} {l : Value} {nl : Nat} {P : List ByteArray} {r : Value} {nr : Nat} {R : List ByteArray} (H : RtI w1 w eb E l nl P r nr R) (hb : Below w.heap.size w w') : RtI w1 w' eb E l nl P r nr R := by
  obtain ⟨v, h, h1, h2⟩ := H.e
  exact ⟨⟨v, ⟨h.b.trans (hb.mono h.b.size), h.fr.below hb, h.lo, h.n⟩, h1, h2⟩, H.hl.below hb, H.hr.below hb, H.a⟩
theorem RtI.swap {w1 w : World} {eb : Nat} {E : List ByteArray} {l : Value} {nl : Nat} {P : List ByteArray} {r : Value} {nr : Nat} {R : List ByteArray} (H : RtI w1 w eb E l nl P r nr R) : RtI w1 w eb E r nr R l nl P := by
  obtain ⟨v, h, h1, h2⟩ := H.e
  exact ⟨⟨v, h, h2, h1⟩, H.hr, H.hl, fun g hg e => H.a g e hg⟩
theorem ebQ_lt {W w : World} {eb : Nat} {L : List ByteArray} {v : Value} (H : EdI W w eb L v) {g : Nat} (h : ebQ eb v g) : g < w.heap.size := by
  rcases h with rfl | h
  · exact blk_lt H.fr.box
  · exact H.fr.hd.lt h
theorem RtI.pushL {w1 w w' : World} {eb : Nat} {E : List ByteArray} {l l' : Value} {nl : Nat} {P : List ByteArray} {r : Value} {nr : Nat} {R : List ByteArray} {x : ByteArray} {cs : Array Value} {T : TypeId} (H : RtI w1 w eb E l nl P r nr R)
    (g : Grew 9 1 (w.alloc (.cells cs T)) l nl 1 (P.map Value.string) [.string x] l' w') : RtI w1 w' eb E l' (nl + 1) (P ++ [x]) r nr R := by
  have hl := H.hl.push g
  obtain ⟨v, h, h1, h2⟩ := H.e
  have hgr := g.grown
  have hsz : w.heap.size ≤ (w.alloc (.cells cs T)).heap.size := by simp
  have hk : ∀ q, q < w.heap.size → l.ownBlock ≠ some q → w'.heap[q]? = w.heap[q]? := fun q hq hn => (hgr.block q (by omega) (fun e => hn e.symm)).trans (Below.heap_alloc w _ q hq)
  have hnew : ∀ q, l'.ownBlock = some q → l.ownBlock = some q ∨ w.heap.size ≤ q := fun q hq => by
    rcases g.at with ⟨e, _⟩ | ⟨e, _⟩
    · exact .inl (by rw [← e]; exact hq)
    · rw [hq] at e
      have h1 := Option.some.inj e
      exact .inr (by rw [h1]; simp)
  refine ⟨⟨v, h.keep hl.b (fun q hq => hk q (ebQ_lt h hq) (fun e => h1 q e hq)), fun q hq hn => ?_, h2⟩, hl, H.hr.keep hl.b (fun q hq => hk q (H.hr.h.lt hq) (fun e => H.a q e hq)), fun q hq e => ?_⟩
  · rcases hnew q hq with e | e
    · exact h1 q e hn
    · have := ebQ_lt h hn
      omega
  · rcases hnew q hq with e2 | e2
    · exact H.a q e2 e
    · have := H.hr.h.lt e
      omega
theorem RtI.pushR {w1 w w' : World} {eb : Nat} {E : List ByteArray} {l r' : Value} {nl : Nat} {P : List ByteArray} {r : Value} {nr : Nat} {R : List ByteArray} {x : ByteArray} {cs : Array Value} {T : TypeId} (H : RtI w1 w eb E l nl P r nr R)
    (g : Grew 9 1 (w.alloc (.cells cs T)) r nr 1 (R.map Value.string) [.string x] r' w') : RtI w1 w' eb E l nl P r' (nr + 1) (R ++ [x]) := (H.swap.pushL g).swap
theorem RtI.add {w1 w : World} {eb : Nat} {E : List ByteArray} {l : Value} {nl : Nat} {P : List ByteArray} {r : Value} {nr : Nat} {R : List ByteArray} {x : ByteArray} (H : RtI w1 w eb E l nl P r nr R) (hB : Bas w1 w1.heap.size) (hx : x.size = 32) (hn : E.length < 4096) :
    Calls Tryd.prog 30 #[.pointer (some ⟨eb, 0, none⟩), .string x] w fun o w' => o = .returned (.int .i64 0) ∧ RtI w1 w' eb (E ++ [x]) l nl P r nr R := by
  obtain ⟨v, h, h1, h2⟩ := H.e
  refine (fadd_any h hB hx hn).mono ?_
  rintro o w' ⟨rfl, v', h', hc, ho⟩
  have hf : ∀ (u : Value), (∀ g, u.ownBlock = some g → g < w.heap.size) → (∀ g, u.ownBlock = some g → ¬ ebQ eb v g) → ∀ g, u.ownBlock = some g → ¬ ebQ eb v' g := fun u hlt hu g hg hn => by
    rcases hn with e | e
    · exact hu g hg (.inl e)
    · rcases ho g e with e2 | e2
      · exact hu g hg (.inr e2)
      · have := hlt g hg
        omega
  exact ⟨rfl, ⟨v', h', hf l (fun g hg => H.hl.h.lt hg) h1, hf r (fun g hg => H.hr.h.lt hg) h2⟩, H.hl.keep h'.b (fun g hg => hc.same g (H.hl.h.lt hg) (h1 g hg)), H.hr.keep h'.b (fun g hg => hc.same g (H.hr.h.lt hg) (h2 g hg)), H.a⟩
theorem RtI.root {w1 w : World} {eb : Nat} {E : List ByteArray} {l : Value} {nl : Nat} {P : List ByteArray} {r : Value} {nr : Nat} {R : List ByteArray} (H : RtI w1 w eb E l nl P r nr R) (hB : Bas w1 w1.heap.size) :
    Calls Tryd.prog 29 #[rowP eb] w fun o w' => o = .returned (.string (partL E 0 E.length)) ∧ Below w.heap.size w w' := by
  obtain ⟨v, h, _⟩ := H.e
  exact EdU.root ⟨v, h⟩ (hB.below h.b).tabs
def rtsV (L : List ByteArray) (n : Nat) : List ByteArray := (List.range n).map fun i => partL L 0 i
theorem rtsV_next (L : List ByteArray) (n : Nat) : rtsV L (n + 1) = rtsV L n ++ [partL L 0 n] := by
  unfold rtsV
  rw [List.range_succ, List.map_append]
  rfl
theorem rtsV_at {L : List ByteArray} {n i : Nat} (h : i < n) : (rtsV L n)[i]? = some (partL L 0 i) := by
  unfold rtsV
  rw [List.getElem?_map, List.getElem?_range h]
  rfl
theorem partL_take {L : List ByteArray} {i : Nat} (h : i ≤ L.length) : partL (L.take i) 0 (L.take i).length = partL L 0 i := by
  unfold partL
  rw [List.drop_zero, List.drop_zero, Nat.sub_zero, List.length_take, Nat.min_eq_left h, Nat.sub_zero, List.take_take, Nat.min_self]
theorem part_there {L : List ByteArray} {b e : Nat} (hz : ∀ s ∈ L, s.size = 32) (hn : L.length ≤ 4096) (hbe : b ≤ e) (he : e ≤ L.length) : partE L (b : Int) (e : Int) = 0 ∧ partT L (b : Int) (e : Int) = partL L b e := by
  have hre : refusedE L = 0 := by unfold refusedE; rw [if_neg (by omega), if_neg (by rw [show ok32 L = true by unfold ok32; rw [List.all_eq_true]; intro s hs; simpa using hz s hs]; decide)]
  have h0 : partE L (b : Int) (e : Int) = 0 := by unfold partE; rw [if_neg (by omega), if_neg (by omega)]
  refine ⟨h0, ?_⟩
  unfold partT
  rw [if_pos h0]
  unfold partL
  rw [show ((b : Int)).toNat = b by omega, show ((e : Int) - (b : Int)).toNat = e - b by omega]
end Go.Proofs.YtblacbfkaamdgaaDoor
