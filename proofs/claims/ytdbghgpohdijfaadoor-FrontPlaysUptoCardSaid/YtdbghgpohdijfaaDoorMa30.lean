/- The greatest subtree that begins somewhere, as the code reckons it. -/
import Derived.Test.YtdbghgpohdijfaaDoorMa29
namespace Go.Proofs.YtdbghgpohdijfaaDoor
open Go.RowKit Go.Scr Go.ChangeMaps Go.MapKept
set_option linter.unusedVariables false
theorem lvA_zero {d : Nat} (h1 : 1 ≤ d) (h2 : d < 18446744073709551616) : lvA 0 d = Lib.bitLen d - 1 := by
  obtain ⟨k, e, a, b⟩ := bitLen_spec d (by omega) h2
  rw [e, Nat.add_sub_cancel]
  refine lvA_eq a (Nat.dvd_zero _) fun j hj _ => ?_
  have := two_lt (Nat.lt_of_le_of_lt hj b)
  omega
theorem lvA_pos {b d : Nat} (h1 : 1 ≤ d) (h2 : d < 18446744073709551616) (h3 : 1 ≤ b) (h4 : b < 18446744073709551616) : lvA b d = min (Lib.bitLen d - 1) (Lib.ctz 64 b) := by
  obtain ⟨k, e, a, c⟩ := bitLen_spec d (by omega) h2
  obtain ⟨t1, t2⟩ := ctz_spec b (by omega) h4
  obtain ⟨t, ht⟩ : ∃ t, t = Lib.ctz 64 b := ⟨_, rfl⟩
  rw [← ht] at t1 t2
  rw [e, Nat.add_sub_cancel, ← ht]
  refine lvA_eq (Nat.le_trans (two_le (Nat.min_le_left _ _)) a) (Nat.dvd_trans (Nat.pow_dvd_pow 2 (Nat.min_le_right _ _)) t1) fun j hj hd => ?_
  have h5 := two_lt (Nat.lt_of_le_of_lt hj c)
  rcases Nat.lt_or_ge t j with h | h
  · exact absurd (Nat.dvd_trans (Nat.pow_dvd_pow 2 h) hd) t2
  · exact Nat.le_min.2 ⟨by omega, h⟩
/-- pieces without hashes -/
def bareA (b e : Nat) : List Pc := rowA (fun _ _ => ⟨#[]⟩) b e
theorem bareA_cons {b e : Nat} (h : b < e) : bareA b e = (b, lvA b (e - b), ⟨#[]⟩) :: bareA (b + 2 ^ lvA b (e - b)) e := rowA_cons h
theorem bareA_nil {b e : Nat} (h : e ≤ b) : bareA b e = [] := rowA_nil h
def nodesA (val : Nat → Nat → ByteArray) (b e : Nat) : List ByteArray := (rowA val b e).map fun x => x.2.2
theorem nodesA_len (val : Nat → Nat → ByteArray) (b e : Nat) : (nodesA val b e).length = (bareA b e).length := by
  unfold nodesA bareA rowA
  simp
/-- the first j ones have their hashes -/
def fillA (val : Nat → Nat → ByteArray) (b e j : Nat) : List Pc := (rowA val b e).take j ++ (bareA b e).drop j
theorem fillA_zero (val : Nat → Nat → ByteArray) (b e : Nat) : fillA val b e 0 = bareA b e := by unfold fillA; simp
theorem fillA_all (val : Nat → Nat → ByteArray) (b e : Nat) : fillA val b e (bareA b e).length = rowA val b e := by
  unfold fillA
  rw [List.drop_length, List.append_nil, List.take_of_length_le (by unfold bareA rowA; simp)]
theorem fillA_next {val : Nat → Nat → ByteArray} {b e j : Nat} {s : ByteArray} (h : (nodesA val b e)[j]? = some s) : ∃ x : Pc, (fillA val b e j)[j]? = some x ∧ fillA val b e (j + 1) = (fillA val b e j).set j (x.1, x.2.1, s) := by
  have hlen : (rowA val b e).length = (cutA b e).length := by unfold rowA; simp
  have hlen2 : (bareA b e).length = (cutA b e).length := by unfold bareA rowA; simp
  have hj : j < (cutA b e).length := by
    have := (List.getElem?_eq_some_iff.mp h).1
    unfold nodesA at this
    rw [List.length_map, hlen] at this
    exact this
  obtain ⟨y, hy⟩ : ∃ y, (cutA b e)[j]? = some y := ⟨(cutA b e)[j], List.getElem?_eq_getElem hj⟩
  have h1 : (rowA val b e)[j]? = some (y.1, y.2, val y.1 y.2) := by unfold rowA; rw [List.getElem?_map, hy]; rfl
  have h2 : (bareA b e)[j]? = some (y.1, y.2, ⟨#[]⟩) := by unfold bareA rowA; rw [List.getElem?_map, hy]; rfl
  have hs : val y.1 y.2 = s := by
    unfold nodesA at h
    rw [List.getElem?_map, h1] at h
    exact Option.some.inj h
  have ht : ((rowA val b e).take j).length = j := by rw [List.length_take, hlen]; omega
  have hd : (bareA b e).drop j = (y.1, y.2, ⟨#[]⟩) :: (bareA b e).drop (j + 1) := by
    obtain ⟨q, hq⟩ := List.getElem?_eq_some_iff.mp h2
    rw [List.drop_eq_getElem_cons q, hq]
  refine ⟨(y.1, y.2, ⟨#[]⟩), ?_, ?_⟩
  · unfold fillA
    rw [List.getElem?_append_right (by omega), ht, Nat.sub_self, hd]
    rfl
  · unfold fillA
    rw [List.set_append_right _ _ (by omega), ht, Nat.sub_self, hd, List.take_add_one, h1, hs]
    simp
end Go.Proofs.YtdbghgpohdijfaaDoor
/- Three edges, apart from one another. -/
namespace Go.Proofs.YtdbghgpohdijfaaDoor
open Go.RowKit Go.Scr Go.ChangeMaps Go.MapKept
set_option linter.unusedVariables false
theorem nodesA_two (a b : ByteArray) : nodesA (valF [a, b] 0) 0 2 = [partL [a, b] 0 2] := by
  have h := rowA_one (val := valF [a, b] 0) (b := 0) (l := 1) (Nat.dvd_zero _)
  unfold nodesA
  rw [show (2 : Nat) = 0 + 2 ^ 1 from rfl, h]
  rfl
/-- three edges -/
structure E3 (w1 w : World) (e : Nat) (Le : List ByteArray) (g : Nat) (Lg : List ByteArray) (c : Nat) (Lc : List ByteArray) : Prop where
  ex : ∃ ve vg vc, EdI w1 w e Le ve ∧ EdI w1 w g Lg vg ∧ EdI w1 w c Lc vc ∧ (∀ q, ebQ e ve q → ¬ ebQ g vg q) ∧ (∀ q, ebQ e ve q → ¬ ebQ c vc q) ∧ (∀ q, ebQ g vg q → ¬ ebQ c vc q)
theorem EdI.below {W w w' : World} {eb : Nat} {L : List ByteArray} {v : Value} (h : EdI W w eb L v) (hb : Below w.heap.size w w') : EdI W w' eb L v := ⟨h.b.trans (hb.mono h.b.size), h.fr.below hb, h.lo, h.n⟩
theorem E3.below {w1 w w' : World} {e g c : Nat} {Le Lg Lc : List ByteArray} (H : E3 w1 w e Le g Lg c Lc) (hb : Below w.heap.size w w') : E3 w1 w' e Le g Lg c Lc := by
  obtain ⟨ve, vg, vc, h1, h2, h3, h4⟩ := H.ex
  exact ⟨ve, vg, vc, h1.below hb, h2.below hb, h3.below hb, h4⟩
theorem E3.b {w1 w : World} {e g c : Nat} {Le Lg Lc : List ByteArray} (H : E3 w1 w e Le g Lg c Lc) : Below w1.heap.size w1 w := by
  obtain ⟨ve, vg, vc, h1, _⟩ := H.ex
  exact h1.b
theorem EdI.q_lt {W w : World} {eb : Nat} {L : List ByteArray} {v : Value} (H : EdI W w eb L v) {g : Nat} (h : ebQ eb v g) : g < w.heap.size := by
  rcases h with rfl | h
  · exact blk_lt H.fr.box
  · exact H.fr.hd.lt h
theorem EdI.keepC {W w w' : World} {eb : Nat} {L : List ByteArray} {v : Value} (H : EdI W w eb L v) (hb : Below W.heap.size W w') (hk : ∀ g, ebQ eb v g → w'.heap[g]? = w.heap[g]?) : EdI W w' eb L v :=
  ⟨hb, ⟨(hk eb (.inl rfl)).trans H.fr.box, H.fr.hd.keep (fun g hg => hk g (.inr hg)), H.fr.ne⟩, H.lo, H.n⟩
theorem E3.add {w1 w : World} {e g c : Nat} {Le Lg Lc : List ByteArray} {x : ByteArray} (H : E3 w1 w e Le g Lg c Lc) (hB : Bas w1 w1.heap.size) (hx : x.size = 32) (hn : Le.length < 4096) :
    Calls Tryd.prog 44 #[.pointer (some ⟨e, 0, none⟩), .string x] w fun o w' => o = .returned (.int .i64 0) ∧ E3 w1 w' e (Le ++ [x]) g Lg c Lc := by
  obtain ⟨ve, vg, vc, h1, h2, h3, h4, h5, h6⟩ := H.ex
  refine (fadd_any h1 hB hx hn).mono ?_
  rintro o w' ⟨rfl, v', h', hc, ho⟩
  have hf : ∀ (b : Nat) (u : Value), (∀ q, ebQ b u q → q < w.heap.size) → (∀ q, ebQ e ve q → ¬ ebQ b u q) → ∀ q, ebQ e v' q → ¬ ebQ b u q := fun b u hlt hu q hq hn => by
    rcases hq with rfl | hq
    · exact hu q (.inl rfl) hn
    · rcases ho q hq with e2 | e2
      · exact hu q (.inr e2) hn
      · have := hlt q hn
        omega
  refine ⟨rfl, v', vg, vc, h', h2.keepC h'.b (fun q hq => hc.same q (h2.q_lt hq) (fun a => h4 q a hq)), h3.keepC h'.b (fun q hq => hc.same q (h3.q_lt hq) (fun a => h5 q a hq)), hf g vg (fun q hq => h2.q_lt hq) h4, hf c vc (fun q hq => h3.q_lt hq) h5, h6⟩
theorem E3.make {w1 w2 w3 w4 : World} {e g c : Nat} {Le Lg Lc : List ByteArray} (h1 : EdU w1 w2 e Le) (h2 : EdU w2 w3 g Lg) (h3 : EdU w3 w4 c Lc) : E3 w1 w4 e Le g Lg c Lc := by
  obtain ⟨ve, h1⟩ := h1
  obtain ⟨vg, h2⟩ := h2
  obtain ⟨vc, h3⟩ := h3
  have b2 := h1.b
  have b3 : Below w1.heap.size w1 w3 := b2.trans (h2.b.mono b2.size)
  have b4 : Below w1.heap.size w1 w4 := b3.trans (h3.b.mono b3.size)
  have k2 : EdI w1 w3 g Lg vg := ⟨b3, h2.fr, ⟨Nat.le_trans b2.size h2.lo.1, fun q hq => Nat.le_trans b2.size (h2.lo.2 q hq)⟩, h2.n⟩
  have k3 : EdI w1 w4 c Lc vc := ⟨b4, h3.fr, ⟨Nat.le_trans b3.size h3.lo.1, fun q hq => Nat.le_trans b3.size (h3.lo.2 q hq)⟩, h3.n⟩
  have q1 : ∀ q, ebQ e ve q → q < w2.heap.size := fun q hq => h1.q_lt hq
  have q2 : ∀ q, ebQ g vg q → w2.heap.size ≤ q ∧ q < w3.heap.size := fun q hq => ⟨by
    rcases hq with rfl | hq
    · exact h2.lo.1
    · exact h2.lo.2 q hq, h2.q_lt hq⟩
  have q3 : ∀ q, ebQ c vc q → w3.heap.size ≤ q := fun q hq => by
    rcases hq with rfl | hq
    · exact h3.lo.1
    · exact h3.lo.2 q hq
  have s23 := h2.b.size
  refine ⟨ve, vg, vc, (h1.below h2.b).below h3.b, k2.below h3.b, k3, fun q a b => ?_, fun q a b => ?_, fun q a b => ?_⟩
  · have := q1 q a
    have := q2 q b
    omega
  · have := q1 q a
    have := q3 q b
    omega
  · have := q2 q a
    have := q3 q b
    omega
end Go.Proofs.YtdbghgpohdijfaaDoor
