/- Layer 3: an append as one step of a region that draws its order; proofs of many in plain Lean; what the closure of Many leaves. -/
import Derived.Test.YtejdpahgofhioaaDoorRec9
namespace Go.Proofs.YtejdpahgofhioaaDoor
open Go.RowKit Go.Scr
set_option linter.unusedVariables false

theorem step_appendV {P : Program} {ops : Array Oper} {o : Oper} {a : Act} {w : World} {K : Act → World → Prop} {Q : Exit → Act → World → Prop} {E : Prop} {T S : TypeId}
    (hg : o.guard = none) (s x : Operand) (hop : o.op = Op.call { callee := Callee.builtin Builtin.append, args := #[s, x], argTypes := #[S, S] })
    (hu : P.underlying S = some (.slice T)) (z : Value) (sz : Nat) {byt : Nat} (hi : (P.info? T).map (fun i => (i.zero, i.size, i.bytes)) = some (some z, sz, byt)) (hzs : z.cells.size = sz) (hsz : 0 < sz)
    {B n0 c : Nat} {v : Value} {l : List Value} (xs : List Value) (m N : Nat) (ad : Addr) (hs : a.eval s = v) (hx : a.eval x = .slice (some ad) m c)
    (hown : w.ownsRow B T sz v n0 l) (hm : xs.length = m * sz) (hc : ∀ j u, xs[j]? = some u → w.cell? (ad.add j) = some u) (hone : ∀ u ∈ xs, u.oneCell' = true) (hB : B ≤ w.heap.size) (hN : N = n0 + m) (hpos : 0 < N) (hl : N * byt ≤ 140737488355328) (hl2 : N ≤ 140737488355328)
    (hK : ∀ (g c : Nat) w', B ≤ g → w'.ownsRow B T sz (.slice (some ⟨g, 0, none⟩) N c) N (l ++ xs) → w.grownBy w' v.ownBlock → K (a.put o.dst (.slice (some ⟨g, 0, none⟩) N c)) w') :
    if Region.wanted o (yielded ops a.tmps) = true then Oper.wp P o a w K Q else E := by
  have hw : Region.wanted o (yielded ops a.tmps) = true := by simp [Region.wanted, hg]
  rw [if_pos hw]
  subst hN
  obtain ⟨i, hi0, hz, hsi, hbi⟩ := info_parts hi
  obtain ⟨v', w', hrun, ho2, hgr, _⟩ := run_append_own (P := P) w B S o.type T i z sz byt hu hi0 hz hsi hbi hzs hsz v n0 l hown ad m c xs hm hc hone (by simp only [maxLen]; omega) hl hB
  rcases ho2.2 with ⟨_, h0⟩ | ⟨g, c', cur, rfl, hBg, _⟩
  · omega
  unfold Oper.wp
  simp [execOp, hop, resolve, invoke, builtin, hs, hx, hrun, Result.andThen]
  exact hK g c' w' hBg ho2 hgr

def inZ (b : Nat) (n : Nat) (Z : List Int) : Bool := Z.any fun z => decide ((b : Int) ≤ z) && decide (z < (b : Int) + (n : Int))
def manyZ (b : Nat) (L : List ByteArray) (Z : List Int) : List ByteArray :=
  if inZ b L.length Z = false then [rootR L] else
  if h : L.length ≤ 1 then [] else
    manyZ b (L.take (spl L.length)) Z ++ manyZ (b + spl L.length) (L.drop (spl L.length)) Z
termination_by L.length
decreasing_by
  · have := spl_lt (show 2 ≤ L.length by omega); rw [List.length_take]; omega
  · have := spl_lt (show 2 ≤ L.length by omega); rw [List.length_drop]; omega
theorem manyZ_out {b : Nat} {L : List ByteArray} {Z : List Int} (h : inZ b L.length Z = false) : manyZ b L Z = [rootR L] := by rw [manyZ, if_pos h]
theorem manyZ_one {b : Nat} {L : List ByteArray} {Z : List Int} (h : inZ b L.length Z = true) (h1 : L.length ≤ 1) : manyZ b L Z = [] := by rw [manyZ, if_neg (by rw [h]; decide), dif_pos h1]
theorem manyZ_two {b k : Nat} {L : List ByteArray} {Z : List Int} (hk : k = spl L.length) (h : inZ b L.length Z = true) (h1 : 2 ≤ L.length) : manyZ b L Z = manyZ b (L.take k) Z ++ manyZ (b + k) (L.drop k) Z := by
  subst hk
  rw [manyZ, if_neg (by rw [h]; decide), dif_neg (by omega)]
theorem manyZ_len (n : Nat) : ∀ b L Z, L.length = n → 1 ≤ n → (manyZ b L Z).length ≤ n := by
  induction n using Nat.strongRecOn with
  | ind n ih =>
    intro b L Z hL h1
    rcases Bool.eq_false_or_eq_true (inZ b L.length Z) with h | h
    · rcases Nat.lt_or_ge n 2 with h2 | h2
      · rw [manyZ_one h (by omega)]; simp
      · have hs := spl_lt h2
        rw [manyZ_two (k := spl n) (by rw [hL]) h (by omega), List.length_append]
        have e1 := ih (spl n) hs.2.1 b (L.take (spl n)) Z (by rw [List.length_take]; omega) (by omega)
        have e2 := ih (n - spl n) (by omega) (b + spl n) (L.drop (spl n)) Z (by rw [List.length_drop]; omega) (by omega)
        omega
    · rw [manyZ_out h]; simp; omega
/-- by where a search ends: is a wanted one within? -/
theorem inZ_search {b n at_ : Nat} {Z : List Int} (h1 : ∀ j z, j < at_ → Z[j]? = some z → z < (b : Int)) (h2 : ∀ j z, at_ ≤ j → Z[j]? = some z → (b : Int) ≤ z) (hs : Z.Pairwise (· < ·)) :
    inZ b n Z = match Z[at_]? with | some z => decide (z < (b : Int) + (n : Int)) | none => false := by
  unfold inZ
  cases hz : Z[at_]? with
  | none =>
    rw [List.any_eq_false]
    intro z hm
    obtain ⟨j, hj⟩ := List.getElem?_of_mem hm
    have hjl : j < at_ := by
      have h3 := (List.getElem?_eq_some_iff.mp hj).1
      have h4 := List.getElem?_eq_none_iff.mp hz
      omega
    have := h1 j z hjl hj
    simp; omega
  | some z =>
    have hbz := h2 at_ z (Nat.le_refl _) hz
    by_cases hzn : z < (b : Int) + (n : Int)
    · refine Eq.trans ?_ (show decide (z < (b : Int) + (n : Int)) = true from decide_eq_true hzn).symm
      rw [List.any_eq_true]
      exact ⟨z, List.mem_of_getElem? hz, by simp; omega⟩
    · refine Eq.trans ?_ (show decide (z < (b : Int) + (n : Int)) = false from decide_eq_false hzn).symm
      rw [List.any_eq_false]
      intro y hm
      obtain ⟨j, hj⟩ := List.getElem?_of_mem hm
      rcases Nat.lt_trichotomy j at_ with h3 | h3 | h3
      · have := h1 j y h3 hj; simp; omega
      · subst h3; rw [hz] at hj; cases hj; simp; omega
      · have := pair_lt hs h3 hz hj; simp; omega

/-- what stands while the closure of Many goes through the tree -/
structure MInv (W : World) (pi po pm C : Nat) (zv : Value) (O : List ByteArray) (w : World) : Prop where
  zi : ∃ T, w.heap[pi]? = some (.cells #[zv] T (0, 0))
  self : ∃ T, w.heap[pm]? = some (.cells #[.func (.func 78) #[] #[.pointer (some ⟨pi, 0, none⟩), .pointer (some ⟨po, 0, none⟩), .pointer (some ⟨pm, 0, none⟩)]] T (0, 0))
  out : ∃ ov T, w.heap[po]? = some (.cells #[ov] T (0, 0)) ∧ w.ownsRow C 9 1 ov O.length (O.map Value.string)
  b : Below W.heap.size W w
  lt : W.heap.size ≤ pi ∧ W.heap.size ≤ po ∧ W.heap.size ≤ pm ∧ pi ≠ po ∧ pi ≠ pm ∧ po ≠ pm ∧ pi < C ∧ po < C ∧ pm < C ∧ C ≤ w.heap.size
theorem MInv.below {W w w' : World} {pi po pm C : Nat} {zv : Value} {O : List ByteArray} (h : MInv W pi po pm C zv O w) (hb : Below w.heap.size w w') : MInv W pi po pm C zv O w' := by
  obtain ⟨⟨T1, h1⟩, ⟨T2, h2⟩, ⟨ov, T3, h3, h4⟩, h5, h6⟩ := h
  exact ⟨⟨T1, blk_below h1 hb (blk_lt h1)⟩, ⟨T2, blk_below h2 hb (blk_lt h2)⟩, ⟨ov, T3, blk_below h3 hb (blk_lt h3), owns_below h4 hb (Nat.le_refl _)⟩, below_from h5 hb h5.size, by have := hb.size; omega⟩
end Go.Proofs.YtejdpahgofhioaaDoor
