/- Layer 3: an append as one step of a region that draws its order; proofs of many in plain Lean; what the closure of Many leaves. -/
import Derived.Test.YteknpnanmbfhfaaDoorMa21
import Derived.Deep.RegionLaw
namespace Go.Proofs.YteknpnanmbfhfaaDoor
open Go.RowKit Go.Scr
set_option linter.unusedVariables false

theorem step_appendV {P : Program} {ops : Array Oper} {o : Oper} {a : Act} {w : World} {K : Act → World → Prop} {Q : Exit → Act → World → Prop} {E : Prop} {T S : TypeId}
    (hg : o.guard = none) (s x : Operand) (hop : o.op = Op.call { callee := Callee.builtin Builtin.append, args := #[s, x], argTypes := #[S, S] })
    (hu : P.underlying S = some (.slice T)) (z : Value) (sz : Nat) {byt : Nat} (hi : (P.info? T).map (fun i => (i.zero, i.size, i.bytes)) = some (some z, sz, byt)) (hzs : z.cells.size = sz) (hsz : 0 < sz)
    {B n0 c : Nat} {v : Value} {l : List Value} (xs : List Value) (m N : Nat) (ad : Addr) (hs : a.eval s = v) (hx : a.eval x = .slice (some ad) m c)
    (hown : w.ownsRow B T sz v n0 l) (hm : xs.length = m * sz) (hc : ∀ j u, xs[j]? = some u → w.cell? (ad.add j) = some u) (hone : ∀ u ∈ xs, u.oneCell' = true) (hB : B ≤ w.heap.size) (hN : N = n0 + m) (hpos : 0 < N) (hl : N * byt ≤ 140737488355328) (hl2 : N ≤ 140737488355328)
    (hK : ∀ (g c : Nat) w', B ≤ g → w'.ownsRow B T sz (.slice (some ⟨g, 0, none⟩) N c) N (l ++ xs) → w.grownBy w' v.ownBlock → K (a.put o.dst (.slice (some ⟨g, 0, none⟩) N c)) w') :
    if Region.wanted o (yielded ops a.tmps) = true then Oper.wp P o a w K Q else E := by
  have hw : Region.wanted o (yielded ops a.tmps) = true := by simp [Region.wanted, hg]
  rw [if_pos hw]
  subst hN
  obtain ⟨i, hi0, hz, hsi, hbi⟩ := info_parts hi
  obtain ⟨v', w', hrun, ho2, hgr, _⟩ := run_append_own (P := P) w B S o.type T i z sz byt hu hi0 hz hsi hbi hzs hsz v n0 l hown ad m c xs hm hc hone (by simp only [maxLen]; omega) hl hB
  rcases ho2.2 with ⟨_, h0⟩ | ⟨g, c', cur, rfl, hBg, _⟩
  · omega
  unfold Oper.wp
  simp [execOp, hop, resolve, invoke, builtin, hs, hx, hrun, Result.andThen]
  exact hK g c' w' hBg ho2 hgr

def inZ (b : Nat) (n : Nat) (Z : List Int) : Bool := Z.any fun z => decide ((b : Int) ≤ z) && decide (z < (b : Int) + (n : Int))
def manyZ (b : Nat) (L : List ByteArray) (Z : List Int) : List ByteArray :=
  if inZ b L.length Z = false then [rootR L] else
  if h : L.length ≤ 1 then [] else
    manyZ b (L.take (spl L.length)) Z ++ manyZ (b + spl L.length) (L.drop (spl L.length)) Z
termination_by L.length
decreasing_by
  · have := spl_lt (show 2 ≤ L.length by omega); rw [List.length_take]; omega
  · have := spl_lt (show 2 ≤ L.length by omega); rw [List.length_drop]; omega
theorem manyZ_out {b : Nat} {L : List ByteArray} {Z : List Int} (h : inZ b L.length Z = false) : manyZ b L Z = [rootR L] := by rw [manyZ, if_pos h]
theorem manyZ_one {b : Nat} {L : List ByteArray} {Z : List Int} (h : inZ b L.length Z = true) (h1 : L.length ≤ 1) : manyZ b L Z = [] := by rw [manyZ, if_neg (by rw [h]; decide), dif_pos h1]
theorem manyZ_two {b k : Nat} {L : List ByteArray} {Z : List Int} (hk : k = spl L.length) (h : inZ b L.length Z = true) (h1 : 2 ≤ L.length) : manyZ b L Z = manyZ b (L.take k) Z ++ manyZ (b + k) (L.drop k) Z := by
  subst hk
  rw [manyZ, if_neg (by rw [h]; decide), dif_neg (by omega)]
theorem manyZ_len (n : Nat) : ∀ b L Z, L.length = n → 1 ≤ n → (manyZ b L Z).length ≤ n := by
  induction n using Nat.strongRecOn with
  | ind n ih =>
    intro b L Z hL h1
    rcases Bool.eq_false_or_eq_true (inZ b L.length Z) with h | h
    · rcases Nat.lt_or_ge n 2 with h2 | h2
      · rw [manyZ_one h (by omega)]; simp
      · have hs := spl_lt h2
        rw [manyZ_two (k := spl n) (by rw [hL]) h (by omega), List.length_append]
        have e1 := ih (spl n) hs.2.1 b (L.take (spl n)) Z (by rw [List.length_take]; omega) (by omega)
        have e2 := ih (n - spl n) (by omega) (b + spl n) (L.drop (spl n)) Z (by rw [List.length_drop]; omega) (by omega)
        omega
    · rw [manyZ_out h]; simp; omega
/-- by where a search ends: is a wanted one within? -/
theorem inZ_search {b n at_ : Nat} {Z : List Int} (h1 : ∀ j z, j < at_ → Z[j]? = some z → z < (b : Int)) (h2 : ∀ j z, at_ ≤ j → Z[j]? = some z → (b : Int) ≤ z) (hs : Z.Pairwise (· < ·)) :
    inZ b n Z = match Z[at_]? with | some z => decide (z < (b : Int) + (n : Int)) | none => false := by
  unfold inZ
  cases hz : Z[at_]? with
  | none =>
    rw [List.any_eq_false]
    intro z hm
    obtain ⟨j, hj⟩ := List.getElem?_of_mem hm
    have hjl : j < at_ := by
      have h3 := (List.getElem?_eq_some_iff.mp hj).1
      have h4 := List.getElem?_eq_none_iff.mp hz
      omega
    have := h1 j z hjl hj
    simp; omega
  | some z =>
    have hbz := h2 at_ z (Nat.le_refl _) hz
    by_cases hzn : z < (b : Int) + (n : Int)
    · refine Eq.trans ?_ (show decide (z < (b : Int) + (n : Int)) = true from decide_eq_true hzn).symm
      rw [List.any_eq_true]
      exact ⟨z, List.mem_of_getElem? hz, by simp; omega⟩
    · refine Eq.trans ?_ (show decide (z < (b : Int) + (n : Int)) = false from decide_eq_false hzn).symm
      rw [List.any_eq_false]
      intro y hm
      obtain ⟨j, hj⟩ := List.getElem?_of_mem hm
      rcases Nat.lt_trichotomy j at_ with h3 | h3 | h3
      · have := h1 j y h3 hj; simp; omega
      · subst h3; rw [hz] at hj; cases hj; simp; omega
      · have := pair_lt hs h3 hz hj; simp; omega

/-- what stands while the closure of Many goes through the tree -/
structure MInv (W : World) (pi po pm C : Nat) (zv : Value) (O : List ByteArray) (w : World) : Prop where
  zi : ∃ T, w.heap[pi]? = some (.cells #[zv] T (0, 0))
  self : ∃ T, w.heap[pm]? = some (.cells #[.func (.func 74) #[] #[.pointer (some ⟨pi, 0, none⟩), .pointer (some ⟨po, 0, none⟩), .pointer (some ⟨pm, 0, none⟩)]] T (0, 0))
  out : ∃ ov T, w.heap[po]? = some (.cells #[ov] T (0, 0)) ∧ w.ownsRow C 9 1 ov O.length (O.map Value.string)
  b : Below W.heap.size W w
  lt : W.heap.size ≤ pi ∧ W.heap.size ≤ po ∧ W.heap.size ≤ pm ∧ pi ≠ po ∧ pi ≠ pm ∧ po ≠ pm ∧ pi < C ∧ po < C ∧ pm < C ∧ C ≤ w.heap.size
theorem MInv.below {W w w' : World} {pi po pm C : Nat} {zv : Value} {O : List ByteArray} (h : MInv W pi po pm C zv O w) (hb : Below w.heap.size w w') : MInv W pi po pm C zv O w' := by
  obtain ⟨⟨T1, h1⟩, ⟨T2, h2⟩, ⟨ov, T3, h3, h4⟩, h5, h6⟩ := h
  exact ⟨⟨T1, blk_below h1 hb (blk_lt h1)⟩, ⟨T2, blk_below h2 hb (blk_lt h2)⟩, ⟨ov, T3, blk_below h3 hb (blk_lt h3), owns_below h4 hb (Nat.le_refl _)⟩, below_from h5 hb h5.size, by have := hb.size; omega⟩
end Go.Proofs.YteknpnanmbfhfaaDoor
/- Layer 3, walked: the closure of Many. -/
namespace Go.Proofs.YteknpnanmbfhfaaDoor
open Go.RowKit Go.Scr
set_option linter.unusedVariables false

/-- what stands while the closure of Many goes through the tree -/
structure MV (W : World) (pi po pm C : Nat) (zv ov : Value) (O : List ByteArray) (w : World) : Prop where
  zi : w.heap[pi]? = some (.cells #[zv] 41 (0, 0))
  self : ∃ T, w.heap[pm]? = some (.cells #[.func (.func 74) #[] #[.pointer (some ⟨pi, 0, none⟩), .pointer (some ⟨po, 0, none⟩), .pointer (some ⟨pm, 0, none⟩)]] T (0, 0))
  out : w.heap[po]? = some (.cells #[ov] 50 (0, 0))
  own : w.ownsRow C 9 1 ov O.length (O.map Value.string)
  b : Below W.heap.size W w
  lt : W.heap.size ≤ pi ∧ W.heap.size ≤ po ∧ W.heap.size ≤ pm ∧ pi ≠ po ∧ pi ≠ pm ∧ po ≠ pm ∧ pi < C ∧ po < C ∧ pm < C ∧ C ≤ w.heap.size
theorem MV.below {W w w' : World} {pi po pm C : Nat} {zv ov : Value} {O : List ByteArray} (h : MV W pi po pm C zv ov O w) (hb : Below w.heap.size w w') : MV W pi po pm C zv ov O w' := by
  obtain ⟨h1, ⟨T2, h2⟩, h3, h4, h5, h6⟩ := h
  exact ⟨blk_below h1 hb (blk_lt h1), ⟨T2, blk_below h2 hb (blk_lt h2)⟩, blk_below h3 hb (blk_lt h3), owns_below h4 hb (Nat.le_refl _), below_from h5 hb h5.size, by have := hb.size; omega⟩
theorem own_far {w : World} {C T sz n : Nat} {v : Value} {l : List Value} {ov : Value} (h : w.ownsRow C T sz v n l) {k : Nat} (hk : v.ownBlock = some k) : C ≤ k := by
  rcases h.2 with ⟨rfl, _⟩ | ⟨g, cap, cur, rfl, hg, _⟩
  · cases hk
  · cases hk; exact hg
theorem MV.push {W w3 w4 w5 : World} {pi po pm C : Nat} {zv ov : Value} {O : List ByteArray} (h : MV W pi po pm C zv ov O w3) (hb : Below w3.heap.size w3 w4) {g c N : Nat} {R : ByteArray}
    (hown : w5.ownsRow C 9 1 (.slice (some ⟨g, 0, none⟩) N c) N (O.map Value.string ++ [Value.string R])) (hN : N = O.length + 1) (hgr : w4.grownBy w5 ov.ownBlock) :
    w5.heap[po]? = some (.cells #[ov] 50 (0, 0)) ∧ MV W pi po pm C zv (.slice (some ⟨g, 0, none⟩) N c) (O ++ [R]) (w5.setCell ⟨po, 0, none⟩ (.slice (some ⟨g, 0, none⟩) N c)) := by
  obtain ⟨h1, ⟨T2, h2⟩, h3, h4, h5, e1, e2, e3, e4, e5, e6, e7, e8, e9, e10⟩ := h.below hb
  have hne : ∀ q, q < C → some q ≠ ov.ownBlock := fun q hq he => by have := own_far (ov := ov) h4 he.symm; omega
  have hp := blk_only h3 hgr (hne po e8)
  refine ⟨hp, ⟨blk_far (blk_only h1 hgr (hne pi e7)) (p := ⟨po, 0, none⟩) e4 _, ⟨T2, blk_far (blk_only h2 hgr (hne pm e9)) (p := ⟨po, 0, none⟩) (fun e => e6 e.symm) _⟩, blk_set hp 0 _, ?_, ?_, e1, e2, e3, e4, e5, e6, e7, e8, e9, ?_⟩⟩
  · have hl : (O ++ [R]).length = N := by rw [hN]; simp
    rw [hl, List.map_append, List.map_cons, List.map_nil]
    rcases hown.2 with ⟨h0, _⟩ | ⟨g', cap', cur, hv, hbg, hg, hr⟩
    · cases h0
    · refine ⟨hown.1, .inr ⟨g', cap', cur, hv, hbg, blk_far hg (p := ⟨po, 0, none⟩) (fun e => ?_) _, hr⟩⟩
      have : g' = po := e
      omega
  · exact (h5.grown hgr (by omega) (fun k hk => by have := own_far (ov := ov) h4 hk; omega)).setCell (p := ⟨po, 0, none⟩) e2 _
  · have := hgr.size
    have := ((Below.refl 0 w5).setCell (p := ⟨po, 0, none⟩) (Nat.zero_le _) (.slice (some ⟨g, 0, none⟩) N c)).size
    omega
theorem ints_below {w w' : World} {B : Nat} {v : Value} {L : List Int} (h : Ints w v L) (hb : Below B w w') (hB : w.heap.size ≤ B) : Ints w' v L := by
  obtain ⟨p, c, h1, h2, h3, h4, h5⟩ := h
  exact ⟨p, c, h1, h2, h3, h4, fun j x hx => by
    obtain ⟨a, ha, hc⟩ := h5 j x hx
    exact ⟨a, ha, (hb.cell (Nat.lt_of_lt_of_le (block_lt_of_cell hc) hB)).trans hc⟩⟩

theorem one_cells (w : World) (R : ByteArray) : ∀ j u, [Value.string R][j]? = some u → (w.alloc (.cells #[Value.string R] 9)).cell? ((⟨w.heap.size, 0, none⟩ : Addr).add j) = some u := by
  intro j u hu
  have hadd : (⟨w.heap.size, 0, none⟩ : Addr).add j = ⟨w.heap.size, j, none⟩ := by unfold Addr.add; split <;> simp_all
  rw [hadd, World.cell?_alloc_at _ _ _ _ rfl]
  simpa using hu
set_option maxRecDepth 100000 in
set_option maxHeartbeats 4000000 in
theorem many1_any (W : World) (pi po pm C : Nat) (pz : Option Addr) (nz cz : Nat) (Z : List Int) (ht : Tabs W) (hz : Ints W (.slice pz nz cz) Z) (hs : Z.Pairwise (· < ·)) (hzl : Z.length ≤ 1048576) (n : Nat) :
    ∀ (b : Nat) (L : List ByteArray) (p : Option Addr) (c : Nat) (ov : Value) (O : List ByteArray) (w : World), Txts W (.slice p n c) L → L.length = n → 1 ≤ n → b + n ≤ 1048576 → O.length + n ≤ 1048576 → MV W pi po pm C (.slice pz nz cz) ov O w →
    Calls Tryd.prog 74 #[.int .i64 b, .slice p n c, .pointer (some ⟨pi, 0, none⟩), .pointer (some ⟨po, 0, none⟩), .pointer (some ⟨pm, 0, none⟩)] w fun e w' => e = .returned (.tuple #[]) ∧ ∃ ov', MV W pi po pm C (.slice pz nz cz) ov' (O ++ manyZ b L Z) w' := by
  induction n using Nat.strongRecOn with
  | ind n ih =>
    intro b L p c ov O w hv hL h1 hbn hO hm
    have IH := Lib.hid ih
    have HT := Lib.hid ht
    have HV := Lib.hid hv
    have HM := Lib.hid hm
    have HB := Lib.hid (fun w' (h : Below W.heap.size W w') => binsearch_any (.slice pz nz cz) Z b w' (ints_below hz h (Nat.le_refl _)) hs hzl)
    have HR := Lib.hid (fun w' (h : Below W.heap.size W w') => root_any p n c L w' (ht.below h) (hv.below h (Nat.le_refl _)) hL (by omega))
    obtain ⟨N1, hN1⟩ : ∃ N1, N1 = O.length + 1 := ⟨_, rfl⟩
    have HN1 := Lib.hid hN1
    have hpos : 0 < N1 := by omega
    have hbd1 : N1 * 16 ≤ 140737488355328 := by omega
    have hbd2 : N1 ≤ 140737488355328 := by omega
    clear hN1
    have hci := cell_of_one hm.zi
    obtain ⟨hnz, hzc⟩ : nz = Z.length ∧ ∀ j z, Z[j]? = some z → ∃ a, pz = some a ∧ w.cell? (a.add j) = some (.int .i64 z) := by
      obtain ⟨q, c', he, h1, h2, h3, h4⟩ := ints_below hz hm.b (Nat.le_refl _)
      cases he
      exact ⟨rfl, h4⟩
    have HZC := Lib.hid hzc
    have HNZ := Lib.hid hnz
    have HS := Lib.hid hs
    have HL := Lib.hid hL
    clear ih ht hv hm hz hzc hs hL hnz
    go_enter Tryd.func74, Tryd.ntmps74
    go_upto_region 1 with (go_at_call 65; with_reducible refine (HB.out w HM.out.b).mono ?_; rintro r wx ⟨hbr, hw⟩; unfold binR at hbr; obtain ⟨at_, fb, rfl, hat, ha1, ha2⟩ := hbr; rw [hw]; clear hw wx)
    have HIN := Lib.hid (inZ_search (n := n) ha1 ha2 HS.out)
    clear ha1 ha2
    have hatz : at_ ≤ nz := by have := HNZ.out; omega
    have hnzb : nz ≤ 1048576 := by have := HNZ.out; omega
    clear hat hzl
    rcases Nat.lt_or_ge at_ nz with hlt | hge
    · obtain ⟨z, hzz⟩ : ∃ z, Z[at_]? = some z := ⟨Z[at_]'(by have := HNZ.out; omega), List.getElem?_eq_getElem _⟩
      obtain ⟨a, rfl, hcz⟩ := HZC.out at_ z hzz
      have e1 : ((at_ : Int) == (nz : Int)) = false := beq_eq_false_iff_ne.2 (by omega)
      have hai : (at_ : Int) < (nz : Int) := by omega
      have ha0 : (0 : Int) ≤ (at_ : Int) := by omega
      by_cases hzb : z < (b : Int) + (n : Int)
      · have hin : inZ b L.length Z = true := by
          have h := HIN.out
          rw [hzz] at h
          rw [HL.out, h]
          exact decide_eq_true hzb
        have hnb : ¬ ((b : Int) + (n : Int) ≤ z) := by omega
        have HINT := Lib.hid hin
        clear hin hzz hlt HIN hatz
        by_cases hn2 : 2 ≤ n
        · obtain ⟨k, hk⟩ : ∃ k, k = spl n := ⟨_, rfl⟩
          have hsp := spl_lt hn2
          rw [← hk] at hsp
          obtain ⟨m, hmm⟩ : ∃ m, m = n - k := ⟨_, rfl⟩
          obtain ⟨bk, hbk⟩ : ∃ x, x = b + k := ⟨_, rfl⟩
          have hnc : n ≤ c := by obtain ⟨_, _, he, h2, _⟩ := HV.out; cases he; rw [HL.out] at *; omega
          have hpt := fun w' => parts_any p n c w' hn2 hnc (by omega)
          rw [← hk, ← hmm] at hpt
          have HPT := Lib.hid hpt
          have hlk : (L.take k).length = k := by rw [List.length_take, HL.out]; omega
          have hlm : (L.drop k).length = m := by rw [List.length_drop, HL.out, hmm]
          have hml := manyZ_len k b (L.take k) Z hlk (by omega)
          have iha := fun w' h => IH.out k (by omega) b (L.take k) p k ov O w' (HV.out.left (by omega)) hlk (by omega) (by omega) (by omega) h
          have ihb := fun ov' w' h => IH.out m (by omega) bk (L.drop k) (p.map (·.add k)) m ov' (O ++ manyZ b (L.take k) Z) w' (by have := HV.out.right (k := k) (by omega); rw [← hmm] at this; exact this) hlm (by omega) (by omega) (by rw [List.length_append]; omega) h
          have htwo : O ++ manyZ b L Z = (O ++ manyZ b (L.take k) Z) ++ manyZ bk (L.drop k) Z := by rw [manyZ_two (k := k) (by rw [HL.out, hk]) HINT.out (by rw [HL.out]; exact hn2), List.append_assoc, hbk]
          have HTWO := Lib.hid htwo
          have IHA := Lib.hid iha
          have IHB := Lib.hid ihb
          have hbki : (b : Int) + (k : Int) = (bk : Int) := by omega
          have hn2i : (1 : Int) < (n : Int) := by omega
          have hkb : k ≤ 1048576 := by omega
          have hmb : m ≤ 1048576 := by omega
          have hbkb : bk ≤ 1048576 := by omega
          clear hsp hk hmm hbk hnc hpt hlk hlm hml iha ihb htwo hn2 IH HZC HS HB HR hpos hbd1 hbd2
          generalize O ++ manyZ b (L.take k) Z = O1 at IHA IHB HTWO
          go_upto_region 5 with (go_at_call 71; with_reducible refine (HPT.out w).mono ?_; rintro r w2 ⟨rfl, hb⟩; have HM2 := Lib.hid (HM.out.below hb); clear hb)
          obtain ⟨T2, hself2⟩ := HM2.out.self
          have hcs2 := cell_of_one hself2
          clear hself2
          go_wp2_with (first
            | (go_at_call 74; with_reducible refine (IHA.out w2 HM2.out).mono ?_; rintro r w3 ⟨rfl, ov3, hm3⟩; have HM3 := Lib.hid hm3; obtain ⟨T3, hself3⟩ := HM3.out.self; have hcs3 := cell_of_one hself3; clear hm3 hself3)
            | (go_at_call 74; with_reducible refine (IHB.out ov3 w3 HM3.out).mono ?_; rintro r w4 ⟨rfl, ov4, hm4⟩; have HM4 := Lib.hid hm4; clear hm4))
          go_end0
          exact ⟨rfl, _, by rw [HTWO.out]; exact HM4.out⟩
        · have hn1 : n = 1 := by omega
          have hone : manyZ b L Z = [] := manyZ_one HINT.out (by rw [HL.out]; omega)
          have HOUT := Lib.hid hone
          have hn2i : ¬ ((1 : Int) < (n : Int)) := by omega
          clear hone hn1 hn2
          go_wp2_with fail
          go_end0
          exact ⟨rfl, _, by rw [HOUT.out, List.append_nil]; exact HM.out⟩
      · have hout : manyZ b L Z = [rootR L] := manyZ_out (by
          have h := HIN.out
          rw [hzz] at h
          rw [HL.out, h]
          exact decide_eq_false hzb)
        obtain ⟨R, hR⟩ : ∃ R, R = rootR L := ⟨_, rfl⟩
        rw [← hR] at HR hout
        have HOUT := Lib.hid hout
        have hge2 : (b : Int) + (n : Int) ≤ z := by omega
        have HONE : Hid (∀ u ∈ [Value.string R], u.oneCell' = true) := Lib.hid (by intro u hu; simp only [List.mem_singleton] at hu; rw [hu]; rfl)
        clear hout hzz hlt hatz hzb hR
        clear HZC HIN HS IH HNZ HB
        go_upto_region 2 with fail
        have HMd : Hid (MV W pi po pm C _ ov O w.drew) := Lib.hid (HM.out.below (Below.refl _ _).drew)
        have hcd := cell_of_one HMd.out.out
        go_region_law (first
          | (refine step_appendV rfl (.tmp 33) (.tmp 36) rfl Tryd.underlying50 (.string ⟨#[]⟩) 1 info_str rfl (by decide) [Value.string R] 1 N1 ⟨w3.heap.size, 0, none⟩ rfl rfl (HM3.out.own.alloc _) rfl HC4.out HONE.out HC5.out HN1.out hpos hbd1 hbd2 ?_; intro g cg w5 hg hown hgr; obtain ⟨hpo5, hm6⟩ := HM3.out.push ((Below.refl _ _).alloc (Nat.le_refl _) _) hown HN1.out hgr; have hc5 := cell_of_one hpo5; have hf5 := free_of_one hpo5; have HM6 := Lib.hid hm6; clear hg hown hgr hpo5 hm6)
          | (go_simp; go_at_call 69; with_reducible refine (HR.out w.drew HMd.out.b).mono ?_; rintro r w3 ⟨rfl, hb⟩; have HM3 := Lib.hid (HMd.out.below hb); have hc3 := cell_of_one HM3.out.out; have hc4 := cell_of_one (blk_alloc (o' := .cells #[.string R] 9) HM3.out.out); have HC4 := Lib.hid (one_cells w3 R); have HC5 : Hid (C ≤ (w3.alloc (.cells #[.string R] 9)).heap.size) := Lib.hid (by have := HM3.out.lt; simp; omega); clear hb))
        all_goals
          go_wp2_with fail
          go_end0
          exact ⟨rfl, _, by rw [HOUT.out]; exact HM6.out⟩
    · have hateq : at_ = nz := by omega
      have hout : manyZ b L Z = [rootR L] := manyZ_out (by
        have h := HIN.out
        rw [List.getElem?_eq_none (by have := HNZ.out; omega)] at h
        rw [HL.out, h])
      obtain ⟨R, hR⟩ : ∃ R, R = rootR L := ⟨_, rfl⟩
      rw [← hR] at HR hout
      have HOUT := Lib.hid hout
      have e1 : ((at_ : Int) == (nz : Int)) = true := beq_iff_eq.2 (by omega)
      have HONE : Hid (∀ u ∈ [Value.string R], u.oneCell' = true) := Lib.hid (by intro u hu; simp only [List.mem_singleton] at hu; rw [hu]; rfl)
      clear hout hge hatz hR hateq
      clear HZC HIN HS IH HNZ HB
      go_upto_region 2 with fail
      have HMd : Hid (MV W pi po pm C _ ov O w.drew) := Lib.hid (HM.out.below (Below.refl _ _).drew)
      have hcd := cell_of_one HMd.out.out
      go_region_law (first
        | (refine step_appendV rfl (.tmp 33) (.tmp 36) rfl Tryd.underlying50 (.string ⟨#[]⟩) 1 info_str rfl (by decide) [Value.string R] 1 N1 ⟨w3.heap.size, 0, none⟩ rfl rfl (HM3.out.own.alloc _) rfl HC4.out HONE.out HC5.out HN1.out hpos hbd1 hbd2 ?_; intro g cg w5 hg hown hgr; obtain ⟨hpo5, hm6⟩ := HM3.out.push ((Below.refl _ _).alloc (Nat.le_refl _) _) hown HN1.out hgr; have hc5 := cell_of_one hpo5; have hf5 := free_of_one hpo5; have HM6 := Lib.hid hm6; clear hg hown hgr hpo5 hm6)
        | (go_simp; go_at_call 69; with_reducible refine (HR.out w.drew HMd.out.b).mono ?_; rintro r w3 ⟨rfl, hb⟩; have HM3 := Lib.hid (HMd.out.below hb); have hc3 := cell_of_one HM3.out.out; have hc4 := cell_of_one (blk_alloc (o' := .cells #[.string R] 9) HM3.out.out); have HC4 := Lib.hid (one_cells w3 R); have HC5 : Hid (C ≤ (w3.alloc (.cells #[.string R] 9)).heap.size) := Lib.hid (by have := HM3.out.lt; simp; omega); clear hb))
      all_goals
        go_wp2_with fail
        go_end0
        exact ⟨rfl, _, by rw [HOUT.out]; exact HM6.out⟩
end Go.Proofs.YteknpnanmbfhfaaDoor
/- Layer 3, walked: wrong (indices that may not be). -/
namespace Go.Proofs.YteknpnanmbfhfaaDoor
open Go.RowKit Go.Scr
set_option linter.unusedVariables false

/-- do they rise, from last on, and stay below n? -/
def okZ (n : Nat) : Int → List Int → Bool
  | _, [] => true
  | last, z :: t => decide (last < z) && decide (z < (n : Int)) && okZ n z t
def wrongZ (n : Nat) (Z : List Int) : Bool := !(okZ n (-1) Z) || (decide (Z.length = 0) || decide (256 < Z.length))
theorem okZ_step {n : Nat} {last z : Int} {Z : List Int} {i : Nat} (hz : Z[i]? = some z) : okZ n last (Z.drop i) = (decide (last < z) && decide (z < (n : Int)) && okZ n z (Z.drop (i + 1))) := by
  obtain ⟨hi, rfl⟩ := List.getElem?_eq_some_iff.mp hz
  rw [List.drop_eq_getElem_cons hi]
  rfl
theorem okZ_bound {n : Nat} (Z : List Int) : ∀ last, okZ n last Z = true → ∀ z ∈ Z, last < z ∧ z < (n : Int) := by
  induction Z with
  | nil => intro _ _ z hz; cases hz
  | cons y t ih =>
    intro last h z hz
    simp only [okZ, Bool.and_eq_true, decide_eq_true_eq] at h
    rcases List.mem_cons.mp hz with rfl | hz
    · exact h.1
    · have := ih y h.2 z hz
      omega
theorem okZ_rises {n : Nat} (Z : List Int) : ∀ last, okZ n last Z = true → Z.Pairwise (· < ·) := by
  induction Z with
  | nil => intro _ _; exact List.Pairwise.nil
  | cons y t ih =>
    intro last h
    simp only [okZ, Bool.and_eq_true, decide_eq_true_eq] at h
    exact List.Pairwise.cons (fun z hz => (okZ_bound t y h.2 z hz).1) (ih y h.2)

set_option maxRecDepth 100000 in
set_option maxHeartbeats 1000000 in
theorem wrongm_any (p : Option Addr) (n c : Nat) (v : Value) (Z : List Int) (w : World) (hn : n ≤ 1048576) (hv : Ints w v Z) (hl : Z.length ≤ 1048576) :
    Calls Tryd.prog 73 #[.slice p n c, v] w fun e w' => e = .returned (.bool (wrongZ n Z)) ∧ w' = w := by
  obtain ⟨q, cq, rfl, hv1, hv2, hvb, hv3⟩ := hv
  obtain ⟨m, hm⟩ : ∃ m, m = Z.length := ⟨_, rfl⟩
  rw [← hm] at hv1 hl ⊢
  have HM := Lib.hid hm
  have HV := Lib.hid hv3
  have HVB := Lib.hid hvb
  clear hm hv1 hv2 hv3 hvb
  go_enter Tryd.func73, Tryd.ntmps73
  go_wp2
  go_loop [5, 10] (fun x y => ∃ (last : Int) (i : Nat), i ≤ m ∧ x = .int .i64 last ∧ y = .int .i64 i ∧ Hid (okZ n (-1) Z = okZ n last (Z.drop i))) (fun _ y => m - (intOf y).toNat)
  case atStart => exact ⟨-1, 0, by omega, rfl, rfl, Lib.hid (by rw [List.drop_zero])⟩
  case round =>
    obtain ⟨last, i, hi, rfl, rfl, hinv⟩ := hrel
    by_cases hlt : i < m
    · have hlti : (i : Int) < (m : Int) := by omega
      have hi0 : (0 : Int) ≤ (i : Int) := by omega
      obtain ⟨z, hz⟩ : ∃ z, Z[i]? = some z := ⟨Z[i]'(by have := HM.out; omega), List.getElem?_eq_getElem _⟩
      obtain ⟨a, rfl, hc⟩ := HV.out i z hz
      have hst := hinv.out.trans (okZ_step hz)
      have hib : i ≤ 1048576 := by omega
      have HLT := Lib.hid hlt
      clear hinv hz hlt
      by_cases h1 : z ≤ last
      · have hbad : wrongZ n Z = true := by
          unfold wrongZ
          rw [hst, decide_eq_false (show ¬ last < z by omega)]
          rfl
        have HBAD := Lib.hid hbad
        clear hst hbad
        go_wp2
        go_ret
        exact ⟨by rw [HBAD.out]; rfl, rfl⟩
      · by_cases h2 : (n : Int) ≤ z
        · have hbad : wrongZ n Z = true := by
            unfold wrongZ
            rw [hst, decide_eq_false (show ¬ z < (n : Int) by omega), Bool.and_false]
            rfl
          have HBAD := Lib.hid hbad
          clear hst hbad
          go_wp2
          go_ret
          exact ⟨by rw [HBAD.out]; rfl, rfl⟩
        · have hgo : okZ n (-1) Z = okZ n z (Z.drop (i + 1)) := by
            rw [hst, decide_eq_true (show last < z by omega), decide_eq_true (show z < (n : Int) by omega)]
            rfl
          have HGO := Lib.hid hgo
          clear hst hgo
          go_wp2
          exact ⟨⟨z, i + 1, by have := HLT.out; omega, rfl, rfl, Lib.hid HGO.out⟩, (by show m - ((i : Int) + 1).toNat < m - (i : Int).toNat; have := HLT.out; omega)⟩
    · have hlti : ¬ ((i : Int) < (m : Int)) := by omega
      have hok : okZ n (-1) Z = true := by
        rw [hinv.out, List.drop_eq_nil_of_le (by have := HM.out; omega)]
        rfl
      clear hinv
      by_cases h0 : m = 0
      · have hbad : wrongZ n Z = true := by
          unfold wrongZ
          rw [decide_eq_true (show Z.length = 0 by have := HM.out; omega)]
          simp
        have HBAD := Lib.hid hbad
        have hmi : ((m : Int) == 0) = true := beq_iff_eq.2 (by omega)
        clear hbad hok h0 hlt
        go_wp2
        go_ret
        exact ⟨by rw [HBAD.out]; rfl, rfl⟩
      · have hmi : ((m : Int) == 0) = false := beq_eq_false_iff_ne.2 (by omega)
        have hw : wrongZ n Z = decide (256 < m) := by
          unfold wrongZ
          rw [hok, ← HM.out, decide_eq_false h0]
          rfl
        have HW := Lib.hid hw
        clear hw hok h0 hlt
        by_cases h3 : 256 < m
        · have h3i : (256 : Int) < (m : Int) := by omega
          have HD := Lib.hid (decide_eq_true h3)
          clear h3
          go_wp2
          go_ret
          exact ⟨by rw [HW.out, HD.out]; rfl, rfl⟩
        · have h3i : ¬ ((256 : Int) < (m : Int)) := by omega
          have HD := Lib.hid (decide_eq_false h3)
          clear h3
          go_wp2
          go_ret
          exact ⟨by rw [HW.out, HD.out]; rfl, rfl⟩
end Go.Proofs.YteknpnanmbfhfaaDoor
/- Layer 3, walked: Many (as XRee, for seats without law 3). -/
namespace Go.Proofs.YteknpnanmbfhfaaDoor
open Go.RowKit Go.Scr
set_option linter.unusedVariables false

theorem txts_ownR {w : World} {B T n : Nat} {v : Value} {L : List ByteArray} (h : w.ownsRow B T 1 v n (L.map Value.string)) (hc : L.length ≤ 281474976710656) : Txts w v L := by
  have hl : n = L.length := by have := h.1; simp at this; omega
  rcases h.2 with ⟨rfl, h0⟩ | ⟨g, cap, cur, rfl, _⟩
  · have : L = [] := List.eq_nil_of_length_eq_zero (by omega)
    subst this
    exact ⟨none, 0, rfl, Nat.le_refl _, by simp, fun j s h => by simp at h⟩
  · exact txts_owned h hl hc
def manyE (L : List ByteArray) (Z : List Int) : Int := if refusedE L ≠ 0 then refusedE L else if wrongZ L.length Z = true then 30 else 0
def manyT (L : List ByteArray) (Z : List Int) : List ByteArray := if manyE L Z = 0 then manyZ 0 L Z else []

set_option maxRecDepth 100000 in
set_option maxHeartbeats 400000 in
theorem clip_any (p : Option Addr) (n c : Nat) (w : World) (h : n ≤ c) :
    Calls Tryd.prog 75 #[.slice p n c] w fun e w' => e = .returned (.slice p n n) ∧ w' = w := by
  have h0 : (0 : Int) ≤ (n : Int) := by omega
  have h1 : (n : Int) ≤ (c : Int) := by omega
  go_enter Tryd.func75, Tryd.ntmps75
  go_wp2
  go_ret
  exact ⟨rfl, rfl⟩

theorem mv_text {W w : World} {pi po pm C : Nat} {zv ov : Value} {M : List ByteArray} (h : MV W pi po pm C zv ov M w) (hM : M.length ≤ 281474976710656) :
    ∃ pl cl, ov = .slice pl M.length cl ∧ Txts w (.slice pl M.length cl) M ∧ M.length ≤ cl ∧ (∀ a, pl = some a → W.heap.size ≤ a.block) := by
  have htx := txts_ownR h.own hM
  obtain ⟨pl, cl, hx, h2, h3⟩ := id htx
  refine ⟨pl, cl, hx, by rw [← hx]; exact htx, h2, fun a ha => ?_⟩
  have hlt := h.lt
  have := own_far (ov := ov) h.own (k := a.block) (by rw [hx, ha]; rfl)
  omega

set_option maxRecDepth 100000 in
set_option maxHeartbeats 4000000 in
theorem Many_any (v zv : Value) (L : List ByteArray) (Z : List Int) (w : World) (ht : Tabs w) (hv : Txts w v L) (hz : Ints w zv Z) (hzl : Z.length ≤ 1048576) :
    Calls Tryd.prog 38 #[v, zv] w fun e w' => ∃ pl, e = .returned (.tuple #[.slice pl (manyT L Z).length (manyT L Z).length, .int .i64 (manyE L Z)]) ∧ Txts w' (.slice pl (manyT L Z).length (manyT L Z).length) (manyT L Z) ∧ (∀ a, pl = some a → w.heap.size ≤ a.block) ∧ Below w.heap.size w w' := by
  have HV := Lib.hid hv
  have HZ := Lib.hid hz
  have HT := Lib.hid ht
  have HR := Lib.hid (fun w' (h : Txts w' v L) => refused_any v L w' h)
  obtain ⟨p, c, rfl, hv1, hv2, hv3⟩ := hv
  obtain ⟨q, cq, rfl, hz1, hz2, hz3, hz4⟩ := hz
  obtain ⟨n, hn⟩ : ∃ n, n = L.length := ⟨_, rfl⟩
  obtain ⟨nz, hnz⟩ : ∃ n, n = Z.length := ⟨_, rfl⟩
  rw [← hn] at HV HR hv1 hv2 ⊢
  rw [← hnz] at HZ hz1 hz2 ⊢
  obtain ⟨w0, hw0⟩ : ∃ w0, w0 = w.alloc (.cells #[.slice q nz cq] 41) := ⟨_, rfl⟩
  have hb0 : Below w.heap.size w w0 := by rw [hw0]; exact (Below.refl _ _).alloc (Nat.le_refl _) _
  have hx0 : w0.heap[w.heap.size]? = some (.cells #[.slice q nz cq] 41 (0, 0)) := by rw [hw0]; exact heap_alloc_new w _
  have HB0 := Lib.hid hb0
  have HX0 := Lib.hid hx0
  have hci0 := cell_of_one hx0
  have hs0 : w0.heap.size = w.heap.size + 1 := by rw [hw0]; simp
  have HS0 := Lib.hid hs0
  obtain ⟨E, hE⟩ : ∃ E, E = refusedE L := ⟨_, rfl⟩
  rw [← hE] at HR
  by_cases h0 : E = 0
  · have hlen : n ≤ 4096 := by
      rcases Nat.lt_or_ge 4096 n with h | h
      · exfalso
        have : refusedE L = 31 := by unfold refusedE; rw [if_pos (by omega)]
        omega
      · exact h
    have HW := Lib.hid (fun w' (h : Below w.heap.size w w') => wrongm_any p n c (.slice q nz cq) Z w' (by omega) (ints_below HZ.out h (Nat.le_refl _)) hzl)
    obtain ⟨B, hB⟩ : ∃ B, B = wrongZ n Z := ⟨_, rfl⟩
    rw [← hB] at HW
    subst h0
    cases B with
    | true =>
      have hme : manyE L Z = 30 := by unfold manyE; rw [← hE, if_neg (by simp), ← hn, ← hB]; rfl
      have hmt : manyT L Z = [] := by unfold manyT; rw [hme]; rfl
      rw [hme, hmt]
      clear hE hn hnz hv1 hv2 hv3 hz1 hz2 hz3 hz4 hB hme hmt ht hzl hb0 hx0 hs0
      go_enter Tryd.func38, Tryd.ntmps38
      go_upto_region 1 with fail
      rw [← hw0]
      clear hw0
      go_wp2_with (first
        | (go_at_call 68; with_reducible refine (HR.out _ (HV.out.below HB0.out (Nat.le_refl _))).mono ?_; rintro e wx ⟨rfl, hw⟩; rw [hw]; clear hw wx)
        | (go_at_call 73; with_reducible refine (HW.out _ HB0.out).mono ?_; rintro e wx ⟨rfl, hw⟩; rw [hw]; clear hw wx))
      go_ret2
      exact ⟨none, rfl, ⟨none, 0, rfl, Nat.le_refl _, by simp, fun j s h => by simp at h⟩, fun a h => (by cases h), HB0.out⟩
    | false =>
      have hme : manyE L Z = 0 := by unfold manyE; rw [← hE, if_neg (by simp), ← hn, ← hB]; rfl
      have hmt : manyT L Z = manyZ 0 L Z := by unfold manyT; rw [hme]; rfl
      have hok : okZ n (-1) Z = true ∧ Z.length ≠ 0 := by
        unfold wrongZ at hB
        have hB' := hB.symm
        simp only [Bool.or_eq_false_iff, Bool.not_eq_false', decide_eq_false_iff_not] at hB'
        exact ⟨hB'.1, hB'.2.1⟩
      have hn1 : 1 ≤ n := by
        obtain ⟨z, hzz⟩ : ∃ z, Z[0]? = some z := ⟨Z[0]'(by omega), List.getElem?_eq_getElem _⟩
        have := okZ_bound Z _ hok.1 z (List.mem_of_getElem? hzz)
        omega
      have hri := okZ_rises Z _ hok.1
      rw [hme, hmt]
      obtain ⟨M, hM⟩ : ∃ M, M = manyZ 0 L Z := ⟨_, rfl⟩
      have hMl : M.length ≤ n := by rw [hM]; exact manyZ_len n 0 L Z hn.symm hn1
      have hcm := fun pi po pm C ov w3 h => many1_any w pi po pm C q nz cq Z ht HZ.out hri hzl n 0 L p c ov [] w3 HV.out hn.symm hn1 (by omega) (by simp; omega) h
      rw [← hM] at hcm ⊢
      simp only [List.nil_append] at hcm
      have hc0 : ((0 : Nat) : Int) = 0 := rfl
      rw [hc0] at hcm
      have HCM := Lib.hid hcm
      obtain ⟨m, hm⟩ : ∃ m, m = M.length := ⟨_, rfl⟩
      have HTE := Lib.hid (fun pi po pm C zv ov w' (h : MV w pi po pm C zv ov M w') => mv_text h (by omega))
      rw [← hm] at HTE ⊢
      have HML := Lib.hid hm
      clear hE hn hnz hv1 hv2 hv3 hz1 hz2 hz3 hz4 hB hme hmt ht hzl hb0 hx0 hs0 hok hri hcm hM hc0 hMl hm
      go_enter Tryd.func38, Tryd.ntmps38
      go_upto_region 1 with fail
      rw [← hw0]
      clear hw0
      go_upto_region 7 with (first
        | (go_at_call 68; with_reducible refine (HR.out _ (HV.out.below HB0.out (Nat.le_refl _))).mono ?_; rintro e wx ⟨rfl, hw⟩; rw [hw]; clear hw wx)
        | (go_at_call 73; with_reducible refine (HW.out _ HB0.out).mono ?_; rintro e wx ⟨rfl, hw⟩; rw [hw]; clear hw wx))
      obtain ⟨w1, hw1⟩ : ∃ w1, w1 = w0.alloc (.cells #[.slice none 0 0] 50) := ⟨_, rfl⟩
      have hx1 : w1.heap[w.heap.size]? = some (.cells #[.slice q nz cq] 41 (0, 0)) := by rw [hw1]; exact blk_alloc HX0.out
      have ho1 : w1.heap[w0.heap.size]? = some (.cells #[.slice none 0 0] 50 (0, 0)) := by rw [hw1]; exact heap_alloc_new w0 _
      have hb1 : Below w.heap.size w w1 := by rw [hw1]; exact HB0.out.alloc HB0.out.size _
      have hs1 : w1.heap.size = w0.heap.size + 1 := by rw [hw1]; simp
      rw [← hw1]
      clear hw1
      have hst := store_func Tryd.prog w1 102 74 #[.pointer (some ⟨w.heap.size, 0, none⟩), .pointer (some ⟨w0.heap.size, 0, none⟩), .pointer (some ⟨w1.heap.size, 0, none⟩)]
      have HX1 := Lib.hid hx1
      have HO1 := Lib.hid ho1
      have HB1 := Lib.hid hb1
      have HS1 := Lib.hid hs1
      clear hx1 ho1 hb1 hs1
      go_upto_region 9 with fail
      clear hst
      obtain ⟨w2, hw2⟩ : ∃ w2, w2 = w1.alloc (.cells #[.func (.func 74) #[] #[.pointer (some ⟨w.heap.size, 0, none⟩), .pointer (some ⟨w0.heap.size, 0, none⟩), .pointer (some ⟨w1.heap.size, 0, none⟩)]] 102) := ⟨_, rfl⟩
      have hmv : MV w w.heap.size w0.heap.size w1.heap.size w2.heap.size (.slice q nz cq) (.slice none 0 0) [] w2 := by
        have hs2 : w2.heap.size = w1.heap.size + 1 := by rw [hw2]; simp
        have e1 := HS0.out
        have e2 := HS1.out
        refine ⟨by rw [hw2]; exact blk_alloc HX1.out, ⟨_, by rw [hw2]; exact heap_alloc_new w1 _⟩, by rw [hw2]; exact blk_alloc HO1.out, World.ownsRow_nil w2 w2.heap.size 9 1, by rw [hw2]; exact HB1.out.alloc HB1.out.size _, by omega⟩
      rw [← hw2]
      have hcs := cell_of_one hmv.self.choose_spec
      have HMV := Lib.hid hmv
      clear hw2 hmv
      go_upto_region 10 with (go_at_call 74; with_reducible refine (HCM.out _ _ _ _ _ w2 HMV.out).mono ?_; rintro r w3 ⟨rfl, ov3, hm3⟩; obtain ⟨pl, cl, rfl, htx, hmc, hfr⟩ := HTE.out _ _ _ _ _ _ _ hm3; have HM3 := Lib.hid hm3; have HTX3 := Lib.hid htx; have HFR := Lib.hid hfr; clear hm3 htx hfr)
      have hco := cell_of_one HM3.out.out
      have HCL := Lib.hid (fun w' => clip_any pl m cl w' hmc)
      go_wp2_with (go_at_call 75; with_reducible refine (HCL.out _).mono ?_; rintro r wx ⟨rfl, hw⟩; rw [hw]; clear hw wx)
      go_ret2
      exact ⟨pl, rfl, by have h := HTX3.out.left (Nat.le_refl m); rw [List.take_of_length_le (Nat.le_of_eq HML.out.symm)] at h; exact h, HFR.out, HM3.out.b⟩
  · have hme : manyE L Z = E := by unfold manyE; rw [← hE, if_pos h0]
    have hmt : manyT L Z = [] := by unfold manyT; rw [hme, if_neg h0]
    rw [hme, hmt]
    clear hE hn hnz hv1 hv2 hv3 hz1 hz2 hz3 hz4 hme hmt ht hzl hb0 hx0 hs0
    go_enter Tryd.func38, Tryd.ntmps38
    go_upto_region 1 with fail
    rw [← hw0]
    clear hw0
    go_wp2_with (go_at_call 68; with_reducible refine (HR.out _ (HV.out.below HB0.out (Nat.le_refl _))).mono ?_; rintro e wx ⟨rfl, hw⟩; rw [hw]; clear hw wx)
    go_ret2
    exact ⟨none, rfl, ⟨none, 0, rfl, Nat.le_refl _, by simp, fun j s h => by simp at h⟩, fun a h => (by cases h), HB0.out⟩
end Go.Proofs.YteknpnanmbfhfaaDoor
