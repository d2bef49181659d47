/- frontier.Join, RootOf of any ranges (printed by gen_fs6.py). -/
import Derived.Test.YtdbghgpohdijfaaDoorMa62
namespace Go.Proofs.YtdbghgpohdijfaaDoor
open Go.RowKit Go.Scr Go.ChangeMaps Go.MapKept
set_option linter.unusedVariables false
/-- a range and an error come out; its list is a new one -/
def RgP (w : World) (b e : Int) (K : List ByteArray) (E : Int) (o : Ending) (w' : World) : Prop := ∃ u, o = .returned (.tuple #[.agg #[.int .i64 b, .int .i64 e, u], .int .i64 E]) ∧ LfI w w' u K.length K
theorem rgE_one (b e : Int) (H : List ByteArray) : rgE b e H = 0 ∨ rgE b e H = 50 ∨ rgE b e H = 52 := by
  unfold rgE
  split
  · exact .inr (.inl rfl)
  · split
    · exact .inr (.inl rfl)
    · split
      · exact .inr (.inr rfl)
      · exact .inl rfl
theorem single_known {n m : Nat} {H : List ByteArray} (hl : H.length = (cutA n m).length) : nodesA (valK nodeS (cutA n m) H) n m = H := by
  rw [nodesA_known (i := 0) (cutA_sorted _ _ _ rfl) (fun j _ => by rw [Nat.zero_add]) (by omega), List.drop_zero, List.take_of_length_le (by omega)]
/-- right, of any range: its error, and that it leaves all as it was -/
theorem frightW_any {w : World} {B : Nat} {b e : Int} {v : Value} {H : List ByteArray} (hB : Bas w B) (hv : Txts w v H) :
    Calls Tryd.prog 92 #[.agg #[.int .i64 b, .int .i64 e, v]] w fun o w' => ∃ p n c, o = .returned (.tuple #[.slice p n c, .int .i64 (rgE b e H)]) ∧ Below w.heap.size w w' := by
  by_cases h : rgE b e H = 0
  · obtain ⟨n, m, rfl, rfl, h1, h2, h3, h4⟩ := rgE_ok h
    rw [h]
    have hk := single_known h3
    refine (frightW_ok (val := valK nodeS (cutA n m) H) hB h1 h2 (by rw [hk]; exact hv) (by rw [hk]; exact h4)).mono ?_
    rintro o w' ⟨u, rfl, hu⟩
    obtain ⟨p, c, rfl, _⟩ := hu.h.cells
    exact ⟨_, _, _, rfl, hu.b⟩
  · refine (frightW_no hB hv h).mono ?_
    rintro o w' ⟨rfl, hb⟩
    exact ⟨_, _, _, rfl, hb⟩
/-- Join's error -/
def jnE (ab ae : Int) (A : List ByteArray) (bb be : Int) (B : List ByteArray) : Int := if rgE ab ae A = 50 ∨ rgE bb be B = 50 then 50 else if rgE ab ae A ≠ 0 ∨ rgE bb be B ≠ 0 then 52 else if ae ≠ bb then 51 else 0
theorem zero3_end {w w3 wx : World} {bs : Nat} (h1 : Below w.heap.size w w3) (hb : Below w3.heap.size w3 wx) (hs : w.heap.size ≤ bs) (x y z : Value) : Below w.heap.size w (((wx.setCell ⟨bs, 0, none⟩ x).setCell ⟨bs, 1, none⟩ y).setCell ⟨bs, 2, none⟩ z) :=
  (((h1.trans (hb.mono h1.size)).setCell (p := ⟨bs, 0, none⟩) hs _).setCell (p := ⟨bs, 1, none⟩) hs _).setCell (p := ⟨bs, 2, none⟩) hs _
set_option maxRecDepth 100000 in
set_option maxHeartbeats 8000000 in
theorem fjoinW_no {w : World} {C : Nat} {ab ae bb be : Int} {va vb : Value} {A B : List ByteArray} (hB : Bas w C) (hva : Txts w va A) (hvb : Txts w vb B) (hne : jnE ab ae A bb be B ≠ 0) :
    Calls Tryd.prog 33 #[.agg #[.int .i64 ab, .int .i64 ae, va], .agg #[.int .i64 bb, .int .i64 be, vb]] w (RgP w 0 0 [] (jnE ab ae A bb be B)) := by
  obtain ⟨w3, hw3⟩ : ∃ x, x = ((w.alloc (.cells #[.int .i64 ab, .int .i64 ae, va] 68)).alloc (.cells #[.int .i64 bb, .int .i64 be, vb] 68)).alloc (.cells #[.int .i64 0, .int .i64 0, .slice none 0 0] 68) := ⟨_, rfl⟩
  obtain ⟨x0, x1, x2, x3⟩ := three_blocks w #[.int .i64 ab, .int .i64 ae, va] #[.int .i64 bb, .int .i64 be, vb] #[.int .i64 0, .int .i64 0, .slice none 0 0] 68 68 68
  rw [← hw3] at x0 x1 x2 x3
  obtain ⟨ba, hba⟩ : ∃ x, x = w.heap.size := ⟨_, rfl⟩
  obtain ⟨bc, hbc⟩ : ∃ x, x = w.heap.size + 1 := ⟨_, rfl⟩
  obtain ⟨bs, hbs⟩ : ∃ x, x = w.heap.size + 1 + 1 := ⟨_, rfl⟩
  rw [← hba] at x0
  rw [← hbc] at x1
  rw [← hbs] at x2
  have HXX : Hid (∀ w', Below w3.heap.size w3 w' → w'.heap[ba]? = some (.cells #[.int .i64 ab, .int .i64 ae, va] 68 (0, 0)) ∧ w'.heap[bc]? = some (.cells #[.int .i64 bb, .int .i64 be, vb] 68 (0, 0)) ∧ w'.heap[bs]? = some (.cells #[.int .i64 0, .int .i64 0, .slice none 0 0] 68 (0, 0))) := Lib.hid (fun w' hb => ⟨blk_below x0 hb (blk_lt x0), blk_below x1 hb (blk_lt x1), blk_below x2 hb (blk_lt x2)⟩)
  have hB3 : Bas w3 C := hB.below (x3.mono hB.le)
  obtain ⟨e1, he1⟩ : ∃ e, e = rgE ab ae A := ⟨_, rfl⟩
  obtain ⟨e2, he2⟩ : ∃ e, e = rgE bb be B := ⟨_, rfl⟩
  have CA : Hid (Calls Tryd.prog 92 #[.agg #[.int .i64 ab, .int .i64 ae, va]] w3 fun o w' => ∃ p n c, o = .returned (.tuple #[.slice p n c, .int .i64 e1]) ∧ Below w3.heap.size w3 w') := Lib.hid (by rw [he1]; exact frightW_any hB3 (hva.below x3 (Nat.le_refl _)))
  have CB : Hid (∀ w4, Below w3.heap.size w3 w4 → Calls Tryd.prog 92 #[.agg #[.int .i64 bb, .int .i64 be, vb]] w4 fun o w' => ∃ p n c, o = .returned (.tuple #[.slice p n c, .int .i64 e2]) ∧ Below w4.heap.size w4 w') := Lib.hid (fun w4 hb => by rw [he2]; exact frightW_any (hB3.below (hb.mono hB3.le)) ((hvb.below x3 (Nat.le_refl _)).below hb (Nat.le_refl _)))
  have h1 := rgE_one ab ae A
  have h2 := rgE_one bb be B
  have HJ : Hid (jnE ab ae A bb be B = if e1 = 50 ∨ e2 = 50 then 50 else if e1 ≠ 0 ∨ e2 ≠ 0 then 52 else if ae ≠ bb then 51 else 0) := Lib.hid (by rw [he1, he2]; rfl)
  rw [HJ.out] at hne
  rw [HJ.out]
  obtain ⟨E, hE⟩ : ∃ E : Int, E = if e1 = 50 ∨ e2 = 50 then 50 else if e1 ≠ 0 ∨ e2 ≠ 0 then 52 else if ae ≠ bb then 51 else 0 := ⟨_, rfl⟩
  rw [← hE] at hne ⊢
  have HEE := Lib.hid hE
  rw [← he1] at h1
  rw [← he2] at h2
  obtain ⟨pa, na, ca, rfl⟩ : ∃ p n c, va = .slice p n c := by obtain ⟨p, c, h, _⟩ := hva; exact ⟨p, _, c, h⟩
  obtain ⟨pb, nb, cb, rfl⟩ : ∃ p n c, vb = .slice p n c := by obtain ⟨p, c, h, _⟩ := hvb; exact ⟨p, _, c, h⟩
  have HB1 : Hid (Below w.heap.size w w3 ∧ w.heap.size ≤ bs) := Lib.hid ⟨x3, by omega⟩
  have c0 : w3.cell? ⟨ba, 0, none⟩ = some (.int .i64 ab) := cellB x0 rfl
  have c1 : w3.cell? ⟨ba, 1, none⟩ = some (.int .i64 ae) := cellB x0 rfl
  have c2 : w3.cell? ⟨ba, 2, none⟩ = some (.slice pa na ca) := cellB x0 rfl
  have HW3 := Lib.hid hw3
  have HBA := Lib.hid hba
  have HBC := Lib.hid hbc
  have HBS := Lib.hid hbs
  clear hB hva hvb hw3 hba hbc hbs hB3 x0 x1 x2 x3 he1 he2 HJ hE
  go_enter Tryd.func33, Tryd.ntmps33
  go_upto_region 1 with fail
  rw [← HW3.out, ← HBS.out, ← HBC.out, ← HBA.out]
  go_upto_region 2 with (go_at_call 92; with_reducible refine CA.out.mono ?_; rintro o w4 ⟨px, nx, cx, rfl, h⟩; have H4 := Lib.hid h; clear h)
  obtain ⟨hxa, hxc, hxs⟩ := HXX.out _ H4.out
  clear c0 c1 c2
  have c0 : w4.cell? ⟨bc, 0, none⟩ = some (.int .i64 bb) := cellB hxc rfl
  have c1 : w4.cell? ⟨bc, 1, none⟩ = some (.int .i64 be) := cellB hxc rfl
  have c2 : w4.cell? ⟨bc, 2, none⟩ = some (.slice pb nb cb) := cellB hxc rfl
  clear hxa hxc hxs
  go_upto_region 3 with (go_at_call 92; with_reducible refine (CB.out _ H4.out).mono ?_; rintro o w5 ⟨py, ny, cy, rfl, h⟩; have H5 : Hid (Below w3.heap.size w3 w5) := Lib.hid (H4.out.trans (h.mono H4.out.size)); clear h)
  clear c0 c1 c2
  obtain ⟨hxa, hxc, hxs⟩ := HXX.out _ H5.out
  have c0 : w5.cell? ⟨ba, 1, none⟩ = some (.int .i64 ae) := cellB hxa rfl
  have c1 : w5.cell? ⟨bc, 0, none⟩ = some (.int .i64 bb) := cellB hxc rfl
  have k0 : w5.cell? ⟨bs, 0, none⟩ = some (.int .i64 0) := cellB hxs rfl
  have k1 : w5.cell? ⟨bs, 1, none⟩ = some (.int .i64 0) := cellB hxs rfl
  have k2 : w5.cell? ⟨bs, 2, none⟩ = some (.slice none 0 0) := cellB hxs rfl
  have f0 : w5.frozen? ⟨bs, 0, none⟩ = false := frozB hxs
  have f1 : w5.frozen? ⟨bs, 1, none⟩ = false := frozB hxs
  have f2 : w5.frozen? ⟨bs, 2, none⟩ = false := frozB hxs
  have HX6 := Lib.hid (blk_set3 (x := .int .i64 0) (y := .int .i64 0) (z := .slice none 0 0) hxs)
  have HEND : Hid (∀ E : Int, ∀ o, o = .returned (.tuple #[.agg #[.int .i64 0, .int .i64 0, .slice none 0 0], .int .i64 E]) → RgP w 0 0 [] E o (((w5.setCell ⟨bs, 0, none⟩ (.int .i64 0)).setCell ⟨bs, 1, none⟩ (.int .i64 0)).setCell ⟨bs, 2, none⟩ (.slice none 0 0))) := Lib.hid (fun E o ho => ⟨_, ho, zero3_end HB1.out.1 H5.out HB1.out.2 _ _ _, ⟨rfl, .inl ⟨rfl, rfl⟩⟩, fun g hg => nomatch hg⟩)
  clear hxa hxc hxs
  rcases h1 with rfl | rfl | rfl
  · rcases h2 with rfl | rfl | rfl
    · have hgap : ae ≠ bb := fun h => by rw [HEE.out] at hne; simp [h] at hne
      obtain rfl : E = 51 := by rw [HEE.out]; simp [hgap]
      have q1 : (ae == bb) = false := beq_eq_false_iff_ne.2 hgap
      clear hne hgap
      go_wp2_with fail
      have m0 := cellB (k := 0) HX6.out rfl
      have m1 := cellB (k := 1) HX6.out rfl
      have m2 := cellB (k := 2) HX6.out rfl
      refine bodyPost_ret (v := .tuple #[.agg #[.int .i64 0, .int .i64 0, .slice none 0 0], .int .i64 51]) (by simp [results, Tryd.results33, go_sem, m0, m1, m2]) rfl ?_
      exact HEND.out 51 _ rfl
    · obtain rfl : E = 50 := by rw [HEE.out]; simp
      clear hne
      go_wp2_with fail
      have m0 := cellB (k := 0) HX6.out rfl
      have m1 := cellB (k := 1) HX6.out rfl
      have m2 := cellB (k := 2) HX6.out rfl
      refine bodyPost_ret (v := .tuple #[.agg #[.int .i64 0, .int .i64 0, .slice none 0 0], .int .i64 50]) (by simp [results, Tryd.results33, go_sem, m0, m1, m2]) rfl ?_
      exact HEND.out 50 _ rfl
    · obtain rfl : E = 52 := by rw [HEE.out]; simp
      clear hne
      go_wp2_with fail
      have m0 := cellB (k := 0) HX6.out rfl
      have m1 := cellB (k := 1) HX6.out rfl
      have m2 := cellB (k := 2) HX6.out rfl
      refine bodyPost_ret (v := .tuple #[.agg #[.int .i64 0, .int .i64 0, .slice none 0 0], .int .i64 52]) (by simp [results, Tryd.results33, go_sem, m0, m1, m2]) rfl ?_
      exact HEND.out 52 _ rfl
  · rcases h2 with rfl | rfl | rfl
    · obtain rfl : E = 50 := by rw [HEE.out]; simp
      clear hne
      go_wp2_with fail
      have m0 := cellB (k := 0) HX6.out rfl
      have m1 := cellB (k := 1) HX6.out rfl
      have m2 := cellB (k := 2) HX6.out rfl
      refine bodyPost_ret (v := .tuple #[.agg #[.int .i64 0, .int .i64 0, .slice none 0 0], .int .i64 50]) (by simp [results, Tryd.results33, go_sem, m0, m1, m2]) rfl ?_
      exact HEND.out 50 _ rfl
    · obtain rfl : E = 50 := by rw [HEE.out]; simp
      clear hne
      go_wp2_with fail
      have m0 := cellB (k := 0) HX6.out rfl
      have m1 := cellB (k := 1) HX6.out rfl
      have m2 := cellB (k := 2) HX6.out rfl
      refine bodyPost_ret (v := .tuple #[.agg #[.int .i64 0, .int .i64 0, .slice none 0 0], .int .i64 50]) (by simp [results, Tryd.results33, go_sem, m0, m1, m2]) rfl ?_
      exact HEND.out 50 _ rfl
    · obtain rfl : E = 50 := by rw [HEE.out]; simp
      clear hne
      go_wp2_with fail
      have m0 := cellB (k := 0) HX6.out rfl
      have m1 := cellB (k := 1) HX6.out rfl
      have m2 := cellB (k := 2) HX6.out rfl
      refine bodyPost_ret (v := .tuple #[.agg #[.int .i64 0, .int .i64 0, .slice none 0 0], .int .i64 50]) (by simp [results, Tryd.results33, go_sem, m0, m1, m2]) rfl ?_
      exact HEND.out 50 _ rfl
  · rcases h2 with rfl | rfl | rfl
    · obtain rfl : E = 52 := by rw [HEE.out]; simp
      clear hne
      go_wp2_with fail
      have m0 := cellB (k := 0) HX6.out rfl
      have m1 := cellB (k := 1) HX6.out rfl
      have m2 := cellB (k := 2) HX6.out rfl
      refine bodyPost_ret (v := .tuple #[.agg #[.int .i64 0, .int .i64 0, .slice none 0 0], .int .i64 52]) (by simp [results, Tryd.results33, go_sem, m0, m1, m2]) rfl ?_
      exact HEND.out 52 _ rfl
    · obtain rfl : E = 50 := by rw [HEE.out]; simp
      clear hne
      go_wp2_with fail
      have m0 := cellB (k := 0) HX6.out rfl
      have m1 := cellB (k := 1) HX6.out rfl
      have m2 := cellB (k := 2) HX6.out rfl
      refine bodyPost_ret (v := .tuple #[.agg #[.int .i64 0, .int .i64 0, .slice none 0 0], .int .i64 50]) (by simp [results, Tryd.results33, go_sem, m0, m1, m2]) rfl ?_
      exact HEND.out 50 _ rfl
    · obtain rfl : E = 52 := by rw [HEE.out]; simp
      clear hne
      go_wp2_with fail
      have m0 := cellB (k := 0) HX6.out rfl
      have m1 := cellB (k := 1) HX6.out rfl
      have m2 := cellB (k := 2) HX6.out rfl
      refine bodyPost_ret (v := .tuple #[.agg #[.int .i64 0, .int .i64 0, .slice none 0 0], .int .i64 52]) (by simp [results, Tryd.results33, go_sem, m0, m1, m2]) rfl ?_
      exact HEND.out 52 _ rfl
/-- the joined hashes -/
def jnT (n m k : Nat) (A B : List ByteArray) : List ByteArray := nodesA (valK nodeS (cutA n m ++ cutA m k) (A ++ B)) n k
theorem jnE_ok {ab ae bb be : Int} {A B : List ByteArray} (h : jnE ab ae A bb be B = 0) : ∃ n m k : Nat, ab = n ∧ ae = m ∧ bb = m ∧ be = k ∧ n ≤ m ∧ m ≤ k ∧ k ≤ 1099511627776 ∧ A.length = (cutA n m).length ∧ B.length = (cutA m k).length ∧ (∀ s ∈ A, s.size = 32) ∧ (∀ s ∈ B, s.size = 32) := by
  unfold jnE at h
  split at h
  · omega
  · split at h
    · omega
    · split at h
      · omega
      · rename_i h1 h2 h3
        obtain ⟨n, m, rfl, rfl, a1, a2, a3, a4⟩ := rgE_ok (Classical.byContradiction fun x => h2 (.inl x))
        obtain ⟨m', k, hm', rfl, b1, b2, b3, b4⟩ := rgE_ok (Classical.byContradiction fun x => h2 (.inr x))
        have h3 : (m : Int) = bb := Classical.byContradiction h3
        obtain rfl : m' = m := by omega
        exact ⟨n, m', k, rfl, rfl, hm', rfl, a1, b1, b2, a3, b3, a4, b4⟩
/-- Join of any two ranges -/
theorem fjoinW_any {w : World} {C : Nat} {ab ae bb be : Int} {va vb : Value} {A B : List ByteArray} (hB : Bas w C) (hva : Txts w va A) (hvb : Txts w vb B) :
    Calls Tryd.prog 33 #[.agg #[.int .i64 ab, .int .i64 ae, va], .agg #[.int .i64 bb, .int .i64 be, vb]] w (fun o w' => ∃ (b e : Int) (K : List ByteArray), ((jnE ab ae A bb be B ≠ 0 ∧ b = 0 ∧ e = 0 ∧ K = []) ∨ (jnE ab ae A bb be B = 0 ∧ b = ab ∧ e = be ∧ K = jnT ab.toNat ae.toNat be.toNat A B)) ∧ RgP w b e K (jnE ab ae A bb be B) o w') := by
  by_cases h : jnE ab ae A bb be B = 0
  · obtain ⟨n, m, k, rfl, rfl, rfl, rfl, h1, h2, h3, h4, h5, h6, h7⟩ := jnE_ok h
    obtain ⟨k1, k2⟩ := join_known (nd := nodeS) h4 h5
    refine (fjoinW_ok (val := valK nodeS (cutA n m ++ cutA m k) (A ++ B)) hB h1 h2 h3 (by rw [k1]; exact hva) (by rw [k2]; exact hvb) (by rw [k1]; exact h6) (by rw [k2]; exact h7) join_nd).mono ?_
    rintro o w' ⟨u, rfl, hu⟩
    refine ⟨n, k, _, .inr ⟨h, rfl, rfl, rfl⟩, u, by rw [h], ?_⟩
    unfold jnT
    rw [Int.toNat_natCast, Int.toNat_natCast, Int.toNat_natCast]
    exact hu
  · refine (fjoinW_no hB hva hvb h).mono ?_
    intro o w' hr
    exact ⟨0, 0, [], .inl ⟨h, rfl, rfl, rfl⟩, hr⟩
/-- the root by hashes: from the last one on -/
def rootF : List ByteArray → ByteArray
  | [] => hempty
  | [x] => x
  | x :: y :: r => nodeS x (rootF (y :: r))
theorem rootA_F : ∀ (P : List Pc), P ≠ [] → rootA nodeS P = rootF (P.map fun x => x.2.2)
  | [], h => absurd rfl h
  | [x], _ => rfl
  | x :: y :: r, _ => by
    rw [rootA, rootA_F (y :: r) (by simp)]
    rfl
theorem rowroot_any {w : World} {eb : Nat} {T : TypeId} {rest : List Value} {P : List Pc} {v : Value} (h2 : FrI w eb T rest P v) (hn : P.length ≤ 4096) (ht : Tabs w) :
    Calls Tryd.prog 27 #[rowP eb] w fun o w' => o = .returned (.string (rootF (P.map fun x => x.2.2))) ∧ Below w.heap.size w w' := by
  by_cases hP : P = []
  · subst hP
    exact froot_none h2 ht
  · rw [← rootA_F P hP]
    obtain ⟨Q, x, hQ⟩ : ∃ Q x, P = Q ++ [x] := ⟨_, _, (List.dropLast_concat_getLast hP).symm⟩
    rw [hQ] at h2 hn ⊢
    refine froot_some h2 ht ?_
    rw [List.length_append] at hn
    omega
/-- RootOf's error, its root -/
def rtE (b e : Int) (H : List ByteArray) : Int := if b ≠ 0 then 50 else rgE b e H
def rtT (b e : Int) (H : List ByteArray) : ByteArray := if rtE b e H = 0 then rootF H else ⟨#[]⟩
set_option maxRecDepth 100000 in
set_option maxHeartbeats 4000000 in
theorem frootofW_any {w : World} {B : Nat} {b e : Int} {v : Value} {H : List ByteArray} (hB : Bas w B) (hv : Txts w v H) :
    Calls Tryd.prog 35 #[.agg #[.int .i64 b, .int .i64 e, v]] w fun o w' => o = .returned (.tuple #[.string (rtT b e H), .int .i64 (rtE b e H)]) ∧ Below w.heap.size w w' := by
  obtain ⟨w1, hw1⟩ : ∃ x, x = w.alloc (.cells #[.int .i64 b, .int .i64 e, v] 68) := ⟨_, rfl⟩
  obtain ⟨bs, hbs⟩ : ∃ x, x = w.heap.size := ⟨_, rfl⟩
  have hb1 : Below w.heap.size w w1 := by rw [hw1]; exact (Below.refl _ _).alloc (Nat.le_refl _) _
  have hx1 : w1.heap[bs]? = some (.cells #[.int .i64 b, .int .i64 e, v] 68 (0, 0)) := by rw [hw1, hbs]; exact heap_alloc_new w _
  have c0 : w1.cell? ⟨bs, 0, none⟩ = some (.int .i64 b) := cellB hx1 rfl
  have c1 : w1.cell? ⟨bs, 1, none⟩ = some (.int .i64 e) := cellB hx1 rfl
  have c2 : w1.cell? ⟨bs, 2, none⟩ = some v := cellB hx1 rfl
  have HW1 := Lib.hid hw1
  have HBS := Lib.hid hbs
  have HB1 := Lib.hid hb1
  by_cases hb0 : b = 0
  case neg =>
    have he : rtE b e H = 50 := by unfold rtE; rw [if_pos hb0]
    have ht : rtT b e H = ⟨#[]⟩ := by unfold rtT; rw [if_neg (by omega)]
    rw [he, ht]
    have q1 : (b == 0) = false := beq_eq_false_iff_ne.2 hb0
    obtain ⟨p, c, rfl, _, _, _⟩ := hv
    clear hB he ht hw1 hbs hb1 hx1
    go_enter Tryd.func35, Tryd.ntmps35
    go_upto_region 1 with fail
    rw [← HW1.out, ← HBS.out]
    go_wp2_with fail
    go_ret2
    exact ⟨rfl, HB1.out⟩
  subst hb0
  have he : rtE 0 e H = rgE 0 e H := by unfold rtE; rw [if_neg (by simp)]
  by_cases h : rgE 0 e H = 0
  case neg =>
    have ht : rtT 0 e H = ⟨#[]⟩ := by unfold rtT; rw [if_neg (by rw [he]; exact h)]
    rw [he, ht]
    obtain ⟨E, hE⟩ : ∃ E, E = rgE 0 e H := ⟨_, rfl⟩
    have CF : Hid (Calls Tryd.prog 92 #[.agg #[.int .i64 0, .int .i64 e, v]] w1 fun o w' => o = .returned (.tuple #[.slice none 0 0, .int .i64 E]) ∧ Below w1.heap.size w1 w') := Lib.hid (by rw [hE]; exact frightW_no (hB.below (hb1.mono hB.le)) (hv.below hb1 (Nat.le_refl _)) h)
    rw [← hE] at h ⊢
    have q1 : (E == 0) = false := beq_eq_false_iff_ne.2 h
    obtain ⟨p, c, rfl, _, _, _⟩ := hv
    clear hB he ht hw1 hbs hb1 hx1 hE
    go_enter Tryd.func35, Tryd.ntmps35
    go_upto_region 1 with fail
    rw [← HW1.out, ← HBS.out]
    go_wp2_with (go_at_call 92; with_reducible refine CF.out.mono ?_; rintro o w5 ⟨rfl, h⟩; have H5 : Hid (Below w.heap.size w w5) := Lib.hid (HB1.out.trans (h.mono HB1.out.size)); clear h)
    go_ret2
    exact ⟨rfl, H5.out⟩
  obtain ⟨n, m, hn0, rfl, h1, h2, h3, h4⟩ := rgE_ok h
  obtain rfl : n = 0 := by omega
  have ht : rtT 0 m H = rootF H := by unfold rtT; rw [if_pos (by rw [he]; exact h)]
  rw [he, h, ht]
  have hk := single_known h3
  obtain ⟨ro, hro⟩ : ∃ x, x = rootF H := ⟨_, rfl⟩
  obtain ⟨P, hP⟩ : ∃ P, P = rowA (valK nodeS (cutA 0 m) H) 0 m := ⟨_, rfl⟩
  have hPH : P.map (fun x => x.2.2) = H := by rw [hP]; exact hk
  have hPl : P.length ≤ 4096 := by rw [hP, rowA_length]; exact Nat.le_trans (cutA_80 h2) (by decide)
  have CF : Hid (Calls Tryd.prog 92 #[.agg #[.int .i64 0, .int .i64 (m : Int), v]] w1 fun o w' => ∃ u, o = .returned (.tuple #[u, .int .i64 0]) ∧ PcI w1 w' u P) := Lib.hid (by
    rw [hP]
    exact frightW_ok (b := 0) (val := valK nodeS (cutA 0 m) H) (hB.below (hb1.mono hB.le)) h1 h2 (by rw [hk]; exact hv.below hb1 (Nat.le_refl _)) (by rw [hk]; exact h4))
  have CR : Hid (∀ w5 u, PcI w1 w5 u P → Calls Tryd.prog 27 #[rowP w5.heap.size] (w5.alloc (.cells #[u] 62)) fun o w' => o = .returned (.string ro) ∧ Below w.heap.size w w') := Lib.hid (fun w5 u H5 => by
    have hR := RwI.new H5
    have hbb := hb1.trans (hR.b.mono hb1.size)
    refine (rowroot_any hR.fr hPl (hB.below (hbb.mono hB.le)).tabs).mono ?_
    rintro o w' ⟨rfl, h⟩
    exact ⟨by rw [hPH, hro], hbb.trans (h.mono hbb.size)⟩)
  obtain ⟨p, c, rfl, _, _, _⟩ := hv
  rw [← hro]
  clear hB hw1 hbs hb1 hx1 hro he h h1 h2 h3 h4 ht hk hP hPH hPl hn0
  go_enter Tryd.func35, Tryd.ntmps35
  go_upto_region 1 with fail
  rw [← HW1.out, ← HBS.out]
  go_wp2_with (first
    | (go_at_call 92; with_reducible refine CF.out.mono ?_; rintro o w5 ⟨u, rfl, h⟩; obtain ⟨pu, cu, rfl, _⟩ := h.h.cells; have CR2 := Lib.hid (CR.out _ _ h); clear h)
    | (go_at_call 27; with_reducible refine CR2.out.mono ?_; rintro o w6 ⟨rfl, h⟩; have H6 := Lib.hid h; clear h))
  go_ret2
  exact ⟨rfl, H6.out⟩
end Go.Proofs.YtdbghgpohdijfaaDoor
