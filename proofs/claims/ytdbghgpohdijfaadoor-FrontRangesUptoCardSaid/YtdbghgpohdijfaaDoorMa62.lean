/- frontier's ranges of any width: push, right, Join (printed by gen_fs4.py). -/
import Derived.Test.YtdbghgpohdijfaaDoorMa61
import Derived.Test.YtdbghgpohdijfaaDoorMa39
namespace Go.Proofs.YtdbghgpohdijfaaDoor
open Go.RowKit Go.Scr Go.ChangeMaps Go.MapKept
set_option linter.unusedVariables false
theorem RwI.pushW {w wr : World} {rb B b m : Nat} {val : Nat → Nat → ByteArray} {p : Pc} {Q : List Pc} {v : Value} (h : RwI w wr rb (rowA val b m) v) (hB : Bas w B) (hm : m ≤ 1099511627776) (hp : p.1 ≤ 1099511627776 ∧ p.2.1 ≤ 41) (hQ : (pushR nodeS (rowA val b m).reverse p).reverse = Q) :
    Calls Tryd.prog 88 #[rowP rb, pcA p] wr fun o w' => o = .returned (.tuple #[]) ∧ ∃ v', RwI w w' rb Q v' ∧ Chg (ebQ rb v) wr w' ∧ ∀ q, v'.ownBlock = some q → v.ownBlock = some q ∨ wr.heap.size ≤ q := by
  have hf := h.fr
  rw [← List.reverse_reverse (rowA val b m)] at hf
  have hl : (rowA val b m).length ≤ 80 := by rw [rowA_length]; exact cutA_80 hm
  refine (fpush_any (B := B) hf (hB.below (h.b.mono hB.le)) ⟨Nat.le_trans hB.le h.lo.1, fun g hg => Nat.le_trans hB.le (h.lo.2 g hg)⟩ (fun x hx => row_bounds hm x (List.mem_reverse.1 hx)) hp (by rw [List.length_reverse]; omega)).mono ?_
  rintro o w' ⟨rfl, v', f', c', o'⟩
  rw [hQ] at f'
  refine ⟨rfl, v', ⟨?_, f', h.lo.1, fun g hg => ?_⟩, c', o'⟩
  · have hq : ∀ i, ebQ rb v i → w.heap.size ≤ i := fun i hi => by
      rcases hi with rfl | hi
      · exact h.lo.1
      · exact h.lo.2 i hi
    exact below_chg h.b c' hq h.b.size
  · rcases o' g hg with h1 | h1
    · exact h.lo.2 g h1
    · exact Nat.le_trans h.b.size h1
theorem RwU.pushW {w wr : World} {rb B b m : Nat} {val : Nat → Nat → ByteArray} {p : Pc} {Q : List Pc} (H : RwU w wr rb (rowA val b m)) (hB : Bas w B) (hm : m ≤ 1099511627776) (hp : p.1 ≤ 1099511627776 ∧ p.2.1 ≤ 41) (hQ : (pushR nodeS (rowA val b m).reverse p).reverse = Q) :
    Calls Tryd.prog 88 #[rowP rb, pcA p] wr fun o w' => o = .returned (.tuple #[]) ∧ RwU w w' rb Q := by
  obtain ⟨v, h⟩ := H
  refine (h.pushW hB hm hp hQ).mono ?_
  rintro o w' ⟨rfl, v', h', _⟩
  exact ⟨rfl, v', h'⟩
theorem RwU.toldW {w wr : World} {rb b m : Nat} {val : Nat → Nat → ByteArray} (H : RwU w wr rb (rowA val b m)) (hm : m ≤ 1099511627776) (x y : Nat) :
    Calls Tryd.prog 89 #[rowP rb, .int .i64 (x : Int), .int .i64 (y : Int)] wr fun o w' => ∃ u, o = .returned (rgA x y u) ∧ LfI wr w' u (nodesA val b m).length (nodesA val b m) := by
  obtain ⟨v, h⟩ := H
  have hl : (rowA val b m).length ≤ 80 := by rw [rowA_length]; exact cutA_80 hm
  exact told_any h.fr (by omega) x y
set_option maxRecDepth 100000 in
set_option maxHeartbeats 4000000 in
theorem frightW_ok {w : World} {B b e : Nat} {v : Value} {val : Nat → Nat → ByteArray} (hB : Bas w B) (hbe : b ≤ e) (he : e ≤ 1099511627776) (hv : Txts w v (nodesA val b e)) (h32 : ∀ s ∈ nodesA val b e, s.size = 32) :
    Calls Tryd.prog 92 #[rgA b e v] w fun o w' => ∃ u, o = .returned (.tuple #[u, .int .i64 0]) ∧ PcI w w' u (rowA val b e) := by
  obtain ⟨w1, hw1⟩ : ∃ x, x = w.alloc (.cells #[.int .i64 (b : Int), .int .i64 (e : Int), v] 68) := ⟨_, rfl⟩
  obtain ⟨bs, hbs⟩ : ∃ x, x = w.heap.size := ⟨_, rfl⟩
  have hb1 : Below w.heap.size w w1 := by rw [hw1]; exact (Below.refl _ _).alloc (Nat.le_refl _) _
  have hx1 : w1.heap[bs]? = some (.cells #[.int .i64 (b : Int), .int .i64 (e : Int), v] 68 (0, 0)) := by rw [hw1, hbs]; exact heap_alloc_new w _
  have c0 : w1.cell? ⟨bs, 0, none⟩ = some (.int .i64 (b : Int)) := cellB hx1 rfl
  have c1 : w1.cell? ⟨bs, 1, none⟩ = some (.int .i64 (e : Int)) := cellB hx1 rfl
  have c2 : w1.cell? ⟨bs, 2, none⟩ = some v := cellB hx1 rfl
  have CF : Hid (Calls Tryd.prog 95 #[.int .i64 (b : Int), .int .i64 (e : Int), v] w1 fun o w' => ∃ u, o = .returned (.tuple #[u, .int .i64 0]) ∧ PcI w w' u (rowA val b e)) := Lib.hid ((ffilledW_any (hB.below (hb1.mono hB.le)) hbe he (hv.below hb1 (Nat.le_refl _)) h32).mono (by
    rintro o w' ⟨u, rfl, h⟩
    exact ⟨u, rfl, ⟨hb1.trans (h.b.mono hb1.size), h.h, fun g hg => Nat.le_trans hb1.size (h.o g hg)⟩⟩))
  obtain ⟨p, c, rfl, _, _, _⟩ := hv
  have h1 : ¬ (b : Int) < 0 := by omega
  have h2 : ¬ (e : Int) < (b : Int) := by omega
  have h3 : ¬ (1099511627776 : Int) < (e : Int) := by omega
  have HW1 := Lib.hid hw1
  have HBS := Lib.hid hbs
  clear hB hbe he h32 hw1 hbs hb1 hx1
  go_enter Tryd.func92, Tryd.ntmps92
  go_upto_region 1 with fail
  rw [← HW1.out, ← HBS.out]
  go_wp2_with (go_at_call 95; with_reducible refine CF.out.mono ?_; rintro o w5 ⟨u, rfl, h⟩; obtain ⟨pu, cu, rfl, _⟩ := h.h.cells; have H5 := Lib.hid h; clear h)
  go_ret2
  exact ⟨_, rfl, H5.out⟩
theorem JnU.pushW {w wr : World} {rb B b m : Nat} {val : Nat → Nat → ByteArray} {p : Pc} {Q Y : List Pc} {y : Value} (H : JnU w wr rb (rowA val b m) y Y) (hB : Bas w B) (hm : m ≤ 1099511627776) (hp : p.1 ≤ 1099511627776 ∧ p.2.1 ≤ 41) (hQ : (pushR nodeS (rowA val b m).reverse p).reverse = Q) :
    Calls Tryd.prog 88 #[rowP rb, pcA p] wr fun o w' => o = .returned (.tuple #[]) ∧ JnU w w' rb Q y Y := by
  obtain ⟨v, h⟩ := H
  refine (h.r.pushW hB hm hp hQ).mono ?_
  rintro o w' ⟨rfl, v', h', c', o'⟩
  refine ⟨rfl, v', h', h.hy.keep fun g hg => c'.same g (h.hy.lt hg) (h.far g hg), fun g hg e => ?_⟩
  rcases e with e | e
  · exact h.far g hg (.inl e)
  · rcases o' g e with h1 | h1
    · exact h.far g hg (.inr h1)
    · have := h.hy.lt hg
      omega
set_option maxRecDepth 100000 in
set_option maxHeartbeats 4000000 in
theorem fjoinW_ok {w : World} {B b m e : Nat} {va vb : Value} {val : Nat → Nat → ByteArray} (hB : Bas w B) (hbm : b ≤ m) (hme : m ≤ e) (he : e ≤ 1099511627776) (hva : Txts w va (nodesA val b m)) (hvb : Txts w vb (nodesA val m e))
    (h32a : ∀ s ∈ nodesA val b m, s.size = 32) (h32b : ∀ s ∈ nodesA val m e, s.size = 32) (hnd : ∀ y ∈ cutA m e, NdE nodeS val b y.1 y.2) :
    Calls Tryd.prog 33 #[rgA b m va, rgA m e vb] w fun o w' => ∃ u, o = .returned (.tuple #[rgA b e u, .int .i64 0]) ∧ LfI w w' u (nodesA val b e).length (nodesA val b e) := by
  obtain ⟨w3, hw3⟩ : ∃ x, x = ((w.alloc (.cells #[.int .i64 (b : Int), .int .i64 (m : Int), va] 68)).alloc (.cells #[.int .i64 (m : Int), .int .i64 (e : Int), vb] 68)).alloc (.cells #[.int .i64 0, .int .i64 0, .slice none 0 0] 68) := ⟨_, rfl⟩
  obtain ⟨x0, x1, x2, x3⟩ := three_blocks w #[.int .i64 (b : Int), .int .i64 (m : Int), va] #[.int .i64 (m : Int), .int .i64 (e : Int), vb] #[.int .i64 0, .int .i64 0, .slice none 0 0] 68 68 68
  rw [← hw3] at x0 x1 x2 x3
  obtain ⟨ba, hba⟩ : ∃ x, x = w.heap.size := ⟨_, rfl⟩
  obtain ⟨bc, hbc⟩ : ∃ x, x = w.heap.size + 1 := ⟨_, rfl⟩
  obtain ⟨bs, hbs⟩ : ∃ x, x = w.heap.size + 1 + 1 := ⟨_, rfl⟩
  rw [← hba] at x0
  rw [← hbc] at x1
  rw [← hbs] at x2
  have HXX : Hid (∀ w', Below w3.heap.size w3 w' → w'.heap[ba]? = some (.cells #[.int .i64 (b : Int), .int .i64 (m : Int), va] 68 (0, 0)) ∧ w'.heap[bc]? = some (.cells #[.int .i64 (m : Int), .int .i64 (e : Int), vb] 68 (0, 0)) ∧ w'.heap[bs]? = some (.cells #[.int .i64 0, .int .i64 0, .slice none 0 0] 68 (0, 0))) := Lib.hid (fun w' hb => ⟨blk_below x0 hb (blk_lt x0), blk_below x1 hb (blk_lt x1), blk_below x2 hb (blk_lt x2)⟩)
  have hB3 : Bas w3 B := hB.below (x3.mono hB.le)
  have CA : Hid (Calls Tryd.prog 92 #[.agg #[.int .i64 (b : Int), .int .i64 (m : Int), va]] w3 fun o w' => ∃ u, o = .returned (.tuple #[u, .int .i64 0]) ∧ PcI w3 w' u (rowA val b m)) := Lib.hid (frightW_ok hB3 hbm (by omega) (hva.below x3 (Nat.le_refl _)) h32a)
  have CB : Hid (∀ w4, Below w3.heap.size w3 w4 → Calls Tryd.prog 92 #[.agg #[.int .i64 (m : Int), .int .i64 (e : Int), vb]] w4 fun o w' => ∃ u, o = .returned (.tuple #[u, .int .i64 0]) ∧ PcI w4 w' u (rowA val m e)) := Lib.hid (fun w4 hb => frightW_ok (hB3.below (hb.mono hB3.le)) hme he ((hvb.below x3 (Nat.le_refl _)).below hb (Nat.le_refl _)) h32b)
  obtain ⟨Y, hY⟩ : ∃ Y, Y = rowA val m e := ⟨_, rfl⟩
  obtain ⟨ny, hny⟩ : ∃ n, n = Y.length := ⟨_, rfl⟩
  have hyl : Y.length ≤ 4096 := by rw [hY]; exact Nat.le_trans (by rw [rowA_length]; exact cutA_80 he) (show 80 ≤ 4096 by decide)
  have HJ : Hid (∀ w4 w5 x y, PcI w3 w4 x (rowA val b m) → PcI w4 w5 y Y → JnU w3 (w5.alloc (.cells #[x] 62)) w5.heap.size (rowA val b (begA m e 0)) y Y) := Lib.hid (fun w4 w5 x y h1 h2 => by
    rw [begA_zero hme]
    have h3 := RwI.new (h1.below h2.b)
    refine ⟨x, h3, h2.h.below ((Below.refl _ _).alloc (Nat.le_refl _) _), fun g hg e => ?_⟩
    have h5 := h2.h.lt hg
    rcases e with e | e
    · omega
    · have h6 := h1.h.lt e
      have h7 := h2.o g hg
      omega)
  have CU : Hid (∀ i x wr rb y, Y[i]? = some x → JnU w3 wr rb (rowA val b (begA m e i)) y Y → Calls Tryd.prog 88 #[rowP rb, pcA x] wr fun o w' => o = .returned (.tuple #[]) ∧ JnU w3 w' rb (rowA val b (begA m e (i + 1))) y Y) := Lib.hid (fun i x wr rb y hx H => by
    have h1 := begA_le (j := i) hme
    have h2 := row_bounds (val := val) (b := m) he x (by rw [← hY]; exact List.mem_of_getElem? hx)
    exact H.pushW hB3 (by omega) ⟨h2.1, by omega⟩ (push_joinE hbm hme (by rw [← hY]; exact hx) hnd))
  obtain ⟨K, hK⟩ : ∃ K, K = nodesA val b e := ⟨_, rfl⟩
  have CT : Hid (∀ wr rb y, JnU w3 wr rb (rowA val b (begA m e ny)) y Y → Calls Tryd.prog 89 #[rowP rb, .int .i64 (b : Int), .int .i64 (e : Int)] wr fun o w' => ∃ u, o = .returned (rgA b e u) ∧ LfI wr w' u K.length K ∧ Below w3.heap.size w3 w') := Lib.hid (fun wr rb y H => by
    rw [hny, hY, begA_all] at H
    refine (H.row.toldW he b e).mono ?_
    rintro o w' ⟨u, rfl, h⟩
    rw [← hK] at h
    exact ⟨u, rfl, h, H.b.trans (h.b.mono H.b.size)⟩)
  obtain ⟨na, hna⟩ : ∃ n, n = (nodesA val b m).length := ⟨_, rfl⟩
  obtain ⟨nb, hnb⟩ : ∃ n, n = (nodesA val m e).length := ⟨_, rfl⟩
  obtain ⟨pa, ca, rfl⟩ : ∃ p c, va = .slice p na c := by obtain ⟨p, c, h, _⟩ := hva; exact ⟨p, c, by rw [h, hna]⟩
  obtain ⟨pb, cb, rfl⟩ : ∃ p c, vb = .slice p nb c := by obtain ⟨p, c, h, _⟩ := hvb; exact ⟨p, c, by rw [h, hnb]⟩
  rw [← hY] at CB
  rw [← hK]
  have HB1 : Hid (Below w.heap.size w w3 ∧ bs = w.heap.size + 1 + 1 ∧ bs < w3.heap.size ∧ ny = Y.length) := Lib.hid ⟨x3, hbs, blk_lt x2, hny⟩
  have c0 : w3.cell? ⟨ba, 0, none⟩ = some (.int .i64 (b : Int)) := cellB x0 rfl
  have c1 : w3.cell? ⟨ba, 1, none⟩ = some (.int .i64 (m : Int)) := cellB x0 rfl
  have c2 : w3.cell? ⟨ba, 2, none⟩ = some (.slice pa na ca) := cellB x0 rfl
  have HW3 := Lib.hid hw3
  have HBA := Lib.hid hba
  have HBC := Lib.hid hbc
  have HBS := Lib.hid hbs
  have hny4 : ny ≤ 4096 := by omega
  have hmm : ((m : Int) != (m : Int)) = false := by simp
  clear hB hbm hme he hva hvb h32a h32b hnd hw3 hba hbc hbs hB3 x0 x1 x2 x3 hY hK hna hnb hny hyl
  go_enter Tryd.func33, Tryd.ntmps33
  go_upto_region 1 with fail
  rw [← HW3.out, ← HBS.out, ← HBC.out, ← HBA.out]
  go_upto_region 2 with (go_at_call 92; with_reducible refine CA.out.mono ?_; rintro o w4 ⟨ux, rfl, h⟩; obtain ⟨px, cx, rfl, _⟩ := h.h.cells; have H4 := Lib.hid h; clear h)
  obtain ⟨hxa, hxc, hxs⟩ := HXX.out _ H4.out.b
  clear c0 c1 c2
  have c0 : w4.cell? ⟨bc, 0, none⟩ = some (.int .i64 (m : Int)) := cellB hxc rfl
  have c1 : w4.cell? ⟨bc, 1, none⟩ = some (.int .i64 (e : Int)) := cellB hxc rfl
  have c2 : w4.cell? ⟨bc, 2, none⟩ = some (.slice pb nb cb) := cellB hxc rfl
  clear hxa hxc hxs
  go_upto_region 3 with (go_at_call 92; with_reducible refine (CB.out _ H4.out.b).mono ?_; rintro o w5 ⟨uy, rfl, h⟩; obtain ⟨py, cy, rfl, _⟩ := h.h.cells; have H5 := Lib.hid h; clear h)
  clear c0 c1 c2
  obtain ⟨hxa, hxc, hxs⟩ := HXX.out _ (H4.out.b.trans (H5.out.b.mono H4.out.b.size))
  have c0 : w5.cell? ⟨ba, 1, none⟩ = some (.int .i64 (m : Int)) := cellB hxa rfl
  have c1 : w5.cell? ⟨bc, 0, none⟩ = some (.int .i64 (m : Int)) := cellB hxc rfl
  clear hxa hxc hxs
  rw [← HB1.out.2.2.2]
  have HJ0 := Lib.hid (HJ.out _ _ _ _ H4.out H5.out)
  rw [← HB1.out.2.2.2] at HJ0
  go_upto_region 10 with fail
  obtain ⟨rb, hrb⟩ : ∃ x, x = w5.heap.size := ⟨_, rfl⟩
  rw [← hrb] at HJ0 ⊢
  clear c0 c1 hrb
  go_wp2_with fail
  go_loopw [50] (fun k wr => ∃ i : Nat, k = .int .i64 (i : Int) ∧ i ≤ ny ∧ Hid (JnU w3 wr rb (rowA val b (begA m e i)) (.slice py ny cy) Y)) (fun k _ => ny - (intOf k).toNat)
  case atStart => exact ⟨0, rfl, Nat.zero_le _, HJ0⟩
  case round =>
    clear HJ0
    obtain ⟨i, rfl, hi, HI⟩ := hrel
    by_cases hlt : i < ny
    · have hli : (i : Int) < (ny : Int) := by omega
      have hi0 : (0 : Int) ≤ (i : Int) := by omega
      obtain ⟨⟨xb, xl, xs⟩, hx⟩ : ∃ x, Y[i]? = some x := ⟨Y[i]'(by have := HB1.out; omega), List.getElem?_eq_getElem _⟩
      obtain ⟨v, hI⟩ := HI.out
      have hIy := hI.hy
      obtain ⟨g, rfl, hg⟩ := pcs_get hIy hx
      obtain ⟨d0, d1, d2⟩ := hg wr (Below.refl _ _)
      have HQ := HI.out.below ((Below.refl wr.heap.size wr).alloc (Nat.le_refl _) (.cells #[.int .i64 (xb : Int), .int .i64 (xl : Int), .string xs] 115))
      have hcu := CU.out i (xb, xl, xs) (wr.alloc (.cells #[.int .i64 (xb : Int), .int .i64 (xl : Int), .string xs] 115)) rb (.slice (some ⟨g, 0, none⟩) ny cy) hx HQ
      have CU2 : Hid (Calls Tryd.prog 88 #[rowP rb, .agg #[.int .i64 (xb : Int), .int .i64 (xl : Int), .string xs]] (wr.alloc (.cells #[.int .i64 (xb : Int), .int .i64 (xl : Int), .string xs] 115)) fun o w' => o = .returned (.tuple #[]) ∧ JnU w3 w' rb (rowA val b (begA m e (i + 1))) (.slice (some ⟨g, 0, none⟩) ny cy) Y) := Lib.hid hcu
      have HLT := Lib.hid hlt
      clear hlt hx hg hI hIy HQ hcu
      go_upto_region 13 with fail
      go_wp2_with (go_at_call 88; with_reducible refine CU2.out.mono ?_; rintro o w6 ⟨rfl, h⟩; have H6 := Lib.hid h; clear h)
      exact ⟨⟨i + 1, by simp, HLT.out, H6⟩, by show ny - ((i : Int) + 1).toNat < ny - (i : Int).toNat; have := HLT.out; omega⟩
    · obtain rfl : i = ny := by omega
      have hli : ¬ (i : Int) < (i : Int) := by omega
      have CT2 := Lib.hid (CT.out wr _ _ HI.out)
      obtain ⟨hxa, hxc, hxs⟩ := HXX.out _ HI.out.b
      have c0 : wr.cell? ⟨ba, 0, none⟩ = some (.int .i64 (b : Int)) := cellB hxa rfl
      have c1 : wr.cell? ⟨bc, 1, none⟩ = some (.int .i64 (e : Int)) := cellB hxc rfl
      clear hlt hxa hxc hxs
      go_wp2_with (go_at_call 89; with_reducible refine CT2.out.mono ?_; rintro o w7 ⟨u, rfl, h, hb⟩; obtain ⟨pu, cu, rfl, _⟩ := h.h.cells; have H7 := Lib.hid h; have hx5 := (HXX.out _ hb).2.2; have HX5 := Lib.hid hx5; have HB5 := Lib.hid hb; have k0 : w7.cell? ⟨bs, 0, none⟩ = some (.int .i64 0) := cellB hx5 rfl; have k1 : w7.cell? ⟨bs, 1, none⟩ = some (.int .i64 0) := cellB hx5 rfl; have k2 : w7.cell? ⟨bs, 2, none⟩ = some (.slice none 0 0) := cellB hx5 rfl; have f0 : w7.frozen? ⟨bs, 0, none⟩ = false := frozB hx5; have f1 : w7.frozen? ⟨bs, 1, none⟩ = false := frozB hx5; have f2 : w7.frozen? ⟨bs, 2, none⟩ = false := frozB hx5; clear h hx5 hb)
      have hx6 := blk_set3 (x := .int .i64 (b : Int)) (y := .int .i64 (e : Int)) (z := .slice pu K.length cu) HX5.out
      have m0 := cellB (k := 0) hx6 rfl
      have m1 := cellB (k := 1) hx6 rfl
      have m2 := cellB (k := 2) hx6 rfl
      have h7 := H7.out
      have hb := HB1.out
      have hle : w.heap.size ≤ bs := by omega
      refine bodyPost_ret (v := .tuple #[rgA b e (.slice pu K.length cu), .int .i64 0]) (by simp [results, Tryd.results33, go_sem, m0, m1, m2]) rfl ⟨_, rfl, ⟨?_, ?_, ?_⟩⟩
      · exact (((hb.1.trans (HB5.out.mono hb.1.size)).setCell (p := ⟨bs, 0, none⟩) hle _).setCell (p := ⟨bs, 1, none⟩) hle _).setCell (p := ⟨bs, 2, none⟩) hle _
      · refine h7.h.keep fun g hg => ?_
        have hgb : g ≠ bs := fun e => by
          have h9 := h7.o g hg
          have h8 := HI.out.b.size
          omega
        rw [Below.heap_setCell _ ⟨bs, 2, none⟩ _ g hgb, Below.heap_setCell _ ⟨bs, 1, none⟩ _ g hgb, Below.heap_setCell _ ⟨bs, 0, none⟩ _ g hgb]
      · exact fun g hg => Nat.le_trans hb.1.size (Nat.le_trans HI.out.b.size (h7.o g hg))
end Go.Proofs.YtdbghgpohdijfaaDoor
/- frontier.filled and right: what is refused (printed by gen_fs5.py). -/
namespace Go.Proofs.YtdbghgpohdijfaaDoor
open Go.RowKit Go.Scr Go.ChangeMaps Go.MapKept
set_option linter.unusedVariables false
set_option maxRecDepth 100000 in
set_option maxHeartbeats 4000000 in
theorem ffilledW_bad {w : World} {B b e : Nat} {v : Value} {val : Nat → Nat → ByteArray} (hB : Bas w B) (hbe : b ≤ e) (he : e ≤ 1099511627776) (hv : Txts w v (nodesA val b e)) (h32 : ok32 (nodesA val b e) = false) :
    Calls Tryd.prog 95 #[.int .i64 (b : Int), .int .i64 (e : Int), v] w fun o w' => o = .returned (.tuple #[.slice none 0 0, .int .i64 52]) ∧ Below w.heap.size w w' := by
  have CC := Lib.hid (fcutW_any hB hbe he)
  have HV := Lib.hid hv
  have hnl := nodesA_len val b e
  have hnn : (bareA b e).length ≤ 4096 := Nat.le_trans (by unfold bareA; rw [rowA_length]; exact cutA_80 he) (show 80 ≤ 4096 by decide)
  obtain ⟨p, c, rfl, hv1, hv2, _⟩ := hv
  obtain ⟨n, hn⟩ : ∃ n, n = (bareA b e).length := ⟨_, rfl⟩
  rw [hnl, ← hn] at HV hv1 hv2 ⊢
  have HF : Hid ((bareA b e).length = n ∧ (nodesA val b e).length = n ∧ ok32 (nodesA val b e) = false ∧ fillA val b e 0 = bareA b e ∧ fillA val b e n = rowA val b e) := Lib.hid ⟨hn.symm, by rw [hnl, hn], h32, fillA_zero val b e, by rw [hn]; exact fillA_all val b e⟩
  have hn4 : n ≤ 4096 := by omega
  clear hB hbe he h32 hnl hnn hn hv1
  go_enter Tryd.func95, Tryd.ntmps95
  go_upto_region 2 with (go_at_call 126; refine CC.out.mono ?_; rintro o w1 ⟨u, rfl, hu⟩; have HU := Lib.hid hu; clear hu)
  obtain ⟨q, d, rfl, _⟩ := HU.out.h.cells
  rw [HF.out.1] at HU ⊢
  have HI0 : Hid (PcI w w1 (.slice q n d) (fillA val b e 0)) := Lib.hid (by rw [HF.out.2.2.2.1]; exact HU.out)
  go_wp2_with fail
  go_loopw [21] (fun k wr => ∃ i : Nat, k = .int .i64 (i : Int) ∧ i ≤ n ∧ Hid (PcI w wr (.slice q n d) (fillA val b e i)) ∧ Hid (ok32 ((nodesA val b e).take i) = true)) (fun k _ => n - (intOf k).toNat)
  case atStart => exact ⟨0, rfl, Nat.zero_le _, HI0, Lib.hid rfl⟩
  case round =>
    clear HI0
    obtain ⟨i, rfl, hi, HI, HOK⟩ := hrel
    by_cases hlt : i < n
    · have hli : (i : Int) < (n : Int) := by omega
      have hi0 : (0 : Int) ≤ (i : Int) := by omega
      obtain ⟨s, hs⟩ : ∃ s, (nodesA val b e)[i]? = some s := ⟨(nodesA val b e)[i]'(by have := HF.out; omega), List.getElem?_eq_getElem _⟩
      obtain ⟨a, rfl, hac⟩ := txts_cellF HV.out hs
      have hcell := hac wr HI.out.b
      by_cases hs32 : s.size = 32
      case neg =>
        have hsz : ¬ (s.size : Int) = 32 := by omega
        have HB := Lib.hid HI.out.b
        clear hs32 hs hac hlt
        go_wp2_with fail
        go_ret2
        exact ⟨rfl, HB.out⟩
      have hsz : (s.size : Int) = 32 := by omega
      have HOK2 : Hid (ok32 ((nodesA val b e).take (i + 1)) = true) := Lib.hid (by rw [ok32_take hs, HOK.out]; simp [hs32])
      obtain ⟨x, hx, hnx⟩ := fillA_next hs
      have hlen : (fillA val b e i).length = n := by
        have := HI.out.h.cells
        obtain ⟨p', c', hpe, _⟩ := this
        injection hpe with e1 e2 e3
        exact e2.symm
      obtain ⟨g, rfl, hg⟩ := held_cellP HI.out.h (by omega)
      obtain ⟨_, _, x2⟩ := pcV_get hx
      have hcx := hg _ _ x2
      have hfz : wr.frozen? ⟨g, i * 3 + 1 + 1, none⟩ = false := by
        rcases HI.out.h.2 with ⟨e0, _⟩ | ⟨g', cap, cur, e0, hgb, _⟩
        · exact nomatch e0
        · injection e0 with e1 e2 e3
          injection e1 with e1
          injection e1 with e1
          subst e1
          exact frozB hgb
      have HNX : Hid (PcI w (wr.setCell ⟨g, i * 3 + 2, none⟩ (.string s)) (.slice (some ⟨g, 0, none⟩) n d) (fillA val b e (i + 1))) := Lib.hid (by rw [hnx]; exact HI.out.set rfl hx)
      have HLT := Lib.hid hlt
      clear hs32 hlt hs hac hx hnx hlen hg x2
      go_wp2_with fail
      exact ⟨⟨i + 1, by simp, HLT.out, HNX, HOK2⟩, by show n - ((i : Int) + 1).toNat < n - (i : Int).toNat; have := HLT.out; omega⟩
    · obtain rfl : i = n := by omega
      have h1 := HOK.out
      rw [List.take_of_length_le (by have := HF.out.2.1; omega), HF.out.2.2.1] at h1
      cases h1
set_option maxRecDepth 100000 in
set_option maxHeartbeats 4000000 in
theorem ffilledW_len {w : World} {B b e : Nat} {v : Value} {H : List ByteArray} (hB : Bas w B) (hbe : b ≤ e) (he : e ≤ 1099511627776) (hv : Txts w v H) (hn : H.length ≠ (cutA b e).length) :
    Calls Tryd.prog 95 #[.int .i64 (b : Int), .int .i64 (e : Int), v] w fun o w' => o = .returned (.tuple #[.slice none 0 0, .int .i64 50]) ∧ Below w.heap.size w w' := by
  have CC := Lib.hid (fcutW_any hB hbe he)
  obtain ⟨p, c, rfl, hv1, hv2, _⟩ := hv
  obtain ⟨m, hm⟩ : ∃ n, n = (bareA b e).length := ⟨_, rfl⟩
  have hm2 : m = (cutA b e).length := by rw [hm]; unfold bareA; rw [rowA_length]
  obtain ⟨n, hn1⟩ : ∃ n, n = H.length := ⟨_, rfl⟩
  rw [← hn1] at hv1 ⊢
  have hmn : ((m : Int) == (n : Int)) = false := beq_eq_false_iff_ne.2 (by omega)
  have hmn2 : ¬ (m : Int) = (n : Int) := by omega
  have HM := Lib.hid hm
  clear hB hbe he hn hm hm2 hn1 hv1 hv2
  go_enter Tryd.func95, Tryd.ntmps95
  go_upto_region 2 with (go_at_call 126; refine CC.out.mono ?_; rintro o w1 ⟨u, rfl, hu⟩; have HU := Lib.hid hu; clear hu)
  obtain ⟨q, d, rfl, _⟩ := HU.out.h.cells
  rw [← HM.out] at HU ⊢
  go_wp2_with fail
  go_ret2
  exact ⟨rfl, HU.out.b⟩
/-- what is wrong with a range: nothing, its form, its hashes -/
def rgE (b e : Int) (H : List ByteArray) : Int := if b < 0 ∨ e < b ∨ 1099511627776 < e then 50 else if H.length ≠ (cutA b.toNat e.toNat).length then 50 else if ok32 H = false then 52 else 0
theorem rgE_ok {b e : Int} {H : List ByteArray} (h : rgE b e H = 0) : ∃ n m : Nat, b = n ∧ e = m ∧ n ≤ m ∧ m ≤ 1099511627776 ∧ H.length = (cutA n m).length ∧ ∀ s ∈ H, s.size = 32 := by
  unfold rgE at h
  split at h
  · omega
  · split at h
    · omega
    · split at h
      · omega
      · rename_i h1 h2 h3
        refine ⟨b.toNat, e.toNat, by omega, by omega, by omega, by omega, Classical.byContradiction h2, fun s hs => ?_⟩
        have h3 : ok32 H = true := by simpa using h3
        unfold ok32 at h3
        rw [List.all_eq_true] at h3
        simpa using h3 s hs
theorem row_of_nodes {val val' : Nat → Nat → ByteArray} {b e : Nat} (h : nodesA val b e = nodesA val' b e) : rowA val b e = rowA val' b e := by
  unfold nodesA rowA at h
  rw [List.map_map, List.map_map] at h
  unfold rowA
  rw [List.map_inj_left] at h ⊢
  intro x hx
  have h1 : val x.1 x.2 = val' x.1 x.2 := h x hx
  rw [h1]
set_option maxRecDepth 100000 in
set_option maxHeartbeats 4000000 in
theorem frightW_no {w : World} {B : Nat} {b e : Int} {v : Value} {H : List ByteArray} (hB : Bas w B) (hv : Txts w v H) (hne : rgE b e H ≠ 0) :
    Calls Tryd.prog 92 #[.agg #[.int .i64 b, .int .i64 e, v]] w fun o w' => o = .returned (.tuple #[.slice none 0 0, .int .i64 (rgE b e H)]) ∧ Below w.heap.size w w' := by
  obtain ⟨w1, hw1⟩ : ∃ x, x = w.alloc (.cells #[.int .i64 b, .int .i64 e, v] 68) := ⟨_, rfl⟩
  obtain ⟨bs, hbs⟩ : ∃ x, x = w.heap.size := ⟨_, rfl⟩
  have hb1 : Below w.heap.size w w1 := by rw [hw1]; exact (Below.refl _ _).alloc (Nat.le_refl _) _
  have hx1 : w1.heap[bs]? = some (.cells #[.int .i64 b, .int .i64 e, v] 68 (0, 0)) := by rw [hw1, hbs]; exact heap_alloc_new w _
  have c0 : w1.cell? ⟨bs, 0, none⟩ = some (.int .i64 b) := cellB hx1 rfl
  have c1 : w1.cell? ⟨bs, 1, none⟩ = some (.int .i64 e) := cellB hx1 rfl
  have c2 : w1.cell? ⟨bs, 2, none⟩ = some v := cellB hx1 rfl
  have HW1 := Lib.hid hw1
  have HBS := Lib.hid hbs
  have HB1 := Lib.hid hb1
  by_cases hf : b < 0 ∨ e < b ∨ 1099511627776 < e
  · have he : rgE b e H = 50 := by unfold rgE; rw [if_pos hf]
    rw [he]
    obtain ⟨p, c, rfl, _, _, _⟩ := hv
    by_cases h1 : b < 0
    · clear hB hne he hf hw1 hbs hb1 hx1
      go_enter Tryd.func92, Tryd.ntmps92
      go_upto_region 1 with fail
      rw [← HW1.out, ← HBS.out]
      go_wp2_with fail
      go_ret2
      exact ⟨rfl, HB1.out⟩
    · by_cases h2 : e < b
      · clear hB hne he hf hw1 hbs hb1 hx1
        go_enter Tryd.func92, Tryd.ntmps92
        go_upto_region 1 with fail
        rw [← HW1.out, ← HBS.out]
        go_wp2_with fail
        go_ret2
        exact ⟨rfl, HB1.out⟩
      · have h3 : (1099511627776 : Int) < e := by omega
        clear hB hne he hf hw1 hbs hb1 hx1
        go_enter Tryd.func92, Tryd.ntmps92
        go_upto_region 1 with fail
        rw [← HW1.out, ← HBS.out]
        go_wp2_with fail
        go_ret2
        exact ⟨rfl, HB1.out⟩
  · obtain ⟨n, rfl⟩ : ∃ n : Nat, b = n := ⟨b.toNat, by omega⟩
    obtain ⟨m, rfl⟩ : ∃ n : Nat, e = n := ⟨e.toNat, by omega⟩
    have hnm : n ≤ m := by omega
    have hm : m ≤ 1099511627776 := by omega
    obtain ⟨E, hE⟩ : ∃ E, E = rgE n m H := ⟨_, rfl⟩
    have CF : Hid (Calls Tryd.prog 95 #[.int .i64 (n : Int), .int .i64 (m : Int), v] w1 fun o w' => o = .returned (.tuple #[.slice none 0 0, .int .i64 E]) ∧ Below w1.heap.size w1 w') := Lib.hid (by
      rw [hE]
      unfold rgE at hne ⊢
      rw [if_neg hf, Int.toNat_natCast, Int.toNat_natCast] at hne ⊢
      by_cases hl : H.length ≠ (cutA n m).length
      · rw [if_pos hl]
        exact ffilledW_len (hB.below (hb1.mono hB.le)) hnm hm (hv.below hb1 (Nat.le_refl _)) hl
      · rw [if_neg hl] at hne ⊢
        have hl2 : H.length = (cutA n m).length := Classical.byContradiction hl
        by_cases h32 : ok32 H = false
        · rw [if_pos h32]
          have hk : nodesA (valK nodeS (cutA n m) H) n m = H := by
            rw [nodesA_known (i := 0) (cutA_sorted _ _ _ rfl) (fun j _ => by rw [Nat.zero_add]) (by omega), List.drop_zero, List.take_of_length_le (by omega)]
          refine ffilledW_bad (val := valK nodeS (cutA n m) H) (hB.below (hb1.mono hB.le)) hnm hm ?_ (by rw [hk]; exact h32)
          rw [hk]
          exact hv.below hb1 (Nat.le_refl _)
        · rw [if_neg h32] at hne
          exact absurd rfl hne)
    rw [← hE]
    obtain ⟨p, c, rfl, _, _, _⟩ := hv
    have h1 : ¬ (n : Int) < 0 := by omega
    have h2 : ¬ (m : Int) < (n : Int) := by omega
    have h3 : ¬ (1099511627776 : Int) < (m : Int) := by omega
    clear hB hne hf hw1 hbs hb1 hx1 hnm hm hE
    go_enter Tryd.func92, Tryd.ntmps92
    go_upto_region 1 with fail
    rw [← HW1.out, ← HBS.out]
    go_wp2_with (go_at_call 95; with_reducible refine CF.out.mono ?_; rintro o w5 ⟨rfl, h⟩; have H5 : Hid (Below w.heap.size w w5) := Lib.hid (HB1.out.trans (h.mono HB1.out.size)); clear h)
    go_ret2
    exact ⟨rfl, H5.out⟩
end Go.Proofs.YtdbghgpohdijfaaDoor
