/- A range's pieces; two ranges joined; a range's root. -/
import Derived.Test.YtdbghgpohdijfaaDoorMa38
namespace Go.Proofs.YtdbghgpohdijfaaDoor
open Go.RowKit Go.Scr Go.ChangeMaps Go.MapKept
set_option linter.unusedVariables false
set_option maxRecDepth 100000 in
set_option maxHeartbeats 4000000 in
theorem fright_any {w : World} {B b e : Nat} {v : Value} {val : Nat → Nat → ByteArray} (hB : Bas w B) (hbe : b ≤ e) (he : e ≤ 1099511627776) (hd : e - b ≤ 4096) (hv : Txts w v (nodesA val b e)) (h32 : ∀ s ∈ nodesA val b e, s.size = 32) :
    Calls Tryd.prog 92 #[rgA b e v] w fun o w' => ∃ u, o = .returned (.tuple #[u, .int .i64 0]) ∧ PcI w w' u (rowA val b e) := by
  obtain ⟨w1, hw1⟩ : ∃ x, x = w.alloc (.cells #[.int .i64 (b : Int), .int .i64 (e : Int), v] 68) := ⟨_, rfl⟩
  obtain ⟨bs, hbs⟩ : ∃ x, x = w.heap.size := ⟨_, rfl⟩
  have hb1 : Below w.heap.size w w1 := by rw [hw1]; exact (Below.refl _ _).alloc (Nat.le_refl _) _
  have hx1 : w1.heap[bs]? = some (.cells #[.int .i64 (b : Int), .int .i64 (e : Int), v] 68 (0, 0)) := by rw [hw1, hbs]; exact heap_alloc_new w _
  have c0 : w1.cell? ⟨bs, 0, none⟩ = some (.int .i64 (b : Int)) := cellB hx1 rfl
  have c1 : w1.cell? ⟨bs, 1, none⟩ = some (.int .i64 (e : Int)) := cellB hx1 rfl
  have c2 : w1.cell? ⟨bs, 2, none⟩ = some v := cellB hx1 rfl
  have CF : Hid (Calls Tryd.prog 95 #[.int .i64 (b : Int), .int .i64 (e : Int), v] w1 fun o w' => ∃ u, o = .returned (.tuple #[u, .int .i64 0]) ∧ PcI w w' u (rowA val b e)) := Lib.hid ((ffilled_any (hB.below (hb1.mono hB.le)) hbe he hd (hv.below hb1 (Nat.le_refl _)) h32).mono (by
    rintro o w' ⟨u, rfl, h⟩
    exact ⟨u, rfl, ⟨hb1.trans (h.b.mono hb1.size), h.h, fun g hg => Nat.le_trans hb1.size (h.o g hg)⟩⟩))
  obtain ⟨p, c, rfl, _, _, _⟩ := hv
  have h1 : ¬ (b : Int) < 0 := by omega
  have h2 : ¬ (e : Int) < (b : Int) := by omega
  have h3 : ¬ (1099511627776 : Int) < (e : Int) := by omega
  have HW1 := Lib.hid hw1
  have HBS := Lib.hid hbs
  clear hB hbe he hd h32 hw1 hbs hb1 hx1
  go_enter Tryd.func92, Tryd.ntmps92
  go_upto_region 1 with fail
  rw [← HW1.out, ← HBS.out]
  go_wp2_with (go_at_call 95; with_reducible refine CF.out.mono ?_; rintro o w5 ⟨u, rfl, h⟩; obtain ⟨pu, cu, rfl, _⟩ := h.h.cells; have H5 := Lib.hid h; clear h)
  go_ret2
  exact ⟨_, rfl, H5.out⟩
theorem row_root {w : World} {eb : Nat} {T : TypeId} {rest : List Value} {L : List ByteArray} {v : Value} (h2 : FrI w eb T rest (rowA (valF L 0) 0 L.length) v) (hn : L.length ≤ 4096) (ht : Tabs w) :
    Calls Tryd.prog 27 #[rowP eb] w fun o w' => o = .returned (.string (partL L 0 L.length)) ∧ Below w.heap.size w w' := by
  by_cases e : L.length = 0
  · have hL : L = [] := List.eq_nil_of_length_eq_zero e
    subst hL
    have h1 : rowA (valF [] 0) 0 0 = [] := rowA_nil (Nat.le_refl _)
    rw [show (([] : List ByteArray).length) = 0 from rfl, h1] at h2
    have h3 : partL [] 0 0 = hempty := by unfold partL; rw [List.drop_zero, Nat.sub_self, List.take_zero]; exact rootL_nil _ _
    show Calls _ _ _ _ fun o w' => o = .returned (.string (partL [] 0 0)) ∧ _
    rw [h3]
    exact froot_none h2 ht
  · have hr : rootA nodeS (rowA (valF L 0) 0 L.length) = partL L 0 L.length := by
      have := rootA_row (L := L) L.length 0 (by omega) (by omega) (.inl rfl)
      rwa [Nat.zero_add] at this
    have hl := rowA_len (valF L 0) 0 L.length
    have hne : rowA (valF L 0) 0 L.length ≠ [] := rowA_ne (by omega)
    rw [← hr]
    obtain ⟨P, x, hP⟩ : ∃ P x, rowA (valF L 0) 0 L.length = P ++ [x] := ⟨_, _, (List.dropLast_concat_getLast hne).symm⟩
    rw [hP] at h2 hl ⊢
    refine froot_some h2 ht ?_
    rw [List.length_append] at hl
    omega
set_option maxRecDepth 100000 in
set_option maxHeartbeats 4000000 in
theorem frootof_any {w : World} {B n : Nat} {v : Value} {L : List ByteArray} (hB : Bas w B) (hn : n = L.length) (hn4 : L.length ≤ 4096) (hz : ∀ s ∈ L, s.size = 32) (hv : Txts w v (nodesA (valF L 0) 0 L.length)) :
    Calls Tryd.prog 35 #[rgA 0 n v] w fun o w' => o = .returned (.tuple #[.string (partL L 0 L.length), .int .i64 0]) ∧ Below w.heap.size w w' := by
  obtain ⟨w1, hw1⟩ : ∃ x, x = w.alloc (.cells #[.int .i64 0, .int .i64 (n : Int), v] 68) := ⟨_, rfl⟩
  obtain ⟨bs, hbs⟩ : ∃ x, x = w.heap.size := ⟨_, rfl⟩
  have hb1 : Below w.heap.size w w1 := by rw [hw1]; exact (Below.refl _ _).alloc (Nat.le_refl _) _
  have hx1 : w1.heap[bs]? = some (.cells #[.int .i64 0, .int .i64 (n : Int), v] 68 (0, 0)) := by rw [hw1, hbs]; exact heap_alloc_new w _
  have c0 : w1.cell? ⟨bs, 0, none⟩ = some (.int .i64 0) := cellB hx1 rfl
  have c1 : w1.cell? ⟨bs, 1, none⟩ = some (.int .i64 (n : Int)) := cellB hx1 rfl
  have c2 : w1.cell? ⟨bs, 2, none⟩ = some v := cellB hx1 rfl
  obtain ⟨ro, hro⟩ : ∃ x, x = partL L 0 L.length := ⟨_, rfl⟩
  have CF : Hid (Calls Tryd.prog 92 #[.agg #[.int .i64 0, .int .i64 (n : Int), v]] w1 fun o w' => ∃ u, o = .returned (.tuple #[u, .int .i64 0]) ∧ PcI w1 w' u (rowA (valF L 0) 0 L.length)) := Lib.hid (by
    have := fright_any (b := 0) (hB.below (hb1.mono hB.le)) (Nat.zero_le _) (by omega) (by omega) (hv.below hb1 (Nat.le_refl _)) (fun s hs => nodesA_32 hz hs)
    rw [hn]
    exact this)
  have CR : Hid (∀ w5 u, PcI w1 w5 u (rowA (valF L 0) 0 L.length) → Calls Tryd.prog 27 #[rowP w5.heap.size] (w5.alloc (.cells #[u] 62)) fun o w' => o = .returned (.string ro) ∧ Below w.heap.size w w') := Lib.hid (fun w5 u H => by
    have hR := RwI.new H
    have hbb := hb1.trans (hR.b.mono hb1.size)
    refine (row_root hR.fr hn4 (hB.below (hbb.mono hB.le)).tabs).mono ?_
    rintro o w' ⟨rfl, h⟩
    exact ⟨by rw [hro], hbb.trans (h.mono hbb.size)⟩)
  obtain ⟨p, c, rfl, _, _, _⟩ := hv
  rw [← hro]
  have HW1 := Lib.hid hw1
  have HBS := Lib.hid hbs
  clear hB hz hn4 hn hw1 hbs hb1 hx1 hro
  go_enter Tryd.func35, Tryd.ntmps35
  go_upto_region 1 with fail
  rw [← HW1.out, ← HBS.out]
  go_wp2_with (first
    | (go_at_call 92; with_reducible refine CF.out.mono ?_; rintro o w5 ⟨u, rfl, h⟩; obtain ⟨pu, cu, rfl, _⟩ := h.h.cells; have CR2 := Lib.hid (CR.out _ _ h); clear h)
    | (go_at_call 27; with_reducible refine CR2.out.mono ?_; rintro o w6 ⟨rfl, h⟩; have H6 := Lib.hid h; clear h))
  go_ret2
  exact ⟨rfl, H6.out⟩
/-- a row that grows beside other pieces -/
structure JnI (w wr : World) (rb : Nat) (P : List Pc) (v y : Value) (Y : List Pc) : Prop where
  r : RwI w wr rb P v
  hy : Held wr 115 3 y Y.length (pcV Y)
  far : ∀ g, y.ownBlock = some g → ¬ ebQ rb v g
def JnU (w wr : World) (rb : Nat) (P : List Pc) (y : Value) (Y : List Pc) : Prop := ∃ v, JnI w wr rb P v y Y
theorem JnU.b {w wr : World} {rb : Nat} {P Y : List Pc} {y : Value} (H : JnU w wr rb P y Y) : Below w.heap.size w wr := by
  obtain ⟨v, h⟩ := H
  exact h.r.b
theorem JnU.row {w wr : World} {rb : Nat} {P Y : List Pc} {y : Value} (H : JnU w wr rb P y Y) : RwU w wr rb P := by
  obtain ⟨v, h⟩ := H
  exact ⟨v, h.r⟩
theorem JnU.below {w wr w' : World} {rb : Nat} {P Y : List Pc} {y : Value} (H : JnU w wr rb P y Y) (hb : Below wr.heap.size wr w') : JnU w w' rb P y Y := by
  obtain ⟨v, h⟩ := H
  exact ⟨v, ⟨h.r.b.trans (hb.mono h.r.b.size), h.r.fr.below hb, h.r.lo⟩, h.hy.below hb, h.far⟩
theorem JnU.push {w wr : World} {rb B b m : Nat} {val : Nat → Nat → ByteArray} {p : Pc} {Q Y : List Pc} {y : Value} (H : JnU w wr rb (rowA val b m) y Y) (hB : Bas w B) (hm : m ≤ 1099511627776) (hd : m - b ≤ 4096) (hp : p.1 ≤ 1099511627776 ∧ p.2.1 ≤ 41) (hQ : (pushR nodeS (rowA val b m).reverse p).reverse = Q) :
    Calls Tryd.prog 88 #[rowP rb, pcA p] wr fun o w' => o = .returned (.tuple #[]) ∧ JnU w w' rb Q y Y := by
  obtain ⟨v, h⟩ := H
  refine (h.r.push hB hm hd hp hQ).mono ?_
  rintro o w' ⟨rfl, v', h', c', o'⟩
  refine ⟨rfl, v', h', h.hy.keep fun g hg => c'.same g (h.hy.lt hg) (h.far g hg), fun g hg e => ?_⟩
  rcases e with e | e
  · exact h.far g hg (.inl e)
  · rcases o' g e with h1 | h1
    · exact h.far g hg (.inr h1)
    · have := h.hy.lt hg
      omega
end Go.Proofs.YtdbghgpohdijfaaDoor
/- Two ranges joined: walked. -/
namespace Go.Proofs.YtdbghgpohdijfaaDoor
open Go.RowKit Go.Scr Go.ChangeMaps Go.MapKept
set_option linter.unusedVariables false
/-- three new blocks -/
theorem three_blocks (w : World) (a b c : Array Value) (S T U : TypeId) :
    (((w.alloc (.cells a S)).alloc (.cells b T)).alloc (.cells c U)).heap[w.heap.size]? = some (.cells a S (0, 0)) ∧
    (((w.alloc (.cells a S)).alloc (.cells b T)).alloc (.cells c U)).heap[w.heap.size + 1]? = some (.cells b T (0, 0)) ∧
    (((w.alloc (.cells a S)).alloc (.cells b T)).alloc (.cells c U)).heap[w.heap.size + 1 + 1]? = some (.cells c U (0, 0)) ∧
    Below w.heap.size w (((w.alloc (.cells a S)).alloc (.cells b T)).alloc (.cells c U)) := by
  refine ⟨blk_alloc (blk_alloc (heap_alloc_new w _)), blk_alloc ?_, ?_, (((Below.refl _ _).alloc (Nat.le_refl _) _).alloc (by simp) _).alloc (by simp; omega) _⟩
  · have := heap_alloc_new (w.alloc (.cells a S)) (.cells b T)
    rwa [show (w.alloc (.cells a S)).heap.size = w.heap.size + 1 by simp] at this
  · have := heap_alloc_new ((w.alloc (.cells a S)).alloc (.cells b T)) (.cells c U)
    rwa [show ((w.alloc (.cells a S)).alloc (.cells b T)).heap.size = w.heap.size + 1 + 1 by simp] at this
set_option maxRecDepth 100000 in
set_option maxHeartbeats 4000000 in
theorem fjoin_any {w : World} {B b m e : Nat} {va vb : Value} {val : Nat → Nat → ByteArray} (hB : Bas w B) (hbm : b ≤ m) (hme : m ≤ e) (he : e ≤ 1099511627776) (hd : e - b ≤ 4096) (hva : Txts w va (nodesA val b m)) (hvb : Txts w vb (nodesA val m e))
    (h32a : ∀ s ∈ nodesA val b m, s.size = 32) (h32b : ∀ s ∈ nodesA val m e, s.size = 32) (hnd : NdV nodeS val b e) :
    Calls Tryd.prog 33 #[rgA b m va, rgA m e vb] w fun o w' => ∃ u, o = .returned (.tuple #[rgA b e u, .int .i64 0]) ∧ LfI w w' u (nodesA val b e).length (nodesA val b e) := by
  obtain ⟨w3, hw3⟩ : ∃ x, x = ((w.alloc (.cells #[.int .i64 (b : Int), .int .i64 (m : Int), va] 68)).alloc (.cells #[.int .i64 (m : Int), .int .i64 (e : Int), vb] 68)).alloc (.cells #[.int .i64 0, .int .i64 0, .slice none 0 0] 68) := ⟨_, rfl⟩
  obtain ⟨x0, x1, x2, x3⟩ := three_blocks w #[.int .i64 (b : Int), .int .i64 (m : Int), va] #[.int .i64 (m : Int), .int .i64 (e : Int), vb] #[.int .i64 0, .int .i64 0, .slice none 0 0] 68 68 68
  rw [← hw3] at x0 x1 x2 x3
  obtain ⟨ba, hba⟩ : ∃ x, x = w.heap.size := ⟨_, rfl⟩
  obtain ⟨bc, hbc⟩ : ∃ x, x = w.heap.size + 1 := ⟨_, rfl⟩
  obtain ⟨bs, hbs⟩ : ∃ x, x = w.heap.size + 1 + 1 := ⟨_, rfl⟩
  rw [← hba] at x0
  rw [← hbc] at x1
  rw [← hbs] at x2
  have HXX : Hid (∀ w', Below w3.heap.size w3 w' → w'.heap[ba]? = some (.cells #[.int .i64 (b : Int), .int .i64 (m : Int), va] 68 (0, 0)) ∧ w'.heap[bc]? = some (.cells #[.int .i64 (m : Int), .int .i64 (e : Int), vb] 68 (0, 0)) ∧ w'.heap[bs]? = some (.cells #[.int .i64 0, .int .i64 0, .slice none 0 0] 68 (0, 0))) := Lib.hid (fun w' hb => ⟨blk_below x0 hb (blk_lt x0), blk_below x1 hb (blk_lt x1), blk_below x2 hb (blk_lt x2)⟩)
  have hB3 : Bas w3 B := hB.below (x3.mono hB.le)
  have CA : Hid (Calls Tryd.prog 92 #[.agg #[.int .i64 (b : Int), .int .i64 (m : Int), va]] w3 fun o w' => ∃ u, o = .returned (.tuple #[u, .int .i64 0]) ∧ PcI w3 w' u (rowA val b m)) := Lib.hid (fright_any hB3 hbm (by omega) (by omega) (hva.below x3 (Nat.le_refl _)) h32a)
  have CB : Hid (∀ w4, Below w3.heap.size w3 w4 → Calls Tryd.prog 92 #[.agg #[.int .i64 (m : Int), .int .i64 (e : Int), vb]] w4 fun o w' => ∃ u, o = .returned (.tuple #[u, .int .i64 0]) ∧ PcI w4 w' u (rowA val m e)) := Lib.hid (fun w4 hb => fright_any (hB3.below (hb.mono hB3.le)) hme he (by omega) ((hvb.below x3 (Nat.le_refl _)).below hb (Nat.le_refl _)) h32b)
  obtain ⟨Y, hY⟩ : ∃ Y, Y = rowA val m e := ⟨_, rfl⟩
  obtain ⟨ny, hny⟩ : ∃ n, n = Y.length := ⟨_, rfl⟩
  have hyl : Y.length ≤ 4096 := by rw [hY]; have := rowA_len val m e; omega
  have HJ : Hid (∀ w4 w5 x y, PcI w3 w4 x (rowA val b m) → PcI w4 w5 y Y → JnU w3 (w5.alloc (.cells #[x] 62)) w5.heap.size (rowA val b (begA m e 0)) y Y) := Lib.hid (fun w4 w5 x y h1 h2 => by
    rw [begA_zero hme]
    have h3 := RwI.new (h1.below h2.b)
    refine ⟨x, h3, h2.h.below ((Below.refl _ _).alloc (Nat.le_refl _) _), fun g hg e => ?_⟩
    have h5 := h2.h.lt hg
    rcases e with e | e
    · omega
    · have h6 := h1.h.lt e
      have h7 := h2.o g hg
      omega)
  have CU : Hid (∀ i x wr rb y, Y[i]? = some x → JnU w3 wr rb (rowA val b (begA m e i)) y Y → Calls Tryd.prog 88 #[rowP rb, pcA x] wr fun o w' => o = .returned (.tuple #[]) ∧ JnU w3 w' rb (rowA val b (begA m e (i + 1))) y Y) := Lib.hid (fun i x wr rb y hx H => by
    have h1 := begA_le (j := i) hme
    have h2 := row_bounds (val := val) (b := m) he x (by rw [← hY]; exact List.mem_of_getElem? hx)
    exact H.push hB3 (by omega) (by omega) ⟨h2.1, by omega⟩ (push_join hbm hme (by rw [← hY]; exact hx) hnd))
  obtain ⟨K, hK⟩ : ∃ K, K = nodesA val b e := ⟨_, rfl⟩
  have CT : Hid (∀ wr rb y, JnU w3 wr rb (rowA val b (begA m e ny)) y Y → Calls Tryd.prog 89 #[rowP rb, .int .i64 (b : Int), .int .i64 (e : Int)] wr fun o w' => ∃ u, o = .returned (rgA b e u) ∧ LfI wr w' u K.length K ∧ Below w3.heap.size w3 w') := Lib.hid (fun wr rb y H => by
    rw [hny, hY, begA_all] at H
    refine (H.row.told hd b e).mono ?_
    rintro o w' ⟨u, rfl, h⟩
    rw [← hK] at h
    exact ⟨u, rfl, h, H.b.trans (h.b.mono H.b.size)⟩)
  obtain ⟨na, hna⟩ : ∃ n, n = (nodesA val b m).length := ⟨_, rfl⟩
  obtain ⟨nb, hnb⟩ : ∃ n, n = (nodesA val m e).length := ⟨_, rfl⟩
  obtain ⟨pa, ca, rfl⟩ : ∃ p c, va = .slice p na c := by obtain ⟨p, c, h, _⟩ := hva; exact ⟨p, c, by rw [h, hna]⟩
  obtain ⟨pb, cb, rfl⟩ : ∃ p c, vb = .slice p nb c := by obtain ⟨p, c, h, _⟩ := hvb; exact ⟨p, c, by rw [h, hnb]⟩
  rw [← hY] at CB
  rw [← hK]
  have HB1 : Hid (Below w.heap.size w w3 ∧ bs = w.heap.size + 1 + 1 ∧ bs < w3.heap.size ∧ ny = Y.length) := Lib.hid ⟨x3, hbs, blk_lt x2, hny⟩
  have c0 : w3.cell? ⟨ba, 0, none⟩ = some (.int .i64 (b : Int)) := cellB x0 rfl
  have c1 : w3.cell? ⟨ba, 1, none⟩ = some (.int .i64 (m : Int)) := cellB x0 rfl
  have c2 : w3.cell? ⟨ba, 2, none⟩ = some (.slice pa na ca) := cellB x0 rfl
  have HW3 := Lib.hid hw3
  have HBA := Lib.hid hba
  have HBC := Lib.hid hbc
  have HBS := Lib.hid hbs
  have hny4 : ny ≤ 4096 := by omega
  have hmm : ((m : Int) != (m : Int)) = false := by simp
  clear hB hbm hme he hd hva hvb h32a h32b hnd hw3 hba hbc hbs hB3 x0 x1 x2 x3 hY hK hna hnb hny hyl
  go_enter Tryd.func33, Tryd.ntmps33
  go_upto_region 1 with fail
  rw [← HW3.out, ← HBS.out, ← HBC.out, ← HBA.out]
  go_upto_region 2 with (go_at_call 92; with_reducible refine CA.out.mono ?_; rintro o w4 ⟨ux, rfl, h⟩; obtain ⟨px, cx, rfl, _⟩ := h.h.cells; have H4 := Lib.hid h; clear h)
  obtain ⟨hxa, hxc, hxs⟩ := HXX.out _ H4.out.b
  clear c0 c1 c2
  have c0 : w4.cell? ⟨bc, 0, none⟩ = some (.int .i64 (m : Int)) := cellB hxc rfl
  have c1 : w4.cell? ⟨bc, 1, none⟩ = some (.int .i64 (e : Int)) := cellB hxc rfl
  have c2 : w4.cell? ⟨bc, 2, none⟩ = some (.slice pb nb cb) := cellB hxc rfl
  clear hxa hxc hxs
  go_upto_region 3 with (go_at_call 92; with_reducible refine (CB.out _ H4.out.b).mono ?_; rintro o w5 ⟨uy, rfl, h⟩; obtain ⟨py, cy, rfl, _⟩ := h.h.cells; have H5 := Lib.hid h; clear h)
  clear c0 c1 c2
  obtain ⟨hxa, hxc, hxs⟩ := HXX.out _ (H4.out.b.trans (H5.out.b.mono H4.out.b.size))
  have c0 : w5.cell? ⟨ba, 1, none⟩ = some (.int .i64 (m : Int)) := cellB hxa rfl
  have c1 : w5.cell? ⟨bc, 0, none⟩ = some (.int .i64 (m : Int)) := cellB hxc rfl
  clear hxa hxc hxs
  rw [← HB1.out.2.2.2]
  have HJ0 := Lib.hid (HJ.out _ _ _ _ H4.out H5.out)
  rw [← HB1.out.2.2.2] at HJ0
  go_upto_region 10 with fail
  obtain ⟨rb, hrb⟩ : ∃ x, x = w5.heap.size := ⟨_, rfl⟩
  rw [← hrb] at HJ0 ⊢
  clear c0 c1 hrb
  go_wp2_with fail
  go_loopw [50] (fun k wr => ∃ i : Nat, k = .int .i64 (i : Int) ∧ i ≤ ny ∧ Hid (JnU w3 wr rb (rowA val b (begA m e i)) (.slice py ny cy) Y)) (fun k _ => ny - (intOf k).toNat)
  case atStart => exact ⟨0, rfl, Nat.zero_le _, HJ0⟩
  case round =>
    clear HJ0
    obtain ⟨i, rfl, hi, HI⟩ := hrel
    by_cases hlt : i < ny
    · have hli : (i : Int) < (ny : Int) := by omega
      have hi0 : (0 : Int) ≤ (i : Int) := by omega
      obtain ⟨⟨xb, xl, xs⟩, hx⟩ : ∃ x, Y[i]? = some x := ⟨Y[i]'(by have := HB1.out; omega), List.getElem?_eq_getElem _⟩
      obtain ⟨v, hI⟩ := HI.out
      have hIy := hI.hy
      obtain ⟨g, rfl, hg⟩ := pcs_get hIy hx
      obtain ⟨d0, d1, d2⟩ := hg wr (Below.refl _ _)
      have HQ := HI.out.below ((Below.refl wr.heap.size wr).alloc (Nat.le_refl _) (.cells #[.int .i64 (xb : Int), .int .i64 (xl : Int), .string xs] 115))
      have hcu := CU.out i (xb, xl, xs) (wr.alloc (.cells #[.int .i64 (xb : Int), .int .i64 (xl : Int), .string xs] 115)) rb (.slice (some ⟨g, 0, none⟩) ny cy) hx HQ
      have CU2 : Hid (Calls Tryd.prog 88 #[rowP rb, .agg #[.int .i64 (xb : Int), .int .i64 (xl : Int), .string xs]] (wr.alloc (.cells #[.int .i64 (xb : Int), .int .i64 (xl : Int), .string xs] 115)) fun o w' => o = .returned (.tuple #[]) ∧ JnU w3 w' rb (rowA val b (begA m e (i + 1))) (.slice (some ⟨g, 0, none⟩) ny cy) Y) := Lib.hid hcu
      have HLT := Lib.hid hlt
      clear hlt hx hg hI hIy HQ hcu
      go_upto_region 13 with fail
      go_wp2_with (go_at_call 88; with_reducible refine CU2.out.mono ?_; rintro o w6 ⟨rfl, h⟩; have H6 := Lib.hid h; clear h)
      exact ⟨⟨i + 1, by simp, HLT.out, H6⟩, by show ny - ((i : Int) + 1).toNat < ny - (i : Int).toNat; have := HLT.out; omega⟩
    · obtain rfl : i = ny := by omega
      have hli : ¬ (i : Int) < (i : Int) := by omega
      have CT2 := Lib.hid (CT.out wr _ _ HI.out)
      obtain ⟨hxa, hxc, hxs⟩ := HXX.out _ HI.out.b
      have c0 : wr.cell? ⟨ba, 0, none⟩ = some (.int .i64 (b : Int)) := cellB hxa rfl
      have c1 : wr.cell? ⟨bc, 1, none⟩ = some (.int .i64 (e : Int)) := cellB hxc rfl
      clear hlt hxa hxc hxs
      go_wp2_with (go_at_call 89; with_reducible refine CT2.out.mono ?_; rintro o w7 ⟨u, rfl, h, hb⟩; obtain ⟨pu, cu, rfl, _⟩ := h.h.cells; have H7 := Lib.hid h; have hx5 := (HXX.out _ hb).2.2; have HX5 := Lib.hid hx5; have HB5 := Lib.hid hb; have k0 : w7.cell? ⟨bs, 0, none⟩ = some (.int .i64 0) := cellB hx5 rfl; have k1 : w7.cell? ⟨bs, 1, none⟩ = some (.int .i64 0) := cellB hx5 rfl; have k2 : w7.cell? ⟨bs, 2, none⟩ = some (.slice none 0 0) := cellB hx5 rfl; have f0 : w7.frozen? ⟨bs, 0, none⟩ = false := frozB hx5; have f1 : w7.frozen? ⟨bs, 1, none⟩ = false := frozB hx5; have f2 : w7.frozen? ⟨bs, 2, none⟩ = false := frozB hx5; clear h hx5 hb)
      have hx6 := blk_set3 (x := .int .i64 (b : Int)) (y := .int .i64 (e : Int)) (z := .slice pu K.length cu) HX5.out
      have m0 := cellB (k := 0) hx6 rfl
      have m1 := cellB (k := 1) hx6 rfl
      have m2 := cellB (k := 2) hx6 rfl
      have h7 := H7.out
      have hb := HB1.out
      have hle : w.heap.size ≤ bs := by omega
      refine bodyPost_ret (v := .tuple #[rgA b e (.slice pu K.length cu), .int .i64 0]) (by simp [results, Tryd.results33, go_sem, m0, m1, m2]) rfl ⟨_, rfl, ⟨?_, ?_, ?_⟩⟩
      · exact (((hb.1.trans (HB5.out.mono hb.1.size)).setCell (p := ⟨bs, 0, none⟩) hle _).setCell (p := ⟨bs, 1, none⟩) hle _).setCell (p := ⟨bs, 2, none⟩) hle _
      · refine h7.h.keep fun g hg => ?_
        have hgb : g ≠ bs := fun e => by
          have h9 := h7.o g hg
          have h8 := HI.out.b.size
          omega
        rw [Below.heap_setCell _ ⟨bs, 2, none⟩ _ g hgb, Below.heap_setCell _ ⟨bs, 1, none⟩ _ g hgb, Below.heap_setCell _ ⟨bs, 0, none⟩ _ g hgb]
      · exact fun g hg => Nat.le_trans hb.1.size (Nat.le_trans HI.out.b.size (h7.o g hg))
end Go.Proofs.YtdbghgpohdijfaaDoor
