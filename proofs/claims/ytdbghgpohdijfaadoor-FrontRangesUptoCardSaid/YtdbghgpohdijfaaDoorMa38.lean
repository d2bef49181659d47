/- Rows of pieces in a box: pushed, told; Compact. -/
import Derived.Test.YtdbghgpohdijfaaDoorMa37
namespace Go.Proofs.YtdbghgpohdijfaaDoor
open Go.RowKit Go.Scr Go.ChangeMaps Go.MapKept
set_option linter.unusedVariables false
set_option maxRecDepth 100000 in
set_option maxHeartbeats 400000 in
theorem refused1F_any (s : ByteArray) (w : World) :
    Calls Tryd.prog 87 #[.string s] w fun e w' => e = .returned (.bool (!(s.size == 32))) ∧ w' = w := by
  go_enter Tryd.func87, Tryd.ntmps87
  go_wp2
  go_ret
  refine ⟨?_, rfl⟩
  show Ending.returned (.bool ((s.size : Int) != 32)) = .returned (.bool (!(s.size == 32)))
  by_cases h : s.size = 32
  · have e1 : ((s.size : Int) != 32) = false := by rw [bne_eq_false_iff_eq]; omega
    have e2 : (s.size == 32) = true := beq_iff_eq.2 h
    rw [e1, e2]; rfl
  · have e1 : ((s.size : Int) != 32) = true := by rw [bne_iff_ne]; omega
    have e2 : (s.size == 32) = false := beq_eq_false_iff_ne.2 h
    rw [e1, e2]; rfl

set_option maxRecDepth 100000 in
set_option maxHeartbeats 1000000 in
theorem indexfuncF_any (v : Value) (L : List ByteArray) (w : World) (hv : Txts w v L) :
    Calls Tryd.prog 124 #[v, .func (.func 87) #[] #[]] w fun e w' => ∃ z : Int, e = .returned (.int .i64 z) ∧ (ok32 L = true → z = -1) ∧ (ok32 L = false → 0 ≤ z) ∧ w' = w := by
  obtain ⟨p, c, rfl, hv1, hv2, hv3⟩ := hv
  obtain ⟨n, hn⟩ : ∃ n, n = L.length := ⟨_, rfl⟩
  rw [← hn] at hv1 ⊢
  have HN := Lib.hid hn
  have HV := Lib.hid hv3
  have hnb : n ≤ 281474976710656 := by omega
  clear hn hv2 hv3 hv1
  go_enter Tryd.func124, Tryd.ntmps124
  go_wp2
  go_loop [8] (fun q => ∃ k : Nat, k ≤ n ∧ q = .int .i64 k ∧ Hid (ok32 (L.take k) = true)) (fun q => n - (intOf q).toNat)
  case atStart => exact ⟨0, by omega, rfl, Lib.hid rfl⟩
  case round =>
    obtain ⟨k, hk, rfl, hall⟩ := hrel
    by_cases hlt : k < n
    · obtain ⟨s, hs⟩ : ∃ s, L[k]? = some s := ⟨L[k]'(by rw [← HN.out]; exact hlt), List.getElem?_eq_getElem _⟩
      obtain ⟨a, rfl, hc⟩ := HV.out k s hs
      have HS := Lib.hid hs
      clear hs
      have HC := Lib.hid (refused1F_any s w)
      by_cases h32 : s.size = 32
      · rw [show (!(s.size == 32)) = false by simp [h32]] at HC
        have HALL := Lib.hid (by rw [ok32_take HS.out, hall.out]; simp [h32] : ok32 (L.take (k + 1)) = true)
        clear h32
        go_wp2_with (go_at_call 87; with_reducible refine (HC.out).mono ?_; rintro e w2 ⟨rfl, hw⟩; rw [hw]; clear hw w2)
        exact ⟨⟨k + 1, by omega, rfl, HALL⟩, (by show n - ((k : Int) + 1).toNat < n - (k : Int).toNat; omega)⟩
      · rw [show (!(s.size == 32)) = true by simp [h32]] at HC
        have HBAD := Lib.hid (ok32_bad HS.out h32)
        clear h32
        go_wp2_with (go_at_call 87; with_reducible refine (HC.out).mono ?_; rintro e w2 ⟨rfl, hw⟩; rw [hw]; clear hw w2)
        go_ret
        exact ⟨(k : Int), rfl, (fun h => (by rw [HBAD.out] at h; cases h)), (fun _ => Int.natCast_nonneg k), rfl⟩
    · have HK := Lib.hid (by have := hall.out; rwa [show k = n by omega, HN.out, List.take_length] at this : ok32 L = true)
      go_wp2
      go_ret
      exact ⟨-1, rfl, fun _ => rfl, fun h => (by rw [HK.out] at h; cases h), rfl⟩

set_option maxRecDepth 100000 in
set_option maxHeartbeats 400000 in
theorem containsfuncF_any (v : Value) (L : List ByteArray) (w : World) (hv : Txts w v L) :
    Calls Tryd.prog 86 #[v, .func (.func 87) #[] #[]] w fun e w' => e = .returned (.bool (!ok32 L)) ∧ w' = w := by
  have HI := Lib.hid (indexfuncF_any v L w hv)
  obtain ⟨p, c, rfl, hv1, hv2, hv3⟩ := hv
  obtain ⟨b, hb⟩ : ∃ b, b = ok32 L := ⟨_, rfl⟩
  rw [← hb] at HI ⊢
  clear hv1 hv2 hv3 hb
  cases b with
  | true =>
    go_enter Tryd.func86, Tryd.ntmps86
    go_wp2_with (go_at_call 124; with_reducible refine (HI.out).mono ?_; rintro e w2 ⟨z, rfl, hz, _, hw⟩; rw [hw]; clear hw w2; have hz2 := hz rfl; clear hz; subst hz2)
    go_ret
    exact ⟨rfl, rfl⟩
  | false =>
    go_enter Tryd.func86, Tryd.ntmps86
    go_wp2_with (go_at_call 124; with_reducible refine (HI.out).mono ?_; rintro e w2 ⟨z, rfl, _, hz, hw⟩; rw [hw]; clear hw w2; have hz2 : (0 : Int) ≤ z := hz rfl; clear hz)
    go_ret
    exact ⟨rfl, rfl⟩
/-- a row in a box of its own, above w -/
structure RwI (w wr : World) (rb : Nat) (P : List Pc) (v : Value) : Prop where
  b : Below w.heap.size w wr
  fr : FrI wr rb 62 [] P v
  lo : w.heap.size ≤ rb ∧ ∀ g, v.ownBlock = some g → w.heap.size ≤ g
def RwU (w wr : World) (rb : Nat) (P : List Pc) : Prop := ∃ v, RwI w wr rb P v
theorem RwU.b {w wr : World} {rb : Nat} {P : List Pc} (H : RwU w wr rb P) : Below w.heap.size w wr := by
  obtain ⟨v, h⟩ := H
  exact h.b
theorem RwU.below {w wr w' : World} {rb : Nat} {P : List Pc} (H : RwU w wr rb P) (hb : Below wr.heap.size wr w') : RwU w w' rb P := by
  obtain ⟨v, h⟩ := H
  exact ⟨v, h.b.trans (hb.mono h.b.size), h.fr.below hb, h.lo⟩
theorem row_bounds {val : Nat → Nat → ByteArray} {b e : Nat} (he : e ≤ 1099511627776) : ∀ x ∈ rowA val b e, x.1 ≤ 1099511627776 ∧ x.2.1 ≤ 40 := fun x hx => by
  have h1 := rowA_mem hx
  have h3 : 2 ^ x.2.1 ≤ 2 ^ 40 := Nat.le_trans (Nat.le_trans (Nat.le_add_left _ _) h1.2) he
  exact ⟨Nat.le_trans (Nat.le_trans (Nat.le_add_right _ _) h1.2) he, two_le' h3⟩
theorem RwI.push {w wr : World} {rb B b m : Nat} {val : Nat → Nat → ByteArray} {p : Pc} {Q : List Pc} {v : Value} (h : RwI w wr rb (rowA val b m) v) (hB : Bas w B) (hm : m ≤ 1099511627776) (hd : m - b ≤ 4096) (hp : p.1 ≤ 1099511627776 ∧ p.2.1 ≤ 41) (hQ : (pushR nodeS (rowA val b m).reverse p).reverse = Q) :
    Calls Tryd.prog 88 #[rowP rb, pcA p] wr fun o w' => o = .returned (.tuple #[]) ∧ ∃ v', RwI w w' rb Q v' ∧ Chg (ebQ rb v) wr w' ∧ ∀ q, v'.ownBlock = some q → v.ownBlock = some q ∨ wr.heap.size ≤ q := by
  have hf := h.fr
  rw [← List.reverse_reverse (rowA val b m)] at hf
  have hl := rowA_len val b m
  refine (fpush_any (B := B) hf (hB.below (h.b.mono hB.le)) ⟨Nat.le_trans hB.le h.lo.1, fun g hg => Nat.le_trans hB.le (h.lo.2 g hg)⟩ (fun x hx => row_bounds hm x (List.mem_reverse.1 hx)) hp (by rw [List.length_reverse]; omega)).mono ?_
  rintro o w' ⟨rfl, v', f', c', o'⟩
  rw [hQ] at f'
  refine ⟨rfl, v', ⟨?_, f', h.lo.1, fun g hg => ?_⟩, c', o'⟩
  · have hq : ∀ i, ebQ rb v i → w.heap.size ≤ i := fun i hi => by
      rcases hi with rfl | hi
      · exact h.lo.1
      · exact h.lo.2 i hi
    exact below_chg h.b c' hq h.b.size
  · rcases o' g hg with h1 | h1
    · exact h.lo.2 g h1
    · exact Nat.le_trans h.b.size h1
theorem RwU.push {w wr : World} {rb B b m : Nat} {val : Nat → Nat → ByteArray} {p : Pc} {Q : List Pc} (H : RwU w wr rb (rowA val b m)) (hB : Bas w B) (hm : m ≤ 1099511627776) (hd : m - b ≤ 4096) (hp : p.1 ≤ 1099511627776 ∧ p.2.1 ≤ 41) (hQ : (pushR nodeS (rowA val b m).reverse p).reverse = Q) :
    Calls Tryd.prog 88 #[rowP rb, pcA p] wr fun o w' => o = .returned (.tuple #[]) ∧ RwU w w' rb Q := by
  obtain ⟨v, h⟩ := H
  refine (h.push hB hm hd hp hQ).mono ?_
  rintro o w' ⟨rfl, v', h', _⟩
  exact ⟨rfl, v', h'⟩
theorem RwU.told {w wr : World} {rb b m : Nat} {val : Nat → Nat → ByteArray} (H : RwU w wr rb (rowA val b m)) (hd : m - b ≤ 4096) (x y : Nat) :
    Calls Tryd.prog 89 #[rowP rb, .int .i64 (x : Int), .int .i64 (y : Int)] wr fun o w' => ∃ u, o = .returned (rgA x y u) ∧ LfI wr w' u (nodesA val b m).length (nodesA val b m) := by
  obtain ⟨v, h⟩ := H
  have hl := rowA_len val b m
  exact told_any h.fr (by omega) x y
/-- a new row -/
theorem RwI.new {w : World} {P : List Pc} {v : Value} {w1 : World} (h : PcI w w1 v P) : RwI w (w1.alloc (.cells #[v] 62)) w1.heap.size P v :=
  ⟨h.b.alloc h.b.size _, ⟨heap_alloc_new w1 _, h.h.below ((Below.refl _ _).alloc (Nat.le_refl _) _), fun e => by have := h.h.lt e; omega⟩, h.b.size, h.o⟩
theorem pcI_none (w : World) : PcI w w (.slice none 0 0) [] := ⟨Below.refl _ _, ⟨rfl, .inl ⟨rfl, rfl⟩⟩, fun g hg => nomatch hg⟩
set_option maxRecDepth 100000 in
set_option maxHeartbeats 4000000 in
theorem fcompact_any {w : World} {B f : Nat} {v : Value} {L : List ByteArray} (hB : Bas w B) (hv : Txts w v L) (hn4 : L.length ≤ 4096) (hf : f + L.length ≤ 1099511627776) (hz : ∀ s ∈ L, s.size = 32) :
    Calls Tryd.prog 31 #[.int .i64 (f : Int), v] w fun o w' => ∃ u, o = .returned (.tuple #[rgA f (f + L.length) u, .int .i64 0]) ∧ LfI w w' u (nodesA (valF L f) f (f + L.length)).length (nodesA (valF L f) f (f + L.length)) := by
  obtain ⟨n, hn⟩ : ∃ n, n = L.length := ⟨_, rfl⟩
  obtain ⟨e, he⟩ : ∃ e, e = f + n := ⟨_, rfl⟩
  have CP : Hid (∀ w3, Calls Tryd.prog 85 #[.int .i64 (f : Int)] w3 fun o w' => o = .returned (.bool true) ∧ w' = w3) := Lib.hid (fun w3 => fplace_yes f w3 (by omega))
  have hok : ok32 L = true := by unfold ok32; rw [List.all_eq_true]; intro s hs; simpa using hz s hs
  have CF : Hid (∀ w3, Below w.heap.size w w3 → Calls Tryd.prog 86 #[v, .func (.func 87) #[] #[]] w3 fun o w' => o = .returned (.bool false) ∧ w' = w3) := Lib.hid (fun w3 hb => by
    have := containsfuncF_any v L w3 (hv.below hb (Nat.le_refl _))
    rwa [hok] at this)
  have HV : Hid (∀ i s, L[i]? = some s → ∃ p c a, v = .slice p n c ∧ p = some a ∧ ∀ w', Below w.heap.size w w' → w'.cell? (a.add i) = some (.string s)) := Lib.hid (fun i s hs => by
    obtain ⟨p, c, rfl, h1, h2, h3⟩ := hv
    obtain ⟨a, ha, hc⟩ := h3 i s hs
    exact ⟨p, c, a, by rw [hn], ha, fun w' hb => (hb.cell (block_lt_of_cell hc)).trans hc⟩)
  obtain ⟨p, c, rfl, hv1, hv2, _⟩ := hv
  rw [← hn] at hv1 hv2 hn4 CF ⊢
  rw [← he]
  have hfn : (f : Int) + (n : Int) = (e : Int) := by omega
  have hfw : IntKind.i64.wrap (e : Int) = (e : Int) := IntWalk.i64_in _ (by omega)
  obtain ⟨bs, hbs⟩ : ∃ x, x = w.heap.size := ⟨_, rfl⟩
  obtain ⟨w1, hw1⟩ : ∃ x, x = w.alloc (.cells #[.int .i64 0, .int .i64 0, .slice none 0 0] 68) := ⟨_, rfl⟩
  have hb1 : Below w.heap.size w w1 := by rw [hw1]; exact (Below.refl _ _).alloc (Nat.le_refl _) _
  have hx1 : w1.heap[bs]? = some (.cells #[.int .i64 0, .int .i64 0, .slice none 0 0] 68 (0, 0)) := by rw [hw1, hbs]; exact heap_alloc_new w _
  obtain ⟨K, hK⟩ : ∃ K, K = nodesA (valF L f) f e := ⟨_, rfl⟩
  rw [← hK]
  have hB1 : Bas w1 B := hB.below (hb1.mono hB.le)
  obtain ⟨rb, hrb⟩ : ∃ x, x = w1.heap.size := ⟨_, rfl⟩
  have CU : Hid (∀ i s wr, i < n → L[i]? = some s → RwU w1 wr rb (rowA (valF L f) f (f + i)) → Calls Tryd.prog 88 #[rowP rb, .agg #[.int .i64 ((f + i : Nat) : Int), .int .i64 0, .string s]] wr fun o w' => o = .returned (.tuple #[]) ∧ RwU w1 w' rb (rowA (valF L f) f (f + (i + 1)))) := Lib.hid (fun i s wr hi hs H =>
    H.push (p := (f + i, 0, s)) hB1 (by omega) (by omega) ⟨by show f + i ≤ _; omega, by show 0 ≤ 41; omega⟩ (push_leafF hs))
  have CT : Hid (∀ wr, RwU w1 wr rb (rowA (valF L f) f (f + n)) → Calls Tryd.prog 89 #[rowP rb, .int .i64 (f : Int), .int .i64 (e : Int)] wr fun o w' => ∃ u, o = .returned (rgA f e u) ∧ LfI wr w' u K.length K ∧ Below w1.heap.size w1 w') := Lib.hid (fun wr H => by
    refine (H.told (by omega) f e).mono ?_
    rintro o w' ⟨u, rfl, h⟩
    rw [← he, ← hK] at h
    exact ⟨u, rfl, h, H.b.trans (h.b.mono H.b.size)⟩)
  have HX : Hid (∀ w', Below w1.heap.size w1 w' → w'.heap[bs]? = some (.cells #[.int .i64 0, .int .i64 0, .slice none 0 0] 68 (0, 0))) := Lib.hid (fun w' hb => blk_below hx1 hb (blk_lt hx1))
  have HB1 : Hid (Below w.heap.size w w1 ∧ bs = w.heap.size ∧ bs < w1.heap.size) := Lib.hid ⟨hb1, hbs, blk_lt hx1⟩
  have HW1 := Lib.hid hw1
  have HBS := Lib.hid hbs
  have HRB := Lib.hid hrb
  have HR0 : Hid (RwU w1 (w1.alloc (.cells #[.slice none 0 0] 62)) rb (rowA (valF L f) f (f + 0))) := Lib.hid (by
    have := RwI.new (pcI_none w1)
    rw [hrb, show rowA (valF L f) f (f + 0) = [] from rowA_nil (Nat.le_refl _)]
    exact ⟨_, this⟩)
  have HN : Hid (n = L.length) := Lib.hid hn
  have h4i : ¬ (4096 : Int) < (n : Int) := by omega
  have hmi : ¬ (1099511627776 : Int) < (e : Int) := by omega
  have hmf : f ≤ 1099511627776 := by omega
  clear hB hz hf hok hn he hb1 hx1 hw1 hbs hK hB1 hrb
  go_enter Tryd.func31, Tryd.ntmps31
  go_upto_region 1 with fail
  rw [← HW1.out, ← HBS.out]
  go_upto_region 8 with (first
    | (go_at_call 85; with_reducible refine (CP.out _).mono ?_; rintro o w' ⟨rfl, hww⟩; rw [hww]; clear hww w')
    | (go_at_call 86; with_reducible refine (CF.out _ HB1.out.1).mono ?_; rintro o w' ⟨rfl, hww⟩; rw [hww]; clear hww w'))
  rw [← HRB.out]
  go_wp2_with fail
  go_loopw [32] (fun k wr => ∃ i : Nat, k = .int .i64 (i : Int) ∧ i ≤ n ∧ Hid (RwU w1 wr rb (rowA (valF L f) f (f + i)))) (fun k _ => n - (intOf k).toNat)
  case atStart => exact ⟨0, rfl, Nat.zero_le _, HR0⟩
  case round =>
    clear HR0
    obtain ⟨i, rfl, hi, HI⟩ := hrel
    by_cases hlt : i < n
    · have hli : (i : Int) < (n : Int) := by omega
      have hi0 : (0 : Int) ≤ (i : Int) := by omega
      obtain ⟨s, hs⟩ : ∃ s, L[i]? = some s := ⟨L[i]'(by have := HN.out; omega), List.getElem?_eq_getElem _⟩
      obtain ⟨p', c', a, he, rfl, hac⟩ := HV.out i s hs
      obtain rfl : p = some a := by cases he; rfl
      have hcell := hac wr (HB1.out.1.trans (HI.out.b.mono HB1.out.1.size))
      have CU2 := Lib.hid (CU.out i s wr hlt hs HI.out)
      obtain ⟨fi, hfi⟩ : ∃ x, x = f + i := ⟨_, rfl⟩
      rw [← hfi] at CU2
      have hfiI : (f : Int) + (i : Int) = (fi : Int) := by omega
      have hfi2 : fi ≤ 1099511627776 := by omega
      have HLT := Lib.hid hlt
      clear hlt hs hac he hfi
      go_wp2_with (go_at_call 88; with_reducible refine CU2.out.mono ?_; rintro o w4 ⟨rfl, h⟩; have H4 := Lib.hid h; clear h)
      exact ⟨⟨i + 1, by simp, HLT.out, H4⟩, by show n - ((i : Int) + 1).toNat < n - (i : Int).toNat; have := HLT.out; omega⟩
    · obtain rfl : i = n := by omega
      have hli : ¬ (i : Int) < (i : Int) := by omega
      have CT2 := Lib.hid (CT.out wr HI.out)
      clear hlt
      go_wp2_with (go_at_call 89; with_reducible refine CT2.out.mono ?_; rintro o w5 ⟨u, rfl, h, hb⟩; obtain ⟨pu, cu, rfl, _⟩ := h.h.cells; have H5 := Lib.hid h; have hx5 := HX.out _ hb; have HX5 := Lib.hid hx5; have HB5 := Lib.hid hb; have k0 : w5.cell? ⟨bs, 0, none⟩ = some (.int .i64 0) := cellB hx5 rfl; have k1 : w5.cell? ⟨bs, 1, none⟩ = some (.int .i64 0) := cellB hx5 rfl; have k2 : w5.cell? ⟨bs, 2, none⟩ = some (.slice none 0 0) := cellB hx5 rfl; have f0 : w5.frozen? ⟨bs, 0, none⟩ = false := frozB hx5; have f1 : w5.frozen? ⟨bs, 1, none⟩ = false := frozB hx5; have f2 : w5.frozen? ⟨bs, 2, none⟩ = false := frozB hx5; clear h hx5 hb)
      have hx6 := blk_set3 (x := .int .i64 (f : Int)) (y := .int .i64 (e : Int)) (z := .slice pu K.length cu) HX5.out
      have m0 := cellB (k := 0) hx6 rfl
      have m1 := cellB (k := 1) hx6 rfl
      have m2 := cellB (k := 2) hx6 rfl
      have h5 := H5.out
      have hb := HB1.out
      have hle : w.heap.size ≤ bs := by omega
      refine bodyPost_ret (v := .tuple #[rgA f e (.slice pu K.length cu), .int .i64 0]) (by simp [results, Tryd.results31, go_sem, m0, m1, m2]) rfl ⟨_, rfl, ⟨?_, ?_, ?_⟩⟩
      · exact (((hb.1.trans (HB5.out.mono hb.1.size)).setCell (p := ⟨bs, 0, none⟩) hle _).setCell (p := ⟨bs, 1, none⟩) hle _).setCell (p := ⟨bs, 2, none⟩) hle _
      · refine h5.h.keep fun g hg => ?_
        have hgb : g ≠ bs := fun e => by
          have h9 := h5.o g hg
          have h8 := HI.out.b.size
          omega
        rw [Below.heap_setCell _ ⟨bs, 2, none⟩ _ g hgb, Below.heap_setCell _ ⟨bs, 1, none⟩ _ g hgb, Below.heap_setCell _ ⟨bs, 0, none⟩ _ g hgb]
      · exact fun g hg => Nat.le_trans hb.1.size (Nat.le_trans HI.out.b.size (h5.o g hg))
end Go.Proofs.YtdbghgpohdijfaaDoor
