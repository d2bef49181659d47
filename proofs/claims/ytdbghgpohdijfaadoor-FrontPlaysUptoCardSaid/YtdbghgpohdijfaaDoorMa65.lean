/- The document's layer 5: hash. -/
import Derived.Test.YtdbghgpohdijfaaDoorMa64
import Derived.Test.YtdbghgpohdijfaaDoorMa41
import Derived.Test.YtdbghgpohdijfaaDoorMa4
namespace Go.Proofs.YtdbghgpohdijfaaDoor
open Go.RowKit Go.Scr
set_option linter.unusedVariables false
theorem lookP_first : ∀ {K : List (Nat × Nat)} {H : List ByteArray} {i x l : Nat} {h : ByteArray}, (∀ j, j < i → K[j]? ≠ some (x, l)) → K[i]? = some (x, l) → H[i]? = some h → lookP K H x l = some h
  | [], _, _, _, _, _, _, hk, _ => by simp at hk
  | k :: K, [], _, _, _, _, _, _, hh => by simp at hh
  | k :: K, g :: H, 0, x, l, h, _, hk, hh => by
    rw [lookP, if_pos (by simpa using hk)]
    simpa using hh
  | k :: K, g :: H, i + 1, x, l, h, hn, hk, hh => by
    have h0 := hn 0 (by omega)
    rw [List.getElem?_cons_zero] at h0
    rw [lookP, if_neg (fun e => h0 (by rw [e])), lookP_first (i := i) (fun j hj => by have := hn (j + 1) (by omega); rwa [List.getElem?_cons_succ] at this) (by simpa using hk) (by simpa using hh)]
theorem two_inj {a b : Nat} (h : 2 ^ a = 2 ^ b) : a = b := Nat.le_antisymm (two_le' (Nat.le_of_eq h)) (two_le' (Nat.le_of_eq h.symm))
set_option maxRecDepth 100000 in
set_option maxHeartbeats 8000000 in
theorem hash5_step {K : List (Nat × Nat)} {H : List ByteArray} {nk nh ck ch : Nat} {pk ph : Option Addr} (hkl : K.length = nk) (hhl : H.length = nh) (hkh : nk ≤ nh) (hb : nk ≤ 1048576) (l x e : Nat) (w : World) (he : e = x + 2 ^ l) (hx : e ≤ 1099511627776) (hK : Held w 128 2 (.slice pk nk ck) nk (cuV K)) (hH : Txts w (.slice ph nh ch) H)
    (HR : Hid ((x, l) ∉ K → ∃ (mid : Nat) (a b : ByteArray), 2 * mid = x + e ∧ valK nodeS K H x l = nodeS a b ∧
      (∀ w', Below w.heap.size w w' → Calls Tryd.prog 94 #[.agg #[.int .i64 (x : Int), .int .i64 (mid : Int)], .slice pk nk ck, .slice ph nh ch] w' fun o z => o = .returned (.string a) ∧ Below w'.heap.size w' z) ∧
      (∀ w', Below w.heap.size w w' → Calls Tryd.prog 94 #[.agg #[.int .i64 (mid : Int), .int .i64 (e : Int)], .slice pk nk ck, .slice ph nh ch] w' fun o z => o = .returned (.string b) ∧ Below w'.heap.size w' z))) :
    Calls Tryd.prog 94 #[.agg #[.int .i64 (x : Int), .int .i64 (e : Int)], .slice pk nk ck, .slice ph nh ch] w fun o w' => o = .returned (.string (valK nodeS K H x l)) ∧ Below w.heap.size w w' := by
  obtain ⟨w1, hw1⟩ : ∃ z, z = w.alloc (.cells #[.int .i64 (x : Int), .int .i64 (e : Int)] 128) := ⟨_, rfl⟩
  obtain ⟨bs, hbs⟩ : ∃ z, z = w.heap.size := ⟨_, rfl⟩
  have hb1 : Below w.heap.size w w1 := by rw [hw1]; exact (Below.refl _ _).alloc (Nat.le_refl _) _
  have hx1 : w1.heap[bs]? = some (.cells #[.int .i64 (x : Int), .int .i64 (e : Int)] 128 (0, 0)) := by rw [hw1, hbs]; exact heap_alloc_new w _
  obtain ⟨r, hr⟩ : ∃ r, r = valK nodeS K H x l := ⟨_, rfl⟩
  have HRR : Hid (r = valK nodeS K H x l ∧ e = x + 2 ^ l ∧ K.length = nk ∧ H.length = nh ∧ nk ≤ nh) := Lib.hid ⟨hr, he, hkl, hhl, hkh⟩
  rw [← hr]
  have HBX : Hid (∀ w', Below w1.heap.size w1 w' → w'.cell? ⟨bs, 0, none⟩ = some (.int .i64 (x : Int)) ∧ w'.cell? ⟨bs, 1, none⟩ = some (.int .i64 (e : Int))) := Lib.hid (fun w' hb => by
    have h := blk_below hx1 hb (blk_lt hx1)
    exact ⟨cellB h rfl, cellB h rfl⟩)
  have HKC : Hid (∀ i y, K[i]? = some y → ∃ g, pk = some ⟨g, 0, none⟩ ∧ ∀ w', Below w1.heap.size w1 w' → w'.cell? ⟨g, i * 2, none⟩ = some (.int .i64 (y.1 : Int)) ∧ w'.cell? ⟨g, i * 2 + 1, none⟩ = some (.int .i64 ((y.1 + 2 ^ y.2 : Nat) : Int))) := Lib.hid (fun i y hi => by
    have hlt : i < K.length := (List.getElem?_eq_some_iff.mp hi).1
    obtain ⟨g, hg, hc⟩ := held_cellP hK (by omega)
    obtain ⟨a0, a1⟩ := cuV_get hi
    have c0 := hc _ _ a0
    have c1 := hc _ _ a1
    exact ⟨g, hg, fun w' hbw => ⟨((hb1.trans (hbw.mono hb1.size)).cell (block_lt_of_cell c0)).trans c0, ((hb1.trans (hbw.mono hb1.size)).cell (block_lt_of_cell c1)).trans c1⟩⟩)
  have HHC : Hid (∀ i s, H[i]? = some s → ∃ a, ph = some a ∧ ∀ w', Below w1.heap.size w1 w' → w'.cell? (a.add i) = some (.string s)) := Lib.hid (fun i s hs => by
    obtain ⟨p', c', hpe, _, _, hq⟩ := hH
    injection hpe with e1 e2 e3
    obtain ⟨a, ha, hcell⟩ := hq i s hs
    exact ⟨a, e1.trans ha, fun w' hbw => ((hb1.trans (hbw.mono hb1.size)).cell (block_lt_of_cell hcell)).trans hcell⟩)
  have HND : Hid (∀ l r w', Calls Tryd.prog 123 #[.string l, .string r] w' fun e z => ∃ ze, e = .returned (.tuple #[.string (nodeS l r), .int .i64 ze]) ∧ Below w'.heap.size w' z) := Lib.hid (fun l r w' => by
    refine (rnode_any l r w').mono ?_
    rintro e z ⟨rfl, h⟩
    exact ⟨_, rfl, h⟩)
  have HW1 := Lib.hid hw1
  have HBS := Lib.hid hbs
  have HB1 := Lib.hid hb1
  have hnh : nh ≤ 281474976710656 := by obtain ⟨_, _, h, h1, h2, _⟩ := hH; injection h; omega
  have hxb : x ≤ 1099511627776 := Nat.le_trans (by rw [he]; exact Nat.le_add_right _ _) hx
  clear hw1 hbs hb1 hx1 hr he hkl hhl hkh hK hH
  go_enter Tryd.func94, Tryd.ntmps94
  go_upto_region 1 with fail
  rw [← HW1.out, ← HBS.out]
  go_wp2_with fail
  go_loopw [7] (fun u wr => ∃ i : Nat, u = .int .i64 (i : Int) ∧ i ≤ nk ∧ Hid (∀ j, j < i → K[j]? ≠ some (x, l)) ∧ Hid (Below w1.heap.size w1 wr)) (fun u _ => nk - (intOf u).toNat)
  case atStart => exact ⟨0, rfl, Nat.zero_le _, Lib.hid (fun j hj => absurd hj (by omega)), Lib.hid (Below.refl _ _)⟩
  case round =>
    obtain ⟨i, rfl, hi, HN, HB⟩ := hrel
    by_cases hlt : i < nk
    · have hii : (i : Int) < (nk : Int) := by omega
      have hi0 : (0 : Int) ≤ (i : Int) := by omega
      have hinh : (i : Int) < (nh : Int) := by have := HRR.out; omega
      obtain ⟨⟨x1, l1⟩, hk⟩ : ∃ s, K[i]? = some s := ⟨K[i]'(by have := HRR.out; omega), List.getElem?_eq_getElem _⟩
      obtain ⟨s, hs⟩ : ∃ s, H[i]? = some s := ⟨H[i]'(by have := HRR.out; omega), List.getElem?_eq_getElem _⟩
      obtain ⟨g, hpk, hgc⟩ := HKC.out i _ hk
      obtain ⟨a, hph, hac⟩ := HHC.out i s hs
      subst hpk
      subst hph
      obtain ⟨y1, hy1⟩ : ∃ y, y = x1 + 2 ^ l1 := ⟨_, rfl⟩
      obtain ⟨d0, d1⟩ := hgc wr HB.out
      have d1 : wr.cell? ⟨g, i * 2 + 1, none⟩ = some (.int .i64 (y1 : Int)) := by rw [hy1]; exact d1
      have d0 : wr.cell? ⟨g, i * 2, none⟩ = some (.int .i64 (x1 : Int)) := d0
      obtain ⟨d2, d3⟩ := HBX.out wr HB.out
      by_cases heq : (x1, l1) = (x, l)
      · have hsp : ∀ w', (binOp .eql 128 (.agg #[.int .i64 (x1 : Int), .int .i64 (y1 : Int)]) (.agg #[.int .i64 (x : Int), .int .i64 (e : Int)])).run Tryd.prog w' = .ok (.bool true) w' := fun w' => by
          obtain ⟨rfl, rfl⟩ := Prod.mk.inj heq
          rw [span_eql, hy1, HRR.out.2.1]
          simp
        have HRS : Hid (r = s) := Lib.hid (by rw [HRR.out.1]; exact valK_known (lookP_first HN.out (by rw [hk, heq]) hs))
        have hac2 := hac
        have HAC := Lib.hid hac
        clear heq hk hs hy1 hgc hac hac2
        go_upto_region 4 with fail
        have HSC : Hid (wr.drew.cell? ⟨g, i * 2, none⟩ = some (.int .i64 (x1 : Int)) ∧ wr.drew.cell? ⟨g, i * 2 + 1, none⟩ = some (.int .i64 (y1 : Int)) ∧ wr.drew.cell? ⟨bs, 0, none⟩ = some (.int .i64 (x : Int)) ∧ wr.drew.cell? ⟨bs, 1, none⟩ = some (.int .i64 (e : Int))) := Lib.hid ⟨d0, d1, d2, d3⟩
        go_region_held3 (fun w' => w'.cell? ⟨g, i * 2, none⟩ = some (.int .i64 (x1 : Int)) ∧ w'.cell? ⟨g, i * 2 + 1, none⟩ = some (.int .i64 (y1 : Int)) ∧ w'.cell? ⟨bs, 0, none⟩ = some (.int .i64 (x : Int)) ∧ w'.cell? ⟨bs, 1, none⟩ = some (.int .i64 (e : Int))) (exact HSC.out) (fail)
        have HB2 : Hid (Below w1.heap.size w1 wr.drew) := Lib.hid HB.out.drew
        generalize wr.drew = wx at *
        have d5 := HAC.out wx HB2.out
        go_wp2_with fail
        go_ret
        exact ⟨by rw [HRS.out]; rfl, HB1.out.trans (HB2.out.mono HB1.out.size)⟩
      · have hsp : ∀ w', (binOp .eql 128 (.agg #[.int .i64 (x1 : Int), .int .i64 (y1 : Int)]) (.agg #[.int .i64 (x : Int), .int .i64 (e : Int)])).run Tryd.prog w' = .ok (.bool false) w' := fun w' => by
          rw [span_eql]
          congr 2
          rw [Bool.and_eq_false_iff]
          by_cases h : x1 = x
          · right
            rw [beq_eq_false_iff_ne]
            intro h2
            apply heq
            have h3 : y1 = e := by omega
            rw [hy1, HRR.out.2.1, h] at h3
            rw [h, two_inj (Nat.add_left_cancel h3)]
          · left
            rw [beq_eq_false_iff_ne]
            omega
        have HN2 : Hid (∀ j, j < i + 1 → K[j]? ≠ some (x, l)) := Lib.hid (fun j hj => by
          rcases Nat.lt_or_ge j i with h | h
          · exact HN.out j h
          · obtain rfl : j = i := by omega
            rw [hk]
            intro h2
            exact heq (Option.some.inj h2))
        have HLT := Lib.hid hlt
        clear heq hk hs hy1 hgc hac hlt
        go_upto_region 4 with fail
        have HSC : Hid (wr.drew.cell? ⟨g, i * 2, none⟩ = some (.int .i64 (x1 : Int)) ∧ wr.drew.cell? ⟨g, i * 2 + 1, none⟩ = some (.int .i64 (y1 : Int)) ∧ wr.drew.cell? ⟨bs, 0, none⟩ = some (.int .i64 (x : Int)) ∧ wr.drew.cell? ⟨bs, 1, none⟩ = some (.int .i64 (e : Int))) := Lib.hid ⟨d0, d1, d2, d3⟩
        go_region_held3 (fun w' => w'.cell? ⟨g, i * 2, none⟩ = some (.int .i64 (x1 : Int)) ∧ w'.cell? ⟨g, i * 2 + 1, none⟩ = some (.int .i64 (y1 : Int)) ∧ w'.cell? ⟨bs, 0, none⟩ = some (.int .i64 (x : Int)) ∧ w'.cell? ⟨bs, 1, none⟩ = some (.int .i64 (e : Int))) (exact HSC.out) (fail)
        have HB2 : Hid (Below w1.heap.size w1 wr.drew) := Lib.hid HB.out.drew
        generalize wr.drew = wx at *
        go_wp2_with fail
        exact ⟨⟨i + 1, rfl, HLT.out, HN2, HB2⟩, by have := HLT.out; show nk - ((i : Int) + 1).toNat < nk - (i : Int).toNat; omega⟩
    · obtain rfl : i = nk := by omega
      have hii : ¬ (i : Int) < (i : Int) := by omega
      have hnm : (x, l) ∉ K := fun hm => by
        obtain ⟨j, hj, hje⟩ := List.mem_iff_getElem.1 hm
        exact HN.out j (by have := HRR.out; omega) (by rw [List.getElem?_eq_getElem hj, hje])
      obtain ⟨mid, a, b, hmid, hval, ca, cb⟩ := HR.out hnm
      obtain ⟨se, hse⟩ : ∃ s, s = x + e := ⟨_, rfl⟩
      have hsei : (x : Int) + (e : Int) = (se : Int) := by omega
      have hdv : (se : Int).tdiv 2 = (mid : Int) := by rw [Int.tdiv_eq_ediv_of_nonneg (by omega)]; omega
      have hmb : mid ≤ 1099511627776 := by omega
      have hseb : se ≤ 2199023255552 := by omega
      have CA := Lib.hid (ca wr (HB1.out.trans (HB.out.mono HB1.out.size)))
      have CB : Hid (∀ w', Below wr.heap.size wr w' → _) := Lib.hid (fun w' hbw => cb w' ((HB1.out.trans (HB.out.mono HB1.out.size)).trans (hbw.mono (HB1.out.trans (HB.out.mono HB1.out.size)).size)))
      have HV : Hid (r = nodeS a b) := Lib.hid (by rw [HRR.out.1, hval])
      obtain ⟨d2, d3⟩ := HBX.out wr HB.out
      have HWR : Hid (Below w.heap.size w wr) := Lib.hid (HB1.out.trans (HB.out.mono HB1.out.size))
      clear hlt hnm hval ca cb hse hmid HR
      go_wp2_with (first
        | (go_at_call 94; (with_reducible refine CA.out.mono ?_); rintro o z1 ⟨rfl, h⟩; have HZ1 := Lib.hid h; obtain ⟨d6, d7⟩ := HBX.out z1 (HB.out.trans (h.mono HB.out.size)); clear h)
        | (go_at_call 94; (with_reducible refine (CB.out _ HZ1.out).mono ?_); rintro o z2 ⟨rfl, h⟩; have HZ2 : Hid (Below wr.heap.size wr z2) := Lib.hid (HZ1.out.trans (h.mono HZ1.out.size)); clear h)
        | (go_at_call 123; (with_reducible refine (HND.out _ _ _).mono ?_); rintro o z3 ⟨ze, rfl, h⟩; have HZ3 : Hid (Below wr.heap.size wr z3) := Lib.hid (HZ2.out.trans (h.mono HZ2.out.size)); clear h))
      go_ret
      exact ⟨by rw [HV.out]; rfl, HWR.out.trans (HZ3.out.mono HWR.out.size)⟩
theorem hash5_any (K : List (Nat × Nat)) (H : List ByteArray) (nk nh ck ch : Nat) (pk ph : Option Addr) (hkl : K.length = nk) (hhl : H.length = nh) (hkh : nk ≤ nh) (hb : nk ≤ 1048576) : ∀ (l x : Nat) (w : World), Cv K x l → x + 2 ^ l ≤ 1099511627776 → Held w 128 2 (.slice pk nk ck) nk (cuV K) → Txts w (.slice ph nh ch) H →
    Calls Tryd.prog 94 #[.agg #[.int .i64 (x : Int), .int .i64 ((x + 2 ^ l : Nat) : Int)], .slice pk nk ck, .slice ph nh ch] w fun o w' => o = .returned (.string (valK nodeS K H x l)) ∧ Below w.heap.size w w' := by
  intro l
  induction l with
  | zero =>
    intro x w hcv hx hK hH
    exact hash5_step hkl hhl hkh hb 0 x _ w rfl hx hK hH (Lib.hid (fun hn => absurd hcv hn))
  | succ l ih =>
    intro x w hcv hx hK hH
    refine hash5_step hkl hhl hkh hb (l + 1) x _ w rfl hx hK hH (Lib.hid (fun hn => ?_))
    have hpp : 2 ^ (l + 1) = 2 ^ l + 2 ^ l := by rw [Nat.pow_succ]; omega
    have hp0 : 0 < 2 ^ l := Nat.pos_of_ne_zero (by simp)
    rcases hcv with h | ⟨h1, h2⟩
    · exact absurd h hn
    · refine ⟨x + 2 ^ l, _, _, by omega, valK_halves (lookP_none hn), fun w' hbw => ih x w' h1 (by omega) (hK.below hbw) (hH.below hbw (Nat.le_refl _)), fun w' hbw => ?_⟩
      have := ih (x + 2 ^ l) w' h2 (by omega) (hK.below hbw) (hH.below hbw (Nat.le_refl _))
      rwa [show x + 2 ^ l + 2 ^ l = x + 2 ^ (l + 1) by omega] at this
end Go.Proofs.YtdbghgpohdijfaaDoor
/- A range that grows in its box: law. -/
namespace Go.Proofs.YtdbghgpohdijfaaDoor
open Go.RowKit Go.Scr
set_option linter.unusedVariables false
/-- a range in its box, its list a new one -/
structure RbI (w0 wr : World) (bx : Nat) (b e : Int) (v : Value) (n : Nat) (K : List ByteArray) : Prop where
  k : w0.grownBy wr (some bx)
  x : wr.heap[bx]? = some (.cells #[.int .i64 b, .int .i64 e, v] 68 (0, 0))
  h : Held wr 9 1 v n (K.map Value.string)
  o : ∀ g, v.ownBlock = some g → w0.heap.size ≤ g
  lt : bx < w0.heap.size
theorem RbI.bel {w w0 wr : World} {bx : Nat} {b e : Int} {v : Value} {n : Nat} {K : List ByteArray} (H : RbI w0 wr bx b e v n K) (hw : Below w.heap.size w w0) (hx : w.heap.size ≤ bx) : Below w.heap.size w wr :=
  ⟨H.k.os.trans hw.os, H.k.tape.trans hw.tape, H.k.output.trans hw.output, Nat.le_trans hw.size H.k.size, fun i hi => (H.k.block i (Nat.lt_of_lt_of_le hi hw.size) (fun e => by have := Option.some.inj e; omega)).trans (hw.block i hi)⟩
theorem RbI.below {w0 wr w' : World} {bx : Nat} {b e : Int} {v : Value} {n : Nat} {K : List ByteArray} (H : RbI w0 wr bx b e v n K) (hb : Below wr.heap.size wr w') : RbI w0 w' bx b e v n K :=
  ⟨⟨hb.os.trans H.k.os, hb.tape.trans H.k.tape, hb.output.trans H.k.output, Nat.le_trans H.k.size hb.size, fun i hi hne => (hb.block i (Nat.lt_of_lt_of_le hi H.k.size)).trans (H.k.block i hi hne)⟩, blk_below H.x hb (blk_lt H.x), H.h.below hb, H.o, H.lt⟩
theorem RbI.cell {w0 wr : World} {bx : Nat} {b e : Int} {v : Value} {n : Nat} {K : List ByteArray} (H : RbI w0 wr bx b e v n K) {p : Addr} {u : Value} (hc : w0.cell? p = some u) (hne : p.block ≠ bx) : wr.cell? p = some u :=
  (World.cell?_of_block (H.k.block p.block (block_lt_of_cell hc) (fun e => hne (Option.some.inj e)))).trans hc
theorem RbI.held {w0 wr : World} {bx : Nat} {b e : Int} {v : Value} {n : Nat} {K : List ByteArray} (H : RbI w0 wr bx b e v n K) {T sz m : Nat} {u : Value} {xs : List Value} (hu : Held w0 T sz u m xs) (hne : ∀ g, u.ownBlock = some g → g ≠ bx) : Held wr T sz u m xs :=
  hu.keep fun g hg => H.k.block g (hu.lt hg) (fun e => hne g hg (Option.some.inj e))
theorem RbI.push {w0 wr w' : World} {bx : Nat} {b e : Int} {v v' : Value} {n : Nat} {K : List ByteArray} {s : ByteArray} {cs : Array Value} {T : TypeId} (H : RbI w0 wr bx b e v n K) (g : Grew 9 1 (wr.alloc (.cells cs T)) v n 1 (K.map Value.string) [.string s] v' w') :
    w'.heap[bx]? = some (.cells #[.int .i64 b, .int .i64 e, v] 68 (0, 0)) ∧ RbI w0 (w'.setCell ⟨bx, 2, none⟩ v') bx b e v' (n + 1) (K ++ [s]) ∧ ∀ i, i < w0.heap.size → w'.heap[i]? = wr.heap[i]? := by
  have hb0 : Below wr.heap.size wr (wr.alloc (.cells cs T)) := (Below.refl _ _).alloc (Nat.le_refl _) _
  have hgr := g.grown
  have hk := H.k.size
  have hlt := H.lt
  have hkeep : ∀ i, i < w0.heap.size → w'.heap[i]? = wr.heap[i]? := fun i hi => (hgr.block i (Nat.lt_of_lt_of_le (Nat.lt_of_lt_of_le hi hk) hb0.size) (fun e => by have := H.o i e.symm; omega)).trans (hb0.block i (Nat.lt_of_lt_of_le hi hk))
  have hx : w'.heap[bx]? = some (.cells #[.int .i64 b, .int .i64 e, v] 68 (0, 0)) := (hkeep bx hlt).trans H.x
  have hset : ∀ i, i ≠ bx → (w'.setCell ⟨bx, 2, none⟩ v').heap[i]? = w'.heap[i]? := fun i hi => Below.heap_setCell _ ⟨bx, 2, none⟩ _ i hi
  have hown : ∀ q, v'.ownBlock = some q → w0.heap.size ≤ q := fun q hq => by
    rcases g.at with ⟨e, _⟩ | ⟨e, _⟩
    · exact H.o q (by rw [← e]; exact hq)
    · rw [hq] at e
      have h1 := Option.some.inj e
      have h2 := hb0.size
      omega
  refine ⟨hx, ⟨⟨?_, ?_, ?_, ?_, fun i hi hne => ?_⟩, ?_, ?_, hown, hlt⟩, hkeep⟩
  · exact hgr.os.trans (hb0.os.trans H.k.os)
  · exact hgr.tape.trans (hb0.tape.trans H.k.tape)
  · exact hgr.output.trans (hb0.output.trans H.k.output)
  · have h1 := hgr.size
    have h2 := hb0.size
    simp only [World.setCell, Array.size_modify]
    omega
  · rw [hset i (fun e => hne (by rw [e])), hkeep i hi]
    exact H.k.block i hi hne
  · exact blk_set hx 2 v'
  · rw [List.map_append]
    exact g.held.keep fun q hq => hset q (fun e => by have := hown q hq; omega)
end Go.Proofs.YtdbghgpohdijfaaDoor
/- The document's Compact (printed by gen_fsd.py). -/
namespace Go.Proofs.YtdbghgpohdijfaaDoor
open Go.RowKit Go.Scr
set_option linter.unusedVariables false
/-- Compact's answer -/
def CmO (w : World) (f : Int) (n : Nat) (L : List ByteArray) (E : Int) (o : Ending) (w' : World) : Prop := ∃ (b e : Int) (KL : List ByteArray), ((E ≠ 0 ∧ b = 0 ∧ e = 0 ∧ KL = []) ∨ (E = 0 ∧ b = f ∧ e = f + n ∧ KL = cmT f.toNat L)) ∧ RgP w b e KL E o w'
theorem CmO.err {w : World} {f : Int} {n : Nat} {L : List ByteArray} {E : Int} {o : Ending} {w' : World} (hE : E ≠ 0) (h : RgP w 0 0 [] E o w') : CmO w f n L E o w' := ⟨0, 0, [], .inl ⟨hE, rfl, rfl, rfl⟩, h⟩
theorem CmO.ok {w : World} {f : Int} {n : Nat} {L : List ByteArray} {o : Ending} {w' : World} (b e : Int) (KL : List ByteArray) (hb : b = f) (he : e = f + n) (hK : KL = cmT f.toNat L) (h : RgP w b e KL 0 o w') : CmO w f n L 0 o w' := ⟨b, e, KL, .inr ⟨rfl, hb, he, hK⟩, h⟩
end Go.Proofs.YtdbghgpohdijfaaDoor
