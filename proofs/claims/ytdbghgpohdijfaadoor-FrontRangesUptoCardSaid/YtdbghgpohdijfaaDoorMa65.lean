/- The document's layer 5: hash. -/
import Derived.Test.YtdbghgpohdijfaaDoorMa64
import Derived.Test.YtdbghgpohdijfaaDoorMa41
import Derived.Test.YtdbghgpohdijfaaDoorMa4
namespace Go.Proofs.YtdbghgpohdijfaaDoor
open Go.RowKit Go.Scr
set_option linter.unusedVariables false
theorem lookP_first : ∀ {K : List (Nat × Nat)} {H : List ByteArray} {i x l : Nat} {h : ByteArray}, (∀ j, j < i → K[j]? ≠ some (x, l)) → K[i]? = some (x, l) → H[i]? = some h → lookP K H x l = some h
  | [], _, _, _, _, _, _, hk, _ => by simp at hk
  | k :: K, [], _, _, _, _, _, _, hh => by simp at hh
  | k :: K, g :: H, 0, x, l, h, _, hk, hh => by
    rw [lookP, if_pos (by simpa using hk)]
    simpa using hh
  | k :: K, g :: H, i + 1, x, l, h, hn, hk, hh => by
    have h0 := hn 0 (by omega)
    rw [List.getElem?_cons_zero] at h0
    rw [lookP, if_neg (fun e => h0 (by rw [e])), lookP_first (i := i) (fun j hj => by have := hn (j + 1) (by omega); rwa [List.getElem?_cons_succ] at this) (by simpa using hk) (by simpa using hh)]
theorem two_inj {a b : Nat} (h : 2 ^ a = 2 ^ b) : a = b := Nat.le_antisymm (two_le' (Nat.le_of_eq h)) (two_le' (Nat.le_of_eq h.symm))
set_option maxRecDepth 100000 in
set_option maxHeartbeats 8000000 in
theorem hash5_step {K : List (Nat × Nat)} {H : List ByteArray} {nk nh ck ch : Nat} {pk ph : Option Addr} (hkl : K.length = nk) (hhl : H.length = nh) (hkh : nk ≤ nh) (hb : nk ≤ 1048576) (l x e : Nat) (w : World) (he : e = x + 2 ^ l) (hx : e ≤ 1099511627776) (hK : Held w 128 2 (.slice pk nk ck) nk (cuV K)) (hH : Txts w (.slice ph nh ch) H)
    (HR : Hid ((x, l) ∉ K → ∃ (mid : Nat) (a b : ByteArray), 2 * mid = x + e ∧ valK nodeS K H x l = nodeS a b ∧
      (∀ w', Below w.heap.size w w' → Calls Tryd.prog 94 #[.agg #[.int .i64 (x : Int), .int .i64 (mid : Int)], .slice pk nk ck, .slice ph nh ch] w' fun o z => o = .returned (.string a) ∧ Below w'.heap.size w' z) ∧
      (∀ w', Below w.heap.size w w' → Calls Tryd.prog 94 #[.agg #[.int .i64 (mid : Int), .int .i64 (e : Int)], .slice pk nk ck, .slice ph nh ch] w' fun o z => o = .returned (.string b) ∧ Below w'.heap.size w' z))) :
    Calls Tryd.prog 94 #[.agg #[.int .i64 (x : Int), .int .i64 (e : Int)], .slice pk nk ck, .slice ph nh ch] w fun o w' => o = .returned (.string (valK nodeS K H x l)) ∧ Below w.heap.size w w' := by
  obtain ⟨w1, hw1⟩ : ∃ z, z = w.alloc (.cells #[.int .i64 (x : Int), .int .i64 (e : Int)] 128) := ⟨_, rfl⟩
  obtain ⟨bs, hbs⟩ : ∃ z, z = w.heap.size := ⟨_, rfl⟩
  have hb1 : Below w.heap.size w w1 := by rw [hw1]; exact (Below.refl _ _).alloc (Nat.le_refl _) _
  have hx1 : w1.heap[bs]? = some (.cells #[.int .i64 (x : Int), .int .i64 (e : Int)] 128 (0, 0)) := by rw [hw1, hbs]; exact heap_alloc_new w _
  obtain ⟨r, hr⟩ : ∃ r, r = valK nodeS K H x l := ⟨_, rfl⟩
  have HRR : Hid (r = valK nodeS K H x l ∧ e = x + 2 ^ l ∧ K.length = nk ∧ H.length = nh ∧ nk ≤ nh) := Lib.hid ⟨hr, he, hkl, hhl, hkh⟩
  rw [← hr]
  have HBX : Hid (∀ w', Below w1.heap.size w1 w' → w'.cell? ⟨bs, 0, none⟩ = some (.int .i64 (x : Int)) ∧ w'.cell? ⟨bs, 1, none⟩ = some (.int .i64 (e : Int))) := Lib.hid (fun w' hb => by
    have h := blk_below hx1 hb (blk_lt hx1)
    exact ⟨cellB h rfl, cellB h rfl⟩)
  have HKC : Hid (∀ i y, K[i]? = some y → ∃ g, pk = some ⟨g, 0, none⟩ ∧ ∀ w', Below w1.heap.size w1 w' → w'.cell? ⟨g, i * 2, none⟩ = some (.int .i64 (y.1 : Int)) ∧ w'.cell? ⟨g, i * 2 + 1, none⟩ = some (.int .i64 ((y.1 + 2 ^ y.2 : Nat) : Int))) := Lib.hid (fun i y hi => by
    have hlt : i < K.length := (List.getElem?_eq_some_iff.mp hi).1
    obtain ⟨g, hg, hc⟩ := held_cellP hK (by omega)
    obtain ⟨a0, a1⟩ := cuV_get hi
    have c0 := hc _ _ a0
    have c1 := hc _ _ a1
    exact ⟨g, hg, fun w' hbw => ⟨((hb1.trans (hbw.mono hb1.size)).cell (block_lt_of_cell c0)).trans c0, ((hb1.trans (hbw.mono hb1.size)).cell (block_lt_of_cell c1)).trans c1⟩⟩)
  have HHC : Hid (∀ i s, H[i]? = some s → ∃ a, ph = some a ∧ ∀ w', Below w1.heap.size w1 w' → w'.cell? (a.add i) = some (.string s)) := Lib.hid (fun i s hs => by
    obtain ⟨p', c', hpe, _, _, hq⟩ := hH
    injection hpe with e1 e2 e3
    obtain ⟨a, ha, hcell⟩ := hq i s hs
    exact ⟨a, e1.trans ha, fun w' hbw => ((hb1.trans (hbw.mono hb1.size)).cell (block_lt_of_cell hcell)).trans hcell⟩)
  have HND : Hid (∀ l r w', Calls Tryd.prog 123 #[.string l, .string r] w' fun e z => ∃ ze, e = .returned (.tuple #[.string (nodeS l r), .int .i64 ze]) ∧ Below w'.heap.size w' z) := Lib.hid (fun l r w' => by
    refine (rnode_any l r w').mono ?_
    rintro e z ⟨rfl, h⟩
    exact ⟨_, rfl, h⟩)
  have HW1 := Lib.hid hw1
  have HBS := Lib.hid hbs
  have HB1 := Lib.hid hb1
  have hnh : nh ≤ 281474976710656 := by obtain ⟨_, _, h, h1, h2, _⟩ := hH; injection h; omega
  have hxb : x ≤ 1099511627776 := Nat.le_trans (by rw [he]; exact Nat.le_add_right _ _) hx
  clear hw1 hbs hb1 hx1 hr he hkl hhl hkh hK hH
  go_enter Tryd.func94, Tryd.ntmps94
  go_upto_region 1 with fail
  rw [← HW1.out, ← HBS.out]
  go_wp2_with fail
  go_loopw [7] (fun u wr => ∃ i : Nat, u = .int .i64 (i : Int) ∧ i ≤ nk ∧ Hid (∀ j, j < i → K[j]? ≠ some (x, l)) ∧ Hid (Below w1.heap.size w1 wr)) (fun u _ => nk - (intOf u).toNat)
  case atStart => exact ⟨0, rfl, Nat.zero_le _, Lib.hid (fun j hj => absurd hj (by omega)), Lib.hid (Below.refl _ _)⟩
  case round =>
    obtain ⟨i, rfl, hi, HN, HB⟩ := hrel
    by_cases hlt : i < nk
    · have hii : (i : Int) < (nk : Int) := by omega
      have hi0 : (0 : Int) ≤ (i : Int) := by omega
      have hinh : (i : Int) < (nh : Int) := by have := HRR.out; omega
      obtain ⟨⟨x1, l1⟩, hk⟩ : ∃ s, K[i]? = some s := ⟨K[i]'(by have := HRR.out; omega), List.getElem?_eq_getElem _⟩
      obtain ⟨s, hs⟩ : ∃ s, H[i]? = some s := ⟨H[i]'(by have := HRR.out; omega), List.getElem?_eq_getElem _⟩
      obtain ⟨g, hpk, hgc⟩ := HKC.out i _ hk
      obtain ⟨a, hph, hac⟩ := HHC.out i s hs
      subst hpk
      subst hph
      obtain ⟨y1, hy1⟩ : ∃ y, y = x1 + 2 ^ l1 := ⟨_, rfl⟩
      obtain ⟨d0, d1⟩ := hgc wr HB.out
      have d1 : wr.cell? ⟨g, i * 2 + 1, none⟩ = some (.int .i64 (y1 : Int)) := by rw [hy1]; exact d1
      have d0 : wr.cell? ⟨g, i * 2, none⟩ = some (.int .i64 (x1 : Int)) := d0
      obtain ⟨d2, d3⟩ := HBX.out wr HB.out
      by_cases heq : (x1, l1) = (x, l)
      · have hsp : ∀ w', (binOp .eql 128 (.agg #[.int .i64 (x1 : Int), .int .i64 (y1 : Int)]) (.agg #[.int .i64 (x : Int), .int .i64 (e : Int)])).run Tryd.prog w' = .ok (.bool true) w' := fun w' => by
          obtain ⟨rfl, rfl⟩ := Prod.mk.inj heq
          rw [span_eql, hy1, HRR.out.2.1]
          simp
        have HRS : Hid (r = s) := Lib.hid (by rw [HRR.out.1]; exact valK_known (lookP_first HN.out (by rw [hk, heq]) hs))
        have hac2 := hac
        have HAC := Lib.hid hac
        clear heq hk hs hy1 hgc hac hac2
        go_upto_region 4 with fail
        have HSC : Hid (wr.drew.cell? ⟨g, i * 2, none⟩ = some (.int .i64 (x1 : Int)) ∧ wr.drew.cell? ⟨g, i * 2 + 1, none⟩ = some (.int .i64 (y1 : Int)) ∧ wr.drew.cell? ⟨bs, 0, none⟩ = some (.int .i64 (x : Int)) ∧ wr.drew.cell? ⟨bs, 1, none⟩ = some (.int .i64 (e : Int))) := Lib.hid ⟨d0, d1, d2, d3⟩
        go_region_held3 (fun w' => w'.cell? ⟨g, i * 2, none⟩ = some (.int .i64 (x1 : Int)) ∧ w'.cell? ⟨g, i * 2 + 1, none⟩ = some (.int .i64 (y1 : Int)) ∧ w'.cell? ⟨bs, 0, none⟩ = some (.int .i64 (x : Int)) ∧ w'.cell? ⟨bs, 1, none⟩ = some (.int .i64 (e : Int))) (exact HSC.out) (fail)
        have HB2 : Hid (Below w1.heap.size w1 wr.drew) := Lib.hid HB.out.drew
        generalize wr.drew = wx at *
        have d5 := HAC.out wx HB2.out
        go_wp2_with fail
        go_ret
        exact ⟨by rw [HRS.out]; rfl, HB1.out.trans (HB2.out.mono HB1.out.size)⟩
      · have hsp : ∀ w', (binOp .eql 128 (.agg #[.int .i64 (x1 : Int), .int .i64 (y1 : Int)]) (.agg #[.int .i64 (x : Int), .int .i64 (e : Int)])).run Tryd.prog w' = .ok (.bool false) w' := fun w' => by
          rw [span_eql]
          congr 2
          rw [Bool.and_eq_false_iff]
          by_cases h : x1 = x
          · right
            rw [beq_eq_false_iff_ne]
            intro h2
            apply heq
            have h3 : y1 = e := by omega
            rw [hy1, HRR.out.2.1, h] at h3
            rw [h, two_inj (Nat.add_left_cancel h3)]
          · left
            rw [beq_eq_false_iff_ne]
            omega
        have HN2 : Hid (∀ j, j < i + 1 → K[j]? ≠ some (x, l)) := Lib.hid (fun j hj => by
          rcases Nat.lt_or_ge j i with h | h
          · exact HN.out j h
          · obtain rfl : j = i := by omega
            rw [hk]
            intro h2
            exact heq (Option.some.inj h2))
        have HLT := Lib.hid hlt
        clear heq hk hs hy1 hgc hac hlt
        go_upto_region 4 with fail
        have HSC : Hid (wr.drew.cell? ⟨g, i * 2, none⟩ = some (.int .i64 (x1 : Int)) ∧ wr.drew.cell? ⟨g, i * 2 + 1, none⟩ = some (.int .i64 (y1 : Int)) ∧ wr.drew.cell? ⟨bs, 0, none⟩ = some (.int .i64 (x : Int)) ∧ wr.drew.cell? ⟨bs, 1, none⟩ = some (.int .i64 (e : Int))) := Lib.hid ⟨d0, d1, d2, d3⟩
        go_region_held3 (fun w' => w'.cell? ⟨g, i * 2, none⟩ = some (.int .i64 (x1 : Int)) ∧ w'.cell? ⟨g, i * 2 + 1, none⟩ = some (.int .i64 (y1 : Int)) ∧ w'.cell? ⟨bs, 0, none⟩ = some (.int .i64 (x : Int)) ∧ w'.cell? ⟨bs, 1, none⟩ = some (.int .i64 (e : Int))) (exact HSC.out) (fail)
        have HB2 : Hid (Below w1.heap.size w1 wr.drew) := Lib.hid HB.out.drew
        generalize wr.drew = wx at *
        go_wp2_with fail
        exact ⟨⟨i + 1, rfl, HLT.out, HN2, HB2⟩, by have := HLT.out; show nk - ((i : Int) + 1).toNat < nk - (i : Int).toNat; omega⟩
    · obtain rfl : i = nk := by omega
      have hii : ¬ (i : Int) < (i : Int) := by omega
      have hnm : (x, l) ∉ K := fun hm => by
        obtain ⟨j, hj, hje⟩ := List.mem_iff_getElem.1 hm
        exact HN.out j (by have := HRR.out; omega) (by rw [List.getElem?_eq_getElem hj, hje])
      obtain ⟨mid, a, b, hmid, hval, ca, cb⟩ := HR.out hnm
      obtain ⟨se, hse⟩ : ∃ s, s = x + e := ⟨_, rfl⟩
      have hsei : (x : Int) + (e : Int) = (se : Int) := by omega
      have hdv : (se : Int).tdiv 2 = (mid : Int) := by rw [Int.tdiv_eq_ediv_of_nonneg (by omega)]; omega
      have hmb : mid ≤ 1099511627776 := by omega
      have hseb : se ≤ 2199023255552 := by omega
      have CA := Lib.hid (ca wr (HB1.out.trans (HB.out.mono HB1.out.size)))
      have CB : Hid (∀ w', Below wr.heap.size wr w' → _) := Lib.hid (fun w' hbw => cb w' ((HB1.out.trans (HB.out.mono HB1.out.size)).trans (hbw.mono (HB1.out.trans (HB.out.mono HB1.out.size)).size)))
      have HV : Hid (r = nodeS a b) := Lib.hid (by rw [HRR.out.1, hval])
      obtain ⟨d2, d3⟩ := HBX.out wr HB.out
      have HWR : Hid (Below w.heap.size w wr) := Lib.hid (HB1.out.trans (HB.out.mono HB1.out.size))
      clear hlt hnm hval ca cb hse hmid HR
      go_wp2_with (first
        | (go_at_call 94; (with_reducible refine CA.out.mono ?_); rintro o z1 ⟨rfl, h⟩; have HZ1 := Lib.hid h; obtain ⟨d6, d7⟩ := HBX.out z1 (HB.out.trans (h.mono HB.out.size)); clear h)
        | (go_at_call 94; (with_reducible refine (CB.out _ HZ1.out).mono ?_); rintro o z2 ⟨rfl, h⟩; have HZ2 : Hid (Below wr.heap.size wr z2) := Lib.hid (HZ1.out.trans (h.mono HZ1.out.size)); clear h)
        | (go_at_call 123; (with_reducible refine (HND.out _ _ _).mono ?_); rintro o z3 ⟨ze, rfl, h⟩; have HZ3 : Hid (Below wr.heap.size wr z3) := Lib.hid (HZ2.out.trans (h.mono HZ2.out.size)); clear h))
      go_ret
      exact ⟨by rw [HV.out]; rfl, HWR.out.trans (HZ3.out.mono HWR.out.size)⟩
theorem hash5_any (K : List (Nat × Nat)) (H : List ByteArray) (nk nh ck ch : Nat) (pk ph : Option Addr) (hkl : K.length = nk) (hhl : H.length = nh) (hkh : nk ≤ nh) (hb : nk ≤ 1048576) : ∀ (l x : Nat) (w : World), Cv K x l → x + 2 ^ l ≤ 1099511627776 → Held w 128 2 (.slice pk nk ck) nk (cuV K) → Txts w (.slice ph nh ch) H →
    Calls Tryd.prog 94 #[.agg #[.int .i64 (x : Int), .int .i64 ((x + 2 ^ l : Nat) : Int)], .slice pk nk ck, .slice ph nh ch] w fun o w' => o = .returned (.string (valK nodeS K H x l)) ∧ Below w.heap.size w w' := by
  intro l
  induction l with
  | zero =>
    intro x w hcv hx hK hH
    exact hash5_step hkl hhl hkh hb 0 x _ w rfl hx hK hH (Lib.hid (fun hn => absurd hcv hn))
  | succ l ih =>
    intro x w hcv hx hK hH
    refine hash5_step hkl hhl hkh hb (l + 1) x _ w rfl hx hK hH (Lib.hid (fun hn => ?_))
    have hpp : 2 ^ (l + 1) = 2 ^ l + 2 ^ l := by rw [Nat.pow_succ]; omega
    have hp0 : 0 < 2 ^ l := Nat.pos_of_ne_zero (by simp)
    rcases hcv with h | ⟨h1, h2⟩
    · exact absurd h hn
    · refine ⟨x + 2 ^ l, _, _, by omega, valK_halves (lookP_none hn), fun w' hbw => ih x w' h1 (by omega) (hK.below hbw) (hH.below hbw (Nat.le_refl _)), fun w' hbw => ?_⟩
      have := ih (x + 2 ^ l) w' h2 (by omega) (hK.below hbw) (hH.below hbw (Nat.le_refl _))
      rwa [show x + 2 ^ l + 2 ^ l = x + 2 ^ (l + 1) by omega] at this
end Go.Proofs.YtdbghgpohdijfaaDoor
/- A range that grows in its box: law. -/
namespace Go.Proofs.YtdbghgpohdijfaaDoor
open Go.RowKit Go.Scr
set_option linter.unusedVariables false
/-- a range in its box, its list a new one -/
structure RbI (w0 wr : World) (bx : Nat) (b e : Int) (v : Value) (n : Nat) (K : List ByteArray) : Prop where
  k : w0.grownBy wr (some bx)
  x : wr.heap[bx]? = some (.cells #[.int .i64 b, .int .i64 e, v] 68 (0, 0))
  h : Held wr 9 1 v n (K.map Value.string)
  o : ∀ g, v.ownBlock = some g → w0.heap.size ≤ g
  lt : bx < w0.heap.size
theorem RbI.bel {w w0 wr : World} {bx : Nat} {b e : Int} {v : Value} {n : Nat} {K : List ByteArray} (H : RbI w0 wr bx b e v n K) (hw : Below w.heap.size w w0) (hx : w.heap.size ≤ bx) : Below w.heap.size w wr :=
  ⟨H.k.os.trans hw.os, H.k.tape.trans hw.tape, H.k.output.trans hw.output, Nat.le_trans hw.size H.k.size, fun i hi => (H.k.block i (Nat.lt_of_lt_of_le hi hw.size) (fun e => by have := Option.some.inj e; omega)).trans (hw.block i hi)⟩
theorem RbI.below {w0 wr w' : World} {bx : Nat} {b e : Int} {v : Value} {n : Nat} {K : List ByteArray} (H : RbI w0 wr bx b e v n K) (hb : Below wr.heap.size wr w') : RbI w0 w' bx b e v n K :=
  ⟨⟨hb.os.trans H.k.os, hb.tape.trans H.k.tape, hb.output.trans H.k.output, Nat.le_trans H.k.size hb.size, fun i hi hne => (hb.block i (Nat.lt_of_lt_of_le hi H.k.size)).trans (H.k.block i hi hne)⟩, blk_below H.x hb (blk_lt H.x), H.h.below hb, H.o, H.lt⟩
theorem RbI.cell {w0 wr : World} {bx : Nat} {b e : Int} {v : Value} {n : Nat} {K : List ByteArray} (H : RbI w0 wr bx b e v n K) {p : Addr} {u : Value} (hc : w0.cell? p = some u) (hne : p.block ≠ bx) : wr.cell? p = some u :=
  (World.cell?_of_block (H.k.block p.block (block_lt_of_cell hc) (fun e => hne (Option.some.inj e)))).trans hc
theorem RbI.held {w0 wr : World} {bx : Nat} {b e : Int} {v : Value} {n : Nat} {K : List ByteArray} (H : RbI w0 wr bx b e v n K) {T sz m : Nat} {u : Value} {xs : List Value} (hu : Held w0 T sz u m xs) (hne : ∀ g, u.ownBlock = some g → g ≠ bx) : Held wr T sz u m xs :=
  hu.keep fun g hg => H.k.block g (hu.lt hg) (fun e => hne g hg (Option.some.inj e))
theorem RbI.push {w0 wr w' : World} {bx : Nat} {b e : Int} {v v' : Value} {n : Nat} {K : List ByteArray} {s : ByteArray} {cs : Array Value} {T : TypeId} (H : RbI w0 wr bx b e v n K) (g : Grew 9 1 (wr.alloc (.cells cs T)) v n 1 (K.map Value.string) [.string s] v' w') :
    w'.heap[bx]? = some (.cells #[.int .i64 b, .int .i64 e, v] 68 (0, 0)) ∧ RbI w0 (w'.setCell ⟨bx, 2, none⟩ v') bx b e v' (n + 1) (K ++ [s]) ∧ ∀ i, i < w0.heap.size → w'.heap[i]? = wr.heap[i]? := by
  have hb0 : Below wr.heap.size wr (wr.alloc (.cells cs T)) := (Below.refl _ _).alloc (Nat.le_refl _) _
  have hgr := g.grown
  have hk := H.k.size
  have hlt := H.lt
  have hkeep : ∀ i, i < w0.heap.size → w'.heap[i]? = wr.heap[i]? := fun i hi => (hgr.block i (Nat.lt_of_lt_of_le (Nat.lt_of_lt_of_le hi hk) hb0.size) (fun e => by have := H.o i e.symm; omega)).trans (hb0.block i (Nat.lt_of_lt_of_le hi hk))
  have hx : w'.heap[bx]? = some (.cells #[.int .i64 b, .int .i64 e, v] 68 (0, 0)) := (hkeep bx hlt).trans H.x
  have hset : ∀ i, i ≠ bx → (w'.setCell ⟨bx, 2, none⟩ v').heap[i]? = w'.heap[i]? := fun i hi => Below.heap_setCell _ ⟨bx, 2, none⟩ _ i hi
  have hown : ∀ q, v'.ownBlock = some q → w0.heap.size ≤ q := fun q hq => by
    rcases g.at with ⟨e, _⟩ | ⟨e, _⟩
    · exact H.o q (by rw [← e]; exact hq)
    · rw [hq] at e
      have h1 := Option.some.inj e
      have h2 := hb0.size
      omega
  refine ⟨hx, ⟨⟨?_, ?_, ?_, ?_, fun i hi hne => ?_⟩, ?_, ?_, hown, hlt⟩, hkeep⟩
  · exact hgr.os.trans (hb0.os.trans H.k.os)
  · exact hgr.tape.trans (hb0.tape.trans H.k.tape)
  · exact hgr.output.trans (hb0.output.trans H.k.output)
  · have h1 := hgr.size
    have h2 := hb0.size
    simp only [World.setCell, Array.size_modify]
    omega
  · rw [hset i (fun e => hne (by rw [e])), hkeep i hi]
    exact H.k.block i hi hne
  · exact blk_set hx 2 v'
  · rw [List.map_append]
    exact g.held.keep fun q hq => hset q (fun e => by have := hown q hq; omega)
end Go.Proofs.YtdbghgpohdijfaaDoor
/- The document's Compact (printed by gen_fsd.py). -/
namespace Go.Proofs.YtdbghgpohdijfaaDoor
open Go.RowKit Go.Scr
set_option linter.unusedVariables false
theorem set_one5 {w : World} {bx : Nat} {u : Value} {p : Addr} (h : p.block ≠ bx) : (w.setCell ⟨bx, 2, none⟩ u).cell? p = w.cell? p :=
  World.cell?_of_block (Below.heap_setCell _ ⟨bx, 2, none⟩ _ p.block h)
/-- Compact's answer -/
def CmO (w : World) (f : Int) (n : Nat) (L : List ByteArray) (E : Int) (o : Ending) (w' : World) : Prop := ∃ (b e : Int) (KL : List ByteArray), ((E ≠ 0 ∧ b = 0 ∧ e = 0 ∧ KL = []) ∨ (E = 0 ∧ b = f ∧ e = f + n ∧ KL = cmT f.toNat L)) ∧ RgP w b e KL E o w'
theorem CmO.err {w : World} {f : Int} {n : Nat} {L : List ByteArray} {E : Int} {o : Ending} {w' : World} (hE : E ≠ 0) (h : RgP w 0 0 [] E o w') : CmO w f n L E o w' := ⟨0, 0, [], .inl ⟨hE, rfl, rfl, rfl⟩, h⟩
theorem CmO.ok {w : World} {f : Int} {n : Nat} {L : List ByteArray} {o : Ending} {w' : World} (b e : Int) (KL : List ByteArray) (hb : b = f) (he : e = f + n) (hK : KL = cmT f.toNat L) (h : RgP w b e KL 0 o w') : CmO w f n L 0 o w' := ⟨b, e, KL, .inr ⟨rfl, hb, he, hK⟩, h⟩
set_option maxRecDepth 100000 in
set_option maxHeartbeats 16000000 in
theorem compact5_any {w : World} {f : Int} {v : Value} {L : List ByteArray} (hv : Txts w v L) :
    Calls Tryd.prog 32 #[.int .i64 f, v] w (CmO w f L.length L (cmE f L)) := by
  obtain ⟨bs, hbs⟩ : ∃ x, x = w.heap.size := ⟨_, rfl⟩
  obtain ⟨w1, hw1⟩ : ∃ x, x = w.alloc (.cells #[.int .i64 0, .int .i64 0, .slice none 0 0] 68) := ⟨_, rfl⟩
  have hb1 : Below w.heap.size w w1 := by rw [hw1]; exact (Below.refl _ _).alloc (Nat.le_refl _) _
  have hxs : w1.heap[bs]? = some (.cells #[.int .i64 0, .int .i64 0, .slice none 0 0] 68 (0, 0)) := by rw [hw1, hbs]; exact heap_alloc_new w _
  obtain ⟨ok, hok⟩ : ∃ b, b = ok32 L := ⟨_, rfl⟩
  have CF : Hid (Calls Tryd.prog 90 #[v] w1 fun e w' => e = .returned (.bool ok) ∧ w' = w1) := Lib.hid (by rw [hok]; exact hashes5_any v L w1 (hv.below hb1 (Nat.le_refl _)))
  have HTX : Hid (∀ w', Below w.heap.size w w' → Txts w' v L) := Lib.hid (fun w' hb => hv.below hb (Nat.le_refl _))
  obtain ⟨n, hn⟩ : ∃ n, n = L.length := ⟨_, rfl⟩
  obtain ⟨E, hE⟩ : ∃ E, E = cmE f L := ⟨_, rfl⟩
  have hE2 : E = if f < 0 ∨ 1099511627776 < f ∨ 4096 < n then 1 else if 1099511627776 < f + n then 53 else if ok = false then 52 else 0 := by rw [hE, hn, hok]; rfl
  rw [← hE, ← hn]
  have HEE := Lib.hid hE2
  have HOK : Hid (ok = ok32 L ∧ n = L.length) := Lib.hid ⟨hok, hn⟩
  obtain ⟨p, c, rfl, hn1, hn2⟩ : ∃ p c, v = .slice p n c ∧ n ≤ c ∧ n ≤ 281474976710656 := by obtain ⟨p, c, h, h1, h2, _⟩ := hv; exact ⟨p, c, by rw [h, hn], by omega, by omega⟩
  have k0 : w1.cell? ⟨bs, 0, none⟩ = some (.int .i64 0) := cellB hxs rfl
  have k1 : w1.cell? ⟨bs, 1, none⟩ = some (.int .i64 0) := cellB hxs rfl
  have k2 : w1.cell? ⟨bs, 2, none⟩ = some (.slice none 0 0) := cellB hxs rfl
  have f0 : w1.frozen? ⟨bs, 0, none⟩ = false := frozB hxs
  have f1 : w1.frozen? ⟨bs, 1, none⟩ = false := frozB hxs
  have f2 : w1.frozen? ⟨bs, 2, none⟩ = false := frozB hxs
  have HX6 := Lib.hid (blk_set3 (x := .int .i64 0) (y := .int .i64 0) (z := .slice none 0 0) hxs)
  have HEND : Hid (∀ E : Int, ∀ o, o = .returned (.tuple #[.agg #[.int .i64 0, .int .i64 0, .slice none 0 0], .int .i64 E]) → RgP w 0 0 [] E o (((w1.setCell ⟨bs, 0, none⟩ (.int .i64 0)).setCell ⟨bs, 1, none⟩ (.int .i64 0)).setCell ⟨bs, 2, none⟩ (.slice none 0 0))) := Lib.hid (fun E o ho => ⟨_, ho, zero3_end hb1 (Below.refl _ _) (by omega) _ _ _, ⟨rfl, .inl ⟨rfl, rfl⟩⟩, fun g hg => nomatch hg⟩)
  have HW1 := Lib.hid hw1
  have HBS := Lib.hid hbs
  have HXS := Lib.hid hxs
  have HB1 := Lib.hid hb1
  clear hv hn hE hE2 hbs hw1 hb1 hxs hok
  by_cases hp0 : f < 0
  · obtain rfl : E = 1 := by rw [HEE.out]; exact if_pos (.inl hp0)
    go_enter Tryd.func32, Tryd.ntmps32
    go_upto_region 1 with fail
    rw [← HW1.out, ← HBS.out]
    go_wp2_with fail
    have m0 := cellB (k := 0) HX6.out rfl
    have m1 := cellB (k := 1) HX6.out rfl
    have m2 := cellB (k := 2) HX6.out rfl
    refine bodyPost_ret (v := .tuple #[.agg #[.int .i64 0, .int .i64 0, .slice none 0 0], .int .i64 1]) (by simp [results, Tryd.results32, go_sem, m0, m1, m2]) rfl ?_
    exact CmO.err (by decide) (HEND.out 1 _ rfl)
  by_cases hp1 : 1099511627776 < f
  · obtain rfl : E = 1 := by rw [HEE.out]; exact if_pos (.inr (.inl hp1))
    go_enter Tryd.func32, Tryd.ntmps32
    go_upto_region 1 with fail
    rw [← HW1.out, ← HBS.out]
    go_wp2_with fail
    have m0 := cellB (k := 0) HX6.out rfl
    have m1 := cellB (k := 1) HX6.out rfl
    have m2 := cellB (k := 2) HX6.out rfl
    refine bodyPost_ret (v := .tuple #[.agg #[.int .i64 0, .int .i64 0, .slice none 0 0], .int .i64 1]) (by simp [results, Tryd.results32, go_sem, m0, m1, m2]) rfl ?_
    exact CmO.err (by decide) (HEND.out 1 _ rfl)
  by_cases h4 : 4096 < n
  · obtain rfl : E = 1 := by rw [HEE.out]; exact if_pos (.inr (.inr h4))
    have h4i : (4096 : Int) < (n : Int) := by omega
    clear h4
    go_enter Tryd.func32, Tryd.ntmps32
    go_upto_region 1 with fail
    rw [← HW1.out, ← HBS.out]
    go_wp2_with fail
    have m0 := cellB (k := 0) HX6.out rfl
    have m1 := cellB (k := 1) HX6.out rfl
    have m2 := cellB (k := 2) HX6.out rfl
    refine bodyPost_ret (v := .tuple #[.agg #[.int .i64 0, .int .i64 0, .slice none 0 0], .int .i64 1]) (by simp [results, Tryd.results32, go_sem, m0, m1, m2]) rfl ?_
    exact CmO.err (by decide) (HEND.out 1 _ rfl)
  have h4i : ¬ (4096 : Int) < (n : Int) := by omega
  by_cases h5 : 1099511627776 < f + (n : Int)
  · obtain rfl : E = 53 := by rw [HEE.out, if_neg (by omega)]; exact if_pos h5
    clear h4
    go_enter Tryd.func32, Tryd.ntmps32
    go_upto_region 1 with fail
    rw [← HW1.out, ← HBS.out]
    go_wp2_with fail
    have m0 := cellB (k := 0) HX6.out rfl
    have m1 := cellB (k := 1) HX6.out rfl
    have m2 := cellB (k := 2) HX6.out rfl
    refine bodyPost_ret (v := .tuple #[.agg #[.int .i64 0, .int .i64 0, .slice none 0 0], .int .i64 53]) (by simp [results, Tryd.results32, go_sem, m0, m1, m2]) rfl ?_
    exact CmO.err (by decide) (HEND.out 53 _ rfl)
  cases ok with
  | false =>
    obtain rfl : E = 52 := by rw [HEE.out, if_neg (by omega), if_neg h5]; exact if_pos rfl
    clear h4
    go_enter Tryd.func32, Tryd.ntmps32
    go_upto_region 1 with fail
    rw [← HW1.out, ← HBS.out]
    go_wp2_with (go_at_call 90; with_reducible refine CF.out.mono ?_; rintro o w' ⟨rfl, hww⟩; rw [hww]; clear hww w')
    have m0 := cellB (k := 0) HX6.out rfl
    have m1 := cellB (k := 1) HX6.out rfl
    have m2 := cellB (k := 2) HX6.out rfl
    refine bodyPost_ret (v := .tuple #[.agg #[.int .i64 0, .int .i64 0, .slice none 0 0], .int .i64 52]) (by simp [results, Tryd.results32, go_sem, m0, m1, m2]) rfl ?_
    exact CmO.err (by decide) (HEND.out 52 _ rfl)
  | true =>
    obtain rfl : E = 0 := by rw [HEE.out, if_neg (by omega), if_neg h5, if_neg (by decide)]
    obtain ⟨m, rfl⟩ : ∃ m : Nat, f = m := ⟨f.toNat, by omega⟩
    obtain ⟨e, he⟩ : ∃ e, e = m + n := ⟨_, rfl⟩
    have hmn : (m : Int) + (n : Int) = (e : Int) := by omega
    have heb : e ≤ 1099511627776 := by omega
    have hme : m ≤ e := by omega
    have h32 : ∀ s ∈ L, s.size = 32 := fun s hs => by
      have h := HOK.out.1.symm
      unfold ok32 at h
      rw [List.all_eq_true] at h
      simpa using h s hs
    obtain ⟨KL, hK⟩ : ∃ KL, KL = cmT m L := ⟨_, rfl⟩
    obtain ⟨A, hA⟩ : ∃ A, A = cutA m e := ⟨_, rfl⟩
    obtain ⟨na, hna⟩ : ∃ x, x = A.length := ⟨_, rfl⟩
    have hna80 : na ≤ 80 := by rw [hna, hA]; exact cutA_80 heb
    have HKA : Hid (KL.length = na ∧ ∀ (j : Nat) (x : Nat × Nat), A[j]? = some x → KL[j]? = some (valF L m x.1 x.2)) := Lib.hid (by
      have h1 : KL = A.map fun x => valF L m x.1 x.2 := by rw [hK, hA, he, HOK.out.2]; unfold cmT nodesA rowA; rw [List.map_map]; rfl
      exact ⟨by rw [h1, List.length_map, hna], fun j x hx => by rw [h1, List.getElem?_map, hx]; rfl⟩)
    have HAI : Hid (A.length = na ∧ ∀ (j : Nat) (x : Nat × Nat), A[j]? = some x → m ≤ x.1 ∧ x.1 + 2 ^ x.2 ≤ e) := Lib.hid ⟨hna.symm, fun j x hx => by
      have := cutA_in _ m rfl (show x ∈ cutA m e by rw [← hA]; exact List.mem_of_getElem? hx)
      exact ⟨this.1, this.2.1⟩⟩
    have HPOST : Hid ((m : Int) + (n : Int) = (e : Int) ∧ KL = cmT m L ∧ e = m + n ∧ n ≤ c) := Lib.hid ⟨hmn, hK, he, hn1⟩
    have CC : Hid (∀ w', Calls Tryd.prog 74 #[.int .i64 (m : Int), .int .i64 (e : Int)] w' fun o z => ∃ u, o = .returned u ∧ CwI w' z u na A) := Lib.hid (fun w' => by rw [hna, hA]; exact cut5_any m e w' hme heb)
    have CR : Hid (∀ x1 l1 p' w', m ≤ x1 → x1 + 2 ^ l1 ≤ e → (x1 - m < x1 - m + 2 ^ l1 → p' = p.map (·.add (x1 - m))) → Below w.heap.size w w' → Calls Tryd.prog 91 #[.slice p' (x1 - m + 2 ^ l1 - (x1 - m)) (c - (x1 - m))] w' fun o z => o = .returned (.string (valF L m x1 l1)) ∧ Below w'.heap.size w' z) := Lib.hid (fun x1 l1 p' w' h1 h2 hp hb => by
      have hpw : 0 < 2 ^ l1 := Nat.pos_of_ne_zero (by simp)
      have hLn := HOK.out.2
      have ht := txts_mid (p' := p') (b := x1 - m) (i := x1 - m + 2 ^ l1) (k := x1 - m + 2 ^ l1 - (x1 - m)) (c' := c - (x1 - m)) (HTX.out w' hb) (by omega) (by omega) rfl (by omega) (by omega) hp
      exact R_any _ _ _ _ w' ht (by rw [List.length_take, List.length_drop]; omega) (by omega))
    clear hp0 hp1 h4 h5 hK hA hna he h32
    go_enter Tryd.func32, Tryd.ntmps32
    go_upto_region 1 with fail
    rw [← HW1.out, ← HBS.out]
    go_upto_region 8 with (go_at_call 90; with_reducible refine CF.out.mono ?_; rintro o w' ⟨rfl, hww⟩; rw [hww]; clear hww w')
    clear CF HX6 HEND k0 k1 k2 f0 f1 f2
    obtain ⟨w2, hw2⟩ : ∃ x, x = w1.alloc (.cells #[.int .i64 (m : Int), .int .i64 (e : Int), .slice none 0 0] 68) := ⟨_, rfl⟩
    obtain ⟨bx, hbx⟩ : ∃ x, x = w1.heap.size := ⟨_, rfl⟩
    have hb2 : Below w1.heap.size w1 w2 := by rw [hw2]; exact (Below.refl _ _).alloc (Nat.le_refl _) _
    have hx2 : w2.heap[bx]? = some (.cells #[.int .i64 (m : Int), .int .i64 (e : Int), .slice none 0 0] 68 (0, 0)) := by rw [hw2, hbx]; exact heap_alloc_new w1 _
    have c0 : w2.cell? ⟨bx, 0, none⟩ = some (.int .i64 (m : Int)) := cellB hx2 rfl
    have c1 : w2.cell? ⟨bx, 1, none⟩ = some (.int .i64 (e : Int)) := cellB hx2 rfl
    have HW2 := Lib.hid hw2
    have HBX := Lib.hid hbx
    have HX2 := Lib.hid hx2
    have HB2 : Hid (Below w1.heap.size w1 w2 ∧ bs < bx) := Lib.hid ⟨hb2, by rw [hbx]; exact blk_lt HXS.out⟩
    clear hw2 hbx hb2 hx2
    go_upto_region 9 with fail
    rw [← HW2.out, ← HBX.out]
    go_upto_region 10 with (go_at_call 74; (with_reducible refine (CC.out _).mono ?_); rintro o w3 ⟨u3, rfl, h⟩; obtain ⟨p3, c3, rfl, _⟩ := h.h.cells; have HC3 := Lib.hid h; clear h)
    clear c0 c1 CC
    have HR0 : Hid (RbI w3 w3 bx m e (.slice none 0 0) 0 (KL.take 0)) := Lib.hid ⟨only_refl _ _, blk_below HX2.out HC3.out.b (blk_lt HX2.out), ⟨rfl, .inl ⟨rfl, rfl⟩⟩, (fun g hg => nomatch hg), Nat.lt_of_lt_of_le (blk_lt HX2.out) HC3.out.b.size⟩
    have HBW : Hid (Below w.heap.size w w3 ∧ w.heap.size ≤ bx ∧ Below w1.heap.size w1 w3) := Lib.hid (by
      have h13 := HB2.out.1.trans (HC3.out.b.mono HB2.out.1.size)
      exact ⟨HB1.out.trans (h13.mono HB1.out.size), by rw [HBX.out]; exact HB1.out.size, h13⟩)
    have HLC : Hid (∀ (j : Nat) (x : Nat × Nat), A[j]? = some x → ∃ g, p3 = some ⟨g, 0, none⟩ ∧ g ≠ bx ∧ g < w3.heap.size ∧ w3.cell? ⟨g, j * 2, none⟩ = some (.int .i64 (x.1 : Int)) ∧ w3.cell? ⟨g, j * 2 + 1, none⟩ = some (.int .i64 ((x.1 + 2 ^ x.2 : Nat) : Int))) := Lib.hid (fun j x hx => by
      have hlt : j < A.length := (List.getElem?_eq_some_iff.mp hx).1
      obtain ⟨g, hg, hc⟩ := held_cellP HC3.out.h (by have := HAI.out.1; omega)
      obtain ⟨a0, a1⟩ := cuV_get hx
      have c0 := hc _ _ a0
      have c1 := hc _ _ a1
      refine ⟨g, hg, ?_, block_lt_of_cell c0, c0, c1⟩
      have h1 := HC3.out.o g (by rw [hg]; rfl)
      have h2 := blk_lt HX2.out
      omega)
    go_wp2_with fail
    go_loopw [9] (fun i wr => ∃ (j : Nat) (q : Option Addr) (d : Nat), i = .int .i64 (j : Int) ∧ j ≤ na ∧ Hid (RbI w3 wr bx m e (.slice q j d) j (KL.take j))) (fun i _ => na - (intOf i).toNat)
    case atStart => exact ⟨0, none, 0, rfl, Nat.zero_le _, HR0⟩
    case round =>
      clear HR0
      obtain ⟨j, q, d, rfl, hj, HI⟩ := hrel
      by_cases hlt : j < na
      · have hji : (j : Int) < (na : Int) := by omega
        have hj0 : (0 : Int) ≤ (j : Int) := by omega
        obtain ⟨⟨x1, l1⟩, hx⟩ : ∃ x, A[j]? = some x := ⟨A[j]'(by have := HAI.out.1; omega), List.getElem?_eq_getElem _⟩
        obtain ⟨hm1, hm2⟩ := HAI.out.2 j _ hx
        have hm1 : m ≤ x1 := hm1
        have hm2 : x1 + 2 ^ l1 ≤ e := hm2
        obtain ⟨g, hpg, hgx, hg3, d0, d1⟩ := HLC.out j _ hx
        subst hpg
        obtain ⟨y1, hy1⟩ : ∃ y, y = x1 + 2 ^ l1 := ⟨_, rfl⟩
        have d0 : w3.cell? ⟨g, j * 2, none⟩ = some (.int .i64 (x1 : Int)) := d0
        have d1 : w3.cell? ⟨g, j * 2 + 1, none⟩ = some (.int .i64 (y1 : Int)) := by rw [hy1]; exact d1
        obtain ⟨a1, ha1⟩ : ∃ a, a = x1 - m := ⟨_, rfl⟩
        obtain ⟨a2, ha2⟩ : ∃ a, a = a1 + 2 ^ l1 := ⟨_, rfl⟩
        have s1 : (x1 : Int) - (m : Int) = (a1 : Int) := by omega
        have s2 : (y1 : Int) - (m : Int) = (a2 : Int) := by omega
        have hpw : 0 < 2 ^ l1 := Nat.pos_of_ne_zero (by simp)
        have w1a : IntKind.i64.wrap (a1 : Int) = (a1 : Int) := IntWalk.i64_in _ (by omega)
        have w2a : IntKind.i64.wrap (a2 : Int) = (a2 : Int) := IntWalk.i64_in _ (by omega)
        have hx1b : x1 ≤ 1099511627776 := by omega
        have hy1b : y1 ≤ 1099511627776 := by omega
        have hac : a2 ≤ c := by have := HPOST.out; omega
        obtain ⟨p8, hsl8, hp8⟩ := slice_mid (p := p) (n := n) (c := c) (b := a1) (i := a2) (by omega) hac
        obtain ⟨rr, hrr⟩ : ∃ r, r = valF L m x1 l1 := ⟨_, rfl⟩
        have HWR : Hid (Below w.heap.size w wr) := Lib.hid (HI.out.bel HBW.out.1 HBW.out.2.1)
        have CRJ : Hid (∀ w', Below wr.heap.size wr w' → Calls Tryd.prog 91 #[.slice p8 (a2 - a1) (c - a1)] w' fun o z => o = .returned (.string rr) ∧ Below w'.heap.size w' z) := Lib.hid (fun w' hb => by
          rw [hrr]
          have := CR.out x1 l1 p8 w' hm1 hm2 (by rw [← ha1, ← ha2]; exact hp8) (HWR.out.trans (hb.mono HWR.out.size))
          rwa [← ha1, ← ha2] at this)
        have HKJ : Hid (KL.take (j + 1) = KL.take j ++ [rr]) := Lib.hid (by rw [List.take_add_one, HKA.out.2 j _ hx, hrr]; rfl)
        have HSX : Hid (∀ w' : World, (∀ i : Nat, i < w3.heap.size → i ≠ bx → w'.heap[i]? = wr.heap[i]?) → w'.cell? ⟨g, j * 2, none⟩ = some (.int .i64 (x1 : Int)) ∧ w'.cell? ⟨g, j * 2 + 1, none⟩ = some (.int .i64 (y1 : Int))) := Lib.hid (fun w' hb => ⟨(World.cell?_of_block (hb g hg3 hgx)).trans (HI.out.cell d0 hgx), (World.cell?_of_block (hb g hg3 hgx)).trans (HI.out.cell d1 hgx)⟩)
        have HXB : Hid (∀ w', Below wr.heap.size wr w' → w'.cell? ⟨bx, 2, none⟩ = some (.slice q j d)) := Lib.hid (fun w' hb => cellB (blk_below HI.out.x hb (blk_lt HI.out.x)) rfl)
        have HONE : Hid (∀ u ∈ [Value.string rr], u.oneCell' = true) := Lib.hid (fun u hu => by rw [List.mem_singleton.1 hu]; rfl)
        have hl1 : (j + 1) * 16 ≤ 140737488355328 := by omega
        have hl2 : j + 1 ≤ 140737488355328 := by omega
        have HBD : Hid (Below wr.heap.size wr wr.drew) := Lib.hid (Below.refl _ _).drew
        have HSZ : Hid (w3.heap.size ≤ wr.heap.size) := Lib.hid HI.out.k.size
        have HS0 := Lib.hid (HSX.out wr.drew (fun i _ _ => rfl))
        have e0 : wr.drew.cell? ⟨bx, 2, none⟩ = some (.slice q j d) := HXB.out _ HBD.out
        have HLT := Lib.hid hlt
        have HGX : Hid (g ≠ bx) := Lib.hid hgx
        clear hlt hx hm1 hm2 hgx hg3 d0 d1 hy1 ha1 ha2 hpw hac hp8 hrr hj
        go_upto_region 13 with fail
        refine wp_region_held_drew (S := fun w' => w'.cell? ⟨g, j * 2, none⟩ = some (.int .i64 (x1 : Int)) ∧ w'.cell? ⟨g, j * 2 + 1, none⟩ = some (.int .i64 (y1 : Int))) (by kernel_rfl) (by first | exact HSD.out _ | exact HSC.out | exact HSB.out _ | exact HSA.out | exact HS0.out) (fun hHeld => ?_)
        refine wpAnyH_take (i := 0) (oi := ⟨_, _, _, _, _, _⟩) (v := ?_) rfl (by kernel_rfl) (by kernel_rfl) (by kernel_rfl) (fun _ _ _ h => h) (Or.inl ⟨by rfl, ?_⟩) hHeld ?_
        rotate_left
        · ((intro w hSw; (try dsimp only at hSw); go_simp) <;> with_reducible rfl)
        try simp only [Act.put, List.setIfInBounds_toArray, List.set_cons_zero, List.set_cons_succ]
        refine wpAnyH_take (i := 2) (oi := ⟨_, _, _, _, _, _⟩) (v := ?_) rfl (by kernel_rfl) (by kernel_rfl) (by kernel_rfl) (fun _ _ _ h => h) (Or.inl ⟨by rfl, ?_⟩) hHeld ?_
        rotate_left
        · ((intro w hSw; (try dsimp only at hSw); go_simp) <;> with_reducible rfl)
        try simp only [Act.put, List.setIfInBounds_toArray, List.set_cons_zero, List.set_cons_succ]
        refine wpAnyH_take (i := 3) (oi := ⟨_, _, _, _, _, _⟩) (v := ?_) rfl (by kernel_rfl) (by kernel_rfl) (by kernel_rfl) (fun _ _ _ h => h) (Or.inl ⟨by rfl, ?_⟩) hHeld ?_
        rotate_left
        · ((intro w hSw; (try dsimp only at hSw); go_simp) <;> with_reducible rfl)
        try simp only [Act.put, List.setIfInBounds_toArray, List.set_cons_zero, List.set_cons_succ]
        refine wpAnyH_take (i := 4) (oi := ⟨_, _, _, _, _, _⟩) (v := ?_) rfl (by kernel_rfl) (by kernel_rfl) (by kernel_rfl) (fun _ _ _ h => h) (Or.inl ⟨by rfl, ?_⟩) hHeld ?_
        rotate_left
        · ((intro w hSw; (try dsimp only at hSw); go_simp) <;> with_reducible rfl)
        try simp only [Act.put, List.setIfInBounds_toArray, List.set_cons_zero, List.set_cons_succ]
        refine wpAnyH_take (i := 5) (oi := ⟨_, _, _, _, _, _⟩) (v := ?_) rfl (by kernel_rfl) (by kernel_rfl) (by kernel_rfl) (fun _ _ _ h => h) (Or.inl ⟨by rfl, ?_⟩) hHeld ?_
        rotate_left
        · ((intro w hSw; (try dsimp only at hSw); go_simp) <;> with_reducible rfl)
        try simp only [Act.put, List.setIfInBounds_toArray, List.set_cons_zero, List.set_cons_succ]
        refine wpAnyH_take (i := 6) (oi := ⟨_, _, _, _, _, _⟩) (v := ?_) rfl (by kernel_rfl) (by kernel_rfl) (by kernel_rfl) (fun _ _ _ h => h) (Or.inl ⟨by rfl, ?_⟩) hHeld ?_
        rotate_left
        · ((intro w hSw; (try dsimp only at hSw); go_simp) <;> with_reducible rfl)
        try simp only [Act.put, List.setIfInBounds_toArray, List.set_cons_zero, List.set_cons_succ]
        refine wpAnyH_take (i := 7) (oi := ⟨_, _, _, _, _, _⟩) (v := ?_) rfl (by kernel_rfl) (by kernel_rfl) (by kernel_rfl) (fun _ _ _ h => h) (Or.inl ⟨by rfl, ?_⟩) hHeld ?_
        rotate_left
        · ((intro w hSw; (try dsimp only at hSw); go_simp) <;> with_reducible rfl)
        try simp only [Act.put, List.setIfInBounds_toArray, List.set_cons_zero, List.set_cons_succ]
        refine wpAnyH_take (i := 8) (oi := ⟨_, _, _, _, _, _⟩) (v := ?_) rfl (by kernel_rfl) (by kernel_rfl) (by kernel_rfl) (fun _ _ _ h => h) (Or.inl ⟨by rfl, ?_⟩) hHeld ?_
        rotate_left
        · ((intro w hSw; (try dsimp only at hSw); go_simp) <;> with_reducible rfl)
        try simp only [Act.put, List.setIfInBounds_toArray, List.set_cons_zero, List.set_cons_succ]
        refine wpAnyH_take (i := 9) (oi := ⟨_, _, _, _, _, _⟩) (v := ?_) rfl (by kernel_rfl) (by kernel_rfl) (by kernel_rfl) (fun _ _ _ h => h) (Or.inl ⟨by rfl, ?_⟩) hHeld ?_
        rotate_left
        · ((intro w hSw; (try dsimp only at hSw); go_simp) <;> with_reducible rfl)
        try simp only [Act.put, List.setIfInBounds_toArray, List.set_cons_zero, List.set_cons_succ]
        refine wpAnyH_take (i := 10) (oi := ⟨_, _, _, _, _, _⟩) (v := ?_) rfl (by kernel_rfl) (by kernel_rfl) (by kernel_rfl) (fun _ _ _ h => h) (Or.inl ⟨by rfl, ?_⟩) hHeld ?_
        rotate_left
        · ((intro w hSw; (try dsimp only at hSw); go_simp) <;> with_reducible rfl)
        try simp only [Act.put, List.setIfInBounds_toArray, List.set_cons_zero, List.set_cons_succ]
        refine wpAnyH_take (i := 11) (oi := ⟨_, _, _, _, _, _⟩) (v := ?_) rfl (by kernel_rfl) (by kernel_rfl) (by kernel_rfl) (fun _ _ _ h => h) (Or.inl ⟨by rfl, ?_⟩) hHeld ?_
        rotate_left
        · ((intro w hSw; (try dsimp only at hSw); go_simp) <;> with_reducible rfl)
        try simp only [Act.put, List.setIfInBounds_toArray, List.set_cons_zero, List.set_cons_succ]
        refine wpAnyH_take (i := 12) (oi := ⟨_, _, _, _, _, _⟩) (v := ?_) rfl (by kernel_rfl) (by kernel_rfl) (by kernel_rfl) (fun _ _ _ h => h) (Or.inl ⟨by rfl, ?_⟩) hHeld ?_
        rotate_left
        · ((intro w hSw; (try dsimp only at hSw); go_simp) <;> with_reducible rfl)
        try simp only [Act.put, List.setIfInBounds_toArray, List.set_cons_zero, List.set_cons_succ]
        refine wpAnyH_take (i := 13) (oi := ⟨_, _, _, _, _, _⟩) (v := ?_) rfl (by kernel_rfl) (by kernel_rfl) (by kernel_rfl) (fun _ _ _ h => h) (Or.inl ⟨by rfl, ?_⟩) hHeld ?_
        rotate_left
        · ((intro w hSw; (try dsimp only at hSw); go_simp) <;> with_reducible rfl)
        try simp only [Act.put, List.setIfInBounds_toArray, List.set_cons_zero, List.set_cons_succ]
        refine wpAnyH_take (i := 14) (oi := ⟨_, _, _, _, _, _⟩) (v := ?_) rfl (by kernel_rfl) (by kernel_rfl) (by kernel_rfl) (fun _ _ _ h => h) (Or.inl ⟨by rfl, ?_⟩) hHeld ?_
        rotate_left
        · ((intro w hSw; (try dsimp only at hSw); go_simp) <;> with_reducible rfl)
        try simp only [Act.put, List.setIfInBounds_toArray, List.set_cons_zero, List.set_cons_succ]
        refine wpAnyH_take (i := 15) (oi := ⟨_, _, _, _, _, _⟩) (v := ?_) rfl (by kernel_rfl) (by kernel_rfl) (by kernel_rfl) (fun _ _ _ h => h) (Or.inl ⟨by rfl, ?_⟩) hHeld ?_
        rotate_left
        · ((intro w hSw; (try dsimp only at hSw); go_simp) <;> with_reducible rfl)
        try simp only [Act.put, List.setIfInBounds_toArray, List.set_cons_zero, List.set_cons_succ]
        refine wpAnyH_take (i := 16) (oi := ⟨_, _, _, _, _, _⟩) (v := ?_) rfl (by kernel_rfl) (by kernel_rfl) (by kernel_rfl) (fun _ _ _ h => h) (Or.inl ⟨by rfl, ?_⟩) hHeld ?_
        rotate_left
        · ((intro w hSw; (try dsimp only at hSw); go_simp) <;> with_reducible rfl)
        try simp only [Act.put, List.setIfInBounds_toArray, List.set_cons_zero, List.set_cons_succ]
        refine wpAnyH_take (i := 17) (oi := ⟨_, _, _, _, _, _⟩) (v := ?_) rfl (by kernel_rfl) (by kernel_rfl) (by kernel_rfl) (fun _ _ _ h => h) (Or.inl ⟨by rfl, ?_⟩) hHeld ?_
        rotate_left
        · ((intro w hSw; (try dsimp only at hSw); go_simp) <;> with_reducible rfl)
        try simp only [Act.put, List.setIfInBounds_toArray, List.set_cons_zero, List.set_cons_succ]
        refine wpAnyH_ready (rs := [1, 18]) (by kernel_rfl) (by simp) ?_
        refine AllReadyH.cons (o := ⟨_, _, _, _, _, _⟩) rfl (fun K hK => ?_) ?_
        rotate_left
        refine AllReadyH.cons (o := ⟨_, _, _, _, _, _⟩) rfl (fun K hK => ?_) ?_
        rotate_left
        · exact AllReadyH.nil
        · go_simp
          refine hK.out _ _ (by first | exact HSD.out _ | exact HSC.out | exact HSB.out _ | exact HSA.out | exact HS0.out) (fun hHeld => ?_)
          clear hK K
          try simp only [Act.put, List.setIfInBounds_toArray, List.set_cons_zero, List.set_cons_succ]
          refine wpAnyH_ready (rs := [18]) (by kernel_rfl) (by simp) ?_
          refine AllReadyH.cons (o := ⟨_, _, _, _, _, _⟩) rfl (fun K hK => ?_) ?_
          rotate_left
          · exact AllReadyH.nil
          go_simp
          go_at_call 91
          with_reducible refine (CRJ.out _ HBD.out).mono ?_
          rintro o y6 ⟨rfl, h⟩
          have HB6 : Hid (Below wr.heap.size wr y6) := Lib.hid (HBD.out.trans (h.mono HBD.out.size))
          have HI6 := Lib.hid (HI.out.below HB6.out)
          have HSA := Lib.hid (HSX.out y6 (fun i hi _ => HB6.out.block i (Nat.lt_of_lt_of_le hi HSZ.out)))
          have HSB : Hid (∀ o, _) := Lib.hid (fun o => HSX.out (y6.alloc o) (fun i hi _ => (HB6.out.alloc HB6.out.size o).block i (Nat.lt_of_lt_of_le hi HSZ.out)))
          have e1 : y6.cell? ⟨bx, 2, none⟩ = some (.slice q j d) := HXB.out _ HB6.out
          have e2 : ∀ o, (y6.alloc o).cell? ⟨bx, 2, none⟩ = some (.slice q j d) := fun o => HXB.out _ (HB6.out.alloc HB6.out.size o)
          have HHD2 : Hid (∀ o, Held (y6.alloc o) 9 1 (.slice q j d) j ((KL.take j).map Value.string)) := Lib.hid (fun o => HI6.out.h.below ((Below.refl _ _).alloc (Nat.le_refl _) _))
          clear h
          refine hK.out _ _ (by first | exact HSD.out _ | exact HSC.out | exact HSB.out _ | exact HSA.out | exact HS0.out) (fun hHeld => ?_)
          clear hK K
          try simp only [Act.put, List.setIfInBounds_toArray, List.set_cons_zero, List.set_cons_succ]
          refine wpAnyH_ready (rs := [19]) (by kernel_rfl) (by simp) ?_
          refine AllReadyH.cons (o := ⟨_, _, _, _, _, _⟩) rfl (fun K hK => ?_) ?_
          rotate_left
          · exact AllReadyH.nil
          go_simp
          skip
          refine hK.out _ _ (by first | exact HSD.out _ | exact HSC.out | exact HSB.out _ | exact HSA.out | exact HS0.out) (fun hHeld => ?_)
          clear hK K
          try simp only [Act.put, List.setIfInBounds_toArray, List.set_cons_zero, List.set_cons_succ]
          refine wpAnyH_ready (rs := [20]) (by kernel_rfl) (by simp) ?_
          refine AllReadyH.cons (o := ⟨_, _, _, _, _, _⟩) rfl (fun K hK => ?_) ?_
          rotate_left
          · exact AllReadyH.nil
          refine step_grew (v := .slice q j d) rfl (.tmp 51) (.tmp 69) rfl Tryd.underlying22 (.string ⟨#[]⟩) 1 info_strT rfl (by decide) [.string rr] 1 ⟨y6.heap.size, 0, none⟩ rfl rfl (HHD2.out _) rfl (by decide) cells_alloc HONE.out hl1 hl2 ?_
          intro v7 w7 hg7
          obtain ⟨p7, c7, rfl, _⟩ := hg7.held.cells
          obtain ⟨hx7, hr7, hk7⟩ := HI6.out.push hg7
          have HR7 := Lib.hid hr7
          have HSC := Lib.hid (HSX.out w7 (fun i hi _ => (hk7 i hi).trans (HB6.out.block i (Nat.lt_of_lt_of_le hi HSZ.out))))
          have HSD : Hid (∀ u, _) := Lib.hid (fun u => HSX.out (w7.setCell ⟨bx, 2, none⟩ u) (fun i hi hne => (Below.heap_setCell _ ⟨bx, 2, none⟩ _ i hne).trans ((hk7 i hi).trans (HB6.out.block i (Nat.lt_of_lt_of_le hi HSZ.out)))))
          have k7 : w7.cell? ⟨bx, 2, none⟩ = some (.slice q j d) := cellB hx7 rfl
          have f7 : w7.frozen? ⟨bx, 2, none⟩ = false := frozB hx7
          clear hg7 hx7 hr7 hk7
          refine hK.out _ _ (by first | exact HSD.out _ | exact HSC.out | exact HSB.out _ | exact HSA.out | exact HS0.out) (fun hHeld => ?_)
          clear hK K
          try simp only [Act.put, List.setIfInBounds_toArray, List.set_cons_zero, List.set_cons_succ]
          refine wpAnyH_take (i := 21) (oi := ⟨_, _, _, _, _, _⟩) (v := ?_) rfl (by kernel_rfl) (by kernel_rfl) (by kernel_rfl) (fun _ _ _ h => h) (Or.inl ⟨by rfl, ?_⟩) hHeld ?_
          rotate_left
          · ((intro w hSw; (try dsimp only at hSw); go_simp) <;> with_reducible rfl)
          try simp only [Act.put, List.setIfInBounds_toArray, List.set_cons_zero, List.set_cons_succ]
          refine wpAnyH_ready (rs := [22]) (by kernel_rfl) (by simp) ?_
          refine AllReadyH.cons (o := ⟨_, _, _, _, _, _⟩) rfl (fun K hK => ?_) ?_
          rotate_left
          · exact AllReadyH.nil
          go_simp
          skip
          refine hK.out _ _ (by first | exact HSD.out _ | exact HSC.out | exact HSB.out _ | exact HSA.out | exact HS0.out) (fun hHeld => ?_)
          clear hK K
          try simp only [Act.put, List.setIfInBounds_toArray, List.set_cons_zero, List.set_cons_succ]
          refine wpAnyH_done (by kernel_rfl) ?_ _
          go_wp2_with fail
          have HRN : Hid (RbI w3 (w7.setCell ⟨bx, 2, none⟩ (.slice p7 (j + 1) c7)) bx m e (.slice p7 (j + 1) c7) (j + 1) (KL.take (j + 1))) := Lib.hid (by rw [HKJ.out]; exact HR7.out)
          first
            | exact ⟨⟨j + 1, p7, c7, rfl, HLT.out, HRN⟩, by have := HLT.out; show na - ((j : Int) + 1).toNat < na - (j : Int).toNat; omega⟩
            | exact ⟨⟨j + 1, by omega, HLT.out, p7, c7, HRN⟩, by have := HLT.out; show na - ((j : Int) + 1).toNat < na - (j : Int).toNat; omega⟩
        · go_simp
          go_at_call 91
          with_reducible refine (CRJ.out _ HBD.out).mono ?_
          rintro o y6 ⟨rfl, h⟩
          have HB6 : Hid (Below wr.heap.size wr y6) := Lib.hid (HBD.out.trans (h.mono HBD.out.size))
          have HI6 := Lib.hid (HI.out.below HB6.out)
          have HSA := Lib.hid (HSX.out y6 (fun i hi _ => HB6.out.block i (Nat.lt_of_lt_of_le hi HSZ.out)))
          have HSB : Hid (∀ o, _) := Lib.hid (fun o => HSX.out (y6.alloc o) (fun i hi _ => (HB6.out.alloc HB6.out.size o).block i (Nat.lt_of_lt_of_le hi HSZ.out)))
          have e1 : y6.cell? ⟨bx, 2, none⟩ = some (.slice q j d) := HXB.out _ HB6.out
          have e2 : ∀ o, (y6.alloc o).cell? ⟨bx, 2, none⟩ = some (.slice q j d) := fun o => HXB.out _ (HB6.out.alloc HB6.out.size o)
          have HHD2 : Hid (∀ o, Held (y6.alloc o) 9 1 (.slice q j d) j ((KL.take j).map Value.string)) := Lib.hid (fun o => HI6.out.h.below ((Below.refl _ _).alloc (Nat.le_refl _) _))
          clear h
          refine hK.out _ _ (by first | exact HSD.out _ | exact HSC.out | exact HSB.out _ | exact HSA.out | exact HS0.out) (fun hHeld => ?_)
          clear hK K
          try simp only [Act.put, List.setIfInBounds_toArray, List.set_cons_zero, List.set_cons_succ]
          refine wpAnyH_ready (rs := [1, 19]) (by kernel_rfl) (by simp) ?_
          refine AllReadyH.cons (o := ⟨_, _, _, _, _, _⟩) rfl (fun K hK => ?_) ?_
          rotate_left
          refine AllReadyH.cons (o := ⟨_, _, _, _, _, _⟩) rfl (fun K hK => ?_) ?_
          rotate_left
          · exact AllReadyH.nil
          · go_simp
            refine hK.out _ _ (by first | exact HSD.out _ | exact HSC.out | exact HSB.out _ | exact HSA.out | exact HS0.out) (fun hHeld => ?_)
            clear hK K
            try simp only [Act.put, List.setIfInBounds_toArray, List.set_cons_zero, List.set_cons_succ]
            refine wpAnyH_ready (rs := [19]) (by kernel_rfl) (by simp) ?_
            refine AllReadyH.cons (o := ⟨_, _, _, _, _, _⟩) rfl (fun K hK => ?_) ?_
            rotate_left
            · exact AllReadyH.nil
            go_simp
            skip
            refine hK.out _ _ (by first | exact HSD.out _ | exact HSC.out | exact HSB.out _ | exact HSA.out | exact HS0.out) (fun hHeld => ?_)
            clear hK K
            try simp only [Act.put, List.setIfInBounds_toArray, List.set_cons_zero, List.set_cons_succ]
            refine wpAnyH_ready (rs := [20]) (by kernel_rfl) (by simp) ?_
            refine AllReadyH.cons (o := ⟨_, _, _, _, _, _⟩) rfl (fun K hK => ?_) ?_
            rotate_left
            · exact AllReadyH.nil
            refine step_grew (v := .slice q j d) rfl (.tmp 51) (.tmp 69) rfl Tryd.underlying22 (.string ⟨#[]⟩) 1 info_strT rfl (by decide) [.string rr] 1 ⟨y6.heap.size, 0, none⟩ rfl rfl (HHD2.out _) rfl (by decide) cells_alloc HONE.out hl1 hl2 ?_
            intro v7 w7 hg7
            obtain ⟨p7, c7, rfl, _⟩ := hg7.held.cells
            obtain ⟨hx7, hr7, hk7⟩ := HI6.out.push hg7
            have HR7 := Lib.hid hr7
            have HSC := Lib.hid (HSX.out w7 (fun i hi _ => (hk7 i hi).trans (HB6.out.block i (Nat.lt_of_lt_of_le hi HSZ.out))))
            have HSD : Hid (∀ u, _) := Lib.hid (fun u => HSX.out (w7.setCell ⟨bx, 2, none⟩ u) (fun i hi hne => (Below.heap_setCell _ ⟨bx, 2, none⟩ _ i hne).trans ((hk7 i hi).trans (HB6.out.block i (Nat.lt_of_lt_of_le hi HSZ.out)))))
            have k7 : w7.cell? ⟨bx, 2, none⟩ = some (.slice q j d) := cellB hx7 rfl
            have f7 : w7.frozen? ⟨bx, 2, none⟩ = false := frozB hx7
            clear hg7 hx7 hr7 hk7
            refine hK.out _ _ (by first | exact HSD.out _ | exact HSC.out | exact HSB.out _ | exact HSA.out | exact HS0.out) (fun hHeld => ?_)
            clear hK K
            try simp only [Act.put, List.setIfInBounds_toArray, List.set_cons_zero, List.set_cons_succ]
            refine wpAnyH_take (i := 21) (oi := ⟨_, _, _, _, _, _⟩) (v := ?_) rfl (by kernel_rfl) (by kernel_rfl) (by kernel_rfl) (fun _ _ _ h => h) (Or.inl ⟨by rfl, ?_⟩) hHeld ?_
            rotate_left
            · ((intro w hSw; (try dsimp only at hSw); go_simp) <;> with_reducible rfl)
            try simp only [Act.put, List.setIfInBounds_toArray, List.set_cons_zero, List.set_cons_succ]
            refine wpAnyH_ready (rs := [22]) (by kernel_rfl) (by simp) ?_
            refine AllReadyH.cons (o := ⟨_, _, _, _, _, _⟩) rfl (fun K hK => ?_) ?_
            rotate_left
            · exact AllReadyH.nil
            go_simp
            skip
            refine hK.out _ _ (by first | exact HSD.out _ | exact HSC.out | exact HSB.out _ | exact HSA.out | exact HS0.out) (fun hHeld => ?_)
            clear hK K
            try simp only [Act.put, List.setIfInBounds_toArray, List.set_cons_zero, List.set_cons_succ]
            refine wpAnyH_done (by kernel_rfl) ?_ _
            go_wp2_with fail
            have HRN : Hid (RbI w3 (w7.setCell ⟨bx, 2, none⟩ (.slice p7 (j + 1) c7)) bx m e (.slice p7 (j + 1) c7) (j + 1) (KL.take (j + 1))) := Lib.hid (by rw [HKJ.out]; exact HR7.out)
            first
              | exact ⟨⟨j + 1, p7, c7, rfl, HLT.out, HRN⟩, by have := HLT.out; show na - ((j : Int) + 1).toNat < na - (j : Int).toNat; omega⟩
              | exact ⟨⟨j + 1, by omega, HLT.out, p7, c7, HRN⟩, by have := HLT.out; show na - ((j : Int) + 1).toNat < na - (j : Int).toNat; omega⟩
          · go_simp
            refine hK.out _ _ (by first | exact HSD.out _ | exact HSC.out | exact HSB.out _ | exact HSA.out | exact HS0.out) (fun hHeld => ?_)
            clear hK K
            try simp only [Act.put, List.setIfInBounds_toArray, List.set_cons_zero, List.set_cons_succ]
            refine wpAnyH_ready (rs := [1]) (by kernel_rfl) (by simp) ?_
            refine AllReadyH.cons (o := ⟨_, _, _, _, _, _⟩) rfl (fun K hK => ?_) ?_
            rotate_left
            · exact AllReadyH.nil
            go_simp
            skip
            refine hK.out _ _ (by first | exact HSD.out _ | exact HSC.out | exact HSB.out _ | exact HSA.out | exact HS0.out) (fun hHeld => ?_)
            clear hK K
            try simp only [Act.put, List.setIfInBounds_toArray, List.set_cons_zero, List.set_cons_succ]
            refine wpAnyH_ready (rs := [20]) (by kernel_rfl) (by simp) ?_
            refine AllReadyH.cons (o := ⟨_, _, _, _, _, _⟩) rfl (fun K hK => ?_) ?_
            rotate_left
            · exact AllReadyH.nil
            refine step_grew (v := .slice q j d) rfl (.tmp 51) (.tmp 69) rfl Tryd.underlying22 (.string ⟨#[]⟩) 1 info_strT rfl (by decide) [.string rr] 1 ⟨y6.heap.size, 0, none⟩ rfl rfl (HHD2.out _) rfl (by decide) cells_alloc HONE.out hl1 hl2 ?_
            intro v7 w7 hg7
            obtain ⟨p7, c7, rfl, _⟩ := hg7.held.cells
            obtain ⟨hx7, hr7, hk7⟩ := HI6.out.push hg7
            have HR7 := Lib.hid hr7
            have HSC := Lib.hid (HSX.out w7 (fun i hi _ => (hk7 i hi).trans (HB6.out.block i (Nat.lt_of_lt_of_le hi HSZ.out))))
            have HSD : Hid (∀ u, _) := Lib.hid (fun u => HSX.out (w7.setCell ⟨bx, 2, none⟩ u) (fun i hi hne => (Below.heap_setCell _ ⟨bx, 2, none⟩ _ i hne).trans ((hk7 i hi).trans (HB6.out.block i (Nat.lt_of_lt_of_le hi HSZ.out)))))
            have k7 : w7.cell? ⟨bx, 2, none⟩ = some (.slice q j d) := cellB hx7 rfl
            have f7 : w7.frozen? ⟨bx, 2, none⟩ = false := frozB hx7
            clear hg7 hx7 hr7 hk7
            refine hK.out _ _ (by first | exact HSD.out _ | exact HSC.out | exact HSB.out _ | exact HSA.out | exact HS0.out) (fun hHeld => ?_)
            clear hK K
            try simp only [Act.put, List.setIfInBounds_toArray, List.set_cons_zero, List.set_cons_succ]
            refine wpAnyH_take (i := 21) (oi := ⟨_, _, _, _, _, _⟩) (v := ?_) rfl (by kernel_rfl) (by kernel_rfl) (by kernel_rfl) (fun _ _ _ h => h) (Or.inl ⟨by rfl, ?_⟩) hHeld ?_
            rotate_left
            · ((intro w hSw; (try dsimp only at hSw); go_simp) <;> with_reducible rfl)
            try simp only [Act.put, List.setIfInBounds_toArray, List.set_cons_zero, List.set_cons_succ]
            refine wpAnyH_ready (rs := [22]) (by kernel_rfl) (by simp) ?_
            refine AllReadyH.cons (o := ⟨_, _, _, _, _, _⟩) rfl (fun K hK => ?_) ?_
            rotate_left
            · exact AllReadyH.nil
            go_simp
            skip
            refine hK.out _ _ (by first | exact HSD.out _ | exact HSC.out | exact HSB.out _ | exact HSA.out | exact HS0.out) (fun hHeld => ?_)
            clear hK K
            try simp only [Act.put, List.setIfInBounds_toArray, List.set_cons_zero, List.set_cons_succ]
            refine wpAnyH_done (by kernel_rfl) ?_ _
            go_wp2_with fail
            have HRN : Hid (RbI w3 (w7.setCell ⟨bx, 2, none⟩ (.slice p7 (j + 1) c7)) bx m e (.slice p7 (j + 1) c7) (j + 1) (KL.take (j + 1))) := Lib.hid (by rw [HKJ.out]; exact HR7.out)
            first
              | exact ⟨⟨j + 1, p7, c7, rfl, HLT.out, HRN⟩, by have := HLT.out; show na - ((j : Int) + 1).toNat < na - (j : Int).toNat; omega⟩
              | exact ⟨⟨j + 1, by omega, HLT.out, p7, c7, HRN⟩, by have := HLT.out; show na - ((j : Int) + 1).toNat < na - (j : Int).toNat; omega⟩
      · obtain rfl : j = na := by omega
        have hji : ¬ (j : Int) < (j : Int) := by omega
        have HTK : Hid (KL.take j = KL) := Lib.hid (List.take_of_length_le (by have := HKA.out.1; omega))
        rw [HTK.out] at HI
        have b0 : wr.cell? ⟨bx, 0, none⟩ = some (.int .i64 (m : Int)) := cellB HI.out.x rfl
        have b1 : wr.cell? ⟨bx, 1, none⟩ = some (.int .i64 (e : Int)) := cellB HI.out.x rfl
        have b2 : wr.cell? ⟨bx, 2, none⟩ = some (.slice q j d) := cellB HI.out.x rfl
        have hxs : wr.heap[bs]? = some (.cells #[.int .i64 0, .int .i64 0, .slice none 0 0] 68 (0, 0)) := by
          have h1 := blk_below HXS.out HBW.out.2.2 (blk_lt HXS.out)
          exact (HI.out.k.block bs (blk_lt h1) (fun e => by have := Option.some.inj e; have := HB2.out.2; omega)).trans h1
        have k0 : wr.cell? ⟨bs, 0, none⟩ = some (.int .i64 0) := cellB hxs rfl
        have k1 : wr.cell? ⟨bs, 1, none⟩ = some (.int .i64 0) := cellB hxs rfl
        have k2 : wr.cell? ⟨bs, 2, none⟩ = some (.slice none 0 0) := cellB hxs rfl
        have f0 : wr.frozen? ⟨bs, 0, none⟩ = false := frozB hxs
        have f1 : wr.frozen? ⟨bs, 1, none⟩ = false := frozB hxs
        have f2 : wr.frozen? ⟨bs, 2, none⟩ = false := frozB hxs
        have HX6 := Lib.hid (blk_set3 (x := .int .i64 (m : Int)) (y := .int .i64 (e : Int)) (z := .slice q j d) hxs)
        clear hlt hxs hj
        go_wp2_with fail
        have m0 := cellB (k := 0) HX6.out rfl
        have m1 := cellB (k := 1) HX6.out rfl
        have m2 := cellB (k := 2) HX6.out rfl
        have hpo := HPOST.out
        have hbb := HB1.out.size
        have hle : w.heap.size ≤ bs := by rw [HBS.out]; exact Nat.le_refl _
        refine bodyPost_ret (v := .tuple #[.agg #[.int .i64 (m : Int), .int .i64 (e : Int), .slice q j d], .int .i64 0]) (by simp [results, Tryd.results32, go_sem, m0, m1, m2]) rfl ?_
        refine CmO.ok m e KL rfl hpo.1.symm (by rw [Int.toNat_natCast]; exact hpo.2.1) ⟨_, rfl, ?_, ?_, ?_⟩
        · have hb := HI.out.bel HBW.out.1 HBW.out.2.1
          exact ((hb.setCell (p := ⟨bs, 0, none⟩) hle _).setCell (p := ⟨bs, 1, none⟩) hle _).setCell (p := ⟨bs, 2, none⟩) hle _
        · rw [HKA.out.1]
          refine HI.out.h.keep fun g hg => ?_
          have h9 := HI.out.o g hg
          have h8 : bs < w3.heap.size := Nat.lt_of_lt_of_le (blk_lt HXS.out) HBW.out.2.2.size
          have hgb : g ≠ bs := by omega
          rw [Below.heap_setCell _ ⟨bs, 2, none⟩ _ g hgb, Below.heap_setCell _ ⟨bs, 1, none⟩ _ g hgb, Below.heap_setCell _ ⟨bs, 0, none⟩ _ g hgb]
        · exact fun g hg => Nat.le_trans HBW.out.1.size (HI.out.o g hg)
end Go.Proofs.YtdbghgpohdijfaaDoor
