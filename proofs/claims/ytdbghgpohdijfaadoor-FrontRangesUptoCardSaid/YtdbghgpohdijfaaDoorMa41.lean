/- Law 5: FrontJoins, walked. -/
import Derived.Test.YtdbghgpohdijfaaDoorMa40
import Derived.Test.YtdbghgpohdijfaaDoorMa36
namespace Go.Proofs.YtdbghgpohdijfaaDoor
open Go.RowKit Go.Scr Go.ChangeMaps Go.MapKept
set_option linter.unusedVariables false
/-- a part of a list of texts, by its cells -/
theorem txts_mid {w : World} {p p' : Option Addr} {n c b i k c' : Nat} {L : List ByteArray} (h : Txts w (.slice p n c) L) (hb : b ≤ i) (hi : i ≤ n) (hk : k = i - b) (hc : k ≤ c') (hc2 : c' ≤ c) (hp : b < i → p' = p.map (·.add b)) : Txts w (.slice p' k c') ((L.drop b).take k) := by
  obtain ⟨q, d, he, h1, h2, h3⟩ := h
  injection he with e1 e2 e3
  subst e1 e3
  have hl : ((L.drop b).take k).length = k := by rw [List.length_take, List.length_drop]; omega
  refine ⟨p', c', by rw [hl], by omega, by omega, fun j s hs => ?_⟩
  have hj : j < k := by rw [← hl]; exact (List.getElem?_eq_some_iff.mp hs).1
  rw [List.getElem?_take_of_lt hj, List.getElem?_drop] at hs
  obtain ⟨a, ha, hcell⟩ := h3 _ s hs
  subst ha
  exact ⟨a.add b, hp (by omega), by rw [Addr.add_add]; exact hcell⟩
/-- l[b:i]: where it lies is one name -/
theorem slice_mid {p : Option Addr} {n c b i : Nat} (hb : b ≤ i) (hi : i ≤ c) : ∃ p' : Option Addr, (∀ w, (Instr.sliceAt 22 (.slice p n c) (some (.int .i64 (b : Int))) (some (.int .i64 (i : Int))) none).run Tryd.prog w = .ok (.slice p' (i - b) (c - b)) w) ∧ (b < i → p' = p.map (·.add b)) := by
  refine ⟨if c = b then p else p.map (·.add b), fun w => ?_, fun h => if_neg (by omega)⟩
  have he : Tryd.prog.elem 22 = 9 := by kernel_rfl
  have hu : Tryd.prog.underlying 22 = some (.slice (Tryd.prog.elem 22)) := by rw [he]; exact Tryd.underlying22
  obtain ⟨k, hi0, hz, hsi, hbi⟩ := info_parts info_strT
  rw [run_sliceAt_slice w 22 _ _ _ _ hu, run_slice_lh w 22 p n c hu .i64 .i64 _ _ (by omega) (by omega) (by omega), he]
  simp [sizeOf, typeInfo, hi0, hsi, Result.andThen, sliced]
theorem lf_set3 {w wr : World} {u : Value} {n bs : Nat} {K : List ByteArray} (H : LfI w wr u n K) (hb : bs < w.heap.size) (x y z : Value) : Held (((wr.setCell ⟨bs, 0, none⟩ x).setCell ⟨bs, 1, none⟩ y).setCell ⟨bs, 2, none⟩ z) 9 1 u n (K.map Value.string) :=
  H.h.keep fun g hg => by
    have hgb : g ≠ bs := fun e => by have := H.o g hg; omega
    rw [Below.heap_setCell _ ⟨bs, 2, none⟩ _ g hgb, Below.heap_setCell _ ⟨bs, 1, none⟩ _ g hgb, Below.heap_setCell _ ⟨bs, 0, none⟩ _ g hgb]
/-- l[k:] of ranges: where it lies is one name -/
theorem rg_from {g n c k : Nat} (hk : k ≤ n) (hn : n ≤ c) : ∃ A : Addr, (if c = k then some (⟨g, 0, none⟩ : Addr) else some ⟨g, k * 3, none⟩) = some A ∧ (A = ⟨g, k * 3, none⟩ ∨ n = k) := by
  by_cases h : c = k
  · exact ⟨_, if_pos h, .inr (by omega)⟩
  · exact ⟨_, if_neg h, .inl rfl⟩
def lenV : Value → Nat
  | .slice _ n _ => n
  | _ => 0
def atN (s : Int) (n : Nat) : Nat := if pickN s 3 = 0 then 0 else pickN s (1099511627776 - n + 1)
theorem atN_le (s : Int) (n : Nat) (hn : n ≤ 200) : atN s n + n ≤ 1099511627776 := by
  unfold atN
  split
  · omega
  · have : pickN s (1099511627776 - n + 1) < 1099511627776 - n + 1 := Nat.mod_lt _ (by omega)
    omega
set_option maxRecDepth 100000 in
set_option maxHeartbeats 8000000 in
theorem frontjoins_any {W : World} {s3 : Int} {v0 v1 v2 : Value} {Z Y X : List Int} (hB : Bas W W.heap.size) (hz : Ints W v0 Z) (hy : Ints W v1 Y) (hx : Ints W v2 X)
    (h3 : -9223372036854775808 ≤ s3 ∧ s3 ≤ 9223372036854775807) :
    Calls Tryd.prog 9 #[v0, v1, v2, .int .i64 s3] W fun o w' => o = .returned (.bool true) ∧ Below W.heap.size W w' := by
  have CK := Lib.hid (known5_any hB)
  obtain ⟨n, hn⟩ : ∃ n, n = min 200 Z.length := ⟨_, rfl⟩
  obtain ⟨L, hL⟩ : ∃ L, L = numT Z n := ⟨_, rfl⟩
  have HL : Hid (L.length = n ∧ ∀ s ∈ L, s.size = 32) := Lib.hid ⟨by rw [hL, numT_len]; omega, fun s hs => numT_32 (by rw [← hL]; exact hs)⟩
  have C1 : Hid (∀ w, Below W.heap.size W w → Calls Tryd.prog 42 #[v0, .int .i64 200] w fun o w' => ∃ u, o = .returned u ∧ LfI w w' u n L) := Lib.hid (fun w hb => by
    have := numbered_any (mx := 200) (ints_belowF hz hb (Nat.le_refl _)) (by decide)
    rw [← hn, ← hL] at this
    exact this)
  have hn1 : n ≤ 200 := by omega
  obtain ⟨q, hq⟩ : ∃ q, q = 1099511627776 - n + 1 := ⟨_, rfl⟩
  obtain ⟨a0, ha0⟩ : ∃ a, a = pickN s3 q := ⟨_, rfl⟩
  obtain ⟨t3, ht3⟩ : ∃ a, a = pickN s3 3 := ⟨_, rfl⟩
  obtain ⟨a, ha⟩ : ∃ a, a = atN s3 n := ⟨_, rfl⟩
  have haa : a = if t3 = 0 then 0 else a0 := by rw [ha, ht3, ha0, hq]; rfl
  have han : a + n ≤ 1099511627776 := by rw [ha]; exact atN_le s3 n hn1
  have ha0l : a0 < q := by rw [ha0]; exact Nat.mod_lt _ (by omega)
  have CP1 : Hid (∀ w, Calls Tryd.prog 49 #[.int .i64 s3, .int .i64 (q : Int)] w fun e w' => e = .returned (.int .i64 (a0 : Int)) ∧ w' = w) := Lib.hid (fun w => by rw [ha0]; exact pickU_any s3 q w (by omega) (by omega) h3)
  have CP2 : Hid (∀ w, Calls Tryd.prog 49 #[.int .i64 s3, .int .i64 3] w fun e w' => e = .returned (.int .i64 (t3 : Int)) ∧ w' = w) := Lib.hid (fun w => by rw [ht3]; exact pickU_any s3 3 w (by omega) (by omega) h3)
  have HAA := Lib.hid haa
  have HB := Lib.hid hB
  have HY : Hid (∀ w', Below W.heap.size W w' → Ints w' v1 Y) := Lib.hid (fun w' hb => ints_belowF hy hb (Nat.le_refl _))
  have HX : Hid (∀ w', Below W.heap.size W w' → Ints w' v2 X) := Lib.hid (fun w' hb => ints_belowF hx hb (Nat.le_refl _))
  have hqi1 : (1099511627776 : Int) - (n : Int) + 1 = (q : Int) := by omega
  have hq2 : q ≤ 1099511627777 := by omega
  obtain ⟨py, cy, rfl, hyc, hyb, hyz, _⟩ := hy
  obtain ⟨px, cx, rfl, hxc, hxb, hxz, _⟩ := hx
  have HYZ := Lib.hid hyz
  have HXZ := Lib.hid hxz
  obtain ⟨ny, hny⟩ : ∃ n, n = Y.length := ⟨_, rfl⟩
  obtain ⟨nx, hnx⟩ : ∃ n, n = X.length := ⟨_, rfl⟩
  have HNY : Hid (ny = Y.length ∧ nx = X.length) := Lib.hid ⟨hny, hnx⟩
  rw [← hny] at HY hyb hyc ⊢
  rw [← hnx] at HX hxb hxc ⊢
  clear hB hz hn hL hq ha0 ht3 ha haa h3 hyz hxz hny hnx hyc hxc
  go_enter Tryd.func9, Tryd.ntmps9
  go_upto_region 4 with (first
    | (go_at_call 21; with_reducible refine CK.out.mono ?_; rintro o w0 ⟨rfl, h⟩; have HW0 := Lib.hid h; clear h)
    | (go_at_call 42; with_reducible refine (C1.out _ HW0.out).mono ?_; rintro o w1 ⟨u1, rfl, h⟩; obtain ⟨pl, cl, rfl, _⟩ := h.h.cells; have HL1 := Lib.hid h; have HW1 : Hid (Below W.heap.size W w1) := Lib.hid (HW0.out.trans (h.b.mono HW0.out.size)); clear h)
    | (go_at_call 49; with_reducible refine (CP1.out _).mono ?_; rintro o w' ⟨rfl, hww⟩; rw [hww]; clear hww w'))
  go_upto_if 46 with (go_at_call 49; with_reducible refine (CP2.out _).mono ?_; rintro o w' ⟨rfl, hww⟩; rw [hww]; clear hww w')
  go_cut [11] from 46 to 47 (fun x wx => x = .int .i64 (a : Int) ∧ wx = w1)
  case first =>
    by_cases h0 : t3 = 0
    · have hz3 : ((t3 : Int) == 0) = true := by simp [h0]
      have hae : a = 0 := by rw [HAA.out, if_pos h0]
      go_wp2_with fail
      go_meet
      exact ⟨by rw [hae]; rfl, rfl⟩
    · have hz3 : ((t3 : Int) == 0) = false := by rw [beq_eq_false_iff_ne]; omega
      have hae : a = a0 := by rw [HAA.out, if_neg h0]
      go_wp2_with fail
      go_meet
      exact ⟨by rw [hae], rfl⟩
  case rest =>
    obtain ⟨rfl, hwc⟩ := hcut
    subst hwc
    obtain ⟨e1, he1⟩ : ∃ e, e = a + n := ⟨_, rfl⟩
    obtain ⟨K, hK⟩ : ∃ K, K = nodesA (valF L a) a e1 := ⟨_, rfl⟩
    have HBW : Hid (Bas wc wc.heap.size) := Lib.hid (by
      have hb := HB.out.below HW1.out
      exact ⟨hb.tabs, hb.tz, ⟨Nat.lt_of_lt_of_le hb.lt.1 hb.le, Nat.lt_of_lt_of_le hb.lt.2.1 hb.le, Nat.lt_of_lt_of_le hb.lt.2.2 hb.le⟩, Nat.le_refl _⟩)
    have HTL : Hid (∀ w', Below wc.heap.size wc w' → Txts w' (.slice pl n cl) L) := Lib.hid (fun w' hb => held_txtsF (HL1.out.below hb).h (by have := HL.out; omega))
    have CA : Hid (Calls Tryd.prog 31 #[.int .i64 (a : Int), .slice pl n cl] wc fun o w' => ∃ u, o = .returned (.tuple #[rgA a e1 u, .int .i64 0]) ∧ LfI wc w' u K.length K) := Lib.hid (by
      have := fcompact_any (f := a) HBW.out (HTL.out _ (Below.refl _ _)) (by have := HL.out.1; omega) (by have := HL.out.1; omega) HL.out.2
      rwa [HL.out.1, ← he1, ← hK] at this)
    have HKK : Hid (K = nodesA (valF L a) a e1 ∧ e1 = a + n ∧ K.length ≤ 200) := Lib.hid ⟨hK, he1, by rw [hK]; have := nodesA_leF (valF L a) a e1; omega⟩
    have he1b : e1 ≤ 1099511627776 := by omega
    have hab : a ≤ 1099511627776 := by omega
    obtain ⟨n1, hn1'⟩ : ∃ x, x = n + 1 := ⟨_, rfl⟩
    have hn1I : (n : Int) + 1 = (n1 : Int) := by omega
    have HN1 : Hid (n1 = n + 1) := Lib.hid hn1'
    have hn1b : n1 ≤ 201 := by omega
    clear CK C1 CP1 CP2 HAA hqi1 hq2 ha0l he1 hK hn1' HW0
    go_upto_region 7 with (go_at_call 31; with_reducible refine CA.out.mono ?_; rintro o w2 ⟨u2, rfl, h⟩; obtain ⟨pA, cA, rfl, _⟩ := h.h.cells; have HA2 := Lib.hid h; clear h)
    obtain ⟨w3, hw3⟩ : ∃ x, x = w2.alloc (.cells #[.int .i64 (a : Int), .int .i64 (e1 : Int), .slice pA K.length cA] 68) := ⟨_, rfl⟩
    obtain ⟨ba, hba⟩ : ∃ x, x = w2.heap.size := ⟨_, rfl⟩
    have hb3 : Below w2.heap.size w2 w3 := by rw [hw3]; exact (Below.refl _ _).alloc (Nat.le_refl _) _
    have hxa : w3.heap[ba]? = some (.cells #[.int .i64 (a : Int), .int .i64 (e1 : Int), .slice pA K.length cA] 68 (0, 0)) := by rw [hw3, hba]; exact heap_alloc_new w2 _
    have HW3 : Hid (Below wc.heap.size wc w3) := Lib.hid (HA2.out.b.trans (hb3.mono HA2.out.b.size))
    have HXA : Hid (∀ w', Below w3.heap.size w3 w' → w'.heap[ba]? = some (.cells #[.int .i64 (a : Int), .int .i64 (e1 : Int), .slice pA K.length cA] 68 (0, 0)) ∧ Txts w' (.slice pA K.length cA) K) := Lib.hid (fun w' hb => ⟨blk_below hxa hb (blk_lt hxa), held_txtsF ((HA2.out.below hb3).below hb).h (by have := HKK.out.2.2; omega)⟩)
    rw [← hw3, ← hba]
    clear CA hw3 hba hb3 hxa HA2
    have hmk := make_boolsB n1 (by omega) w3
    go_upto_region 10 with fail
    obtain ⟨gb, hgb⟩ : ∃ x, x = w3.heap.size := ⟨_, rfl⟩
    have HR0 : Hid (∃ B : List Bool, B.length = n1 ∧ BoR (w3.alloc (.cells (Array.replicate n1 (Value.bool false)) 4)) gb B ∧ Below w3.heap.size w3 (w3.alloc (.cells (Array.replicate n1 (Value.bool false)) 4))) := Lib.hid ⟨List.replicate n1 false, by simp, by rw [hgb]; exact bor_made w3 n1, (Below.refl _ _).alloc (Nat.le_refl _) _⟩
    have HGB : Hid (gb = w3.heap.size) := Lib.hid hgb
    rw [← hgb]
    clear hmk hgb
    go_wp2_with fail
    go_loopw [15] (fun k wr => ∃ i : Nat, k = .int .i64 (i : Int) ∧ i ≤ ny ∧ Hid (∃ B : List Bool, B.length = n1 ∧ BoR wr gb B ∧ Below w3.heap.size w3 wr)) (fun k _ => ny - (intOf k).toNat)
    case atStart => exact ⟨0, rfl, Nat.zero_le _, HR0⟩
    case round =>
      clear HR0
      obtain ⟨i, rfl, hi, HI⟩ := hrel
      by_cases hlt : i < ny
      · have hli : (i : Int) < (ny : Int) := by omega
        have hi0 : (0 : Int) ≤ (i : Int) := by omega
        obtain ⟨z, hz⟩ : ∃ x, Y[i]? = some x := ⟨Y[i]'(by have := HNY.out; omega), List.getElem?_eq_getElem _⟩
        obtain ⟨ad, rfl, hac⟩ := ints_cellF (HY.out W (Below.refl _ _)) hz
        have hbz := HYZ.out z (List.mem_of_getElem? hz)
        obtain ⟨B, hBl, hBr, hbb⟩ := HI.out
        have hcell := hac wr (HW1.out.trans ((HW3.out.trans (hbb.mono HW3.out.size)).mono HW1.out.size))
        obtain ⟨j, hj⟩ : ∃ j, j = pickN z n1 := ⟨_, rfl⟩
        have hjl : j < n1 := by rw [hj]; exact Nat.mod_lt _ (by have := HN1.out; omega)
        have CP : Hid (∀ w, Calls Tryd.prog 49 #[.int .i64 z, .int .i64 (n1 : Int)] w fun e w' => e = .returned (.int .i64 (j : Int)) ∧ w' = w) := Lib.hid (fun w => by rw [hj]; exact pickU_any z n1 w (by omega) (by omega) hbz)
        have hji : (j : Int) < (n1 : Int) := by omega
        have hj0 : (0 : Int) ≤ (j : Int) := by omega
        obtain ⟨d, hd⟩ : ∃ d, B[j]? = some d := ⟨B[j]'(by omega), List.getElem?_eq_getElem _⟩
        have hcb := hBr.cell hd
        have hfb := hBr.frozen j
        have HNX : Hid (∃ B : List Bool, B.length = n1 ∧ BoR (wr.setCell ⟨gb, j, none⟩ (.bool true)) gb B ∧ Below w3.heap.size w3 (wr.setCell ⟨gb, j, none⟩ (.bool true))) := Lib.hid ⟨B.set j true, by rw [List.length_set]; exact hBl, hBr.set j true, hbb.setCell (p := ⟨gb, j, none⟩) (by show w3.heap.size ≤ gb; rw [HGB.out]; exact Nat.le_refl _) _⟩
        have HLT := Lib.hid hlt
        clear hlt hz hac hBl hBr hbb hj hd hbz
        go_wp2_with (go_at_call 49; with_reducible refine (CP.out _).mono ?_; rintro o w' ⟨rfl, hww⟩; rw [hww]; clear hww w')
        exact ⟨⟨i + 1, by simp, HLT.out, HNX⟩, by show ny - ((i : Int) + 1).toNat < ny - (i : Int).toNat; have := HLT.out; omega⟩
      · obtain rfl : i = ny := by omega
        have hli : ¬ (i : Int) < (i : Int) := by omega
        clear hlt
        obtain ⟨B, hB5⟩ := HI.out
        obtain ⟨w5, hw5⟩ : ∃ x, x = wr := ⟨_, rfl⟩
        rw [← hw5] at hB5 ⊢
        have HB5 := Lib.hid hB5
        clear hB5 HI hw5 HY HYZ hi
        have HQ0 : Hid (∃ R : List Rg, 0 = R.length ∧ PaI w5 w5 (valF L a) (.slice none 0 0) R ∧ chR a (a + 0) R ∧ (0 = n1 → 0 = n ∧ 0 < 0)) := Lib.hid ⟨[], rfl, ⟨Below.refl _ _, ⟨rfl, .inl ⟨rfl, rfl⟩⟩, (fun g hg => nomatch hg), (fun x hx => nomatch hx), (fun x hx => nomatch hx)⟩, rfl, (fun h => absurd h (by have := HN1.out; omega))⟩
        have HW5 : Hid (Below wc.heap.size wc w5) := Lib.hid (HW3.out.trans (HB5.out.2.2.mono HW3.out.size))
        have HCO : Hid (∀ b i wr v', b ≤ i → i ≤ n → Below w5.heap.size w5 wr → Txts wr v' ((L.drop b).take (i - b)) → Calls Tryd.prog 31 #[.int .i64 ((a + b : Nat) : Int), v'] wr fun o w' => ∃ u, o = .returned (.tuple #[rgA (a + b) (a + i) u, .int .i64 0]) ∧ LfI wr w' u (nodesA (valF L a) (a + b) (a + i)).length (nodesA (valF L a) (a + b) (a + i))) := Lib.hid (fun b i wr v' hbi hin hb hv => by
          have hl : ((L.drop b).take (i - b)).length = i - b := by rw [List.length_take, List.length_drop, HL.out.1]; omega
          have hbw := HW5.out.trans (hb.mono HW5.out.size)
          have := fcompact_any (f := a + b) (HBW.out.below hbw) hv (by omega) (by omega) (fun s hs => HL.out.2 s (List.mem_of_mem_drop (List.mem_of_mem_take hs)))
          rwa [hl, show a + b + (i - b) = a + i by omega, nodesA_sub (by rw [HL.out.1]; exact hin)] at this)
        go_wp2_with fail
        go_loopw [16, 17, 18] (fun v vb k wr => ∃ (i b r : Nat) (p : Option Addr) (c : Nat), k = .int .i64 (i : Int) ∧ vb = .int .i64 (b : Int) ∧ v = .slice p r c ∧ i ≤ n1 ∧ b ≤ i ∧ b ≤ n ∧ r ≤ i ∧ Hid (∃ R : List Rg, r = R.length ∧ PaI w5 wr (valF L a) (.slice p r c) R ∧ chR a (a + b) R ∧ (i = n1 → b = n ∧ 0 < r))) (fun _ _ k _ => n1 - (intOf k).toNat)
        case atStart => exact ⟨0, 0, 0, none, 0, rfl, rfl, rfl, Nat.zero_le _, Nat.le_refl _, Nat.zero_le _, Nat.le_refl _, HQ0⟩
        case round =>
          clear HQ0
          obtain ⟨i, b, r, p, c, rfl, rfl, rfl, hi, hbi, hbn, hri, HI⟩ := hrel
          by_cases hlt : i < n1
          · have hin : i ≤ n := by have := HN1.out; omega
            have hli : (i : Int) ≤ (n : Int) := by omega
            have hi0 : (0 : Int) ≤ (i : Int) := by omega
            have hi1 : (i : Int) < (n1 : Int) := by omega
            obtain ⟨d, hd⟩ : ∃ d, B[i]? = some d := ⟨B[i]'(by have := HB5.out.1; omega), List.getElem?_eq_getElem _⟩
            have HIB : Hid (Below w5.heap.size w5 wr) := Lib.hid (by obtain ⟨R, _, h, _⟩ := HI.out; exact h.b)
            have hcb : wr.cell? ⟨gb, i, none⟩ = some (.bool d) := (HB5.out.2.1.below HIB.out HB5.out.2.1.lt).cell hd
            obtain ⟨T, hT⟩ : ∃ T, T = (d || decide (i = n)) := ⟨_, rfl⟩
            have HT := Lib.hid hT
            have HLT := Lib.hid hlt
            clear hd hT hlt
            go_upto_region 19 with fail
            go_cut [94] from 79 to 95 (fun x wx => x = .bool T ∧ wx = wr)
            case first =>
              cases d with
              | true =>
                go_wp2_with fail
                go_meet
                exact ⟨by rw [HT.out]; rfl, rfl⟩
              | false =>
                by_cases hen : i = n
                · have he : ((i : Int) == (n : Int)) = true := by rw [hen]; simp
                  have hTT : T = true := by rw [HT.out, decide_eq_true hen]; rfl
                  clear hen
                  go_wp2_with fail
                  go_meet
                  exact ⟨by rw [hTT], rfl⟩
                · have he : ((i : Int) == (n : Int)) = false := by rw [beq_eq_false_iff_ne]; omega
                  have hTT : T = false := by rw [HT.out, decide_eq_false hen]; rfl
                  clear hen
                  go_wp2_with fail
                  go_meet
                  exact ⟨by rw [hTT], rfl⟩
            case rest =>
              obtain ⟨rfl, hww⟩ := hcut
              subst hww
              cases T with
              | false =>
                have hdn : d = false ∧ i ≠ n := by
                  have := HT.out
                  cases d with
                  | true => exact nomatch this
                  | false => exact ⟨rfl, fun h => by rw [decide_eq_true h] at this; exact nomatch this⟩
                have HNX : Hid (∃ R : List Rg, r = R.length ∧ PaI w5 wc (valF L a) (.slice p r c) R ∧ chR a (a + b) R ∧ (i + 1 = n1 → b = n ∧ 0 < r)) := Lib.hid (by
                  obtain ⟨R, h1, h2, h3, _⟩ := HI.out
                  exact ⟨R, h1, h2, h3, fun h => absurd h (by have := HN1.out; omega)⟩)
                clear hdn
                go_wp2_with fail
                exact ⟨⟨i + 1, b, r, p, c, by simp, rfl, rfl, HLT.out, by omega, hbn, by omega, HNX⟩, by show n1 - ((i : Int) + 1).toNat < n1 - (i : Int).toNat; have := HLT.out; omega⟩
              | true =>
                obtain ⟨ab, hab2⟩ : ∃ x, x = a + b := ⟨_, rfl⟩
                have habI : (a : Int) + (b : Int) = (ab : Int) := by omega
                have hab3 : ab ≤ 1099511627776 := by omega
                have hbi2 : (b : Int) ≤ (i : Int) := by omega
                have hb0 : (0 : Int) ≤ (b : Int) := by omega
                have hicl : (i : Int) ≤ (cl : Int) := by
                  obtain ⟨_, c9, h9, h10, _⟩ := HTL.out _ (Below.refl _ _)
                  injection h9 with e1 e2 e3
                  have := HL.out.1
                  omega
                have HABX := Lib.hid hab2
                obtain ⟨p', hsl, hpp⟩ := slice_mid (p := pl) (n := n) (c := cl) (b := b) (i := i) hbi (by omega)
                have hsw := hsl wc
                clear hab2 hsl
                have CC := Lib.hid (HCO.out b i wc (.slice p' (i - b) (cl - b)) hbi hin HIB.out (txts_mid (HTL.out _ (HW5.out.trans (HIB.out.mono HW5.out.size))) hbi hin rfl (by omega) (by omega) hpp))
                rw [← HABX.out] at CC
                obtain ⟨ai, hai⟩ : ∃ x, x = a + i := ⟨_, rfl⟩
                rw [← hai] at CC
                obtain ⟨J, hJ⟩ : ∃ J, J = nodesA (valF L a) ab ai := ⟨_, rfl⟩
                rw [← hJ] at CC
                have HJ := Lib.hid hJ
                have HAI := Lib.hid hai
                clear hpp hJ hai
                go_upto_region 23 with (go_at_call 31; with_reducible refine CC.out.mono ?_; rintro o w6 ⟨u6, rfl, h⟩; obtain ⟨p6, c6, rfl, _⟩ := h.h.cells; have H6 := Lib.hid h; clear h)
                obtain ⟨w7, hw7⟩ : ∃ x, x = w6.alloc (.cells #[.int .i64 (ab : Int), .int .i64 (ai : Int), .slice p6 J.length c6] 68) := ⟨_, rfl⟩
                obtain ⟨bx, hbx⟩ : ∃ x, x = w6.heap.size := ⟨_, rfl⟩
                have hx7 : w7.heap[bx]? = some (.cells #[.int .i64 (ab : Int), .int .i64 (ai : Int), .slice p6 J.length c6] 68 (0, 0)) := by rw [hw7, hbx]; exact heap_alloc_new w6 _
                have hb7 : Below w6.heap.size w6 w7 := by rw [hw7]; exact (Below.refl _ _).alloc (Nat.le_refl _) _
                have c0 : w7.cell? ⟨bx, 0, none⟩ = some (.int .i64 (ab : Int)) := cellB hx7 rfl
                have c1 : w7.cell? ⟨bx, 1, none⟩ = some (.int .i64 (ai : Int)) := cellB hx7 rfl
                have c2 : w7.cell? ⟨bx, 2, none⟩ = some (.slice p6 J.length c6) := cellB hx7 rfl
                rw [← hw7, ← hbx]
                obtain ⟨R, hrR, hPa, hch, _⟩ := HI.out
                have hP7 := hPa.below ((H6.out.b).trans (hb7.mono H6.out.b.size))
                have HHD : Hid (Held w7 68 3 (.slice p r c) r (rgV R)) := Lib.hid (by have := hP7.h; rwa [← hrR] at this)
                have HP7 := Lib.hid hP7
                have HPU : Hid (∀ v8 w8, Grew 68 3 (w7.alloc (.cells #[.int .i64 (ab : Int), .int .i64 (ai : Int), .slice p6 J.length c6] 68)) (.slice p r c) r 1 (rgV R) [.int .i64 (ab : Int), .int .i64 (ai : Int), .slice p6 J.length c6] v8 w8 → ∃ R : List Rg, r + 1 = R.length ∧ PaI w5 w8 (valF L a) v8 R ∧ chR a (a + i) R ∧ (i + 1 = n1 → i = n ∧ 0 < r + 1)) := Lib.hid (fun v8 w8 g => by
                  refine ⟨R ++ [(ab, ai, .slice p6 J.length c6)], by rw [List.length_append, hrR]; rfl, HP7.out.push (x := (ab, ai, .slice p6 J.length c6)) hrR ?_ rfl g, ?_, fun h => ⟨by have := HN1.out; omega, by omega⟩⟩
                  · have := (H6.out.below hb7).h
                    rw [HJ.out] at this ⊢
                    exact this
                  · have := chR_more (e := a + b) (f := a + i) (v := .slice p6 J.length c6) (by omega) (R := R) (a := a) hch
                    rw [HABX.out, HAI.out]
                    exact this)
                have HONE : Hid (∀ u ∈ [Value.int .i64 (ab : Int), .int .i64 (ai : Int), .slice p6 J.length c6], u.oneCell' = true) := Lib.hid (fun u hu => by
                  simp only [List.mem_cons, List.not_mem_nil, or_false] at hu
                  rcases hu with rfl | rfl | rfl <;> rfl)
                have hl1 : (r + 1) * 40 ≤ 140737488355328 := by omega
                have hl2 : r + 1 ≤ 140737488355328 := by omega
                clear hw7 hbx hx7 hb7 hrR hPa hch hP7
                go_wp2_with (at_builtin; refine wpList_grew (v := .slice p r c) rfl _ _ rfl Tryd.underlying90 (.agg #[.int .i64 0, .int .i64 0, .slice none 0 0]) 3 info_rg rfl (by decide) [.int .i64 (ab : Int), .int .i64 (ai : Int), .slice p6 J.length c6] 1 (by simp [Act.eval]) (by simp [Act.eval]) HHD.out rfl rfl (by decide) HONE.out hl1 hl2 ?_; intro v8 w8 hg8; obtain ⟨p8, c8, rfl, _⟩ := hg8.held.cells; have HI8 := Lib.hid (HPU.out _ _ hg8); clear hg8)
                exact ⟨⟨i + 1, i, r + 1, p8, c8, by simp, rfl, rfl, HLT.out, Nat.le_succ _, hin, by omega, HI8⟩, by show n1 - ((i : Int) + 1).toNat < n1 - (i : Int).toNat; have := HLT.out; omega⟩
          · obtain rfl : i = n1 := by omega
            have hli : ¬ (i : Int) ≤ (n : Int) := by omega
            obtain ⟨R, hrR, hPa, hch, hbr⟩ := HI.out
            obtain ⟨hbe, hr0⟩ := hbr rfl
            subst hbe
            have HJ0 : Hid (∃ R : List Rg, r = R.length ∧ PaI w5 wr (valF L a) (.slice p r c) R ∧ chR a e1 R) := Lib.hid ⟨R, hrR, hPa, by rw [HKK.out.2.1]; exact hch⟩
            have hn2 : r ≤ 201 := by omega
            clear hlt hrR hPa hch hbr HI HCO
            go_wp2_with fail
            go_loopw [16, 21] (fun v k wr => ∃ (m r : Nat) (p : Option Addr) (c : Nat), k = .int .i64 (m : Int) ∧ v = .slice p r c ∧ m + r ≤ 201 ∧ 0 < r ∧ Hid (∃ R : List Rg, r = R.length ∧ PaI w5 wr (valF L a) (.slice p r c) R ∧ chR a e1 R)) (fun v _ _ => lenV v)
            case atStart => exact ⟨0, r, p, c, rfl, rfl, by omega, hr0, HJ0⟩
            case round =>
              clear HJ0
              obtain ⟨m, r, p, c, rfl, rfl, hmr, hr0, HI⟩ := hrel
              by_cases hlt : 1 < r
              · have hli : (1 : Int) < (r : Int) := by omega
                have hm0 : (0 : Int) ≤ (m : Int) := by omega
                go_upto_if 122 with fail
                go_cut [22] from 122 to 127 (fun x wx => ∃ z : Int, x = .int .i64 z ∧ (-9223372036854775808 ≤ z ∧ z ≤ 9223372036854775807) ∧ wx = wr)
                case first =>
                  by_cases hmx : m < nx
                  · have hmi : (m : Int) < (nx : Int) := by omega
                    obtain ⟨z, hz⟩ : ∃ x, X[m]? = some x := ⟨X[m]'(by have := HNY.out; omega), List.getElem?_eq_getElem _⟩
                    obtain ⟨ad, rfl, hac⟩ := ints_cellF (HX.out W (Below.refl _ _)) hz
                    have hbz := HXZ.out z (List.mem_of_getElem? hz)
                    have hcell : wr.cell? (ad.add m) = some (.int .i64 z) := by
                      obtain ⟨R, _, h, _⟩ := HI.out
                      exact hac wr (HW1.out.trans ((HW5.out.trans (h.b.mono HW5.out.size)).mono HW1.out.size))
                    clear hmx hz hac
                    go_wp2_with fail
                    go_meet
                    exact ⟨z, rfl, hbz, rfl⟩
                  · have hmi : ¬ (m : Int) < (nx : Int) := by omega
                    clear hmx
                    go_wp2_with fail
                    go_meet
                    exact ⟨(m : Int), rfl, by omega, rfl⟩
                case rest =>
                  obtain ⟨z, rfl, hz, hww⟩ := hcut
                  subst hww
                  obtain ⟨r1, hr1⟩ : ∃ x, x = r - 1 := ⟨_, rfl⟩
                  have hr1I : (r : Int) - 1 = (r1 : Int) := by omega
                  obtain ⟨i, hi⟩ : ∃ x, x = pickN z r1 := ⟨_, rfl⟩
                  have hir : i < r1 := by rw [hi]; exact Nat.mod_lt _ (by omega)
                  have CPk : Hid (∀ w, Calls Tryd.prog 49 #[.int .i64 z, .int .i64 (r1 : Int)] w fun e w' => e = .returned (.int .i64 (i : Int)) ∧ w' = w) := Lib.hid (fun w => by rw [hi]; exact pickU_any z r1 w (by omega) (by omega) hz)
                  obtain ⟨R, hrR, hPa, hch⟩ := HI.out
                  obtain ⟨j, hj⟩ : ∃ x, x = i + 1 := ⟨_, rfl⟩
                  have hjI : (i : Int) + 1 = (j : Int) := by omega
                  obtain ⟨⟨xb, xe, xv⟩, hx⟩ : ∃ x, R[i]? = some x := ⟨R[i]'(by omega), List.getElem?_eq_getElem _⟩
                  obtain ⟨⟨yb, ye, yv⟩, hy⟩ : ∃ x, R[j]? = some x := ⟨R[j]'(by omega), List.getElem?_eq_getElem _⟩
                  have hJN : ∀ v, yb = xe ∧ xb ≤ ye ∧ chR a e1 ((R.set i (xb, ye, v)).take (i + 1) ++ (R.set i (xb, ye, v)).drop (i + 2)) := fun v => chR_join (v := v) (a := a) hch hx (by rw [← hj]; exact hy)
                  obtain ⟨hyx, _, _⟩ := hJN (.int .i64 0)
                  subst hyx
                  obtain ⟨xk1, xk2, xk3⟩ := chR_get hch hx
                  obtain ⟨yk1, yk2, yk3⟩ := chR_get hch hy
                  dsimp only at xk1 xk2 xk3 yk1 yk2 yk3
                  obtain ⟨g, rfl, d0, d1, d2, hfz⟩ := hPa.get hx
                  obtain ⟨g2, hgg, d3, d4, d5, _⟩ := hPa.get hy
                  injection hgg with hgg
                  injection hgg with hgg
                  subst hgg
                  dsimp only at d0 d1 d2 d3 d4 d5
                  have hxi := hPa.it _ (List.mem_of_getElem? hx)
                  have hyi := hPa.it _ (List.mem_of_getElem? hy)
                  dsimp only at hxi hyi
                  obtain ⟨J, hJ⟩ : ∃ J, J = nodesA (valF L a) xb ye := ⟨_, rfl⟩
                  have hae := HKK.out.2.1
                  have hJl : J.length ≤ 200 := by rw [hJ]; have := nodesA_leF (valF L a) xb ye; omega
                  have CJ : Hid (∀ w', Below wc.heap.size wc w' → Calls Tryd.prog 33 #[rgA xb yb xv, rgA yb ye yv] w' fun o w2 => ∃ u, o = .returned (.tuple #[rgA xb ye u, .int .i64 0]) ∧ LfI w' w2 u J.length J) := Lib.hid (fun w' hb => by
                    have h1 := nodesA_leF (valF L a) xb yb
                    have h2 := nodesA_leF (valF L a) yb ye
                    have hLl := HL.out.1
                    rw [hJ]
                    exact fjoin_any ((HBW.out.below HW5.out).below ((hPa.b.trans (hb.mono hPa.b.size)).mono (HW5.out.size))) xk2 yk2 (by omega) (by omega) (held_txtsF (hxi.below hb) (by omega)) (held_txtsF (hyi.below hb) (by omega))
                      (fun s hs => nodesA_32F HL.out.2 xk1 (by omega) hs) (fun s hs => nodesA_32F HL.out.2 (by omega) (by omega) hs) (fun b' l' q1 q2 => valF_nd L a b' l' (by omega) (by rw [hLl]; exact Nat.le_trans q2 (by omega))))
                  obtain ⟨pxx, cxx, rfl, _⟩ := hxi.cells
                  obtain ⟨pyy, cyy, rfl, _⟩ := hyi.cells
                  obtain ⟨nxx, hnxx⟩ : ∃ n, n = (nodesA (valF L a) xb yb).length := ⟨_, rfl⟩
                  obtain ⟨nyy, hnyy⟩ : ∃ n, n = (nodesA (valF L a) yb ye).length := ⟨_, rfl⟩
                  rw [← hnxx] at CJ d2
                  rw [← hnyy] at CJ d5
                  have HCS : Hid (∀ w', Below wc.heap.size wc w' → w'.cell? ⟨g, i * 3, none⟩ = some (.int .i64 (xb : Int)) ∧ w'.cell? ⟨g, i * 3 + 1, none⟩ = some (.int .i64 (yb : Int)) ∧ w'.cell? ⟨g, i * 3 + 1 + 1, none⟩ = some (.slice pxx nxx cxx) ∧ w'.cell? ⟨g, j * 3, none⟩ = some (.int .i64 (yb : Int)) ∧ w'.cell? ⟨g, j * 3 + 1, none⟩ = some (.int .i64 (ye : Int)) ∧ w'.cell? ⟨g, j * 3 + 1 + 1, none⟩ = some (.slice pyy nyy cyy)) := Lib.hid (fun w' hb => by
                    have hk : ∀ {x : Addr} {u : Value}, wc.cell? x = some u → w'.cell? x = some u := fun hx => (hb.cell (block_lt_of_cell hx)).trans hx
                    exact ⟨hk d0, hk d1, hk d2, hk d3, hk d4, hk d5⟩)
                  have HFZ := Lib.hid hfz
                  have HIR : Hid (i < r1 ∧ r1 = r - 1 ∧ j = i + 1 ∧ r = R.length) := Lib.hid ⟨hir, hr1, hj, hrR⟩
                  have HJN := Lib.hid (fun v => (hJN v).2.2)
                  have HPA := Lib.hid hPa
                  have HRX := Lib.hid hx
                  have HJJ : Hid (J = nodesA (valF L a) xb ye ∧ J.length ≤ 200) := Lib.hid ⟨hJ, hJl⟩
                  have hjr : (j : Int) < (r : Int) := by omega
                  have hir2 : (i : Int) < (r : Int) := by omega
                  have hi0 : (0 : Int) ≤ (i : Int) := by omega
                  have hj0 : (0 : Int) ≤ (j : Int) := by omega
                  have hj200 : j ≤ 201 := by omega
                  have HBA : Hid (Below wc.heap.size wc wc.drew) := Lib.hid (Below.refl _ _).drew
                  have hjw : IntKind.i64.wrap (j : Int) = (j : Int) := IntWalk.i64_in _ (by omega)
                  have hiw : IntKind.i64.wrap (i : Int) = (i : Int) := IntWalk.i64_in _ (by omega)
                  have HLT := Lib.hid hlt
                  clear hz hr1 hi hir hrR hPa hch hj hx hy hJN xk1 xk2 xk3 yk1 yk2 yk3 d0 d1 d2 d3 d4 d5 hfz hxi hyi hJ hae hJl hnxx hnyy HI hlt
                  go_upto_region 32 with (go_at_call 49; with_reducible refine (CPk.out _).mono ?_; rintro o w' ⟨rfl, hww⟩; rw [hww]; clear hww w')
                  go_cut [24, 25] from 132 to 145 (fun x y wx => ∃ bx pj cj, x = .pointer (some ⟨bx, 0, none⟩) ∧ y = .int .i64 0 ∧ Hid (Below wc.heap.size wc wx ∧ Held wx 9 1 (.slice pj J.length cj) J.length (J.map Value.string) ∧ wx.heap[bx]? = some (.cells #[.int .i64 (xb : Int), .int .i64 (ye : Int), .slice pj J.length cj] 68 (0, 0))))
                  case first =>
                    obtain ⟨e0, e1', e2, e3, e4, e5⟩ := HCS.out _ HBA.out
                    have hxz := heap_alloc_new wc (.cells #[.int .i64 0, .int .i64 0, .slice none 0 0] 68)
                    have HXZ2 := Lib.hid hxz
                    have HBZ : Hid (Below wc.heap.size wc (wc.alloc (.cells #[.int .i64 0, .int .i64 0, .slice none 0 0] 68)).drew) := Lib.hid ((Below.refl _ _).alloc (Nat.le_refl _) _).drew
                    clear hxz
                    go_region_held3 (fun w' => w'.cell? ⟨g, i * 3, none⟩ = some (.int .i64 (xb : Int)) ∧ w'.cell? ⟨g, i * 3 + 1, none⟩ = some (.int .i64 (yb : Int)) ∧ w'.cell? ⟨g, i * 3 + 1 + 1, none⟩ = some (.slice pxx nxx cxx) ∧ w'.cell? ⟨g, j * 3, none⟩ = some (.int .i64 (yb : Int)) ∧ w'.cell? ⟨g, j * 3 + 1, none⟩ = some (.int .i64 (ye : Int)) ∧ w'.cell? ⟨g, j * 3 + 1 + 1, none⟩ = some (.slice pyy nyy cyy)) (first | exact HCS.out _ HB7.out | exact HCS.out _ (((HB7.out.setCell (by simp) _).setCell (by simp) _).setCell (by simp) _) | exact HCS.out _ HB6.out | exact HCS.out _ (HB6.out.alloc HB6.out.size _) | exact HCS.out _ HBA.out | exact HCS.out _ HBZ.out) (first
                      | (go_at_call 33; (with_reducible refine (CJ.out _ HBA.out).mono ?_); rintro o w6 ⟨u6, rfl, h⟩; obtain ⟨p6, c6, rfl, _⟩ := h.h.cells; have H6 := Lib.hid h; have HB6 : Hid (Below wc.heap.size wc w6) := Lib.hid (HBA.out.trans (h.b.mono HBA.out.size)); clear h)
                      | (go_at_call 33; (with_reducible refine (CJ.out _ HBZ.out).mono ?_); rintro o w7 ⟨u6, rfl, h⟩; obtain ⟨p6, c6, rfl, _⟩ := h.h.cells; have H7 := Lib.hid h; have HB7 : Hid (Below wc.heap.size wc w7) := Lib.hid (HBZ.out.trans (h.b.mono HBZ.out.size)); have hx7 := blk_below (show (wc.alloc (.cells #[.int .i64 0, .int .i64 0, .slice none 0 0] 68)).drew.heap[wc.heap.size]? = some (.cells #[.int .i64 0, .int .i64 0, .slice none 0 0] 68 (0, 0)) from HXZ2.out) h.b (by simp); have HX7 := Lib.hid hx7; have k0 : w7.cell? ⟨wc.heap.size, 0, none⟩ = some (.int .i64 0) := cellB hx7 rfl; have k1 : w7.cell? ⟨wc.heap.size, 1, none⟩ = some (.int .i64 0) := cellB hx7 rfl; have k2 : w7.cell? ⟨wc.heap.size, 2, none⟩ = some (.slice none 0 0) := cellB hx7 rfl; have f0 : w7.frozen? ⟨wc.heap.size, 0, none⟩ = false := frozB hx7; have f1 : w7.frozen? ⟨wc.heap.size, 1, none⟩ = false := frozB hx7; have f2 : w7.frozen? ⟨wc.heap.size, 2, none⟩ = false := frozB hx7; clear h hx7))
                    all_goals
                      go_wp2_with fail
                      go_meet
                      first
                        | exact ⟨w6.heap.size, p6, c6, rfl, rfl, Lib.hid ⟨HB6.out.alloc HB6.out.size _, H6.out.h.below ((Below.refl _ _).alloc (Nat.le_refl _) _), heap_alloc_new w6 _⟩⟩
                        | exact ⟨wc.heap.size, p6, c6, rfl, rfl, Lib.hid ⟨((HB7.out.setCell (by simp) _).setCell (by simp) _).setCell (by simp) _, lf_set3 H7.out (by simp) _ _ _, blk_set3 HX7.out⟩⟩
                  case rest =>
                    obtain ⟨bx, pj, cj, rfl, rfl, HJX⟩ := hcut
                    obtain ⟨q1, q2, q3⟩ := HJX.out
                    have hP := HPA.out.below q1
                    obtain ⟨g', hgg, f0, f1, f2, ffz⟩ := hP.get HRX.out
                    injection hgg with hgg
                    injection hgg with hgg
                    subst hgg
                    dsimp only at f0 f1 f2
                    have z0 := ffz (i * 3)
                    have z1 := ffz (i * 3 + 1)
                    have z2 := ffz (i * 3 + 1 + 1)
                    have c0 : wc.cell? ⟨bx, 0, none⟩ = some (.int .i64 (xb : Int)) := cellB q3 rfl
                    have c1 : wc.cell? ⟨bx, 1, none⟩ = some (.int .i64 (ye : Int)) := cellB q3 rfl
                    have c2 : wc.cell? ⟨bx, 2, none⟩ = some (.slice pj J.length cj) := cellB q3 rfl
                    have hPS := hP.set (g := g) (j := i) (x := (xb, ye, .slice pj J.length cj)) rfl (by have := HIR.out; omega) (by dsimp only; rw [← HJJ.out.1]; exact q2) rfl
                    obtain ⟨wS, hwS⟩ : ∃ x, x = ((wc.setCell ⟨g, i * 3, none⟩ (.int .i64 (xb : Int))).setCell ⟨g, i * 3 + 1, none⟩ (.int .i64 (ye : Int))).setCell ⟨g, i * 3 + 2, none⟩ (.slice pj J.length cj) := ⟨_, rfl⟩
                    have HPS : Hid (PaI w5 wS (valF L a) (.slice (some ⟨g, 0, none⟩) r c) (R.set i (xb, ye, .slice pj J.length cj))) := Lib.hid (by rw [hwS]; exact hPS)
                    have HWS := Lib.hid hwS
                    clear q1 q2 q3 hP ffz hPS hwS CPk CJ HCS
                    go_upto_region 36 with fail
                    rw [← HWS.out]
                    obtain ⟨k2, hk2⟩ : ∃ x, x = j + 1 := ⟨_, rfl⟩
                    have hk2I : (i : Int) + 2 = (k2 : Int) := by omega
                    have hk2w : IntKind.i64.wrap (k2 : Int) = (k2 : Int) := IntWalk.i64_in _ (by omega)
                    have hk2r : (k2 : Int) ≤ (r : Int) := by omega
                    have hk20 : (0 : Int) ≤ (k2 : Int) := by omega
                    obtain ⟨_, c9, h9, hrc, _⟩ := HPS.out.h.cells
                    have hRl : (R.set i (xb, ye, .slice pj J.length cj)).length = r := by rw [List.length_set]; have := HIR.out; omega
                    have hrc2 : r ≤ c := by injection h9 with _ _ e3; rw [hRl] at hrc; omega
                    have hjc : (j : Int) ≤ (c : Int) := by omega
                    obtain ⟨A, hsl, hA⟩ := rg_from (g := g) (n := r) (c := c) (k := k2) (by omega) hrc2
                    have hrk : r - k2 = r - (j + 1) := by omega
                    have HA : Hid (A = ⟨g, (j + 1) * 3, none⟩ ∨ r = j + 1) := Lib.hid (by rw [← hk2]; exact hA)
                    have hjr2 : j + 1 ≤ r := by omega
                    have hHS : Held wS.drew 68 3 (.slice (some ⟨g, 0, none⟩) r c) r (rgV (R.set i (xb, ye, .slice pj J.length cj))) := by
                      have := HPS.out.h.below ((Below.refl _ _).drew)
                      rwa [hRl] at this
                    have HHS := Lib.hid hHS
                    have HON := Lib.hid HPS.out.one
                    have HDEL : Hid (∀ w', Held w' 68 3 (.slice (some ⟨g, 0, none⟩) (j + (r - (j + 1))) c) (j + (r - (j + 1))) ((rgV (R.set i (xb, ye, .slice pj J.length cj))).take (j * 3) ++ (rgV (R.set i (xb, ye, .slice pj J.length cj))).drop ((j + 1) * 3)) → wS.drew.grownBy w' (some g) → ∃ R : List Rg, j + (r - (j + 1)) = R.length ∧ PaI w5 w' (valF L a) (.slice (some ⟨g, 0, none⟩) (j + (r - (j + 1))) c) R ∧ chR a e1 R) := Lib.hid (fun w' h hg => by
                      have hPd := HPS.out.below ((Below.refl wS.heap.size wS).drew)
                      rw [← hRl] at hPd
                      have := PaI.del (k := j) (d := 1) (m := j + (r - (j + 1))) hPd (by rw [hRl]; exact hjr2) (by rw [hRl]) h hg
                      refine ⟨_, ?_, this, ?_⟩
                      · rw [HIR.out.2.2.1, del_length (by have := HIR.out; omega)]
                        have := HIR.out
                        omega
                      · have := HJN.out (.slice pj J.length cj)
                        rwa [show i + 2 = i + 1 + 1 from rfl, ← HIR.out.2.2.1] at this)
                    have HRR : Hid (j + (r - (j + 1)) < r ∧ m + 1 + (j + (r - (j + 1))) ≤ 201 ∧ 0 < j + (r - (j + 1))) := Lib.hid ⟨by omega, by omega, by have := HIR.out; omega⟩
                    clear hk2 h9 hrc hRl hrc2 hA hHS hjr2
                    go_region_law (first
                      | (refine step_del rfl (.tmp 154) (.tmp 158) rfl Tryd.underlying90 (.agg #[.int .i64 0, .int .i64 0, .slice none 0 0]) 3 info_rg g r c j 1 (rgV (R.set i (xb, ye, .slice pj J.length cj))) A (c - k2) (by simp [Act.eval, Act.put]) (by simp [Act.eval, Act.put, hsl, hrk]) HHS.out HON.out (by omega) HA.out ?_; intro w8 h8 hg8 _; have HD8 := Lib.hid (HDEL.out _ h8 hg8); clear h8 hg8)
                      | fail)
                    all_goals
                      go_wp2_with fail
                      exact ⟨⟨m + 1, _, _, _, by simp, rfl, HRR.out.2.1, HRR.out.2.2, HD8⟩, by show j + (r - (j + 1)) < r; exact HRR.out.1⟩
              · have hr1 : r = 1 := by omega
                subst hr1
                have hli : ¬ (1 : Int) < ((1 : Nat) : Int) := by decide
                have hli2 : ¬ (1 : Int) < 1 := by decide
                obtain ⟨R, hrR, hPa, hch⟩ := HI.out
                obtain ⟨⟨xb, xe, xv⟩, rfl⟩ : ∃ x, R = [x] := List.length_eq_one_iff.1 hrR.symm
                obtain ⟨h1, _, _, h4⟩ := hch
                have h5 : xe = e1 := h4
                have h6 : xb = a := h1
                subst h5 h6
                obtain ⟨g, rfl, d0, d1, d2, _⟩ := hPa.get (i := 0) (x := (xb, xe, xv)) rfl
                have hxi := hPa.it _ (List.mem_singleton.2 rfl)
                dsimp only at d0 d1 d2 hxi
                rw [← HKK.out.1] at hxi
                obtain ⟨pxx, cxx, rfl, _⟩ := hxi.cells
                have hb3 := HB5.out.2.2.trans (hPa.b.mono HB5.out.2.2.size)
                have HW9 : Hid (Below w3.heap.size w3 wr ∧ Below W.heap.size W wr) := Lib.hid ⟨hb3, HW1.out.trans ((HW3.out.trans (hb3.mono HW3.out.size)).mono HW1.out.size)⟩
                obtain ⟨nk, hnk⟩ : ∃ x, x = K.length := ⟨_, rfl⟩
                have CS : Hid (∀ w', Below wr.heap.size wr w' → Calls Tryd.prog 37 #[rgA xb xe (.slice pxx nk cxx), rgA xb xe (.slice pA nk cA)] w' fun o w2 => o = .returned (.bool true) ∧ Below w'.heap.size w' w2) := Lib.hid (fun w' hb => by
                  have h1 := sameRange_any (b := xb) (b' := xb) (e := xe) (e' := xe) (held_txtsF (hxi.below hb) (by have := HKK.out.2.2; omega)) ((HXA.out _ (hb3.trans (hb.mono hb3.size))).2) (by have := HKK.out.2.2; omega) (by have := HKK.out.2.2; omega)
                  have h2 : srB K K (xb : Int) xb xe xe = true := by unfold srB; simp
                  rw [h2, ← hnk] at h1
                  exact h1)
                have HCS : Hid (∀ w', Below wr.heap.size wr w' → w'.cell? ⟨g, 0, none⟩ = some (.int .i64 (xb : Int)) ∧ w'.cell? ⟨g, 1, none⟩ = some (.int .i64 (xe : Int)) ∧ w'.cell? ⟨g, 2, none⟩ = some (.slice pxx nk cxx) ∧ w'.cell? ⟨ba, 0, none⟩ = some (.int .i64 (xb : Int)) ∧ w'.cell? ⟨ba, 1, none⟩ = some (.int .i64 (xe : Int)) ∧ w'.cell? ⟨ba, 2, none⟩ = some (.slice pA nk cA)) := Lib.hid (fun w' hb => by
                  have hk : ∀ {x : Addr} {u : Value}, wr.cell? x = some u → w'.cell? x = some u := fun hx => (hb.cell (block_lt_of_cell hx)).trans hx
                  have hxa := (HXA.out _ (hb3.trans (hb.mono hb3.size))).1
                  rw [← hnk] at hxa
                  exact ⟨hk d0, hk d1, by rw [hnk]; exact hk d2, cellB hxa rfl, cellB hxa rfl, cellB hxa rfl⟩)
                have HBA : Hid (Below wr.heap.size wr wr.drew) := Lib.hid (Below.refl _ _).drew
                have HNK := Lib.hid hnk
                rw [← hnk] at HXA ⊢
                clear hlt hrR hPa h1 h4 d0 d1 d2 hxi hb3 hnk HI hr0 hmr
                go_upto_region 37 with fail
                go_cut [26] from 160 to 165 (fun x wx => x = .bool true ∧ Hid (Below wr.heap.size wr wx))
                case first =>
                  obtain ⟨e0, e1', e2, e3, e4, e5⟩ := HCS.out _ HBA.out
                  go_region_held3 (fun w' => w'.cell? ⟨g, 0, none⟩ = some (.int .i64 (xb : Int)) ∧ w'.cell? ⟨g, 1, none⟩ = some (.int .i64 (xe : Int)) ∧ w'.cell? ⟨g, 2, none⟩ = some (.slice pxx nk cxx) ∧ w'.cell? ⟨ba, 0, none⟩ = some (.int .i64 (xb : Int)) ∧ w'.cell? ⟨ba, 1, none⟩ = some (.int .i64 (xe : Int)) ∧ w'.cell? ⟨ba, 2, none⟩ = some (.slice pA nk cA)) (first | exact HCS.out _ HB6.out | exact HCS.out _ HBA.out) (first
                    | (go_at_call 37; (with_reducible refine (CS.out _ HBA.out).mono ?_); rintro o w6 ⟨rfl, h⟩; have HB6 : Hid (Below wr.heap.size wr w6) := Lib.hid (HBA.out.trans (h.mono HBA.out.size)); clear h))
                  all_goals
                    go_wp2_with fail
                    go_meet
                    exact ⟨rfl, HB6⟩
                case rest =>
                  obtain ⟨rfl, HBC⟩ := hcut
                  by_cases ha0 : xb = 0
                  case neg =>
                    have hne : ((xb : Int) != 0) = true := by rw [bne_iff_ne]; omega
                    clear ha0
                    go_wp2_with fail
                    go_ret
                    exact ⟨rfl, HW9.out.2.trans (HBC.out.mono HW9.out.2.size)⟩
                  subst ha0
                  have hne : (((0 : Nat) : Int) != 0) = false := by decide
                  have hWc : Below W.heap.size W wc := HW9.out.2.trans (HBC.out.mono HW9.out.2.size)
                  have h3c : Below w3.heap.size w3 wc := HW9.out.1.trans (HBC.out.mono HW9.out.1.size)
                  have HWC := Lib.hid hWc
                  have HB2 : Hid (Bas wc wc.heap.size) := Lib.hid (by
                    have hb := HB.out.below hWc
                    exact ⟨hb.tabs, hb.tz, ⟨Nat.lt_of_lt_of_le hb.lt.1 hb.le, Nat.lt_of_lt_of_le hb.lt.2.1 hb.le, Nat.lt_of_lt_of_le hb.lt.2.2 hb.le⟩, Nat.le_refl _⟩)
                  have HXC : Hid (∀ w', Below wc.heap.size wc w' → w'.heap[ba]? = some (.cells #[.int .i64 0, .int .i64 (xe : Int), .slice pA nk cA] 68 (0, 0)) ∧ Txts w' (.slice pA nk cA) K) := Lib.hid (fun w' hb => HXA.out w' (h3c.trans (hb.mono h3c.size)))
                  have hxx := (HXC.out _ (Below.refl _ _)).1
                  have HTC : Hid (∀ w', Below wc.heap.size wc w' → Txts w' (.slice pl b cl) L) := Lib.hid (fun w' hb => by
                    have h9 := HW3.out.trans (h3c.mono HW3.out.size)
                    exact HTL.out w' (h9.trans (hb.mono h9.size)))
                  clear CS HCS HBA hWc h3c hxx
                  go_upto_region 41 with (go_at_call 43; with_reducible refine (fnew_any (Below.refl _ wc)).mono ?_; rintro o wn ⟨eb, rfl, h⟩; have HEN := Lib.hid h; clear h)
                  have HI0 : Hid (EdU wc wn eb (L.take 0)) := Lib.hid (by rw [List.take_zero]; exact HEN.out)
                  clear HEN
                  go_wp2_with fail
                  go_loopw [28] (fun k wr => ∃ i : Nat, k = .int .i64 (i : Int) ∧ i ≤ b ∧ Hid (EdU wc wr eb (L.take i))) (fun k _ => b - (intOf k).toNat)
                  case atStart => exact ⟨0, rfl, Nat.zero_le _, HI0⟩
                  case round =>
                    clear HI0
                    obtain ⟨i, rfl, hi, HI⟩ := hrel
                    by_cases hlt : i < b
                    · have hli : (i : Int) < (b : Int) := by omega
                      have hi0 : (0 : Int) ≤ (i : Int) := by omega
                      obtain ⟨x, hx⟩ : ∃ x, L[i]? = some x := ⟨L[i]'(by have := HL.out; omega), List.getElem?_eq_getElem _⟩
                      obtain ⟨ad, rfl, hac⟩ := txts_cellF (HTC.out wc (Below.refl _ _)) hx
                      have hcell := hac wr HI.out.b
                      have CAd : Hid (Calls Tryd.prog 44 #[.pointer (some ⟨eb, 0, none⟩), .string x] wr fun o w' => o = .returned (.int .i64 0) ∧ EdU wc w' eb (L.take (i + 1))) := Lib.hid (by
                        rw [show L.take (i + 1) = L.take i ++ [x] by rw [List.take_add_one, hx]; rfl]
                        exact HI.out.add HB2.out (HL.out.2 x (List.mem_of_getElem? hx)) (by rw [List.length_take]; omega))
                      have HLT := Lib.hid hlt
                      clear hlt hx hac
                      go_wp2_with (go_at_call 44; with_reducible refine CAd.out.mono ?_; rintro o w4 ⟨rfl, h⟩; have H4 := Lib.hid h; clear h)
                      exact ⟨⟨i + 1, by simp, HLT.out, H4⟩, by show b - ((i : Int) + 1).toNat < b - (i : Int).toNat; have := HLT.out; omega⟩
                    · obtain rfl : i = b := by omega
                      have hli : ¬ (i : Int) < (i : Int) := by omega
                      have HE : Hid (EdU wc wr eb L) := Lib.hid (by have := HI.out; rwa [List.take_of_length_le (by have := HL.out.1; omega)] at this)
                      have HLl := HL.out.1
                      obtain ⟨rt, hrt⟩ : ∃ s', s' = rootR L := ⟨_, rfl⟩
                      have hK0 : K = nodesA (valF L 0) 0 L.length := by rw [HKK.out.1, HKK.out.2.1, Nat.zero_add, HLl]
                      have hxe : xe = L.length := by rw [HKK.out.2.1, HLl, Nat.zero_add]
                      have CRT : Hid (∀ w', Below wr.heap.size wr w' → Calls Tryd.prog 16 #[.slice pl i cl] w' fun o z => o = .returned (.tuple #[.string rt, .int .i64 0]) ∧ Below w'.heap.size w' z) := Lib.hid (fun w' hb => by
                        have hbb := HE.out.b.trans (hb.mono HE.out.b.size)
                        have h1 := Root_any _ L w' (HB2.out.below hbb).tabs (HTC.out w' hbb)
                        obtain ⟨q1, q2⟩ := root_there HL.out.2 (by omega)
                        rwa [q1, q2, ← hrt] at h1)
                      have CRO : Hid (∀ w', Below wr.heap.size wr w' → Calls Tryd.prog 35 #[.agg #[.int .i64 0, .int .i64 (xe : Int), .slice pA nk cA]] w' fun o z => o = .returned (.tuple #[.string rt, .int .i64 0]) ∧ Below w'.heap.size w' z) := Lib.hid (fun w' hb => by
                        have hbb := HE.out.b.trans (hb.mono HE.out.b.size)
                        have h1 := frootof_any (HB2.out.below hbb) hxe (by omega) HL.out.2 (by rw [← hK0]; exact (HXC.out w' hbb).2)
                        rw [partL_allF, ← hrt] at h1
                        exact h1)
                      have CRg : Hid (∀ w', Below wr.heap.size wr w' → Calls Tryd.prog 27 #[rowP eb] w' fun o z => o = .returned (.string rt) ∧ Below w'.heap.size w' z) := Lib.hid (fun w' hb => by
                        have h1 := (HE.out.below hb).root (HB2.out.below (HE.out.below hb).b).tabs
                        rwa [partL_allF, ← hrt] at h1)
                      have CSz : Hid (∀ w', Below wr.heap.size wr w' → Calls Tryd.prog 46 #[.pointer (some ⟨eb, 0, none⟩)] w' fun o x => o = .returned (.int .i64 (i : Int)) ∧ x = w') := Lib.hid (fun w' hb => by
                        have := fsize_any (HE.out.below hb)
                        rwa [HLl] at this)
                      have CNo : Hid (∀ w', Below wr.heap.size wr w' → Calls Tryd.prog 24 #[rowP eb] w' fun o x => ∃ v, o = .returned v ∧ Txts x v K ∧ Below w'.heap.size w' x) := Lib.hid (fun w' hb => (fnodes_any (HE.out.below hb)).mono (by
                        rintro o x ⟨v, rfl, h⟩
                        exact ⟨v, rfl, by rw [hK0]; exact held_txtsF h.h (by rw [← hK0]; have := HKK.out.2.2; omega), h.b⟩))
                      have CSM : Hid (∀ w' u, Below wr.heap.size wr w' → Txts w' u K → Calls Tryd.prog 25 #[u, .slice pA nk cA] w' fun o z => o = .returned (.bool true) ∧ Below w'.heap.size w' z) := Lib.hid (fun w' u hb hu => by
                        have h1 := sameW_any u _ K K w' hu (HXC.out w' (HE.out.b.trans (hb.mono HE.out.b.size))).2 (by have := HKK.out.2.2; omega) (by have := HKK.out.2.2; omega)
                        rwa [show decide (K = K) = true from decide_eq_true rfl] at h1)
                      have HCB : Hid (∀ w', Below wr.heap.size wr w' → w'.cell? ⟨ba, 0, none⟩ = some (.int .i64 0) ∧ w'.cell? ⟨ba, 1, none⟩ = some (.int .i64 (xe : Int)) ∧ w'.cell? ⟨ba, 2, none⟩ = some (.slice pA nk cA)) := Lib.hid (fun w' hb => by
                        have hxa := (HXC.out w' (HE.out.b.trans (hb.mono HE.out.b.size))).1
                        exact ⟨cellB hxa rfl, cellB hxa rfl, cellB hxa rfl⟩)
                      clear hlt HI HLl hK0 hxe hrt
                      go_upto_region 50 with (go_at_call 16; with_reducible refine (CRT.out _ (Below.refl _ wr)).mono ?_; rintro o x1 ⟨rfl, h⟩; have H1 := Lib.hid h; clear h)
                      obtain ⟨c0, c1, c2⟩ := HCB.out _ H1.out
                      go_upto_region 51 with (go_at_call 35; with_reducible refine (CRO.out _ H1.out).mono ?_; rintro o x2 ⟨rfl, h⟩; have H2 : Hid (Below wr.heap.size wr x2) := Lib.hid (H1.out.trans (h.mono H1.out.size)); clear h)
                      clear c0 c1 c2
                      have HBA : Hid (Below wr.heap.size wr x2.drew) := Lib.hid H2.out.drew
                      go_cut [34] from 199 to 206 (fun x wx => x = .bool true ∧ Hid (Below wr.heap.size wr wx))
                      case first =>
                        have hba := (HCB.out _ HBA.out).2.2
                        go_region_held3 (fun w' => w'.cell? ⟨ba, 2, none⟩ = some (.slice pA nk cA)) (first | exact (HCB.out _ HB7.out).2.2 | exact (HCB.out _ HB6.out).2.2 | exact (HCB.out _ HBA.out).2.2) (first
                          | (go_at_call 24; (with_reducible refine (CNo.out _ HBA.out).mono ?_); rintro o x6 ⟨v6, rfl, ht, h⟩; have HT6 := Lib.hid ht; have HB6 : Hid (Below wr.heap.size wr x6) := Lib.hid (HBA.out.trans (h.mono HBA.out.size)); clear ht h)
                          | (go_at_call 25; (with_reducible refine (CSM.out _ _ HB6.out HT6.out).mono ?_); rintro o x7 ⟨rfl, h⟩; have HB7 : Hid (Below wr.heap.size wr x7) := Lib.hid (HB6.out.trans (h.mono HB6.out.size)); clear h))
                        all_goals
                          go_wp2_with fail
                          go_meet
                          exact ⟨rfl, HB7⟩
                      case rest =>
                        obtain ⟨rfl, HB7⟩ := hcut
                        go_wp2_with (first
                          | (go_at_call 27; with_reducible refine (CRg.out _ HB7.out).mono ?_; rintro o x8 ⟨rfl, h⟩; have HB8 : Hid (Below wr.heap.size wr x8) := Lib.hid (HB7.out.trans (h.mono HB7.out.size)); clear h)
                          | (go_at_call 46; with_reducible refine (CSz.out _ HB8.out).mono ?_; rintro o x ⟨rfl, hx⟩; rw [hx]; clear hx x))
                        go_ret
                        exact ⟨by simp, HWC.out.trans ((HE.out.b.trans (HB8.out.mono HE.out.b.size)).mono HWC.out.size)⟩
end Go.Proofs.YtdbghgpohdijfaaDoor
