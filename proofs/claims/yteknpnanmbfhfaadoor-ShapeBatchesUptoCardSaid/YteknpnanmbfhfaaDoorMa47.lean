/- Law 8, walked: ShapeBatches. -/
import Derived.Test.YteknpnanmbfhfaaDoorMa46
import Derived.Deep.RegionHeld3
namespace Go.Proofs.YteknpnanmbfhfaaDoor
open Go.RowKit Go.Scr Go.Shelf Go.Proofs.YteknpnanmbfhfaaDoor.Bk8
set_option linter.unusedVariables false
theorem runL_le (n b e : Int) : (runL n b e).length ≤ 1099511627776 := by
  unfold runL
  split
  · simp
  · split
    · simp
    · have := restT_le (lookR b.toNat e.toNat) n.toNat 0 (by omega)
      omega
/-- the book, two rows of numbers and spans -/
structure ShI (W0 wL w : World) (b b1 b2 : Nat) (K : Nat) (Y : List (Int × Int)) (M : List Int) (col : Nat → Nat) (V : Nat → Value) (hs : List (Value × List (Nat × Nat))) (ws : List Value) : Prop where
  lp : LpI W0 wL w b col V hs ws [] []
  hl : hs.length = K
  wl : ws.length = K
  r1 : w.heap[b1]? = some (.cells ((zprs Y).toArray) 29 (0, 0)) ∧ col b1 = 0
  r2 : w.heap[b2]? = some (.cells ((M.map (Value.int .i64)).toArray) 3 (0, 0)) ∧ col b2 = 0
set_option maxRecDepth 100000 in
set_option maxHeartbeats 8000000 in
theorem shapebatches_any (s0 s2 s3 : Int) (vi : Value) (Z : List Int) (w : World) (ht : Tabs w) (hv : Ints w vi Z) (hb0 : -9223372036854775808 ≤ s0 ∧ s0 ≤ 9223372036854775807) (hb2 : -9223372036854775808 ≤ s2 ∧ s2 ≤ 9223372036854775807) (hb3 : -9223372036854775808 ≤ s3 ∧ s3 ≤ 9223372036854775807) (hZl : Z.length ≤ 1048576) :
    Calls Tryd.prog 6 #[.int .i64 s0, vi, .int .i64 s2, .int .i64 s3] w fun r w' => r = .returned (.bool true) ∧ Below w.heap.size w w' := by
  have CK := Lib.hid (known8_any w ht)
  have HVI : Hid (∀ w', Below w.heap.size w w' → Ints w' vi Z) := Lib.hid (fun w' hb => ints_belowH hv hb (Nat.le_refl _))
  obtain ⟨vp, vc, rfl, _⟩ := id hv
  obtain ⟨zl, hzl⟩ : ∃ n, n = Z.length := ⟨_, rfl⟩
  rw [← hzl] at HVI hZl ⊢
  have HZL := Lib.hid hzl
  obtain ⟨m, hm⟩ : ∃ m, m = pickN s0 1099511627776 := ⟨_, rfl⟩
  have hm2 : m < 1099511627776 := by rw [hm]; exact pickN_lt _ (by decide)
  have CP1 : Hid (∀ w', Calls Tryd.prog 11 #[.int .i64 s0, .int .i64 1099511627776] w' fun e w2 => e = .returned (.int .i64 (m : Int)) ∧ w2 = w') := Lib.hid (fun w' => by
    rw [hm]
    exact pick8_any s0 1099511627776 w' (by decide) (by decide) hb0)
  obtain ⟨N, hN⟩ : ∃ N, N = 1 + m := ⟨_, rfl⟩
  have hNi : 1 + (m : Int) = (N : Int) := by omega
  obtain ⟨k, hk⟩ : ∃ k, k = pickN s2 N := ⟨_, rfl⟩
  have hkN : k < N := by rw [hk]; exact pickN_lt _ (by omega)
  have CP2 : Hid (∀ w', Calls Tryd.prog 11 #[.int .i64 s2, .int .i64 (N : Int)] w' fun e w2 => e = .returned (.int .i64 (k : Int)) ∧ w2 = w') := Lib.hid (fun w' => by
    rw [hk]
    exact pick8_any s2 N w' (by omega) (by omega) hb2)
  obtain ⟨q, hq⟩ : ∃ q, q = N - k := ⟨_, rfl⟩
  have hqi : (N : Int) - (k : Int) = (q : Int) := by omega
  obtain ⟨e0, he0⟩ : ∃ e0, e0 = pickN s3 q := ⟨_, rfl⟩
  have heq : e0 < q := by rw [he0]; exact pickN_lt _ (by omega)
  have CP3 : Hid (∀ w', Calls Tryd.prog 11 #[.int .i64 s3, .int .i64 (q : Int)] w' fun e w2 => e = .returned (.int .i64 (e0 : Int)) ∧ w2 = w') := Lib.hid (fun w' => by
    rw [he0]
    exact pick8_any s3 q w' (by omega) (by omega) hb3)
  obtain ⟨G, hG⟩ : ∃ E, E = k + 1 + e0 := ⟨_, rfl⟩
  have hGi : (k : Int) + 1 + (e0 : Int) = (G : Int) := by omega
  have hNb : N ≤ 1099511627776 := by omega
  have hN1 : 1 ≤ N := by omega
  have hkb : k ≤ 1099511627776 := by omega
  have hqb : q ≤ 1099511627776 := by omega
  have heb : e0 ≤ 1099511627776 := by omega
  have hGb : G ≤ 2199023255552 := by omega
  clear hm hN hk hq he0 hG ht hv hb0 hb2 hb3 hkN heq hzl
  go_enter Tryd.func6, Tryd.ntmps6
  go_upto_region 3 with (go_at_call 10; with_reducible refine CK.out.mono ?_; rintro r w2 ⟨rfl, hb2⟩; have HB2 := Lib.hid hb2; clear hb2)
  obtain ⟨b, hb⟩ : ∃ x, x = w2.heap.size := ⟨_, rfl⟩
  obtain ⟨w1, hw1⟩ : ∃ x, x = w2.alloc (.cells #[.slice none 0 0, .slice none 0 0, .slice none 0 0, .slice none 0 0, .slice none 0 0, .slice none 0 0] 27) := ⟨_, rfl⟩
  rw [← hw1, ← hb]
  have hb1 : Below w.heap.size w w1 := by
    have : Below w2.heap.size w2 w1 := by rw [hw1]; exact (Below.refl _ _).alloc (Nat.le_refl _) _
    exact below_onS HB2.out this HB2.out.size
  have hs1 : w1.heap.size = b + 1 := by rw [hw1, hb]; simp
  have HW1 : Hid (w1 = w2.alloc (.cells #[.slice none 0 0, .slice none 0 0, .slice none 0 0, .slice none 0 0, .slice none 0 0, .slice none 0 0] 27) ∧ b = w2.heap.size ∧ Below w.heap.size w w1 ∧ w1.heap.size = b + 1) := Lib.hid ⟨hw1, hb, hb1, hs1⟩
  have CRI := Lib.hid (rising_any (.slice vp zl vc) Z N 256 w1 (HVI.out w1 hb1) hN1 hNb (by decide) (by decide))
  clear hw1 hb hb1 hs1
  go_upto_region 5 with (first
    | (go_at_call 11; with_reducible refine (CP1.out _).mono ?_; rintro r wx ⟨rfl, hwx⟩; rw [hwx]; clear hwx wx)
    | (go_at_call 24; refine CRI.out.mono ?_; rintro r w3 ⟨vr, R, rfl, hne, hlen, hri⟩; obtain ⟨rp, rc, rfl, _⟩ := hri.hd.cells; have HRI := Lib.hid (And.intro hlen hri); clear hne hlen hri))
  obtain ⟨hlen, hri⟩ := HRI.out
  obtain ⟨rl, hrl⟩ : ∃ x, x = R.length := ⟨_, rfl⟩
  have hrl2 : rl ≤ 256 := by omega
  obtain ⟨col0, V0, hL0⟩ := LpI.start HW1.out.2.1 HW1.out.1 hri.bel
  have HBT0 : Hid (BtP w2 w3 b 0 w3) := Lib.hid ⟨col0, V0, [], [], hL0, rfl, rfl⟩
  have HR : Hid (∀ w' K, BtP w2 w3 b K w' → Ints w' (.slice rp rl rc) (R.map (fun x : Nat => (x : Int)))) := Lib.hid (fun w' K hbt => by
    obtain ⟨col, V, hs, ws, hlp, _, _⟩ := hbt
    have hd : Held w' 3 1 (.slice rp R.length rc) R.length (natV R) := hri.hd.keep fun g hg => (hlp.kp g (by have := hri.ow g hg; have := HW1.out.2.2.2; omega) (hri.hd.lt hg)).1
    rw [hrl]
    exact ints_nat hd (by omega) (fun x hx => by have := hri.ris.2 x hx; omega))
  have HV3 : Hid (∀ w' K, BtP w2 w3 b K w' → Ints w' (.slice vp zl vc) Z) := Lib.hid (fun w' K hbt => by
    obtain ⟨col, V, hs, ws, hlp, _, _⟩ := hbt
    exact HVI.out w' (below_onS HB2.out hlp.bk.bel HB2.out.size))
  have HRL : Hid ((R.map (fun x : Nat => (x : Int))).length ≤ 1048576) := Lib.hid (by rw [List.length_map]; omega)
  have C5 := Lib.hid (batch8_any s0 (.slice vp zl vc) Z HBT0.out (HV3.out w3 0 HBT0.out) (by have := HZL.out; omega) (by omega))
  have C6 : Hid (∀ w', BtP w2 w3 b (0 + 3) w' → Calls Tryd.prog 25 #[.pointer (some ⟨b, 0, none⟩), .int .i64 (N : Int), .slice rp rl rc] w' fun r w5 => r = .returned (.bool true) ∧ BtP w2 w3 b (0 + 3 + 3) w5) := Lib.hid (fun w' h => batch8_any (N : Int) _ _ h (HR.out w' _ h) HRL.out (by omega))
  have C7 : Hid (∀ w', BtP w2 w3 b (0 + 3 + 3) w' → Calls Tryd.prog 25 #[.pointer (some ⟨b, 0, none⟩), .int .i64 (N : Int), .slice vp zl vc] w' fun r w5 => r = .returned (.bool true) ∧ BtP w2 w3 b (0 + 3 + 3 + 3) w5) := Lib.hid (fun w' h => batch8_any (N : Int) _ _ h (HV3.out w' _ h) (by have := HZL.out; omega) (by omega))
  rw [← hrl]
  clear hlen hri hrl hL0 HRI CRI
  go_upto_region 9 with (first
    | (go_at_call 25; (with_reducible refine C5.out.mono ?_); rintro r w4 ⟨rfl, hp⟩; have HP4 := Lib.hid hp; clear hp)
    | (go_at_call 25; (with_reducible refine (C6.out _ HP4.out).mono ?_); rintro r w5 ⟨rfl, hp⟩; have HP5 := Lib.hid hp; clear hp)
    | (go_at_call 25; (with_reducible refine (C7.out _ HP5.out).mono ?_); rintro r w6 ⟨rfl, hp⟩; have HP6 := Lib.hid hp; clear hp)
    | (go_at_call 11; with_reducible refine (CP2.out _).mono ?_; rintro r wx ⟨rfl, hwx⟩; rw [hwx]; clear hwx wx))
  clear C5 C6 C7 HP4 HP5 HBT0 HR HV3
  obtain ⟨b1, hb1⟩ : ∃ x, x = w6.heap.size := ⟨_, rfl⟩
  have hbs := hb1.symm
  have HB1 := Lib.hid hb1
  clear hb1
  go_upto_region 11 with (go_at_call 11; with_reducible refine (CP3.out _).mono ?_; rintro r wx ⟨rfl, hwx⟩; rw [hwx]; clear hwx wx)
  obtain ⟨Y, hY⟩ : ∃ Y : List (Int × Int), Y = [(s2, s3), ((k : Int), (G : Int)), (s2, s3)] := ⟨_, rfl⟩
  obtain ⟨M, hM⟩ : ∃ M : List Int, M = [s0, (N : Int), (N : Int)] := ⟨_, rfl⟩
  obtain ⟨b2, hb2⟩ : ∃ x, x = b1 + 1 := ⟨_, rfl⟩
  rw [← hb2]
  obtain ⟨wL, hwL⟩ : ∃ x, x = (w6.alloc (.cells #[.int .i64 s2, .int .i64 s3, .int .i64 (k : Int), .int .i64 (G : Int), .int .i64 s2, .int .i64 s3] 29)).alloc (.cells #[.int .i64 s0, .int .i64 (N : Int), .int .i64 (N : Int)] 3) := ⟨_, rfl⟩
  have hbl : Below w6.heap.size w6 wL := by rw [hwL]; exact ((Below.refl _ _).alloc (Nat.le_refl _) _).alloc (by simp) _
  have hr1 : wL.heap[b1]? = some (.cells ((zprs Y).toArray) 29 (0, 0)) := by rw [hwL, hY]; exact blk_alloc (heap_alloc_at _ _ _ (by omega))
  have hr2 : wL.heap[b2]? = some (.cells ((M.map (Value.int .i64)).toArray) 3 (0, 0)) := by rw [hwL, hM]; exact heap_alloc_at _ _ _ (by simp; omega)
  rw [← hwL]
  have HSH : Hid (∃ col V hs ws, ShI w2 w3 wL b b1 b2 9 Y M col V hs ws) := Lib.hid (by
    obtain ⟨col, V, hs, ws, hlp, h1, h2⟩ := HP6.out
    have hlo : ∀ g, w6.heap.size ≤ g → col g = 0 := fun g hg => by
      by_cases e : col g = 0
      · exact e
      · have := (hlp.bk.st.lo g e).2
        omega
    exact ⟨col, V, hs, ws, hlp.later hbl, h1, h2, ⟨hr1, hlo b1 (by omega)⟩, ⟨hr2, hlo b2 (by omega)⟩⟩)
  have HYM : Hid (Y.length = 3 ∧ M.length = 3) := Lib.hid ⟨by rw [hY]; rfl, by rw [hM]; rfl⟩
  clear hwL hbl hr1 hr2 hY hM hb2 hbs HP6
  go_wp2_with fail
  go_loopw [19] (fun x wr => ∃ i : Nat, x = .int .i64 (i : Int) ∧ i ≤ 3 ∧ Hid (∃ col V hs ws, ShI w2 w3 wr b b1 b2 (9 + i) Y M col V hs ws)) (fun x _ => 3 - (intOf x).toNat)
  case atStart => exact ⟨0, rfl, by omega, HSH⟩
  case round =>
    clear HSH
    obtain ⟨i, rfl, hi, HI⟩ := hrel
    obtain ⟨col, V, hs, ws, hsh⟩ := HI.out
    have HS := Lib.hid hsh
    clear HI hsh
    by_cases hlt : i < 3
    · have hi3 : (i : Int) < 3 := by omega
      have hi0 : (0 : Int) ≤ (i : Int) := by omega
      have HLT := Lib.hid hlt
      obtain ⟨⟨u, v⟩, hy⟩ : ∃ y, Y[i]? = some y := ⟨_, List.getElem?_eq_getElem (by have := HYM.out; omega)⟩
      obtain ⟨t, hx⟩ : ∃ y, M[i]? = some y := ⟨_, List.getElem?_eq_getElem (by have := HYM.out; omega)⟩
      have HCELL : Hid (∀ w', Below wr.heap.size wr w' → w'.cell? ⟨b2, i, none⟩ = some (.int .i64 t) ∧ w'.cell? ⟨b1, i * 2, none⟩ = some (.int .i64 u) ∧ w'.cell? ⟨b1, i * 2 + 1, none⟩ = some (.int .i64 v)) := Lib.hid (fun w' hb => by
        have r1 := (hb.block b1 (row_lt HS.out.r1.1)).trans HS.out.r1.1
        have r2 := (hb.block b2 (row_lt HS.out.r2.1)).trans HS.out.r2.1
        have hg := zprs_get hy
        refine ⟨lit_cell r2 hx, ?_, ?_⟩
        · rw [cell_of_row w' b1 (i * 2) _ _ _ r1, List.getElem?_toArray]; exact hg.1
        · rw [cell_of_row w' b1 (i * 2 + 1) _ _ _ r1, List.getElem?_toArray]; exact hg.2)
      obtain ⟨L1, hL1⟩ : ∃ x, x = runL t u v := ⟨_, rfl⟩
      obtain ⟨n1, hn1⟩ : ∃ x, x = L1.length := ⟨_, rfl⟩
      obtain ⟨E1, hE1⟩ : ∃ x, x = runE t u v := ⟨_, rfl⟩
      have C14 : Hid (∀ w', Calls Tryd.prog 26 #[.int .i64 t, .agg #[.int .i64 u, .int .i64 v]] w' (OutQ w' 29 E1 L1 n1)) := Lib.hid (fun w' => by
        rw [hE1, hL1] at *
        exact (srun_any t u v w').mono fun r w2 h => outQ hn1 h)
      have C15 : Hid (∀ w', Calls Tryd.prog 27 #[.int .i64 t, .agg #[.int .i64 u, .int .i64 v]] w' (OutQ w' 29 E1 L1 n1)) := Lib.hid (fun w' => by
        rw [hE1, hL1] at *
        exact (rrun_any t u v w').mono fun r w2 h => outQ hn1 h)
      have HLEN : Hid (n1 = L1.length ∧ L1.length ≤ 1099511627776) := Lib.hid ⟨hn1, by rw [hL1]; exact runL_le t u v⟩
      have he1 : (E1 != E1) = false := by simp
      have HT3 := Lib.hid (HCELL.out wr.drew ((Below.refl wr.heap.size wr).drew))
      clear hlt hy hx hL1 hn1 hE1
      go_upto_region 14 with fail
      go_region_held3 (fun w' => w'.cell? ⟨b2, i, none⟩ = some (.int .i64 t) ∧ w'.cell? ⟨b1, i * 2, none⟩ = some (.int .i64 u) ∧ w'.cell? ⟨b1, i * 2 + 1, none⟩ = some (.int .i64 v)) (first | exact HS3.out | exact HT3.out) (first
        | (go_at_call 26; (with_reducible refine (C14.out _).mono ?_); rintro r w7 ⟨⟨pa, ca, rfl, hh, ho⟩, hb⟩; have HB7 := Lib.hid (below_onS ((Below.refl wr.heap.size wr).drew) hb (Nat.le_refl _)); have HO7 : Hid (Held w7 29 2 (.slice pa n1 ca) n1 (prsV L1) ∧ ∀ g, (Value.slice pa n1 ca).ownBlock = some g → wr.heap.size ≤ g) := Lib.hid ⟨hh, ho⟩; have HS3 := Lib.hid (HCELL.out w7 HB7.out); clear hb hh ho))
      have HT4 := Lib.hid (HCELL.out w7.drew HB7.out.drew)
      go_upto_region 15 with fail
      go_region_held3 (fun w' => w'.cell? ⟨b2, i, none⟩ = some (.int .i64 t) ∧ w'.cell? ⟨b1, i * 2, none⟩ = some (.int .i64 u) ∧ w'.cell? ⟨b1, i * 2 + 1, none⟩ = some (.int .i64 v)) (first | exact HS4.out | exact HT4.out) (first
        | (go_at_call 27; (with_reducible refine (C15.out _).mono ?_); rintro r w8 ⟨⟨pb, cb, rfl, hh, ho⟩, hb⟩; have HB8 := Lib.hid (below_onS ((Below.refl w7.heap.size w7).drew) hb (Nat.le_refl _)); have HO8 : Hid (Held w8 29 2 (.slice pb n1 cb) n1 (prsV L1) ∧ ∀ g, (Value.slice pb n1 cb).ownBlock = some g → w7.heap.size ≤ g) := Lib.hid ⟨hh, ho⟩; have HS4 := Lib.hid (HCELL.out w8 (below_onS HB7.out HB8.out HB7.out.size)); clear hb hh ho))
      clear HT3 HT4 HS3 HS4
      obtain ⟨hlp, hsl, hwl, r1, r2⟩ := HS.out
      obtain ⟨col2, k2, ca1, cb1, co2⟩ := hlp.two HB7.out HB8.out (v1 := .slice pa n1 ca) (v2 := .slice pb n1 cb) (16 + hs.length) 8 (fun g hg => ⟨HO7.out.2 g hg, HO7.out.1.lt hg⟩) (fun g hg => ⟨HO8.out.2 g hg, HO8.out.1.lt hg⟩)
      have hb78 := below_onS HB7.out HB8.out HB7.out.size
      have HR8 : Hid ((w8.heap[b1]? = some (.cells ((zprs Y).toArray) 29 (0, 0)) ∧ col2 b1 = 0) ∧ (w8.heap[b2]? = some (.cells ((M.map (Value.int .i64)).toArray) 3 (0, 0)) ∧ col2 b2 = 0)) := Lib.hid ⟨⟨(hb78.block b1 (row_lt r1.1)).trans r1.1, (co2 b1 (row_lt r1.1)).trans r1.2⟩, ⟨(hb78.block b2 (row_lt r2.1)).trans r2.1, (co2 b2 (row_lt r2.1)).trans r2.2⟩⟩
      have CH1 := Lib.hid (k2.holdS (by omega) (by omega) (p := pa) (q := pb) (n := n1) (c := ca) (d := cb) (A := L1) HLEN.out.1 HLEN.out.2 (HO7.out.1.below HB8.out) ca1 HO8.out.1 cb1)
      clear hlp hsl hwl r1 r2 k2 ca1 cb1 co2 hb78
      go_wp2_with (go_at_call 23; (with_reducible refine CH1.out.mono ?_); rintro r w9 ⟨rfl, hp⟩; have HP9 := Lib.hid hp; clear hp)
      obtain ⟨col9, V9, k9, _, p9⟩ := HP9.out
      obtain ⟨⟨r1, c1⟩, ⟨r2, c2⟩⟩ := HR8.out
      have hfin : ShI w2 w3 w9 b b1 b2 (9 + (i + 1)) Y M col9 V9 (hs ++ [(.slice pa n1 ca, L1)]) (ws ++ [.slice pb n1 cb]) := ⟨k9, by rw [List.length_append, HS.out.hl]; rfl, by rw [List.length_append, HS.out.wl]; rfl, ⟨((p9 b1 (row_lt r1)).2 (.inl c1)).trans r1, (p9 b1 (row_lt r1)).1.trans c1⟩, ⟨((p9 b2 (row_lt r2)).2 (.inl c2)).trans r2, (p9 b2 (row_lt r2)).1.trans c2⟩⟩
      refine ⟨⟨i + 1, by simp, HLT.out, Lib.hid ⟨_, _, _, _, hfin⟩⟩, ?_⟩
      show 3 - ((i : Int) + 1).toNat < 3 - ((i : Int)).toNat
      have := HLT.out
      omega
    · have hi3 : ¬ (i : Int) < 3 := by omega
      have CST := Lib.hid (HS.out.lp.still (by have := HS.out.hl; have := HS.out.wl; omega) rfl (by have := HS.out.hl; omega) (by show (0 : Nat) ≤ 800; omega))
      have HFB : Hid (∀ w', Below w2.heap.size w2 w' → Below w.heap.size w w') := Lib.hid (fun w' hb => below_onS HB2.out hb HB2.out.size)
      clear hlt
      go_wp2_with (go_at_call 17; (with_reducible refine CST.out.mono ?_); rintro r w9 ⟨rfl, hb⟩; have HB9 := Lib.hid hb; clear hb)
      go_ret
      exact ⟨rfl, HFB.out _ HB9.out⟩
end Go.Proofs.YteknpnanmbfhfaaDoor
