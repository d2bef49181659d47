/- The law 8's book: a list is held, in a loop; bounds. -/
import Derived.Test.YteknpnanmbfhfaaDoorMa41
import Derived.Test.YteknpnanmbfhfaaDoorMa42
import Derived.Deep.RegionHeld3
namespace Go.Proofs.YteknpnanmbfhfaaDoor.Bk8
open Go.RowKit Go.Scr
set_option linter.unusedVariables false
theorem lit_cell {w : World} {g T : Nat} {Z : List Int} (h : w.heap[g]? = some (.cells ((Z.map (Value.int .i64)).toArray) T (0, 0))) {i : Nat} {y : Int} (hy : Z[i]? = some y) : w.cell? ⟨g, i, none⟩ = some (.int .i64 y) := by
  rw [cell_of_row w g i _ _ _ h]
  simp [hy]
theorem wayL_le (n i : Int) : (wayL n i).length ≤ 40 := by
  unfold wayL
  split
  · simp
  · split
    · simp
    · rename_i h1 h2
      rw [List.length_reverse, path_length n.toNat 0 i.toNat (by omega)]
      exact wayN_log 40 n.toNat i.toNat (by omega) (by omega)
theorem prfL_le (f s : Int) : (prfL f s).length ≤ 41 := by
  unfold prfL
  split
  · simp
  · rename_i h1
    rw [List.length_reverse]
    exact proofT_log 40 0 s.toNat f.toNat (by omega) (by omega) (by omega)
/-- the book behind a call, in a loop -/
def LpP (W0 wL w : World) (b : Nat) (col : Nat → Nat) (hs : List (Value × List (Nat × Nat))) (ws : List Value) (hn : List (Value × List (Nat × Nat))) (wn : List Value) (w' : World) : Prop :=
  ∃ col' V', LpI W0 wL w' b col' V' hs ws hn wn ∧ w.heap.size ≤ w'.heap.size ∧ ∀ g, g < w.heap.size → col' g = col g ∧ ((col g = 0 ∨ 8 ≤ col g) → w'.heap[g]? = w.heap[g]?)
theorem LpI.holdS {W0 wL w : World} {b : Nat} {col : Nat → Nat} {V : Nat → Value} {hs hn : List (Value × List (Nat × Nat))} {ws wn : List Value} (h : LpI W0 wL w b col V hs ws hn wn) (hws : ws.length = hs.length) (hl : hs.length ≤ 700) {p q : Option Addr} {n c d : Nat} {A : List (Nat × Nat)} (hA0 : n = A.length) (hA : A.length ≤ 65536)
    (hx : Held w 29 2 (.slice p n c) n (prsV A)) (hcx : ∀ g, (Value.slice p n c).ownBlock = some g → col g = 16 + hs.length) (hy : Held w 29 2 (.slice q n d) n (prsV A)) (hcy : ∀ g, (Value.slice q n d).ownBlock = some g → col g = 8) :
    Calls Tryd.prog 23 #[.pointer (some ⟨b, 0, none⟩), .slice p n c, .slice q n d] w fun r w' => r = .returned (.tuple #[]) ∧ LpP W0 wL w b col (hs ++ [(.slice p n c, A)]) (ws ++ [.slice q n d]) hn wn w' := by
  refine (holdsS_any h.bk hws (by omega) hA0 hA hx hcx hy hcy).mono ?_
  rintro r w' ⟨h1, h2⟩
  have hs2 : w.heap.size ≤ w'.heap.size := by obtain ⟨_, _, _, q, _⟩ := h2; exact q
  obtain ⟨col', V', k1, k2⟩ := h.held h2
  exact ⟨h1, col', V', k1, hs2, k2⟩
theorem LpI.holdN {W0 wL w : World} {b : Nat} {col : Nat → Nat} {V : Nat → Value} {hs hn : List (Value × List (Nat × Nat))} {ws wn : List Value} (h : LpI W0 wL w b col V hs ws hn wn) (hwn : wn.length = hn.length) (hl : hn.length ≤ 700) {p q : Option Addr} {n c d : Nat} {A : List (Nat × Nat)} (hA0 : n = A.length) (hA : A.length ≤ 65536)
    (hx : Held w 72 2 (.slice p n c) n (prsV A)) (hcx : ∀ g, (Value.slice p n c).ownBlock = some g → col g = 1016 + hn.length) (hy : Held w 72 2 (.slice q n d) n (prsV A)) (hcy : ∀ g, (Value.slice q n d).ownBlock = some g → col g = 8) :
    Calls Tryd.prog 14 #[.pointer (some ⟨b, 0, none⟩), .slice p n c, .slice q n d] w fun r w' => r = .returned (.tuple #[]) ∧ LpP W0 wL w b col hs ws (hn ++ [(.slice p n c, A)]) (wn ++ [.slice q n d]) w' := by
  refine (holdsN_any h.bk hwn (by omega) hA0 hA hx hcx hy hcy).mono ?_
  rintro r w' ⟨h1, h2⟩
  have hs2 : w.heap.size ≤ w'.heap.size := by obtain ⟨_, _, _, q, _⟩ := h2; exact q
  obtain ⟨col', V', k1, k2⟩ := h.held h2
  exact ⟨h1, col', V', k1, hs2, k2⟩
theorem LpI.still {W0 wL w : World} {b : Nat} {col : Nat → Nat} {V : Nat → Value} {hs hn : List (Value × List (Nat × Nat))} {ws wn : List Value} (h : LpI W0 wL w b col V hs ws hn wn) (hws : ws.length = hs.length) (hwn : wn.length = hn.length) (hl : hs.length ≤ 800) (hl2 : hn.length ≤ 800) :
    Calls Tryd.prog 17 #[.pointer (some ⟨b, 0, none⟩)] w fun r w' => r = .returned (.bool true) ∧ Below W0.heap.size W0 w' := still_any h.bk hws hwn hl hl2
end Go.Proofs.YteknpnanmbfhfaaDoor.Bk8
/- Law 8, walked: ShapePaths. -/
namespace Go.Proofs.YteknpnanmbfhfaaDoor
open Go.RowKit Go.Scr Go.Shelf Go.Proofs.YteknpnanmbfhfaaDoor.Bk8
set_option linter.unusedVariables false
set_option maxRecDepth 100000 in
set_option maxHeartbeats 8000000 in
theorem shapepaths_any (s0 s1 s2 s3 : Int) (w : World) (ht : Tabs w) (hb0 : -9223372036854775808 ≤ s0 ∧ s0 ≤ 9223372036854775807) (hb1 : -9223372036854775808 ≤ s1 ∧ s1 ≤ 9223372036854775807) (hb2 : -9223372036854775808 ≤ s2 ∧ s2 ≤ 9223372036854775807) (hb3 : -9223372036854775808 ≤ s3 ∧ s3 ≤ 9223372036854775807) :
    Calls Tryd.prog 5 #[.int .i64 s0, .int .i64 s1, .int .i64 s2, .int .i64 s3] w fun r w' => r = .returned (.bool true) ∧ Below w.heap.size w w' := by
  have CK := Lib.hid (known8_any w ht)
  obtain ⟨m, hm⟩ : ∃ m, m = pickN s0 1099511627776 := ⟨_, rfl⟩
  have hm2 : m < 1099511627776 := by rw [hm]; exact pickN_lt _ (by decide)
  have CP1 : Hid (∀ w', Calls Tryd.prog 11 #[.int .i64 s0, .int .i64 1099511627776] w' fun e w2 => e = .returned (.int .i64 (m : Int)) ∧ w2 = w') := Lib.hid (fun w' => by
    rw [hm]
    exact pick8_any s0 1099511627776 w' (by decide) (by decide) hb0)
  obtain ⟨m3, hm3⟩ : ∃ m, m = pickN s3 1099511627776 := ⟨_, rfl⟩
  have hm32 : m3 < 1099511627776 := by rw [hm3]; exact pickN_lt _ (by decide)
  have CP2 : Hid (∀ w', Calls Tryd.prog 11 #[.int .i64 s3, .int .i64 1099511627776] w' fun e w2 => e = .returned (.int .i64 (m3 : Int)) ∧ w2 = w') := Lib.hid (fun w' => by
    rw [hm3]
    exact pick8_any s3 1099511627776 w' (by decide) (by decide) hb3)
  obtain ⟨N, hN⟩ : ∃ N, N = 1 + m := ⟨_, rfl⟩
  have hNi : 1 + (m : Int) = (N : Int) := by omega
  obtain ⟨M, hM⟩ : ∃ N, N = 1 + m3 := ⟨_, rfl⟩
  have hMi : 1 + (m3 : Int) = (M : Int) := by omega
  obtain ⟨k, hk⟩ : ∃ k, k = pickN s1 N := ⟨_, rfl⟩
  have hkN : k < N := by rw [hk]; exact pickN_lt _ (by omega)
  have CP3 : Hid (∀ w', Calls Tryd.prog 11 #[.int .i64 s1, .int .i64 (N : Int)] w' fun e w2 => e = .returned (.int .i64 (k : Int)) ∧ w2 = w') := Lib.hid (fun w' => by
    rw [hk]
    exact pick8_any s1 N w' (by omega) (by omega) hb1)
  obtain ⟨f0, hf0⟩ : ∃ k, k = pickN s2 M := ⟨_, rfl⟩
  have hfM : f0 < M := by rw [hf0]; exact pickN_lt _ (by omega)
  have CP4 : Hid (∀ w', Calls Tryd.prog 11 #[.int .i64 s2, .int .i64 (M : Int)] w' fun e w2 => e = .returned (.int .i64 (f0 : Int)) ∧ w2 = w') := Lib.hid (fun w' => by
    rw [hf0]
    exact pick8_any s2 M w' (by omega) (by omega) hb2)
  obtain ⟨F, hF⟩ : ∃ N, N = 1 + f0 := ⟨_, rfl⟩
  have hFi : 1 + (f0 : Int) = (F : Int) := by omega
  have hNb : N ≤ 1099511627776 := by omega
  have hMb : M ≤ 1099511627776 := by omega
  have hFb : F ≤ 1099511627776 := by omega
  have hkb : k ≤ 1099511627776 := by omega
  clear hm hm3 hN hM hk hf0 hF ht hb0 hb1 hb2 hb3 hkN hfM
  go_enter Tryd.func5, Tryd.ntmps5
  go_upto_region 3 with (go_at_call 10; with_reducible refine CK.out.mono ?_; rintro r w2 ⟨rfl, hb2⟩; have HB2 := Lib.hid hb2; clear hb2)
  obtain ⟨b, hb⟩ : ∃ x, x = w2.heap.size := ⟨_, rfl⟩
  obtain ⟨w1, hw1⟩ : ∃ x, x = w2.alloc (.cells #[.slice none 0 0, .slice none 0 0, .slice none 0 0, .slice none 0 0, .slice none 0 0, .slice none 0 0] 27) := ⟨_, rfl⟩
  rw [← hw1, ← hb]
  obtain ⟨b1, hb1⟩ : ∃ x, x = w1.heap.size := ⟨_, rfl⟩
  have hbs := hb1.symm
  have HW1 := Lib.hid hw1
  have HBX := Lib.hid hb
  clear hw1 hb hb1
  go_upto_region 9 with (first
    | (go_at_call 11; with_reducible refine (CP1.out _).mono ?_; rintro r wx ⟨rfl, hwx⟩; rw [hwx]; clear hwx wx)
    | (go_at_call 11; with_reducible refine (CP2.out _).mono ?_; rintro r wx ⟨rfl, hwx⟩; rw [hwx]; clear hwx wx)
    | (go_at_call 11; with_reducible refine (CP3.out _).mono ?_; rintro r wx ⟨rfl, hwx⟩; rw [hwx]; clear hwx wx)
    | (go_at_call 11; with_reducible refine (CP4.out _).mono ?_; rintro r wx ⟨rfl, hwx⟩; rw [hwx]; clear hwx wx))
  obtain ⟨b4, hb4⟩ : ∃ x, x = b1 + 1 + 1 + 1 := ⟨_, rfl⟩
  obtain ⟨b3, hb3⟩ : ∃ x, x = b1 + 1 + 1 := ⟨_, rfl⟩
  obtain ⟨b2, hb2⟩ : ∃ x, x = b1 + 1 := ⟨_, rfl⟩
  rw [← hb4, ← hb3, ← hb2]
  obtain ⟨wL, hwL⟩ : ∃ x, x = (((w1.alloc (.cells #[.int .i64 s1, .int .i64 (k : Int), .int .i64 s1] 3)).alloc (.cells #[.int .i64 s0, .int .i64 (N : Int), .int .i64 s0] 3)).alloc (.cells #[.int .i64 s2, .int .i64 (F : Int), .int .i64 s2] 3)).alloc (.cells #[.int .i64 s3, .int .i64 (M : Int), .int .i64 s3] 3) := ⟨_, rfl⟩
  have hbl : Below w1.heap.size w1 wL := by rw [hwL]; exact ((((Below.refl _ _).alloc (Nat.le_refl _) _).alloc (by simp) _).alloc (by simp; omega) _).alloc (by simp; omega) _
  have hr1 : wL.heap[b1]? = some (.cells (([s1, (k : Int), s1].map (Value.int .i64)).toArray) 3 (0, 0)) := by rw [hwL]; exact blk_alloc (blk_alloc (blk_alloc (heap_alloc_at _ _ _ (by omega))))
  have hr2 : wL.heap[b2]? = some (.cells (([s0, (N : Int), s0].map (Value.int .i64)).toArray) 3 (0, 0)) := by rw [hwL]; exact blk_alloc (blk_alloc (heap_alloc_at _ _ _ (by simp; omega)))
  have hr3 : wL.heap[b3]? = some (.cells (([s2, (F : Int), s2].map (Value.int .i64)).toArray) 3 (0, 0)) := by rw [hwL]; exact blk_alloc (heap_alloc_at _ _ _ (by simp; omega))
  have hr4 : wL.heap[b4]? = some (.cells (([s3, (M : Int), s3].map (Value.int .i64)).toArray) 3 (0, 0)) := by rw [hwL]; exact heap_alloc_at _ _ _ (by simp; omega)
  rw [← hwL]
  have hbb : b < b1 ∧ b1 < b2 ∧ b2 < b3 ∧ b3 < b4 := by
    have : w1.heap.size = w2.heap.size + 1 := by rw [HW1.out]; simp
    have := HBX.out
    omega
  have HROW : Hid ((b < b1 ∧ b1 < b2 ∧ b2 < b3 ∧ b3 < b4) ∧ wL.heap[b1]? = some (.cells (([s1, (k : Int), s1].map (Value.int .i64)).toArray) 3 (0, 0)) ∧ wL.heap[b2]? = some (.cells (([s0, (N : Int), s0].map (Value.int .i64)).toArray) 3 (0, 0)) ∧ wL.heap[b3]? = some (.cells (([s2, (F : Int), s2].map (Value.int .i64)).toArray) 3 (0, 0)) ∧ wL.heap[b4]? = some (.cells (([s3, (M : Int), s3].map (Value.int .i64)).toArray) 3 (0, 0))) := Lib.hid ⟨hbb, hr1, hr2, hr3, hr4⟩
  obtain ⟨col0, V0, hL0⟩ := LpI.start HBX.out HW1.out hbl
  have HL0 := Lib.hid hL0
  clear hb4 hb3 hb2 hwL hbl hr1 hr2 hr3 hr4 hbb hL0 hbs
  go_wp2_with fail
  go_loopw [17] (fun x wr => ∃ i : Nat, x = .int .i64 (i : Int) ∧ i ≤ 3 ∧ Hid (∃ col V hs ws, LpI w2 wL wr b col V hs ws [] [] ∧ hs.length = 2 * i ∧ ws.length = 2 * i)) (fun x _ => 3 - (intOf x).toNat)
  case atStart => exact ⟨0, rfl, by omega, Lib.hid ⟨col0, V0, [], [], HL0.out, rfl, rfl⟩⟩
  case round =>
    obtain ⟨i, rfl, hi, HI⟩ := hrel
    obtain ⟨col, V, hs, ws, hlp, hsl, hwl⟩ := HI.out
    have HLP : Hid (LpI w2 wL wr b col V hs ws [] [] ∧ hs.length = 2 * i ∧ ws.length = 2 * i) := Lib.hid ⟨hlp, hsl, hwl⟩
    clear HI hlp hsl hwl
    by_cases hlt : i < 3
    · have hi3 : (i : Int) < 3 := by omega
      have hi0 : (0 : Int) ≤ (i : Int) := by omega
      have HLT := Lib.hid hlt
      obtain ⟨y1, hy1⟩ : ∃ y, [s1, (k : Int), s1][i]? = some y := ⟨_, List.getElem?_eq_getElem (by simpa using hlt)⟩
      obtain ⟨y2, hy2⟩ : ∃ y, [s0, (N : Int), s0][i]? = some y := ⟨_, List.getElem?_eq_getElem (by simpa using hlt)⟩
      obtain ⟨y3, hy3⟩ : ∃ y, [s2, (F : Int), s2][i]? = some y := ⟨_, List.getElem?_eq_getElem (by simpa using hlt)⟩
      obtain ⟨y4, hy4⟩ : ∃ y, [s3, (M : Int), s3][i]? = some y := ⟨_, List.getElem?_eq_getElem (by simpa using hlt)⟩
      have HCELL : Hid (∀ w', Below wr.heap.size wr w' → w'.cell? ⟨b1, i, none⟩ = some (.int .i64 y1) ∧ w'.cell? ⟨b2, i, none⟩ = some (.int .i64 y2) ∧ w'.cell? ⟨b3, i, none⟩ = some (.int .i64 y3) ∧ w'.cell? ⟨b4, i, none⟩ = some (.int .i64 y4)) := Lib.hid (fun w' hb => by
        have h := HLP.out.1.later hb
        obtain ⟨q, r1, r2, r3, r4⟩ := HROW.out
        refine ⟨lit_cell ((h.kp b1 (by omega) (row_lt r1)).1.trans r1) hy1, lit_cell ((h.kp b2 (by omega) (row_lt r2)).1.trans r2) hy2, lit_cell ((h.kp b3 (by omega) (row_lt r3)).1.trans r3) hy3, lit_cell ((h.kp b4 (by omega) (row_lt r4)).1.trans r4) hy4⟩)
      obtain ⟨L1, hL1⟩ : ∃ x, x = wayL y2 y1 := ⟨_, rfl⟩
      obtain ⟨n1, hn1⟩ : ∃ x, x = L1.length := ⟨_, rfl⟩
      obtain ⟨E1, hE1⟩ : ∃ x, x = wayE y2 y1 := ⟨_, rfl⟩
      obtain ⟨L2, hL2⟩ : ∃ x, x = prfL y3 y4 := ⟨_, rfl⟩
      obtain ⟨n2, hn2⟩ : ∃ x, x = L2.length := ⟨_, rfl⟩
      obtain ⟨E2, hE2⟩ : ∃ x, x = prfE y3 y4 := ⟨_, rfl⟩
      have C12 : Hid (∀ w', Calls Tryd.prog 19 #[.int .i64 y2, .int .i64 y1] w' (OutQ w' 29 E1 L1 n1)) := Lib.hid (fun w' => by
        rw [hE1, hL1] at *
        exact (spath_any y2 y1 w').mono fun r w2 h => outQ hn1 h)
      have C13 : Hid (∀ w', Calls Tryd.prog 20 #[.int .i64 y2, .int .i64 y1] w' (OutQ w' 29 E1 L1 n1)) := Lib.hid (fun w' => by
        rw [hE1, hL1] at *
        exact (rpath_any y2 y1 w').mono fun r w2 h => outQ hn1 h)
      have C14 : Hid (∀ w', Calls Tryd.prog 21 #[.int .i64 y3, .int .i64 y4] w' (OutQ w' 29 E2 L2 n2)) := Lib.hid (fun w' => by
        rw [hE2, hL2] at *
        exact (sproof_any y3 y4 w').mono fun r w2 h => outQ hn2 h)
      have C15 : Hid (∀ w', Calls Tryd.prog 22 #[.int .i64 y3, .int .i64 y4] w' (OutQ w' 29 E2 L2 n2)) := Lib.hid (fun w' => by
        rw [hE2, hL2] at *
        exact (rproof_any y3 y4 w').mono fun r w2 h => outQ hn2 h)
      have HLEN : Hid (n1 = L1.length ∧ L1.length ≤ 65536 ∧ n2 = L2.length ∧ L2.length ≤ 65536) := Lib.hid ⟨hn1, by rw [hL1]; have := wayL_le y2 y1; omega, hn2, by rw [hL2]; have := prfL_le y3 y4; omega⟩
      have he1 : (E1 != E1) = false := by simp
      have he2 : (E2 != E2) = false := by simp
      have HCELL12 : Hid (∀ w', Below wr.heap.size wr w' → w'.cell? ⟨b2, i, none⟩ = some (.int .i64 y2) ∧ w'.cell? ⟨b1, i, none⟩ = some (.int .i64 y1)) := Lib.hid (fun w' hb => ⟨(HCELL.out w' hb).2.1, (HCELL.out w' hb).1⟩)
      have HCELL14 : Hid (∀ w', Below wr.heap.size wr w' → w'.cell? ⟨b3, i, none⟩ = some (.int .i64 y3) ∧ w'.cell? ⟨b4, i, none⟩ = some (.int .i64 y4)) := Lib.hid (fun w' hb => ⟨(HCELL.out w' hb).2.2.1, (HCELL.out w' hb).2.2.2⟩)
      have HT3 := Lib.hid (HCELL12.out wr.drew ((Below.refl wr.heap.size wr).drew))
      clear hlt hy1 hy2 hy3 hy4 hL1 hn1 hE1 hL2 hn2 hE2
      go_upto_region 12 with fail
      go_region_held3 (fun w' => w'.cell? ⟨b2, i, none⟩ = some (.int .i64 y2) ∧ w'.cell? ⟨b1, i, none⟩ = some (.int .i64 y1)) (first | exact HS3.out | exact HT3.out) (first
        | (go_at_call 19; (with_reducible refine (C12.out _).mono ?_); rintro r w3 ⟨⟨pa, ca, rfl, hh, ho⟩, hb⟩; have HB3 := Lib.hid (below_onS ((Below.refl wr.heap.size wr).drew) hb (Nat.le_refl _)); have HO3 : Hid (Held w3 29 2 (.slice pa n1 ca) n1 (prsV L1) ∧ ∀ g, (Value.slice pa n1 ca).ownBlock = some g → wr.heap.size ≤ g) := Lib.hid ⟨hh, ho⟩; have HC3 := Lib.hid (HB3.out); have HS3 := Lib.hid (HCELL12.out w3 HC3.out); clear hb hh ho))
      have HT4 := Lib.hid (HCELL12.out w3.drew HC3.out.drew)
      go_upto_region 13 with fail
      go_region_held3 (fun w' => w'.cell? ⟨b2, i, none⟩ = some (.int .i64 y2) ∧ w'.cell? ⟨b1, i, none⟩ = some (.int .i64 y1)) (first | exact HS4.out | exact HT4.out) (first
        | (go_at_call 20; (with_reducible refine (C13.out _).mono ?_); rintro r w4 ⟨⟨pb, cb, rfl, hh, ho⟩, hb⟩; have HB4 := Lib.hid (below_onS ((Below.refl w3.heap.size w3).drew) hb (Nat.le_refl _)); have HO4 : Hid (Held w4 29 2 (.slice pb n1 cb) n1 (prsV L1) ∧ ∀ g, (Value.slice pb n1 cb).ownBlock = some g → w3.heap.size ≤ g) := Lib.hid ⟨hh, ho⟩; have HC4 := Lib.hid (below_onS HC3.out HB4.out HC3.out.size); have HS4 := Lib.hid (HCELL12.out w4 HC4.out); clear hb hh ho))
      have HT5 := Lib.hid (HCELL14.out w4.drew HC4.out.drew)
      go_upto_region 14 with fail
      go_region_held3 (fun w' => w'.cell? ⟨b3, i, none⟩ = some (.int .i64 y3) ∧ w'.cell? ⟨b4, i, none⟩ = some (.int .i64 y4)) (first | exact HS5.out | exact HT5.out) (first
        | (go_at_call 21; (with_reducible refine (C14.out _).mono ?_); rintro r w5 ⟨⟨pc, cc, rfl, hh, ho⟩, hb⟩; have HB5 := Lib.hid (below_onS ((Below.refl w4.heap.size w4).drew) hb (Nat.le_refl _)); have HO5 : Hid (Held w5 29 2 (.slice pc n2 cc) n2 (prsV L2) ∧ ∀ g, (Value.slice pc n2 cc).ownBlock = some g → w4.heap.size ≤ g) := Lib.hid ⟨hh, ho⟩; have HC5 := Lib.hid (below_onS HC4.out HB5.out HC4.out.size); have HS5 := Lib.hid (HCELL14.out w5 HC5.out); clear hb hh ho))
      have HT6 := Lib.hid (HCELL14.out w5.drew HC5.out.drew)
      go_upto_region 15 with fail
      go_region_held3 (fun w' => w'.cell? ⟨b3, i, none⟩ = some (.int .i64 y3) ∧ w'.cell? ⟨b4, i, none⟩ = some (.int .i64 y4)) (first | exact HS6.out | exact HT6.out) (first
        | (go_at_call 22; (with_reducible refine (C15.out _).mono ?_); rintro r w6 ⟨⟨pd, cd, rfl, hh, ho⟩, hb⟩; have HB6 := Lib.hid (below_onS ((Below.refl w5.heap.size w5).drew) hb (Nat.le_refl _)); have HO6 : Hid (Held w6 29 2 (.slice pd n2 cd) n2 (prsV L2) ∧ ∀ g, (Value.slice pd n2 cd).ownBlock = some g → w5.heap.size ≤ g) := Lib.hid ⟨hh, ho⟩; have HC6 := Lib.hid (below_onS HC5.out HB6.out HC5.out.size); have HS6 := Lib.hid (HCELL14.out w6 HC6.out); clear hb hh ho))
      obtain ⟨hlp, hsl, hwl⟩ := HLP.out
      obtain ⟨col2, k2, ca1, cb1, co2⟩ := hlp.two HB3.out HB4.out (v1 := .slice pa n1 ca) (v2 := .slice pb n1 cb) (16 + hs.length) 8 (fun g hg => ⟨HO3.out.2 g hg, HO3.out.1.lt hg⟩) (fun g hg => ⟨HO4.out.2 g hg, HO4.out.1.lt hg⟩)
      obtain ⟨col4, k4, cc1, cd1, co4⟩ := k2.two HB5.out HB6.out (v1 := .slice pc n2 cc) (v2 := .slice pd n2 cd) (16 + (hs.length + 1)) 8 (fun g hg => ⟨HO5.out.2 g hg, HO5.out.1.lt hg⟩) (fun g hg => ⟨HO6.out.2 g hg, HO6.out.1.lt hg⟩)
      have hb46 := below_onS HB5.out HB6.out HB5.out.size
      have hb36 := below_onS HB4.out hb46 HB4.out.size
      have CH1 := Lib.hid (k4.holdS (by omega) (by omega) (p := pa) (q := pb) (n := n1) (c := ca) (d := cb) (A := L1) HLEN.out.1 HLEN.out.2.1 (HO3.out.1.below hb36) (fun g hg => (co4 g (Nat.lt_of_lt_of_le (HO3.out.1.lt hg) HB4.out.size)).trans (ca1 g hg)) (HO4.out.1.below hb46) (fun g hg => (co4 g (HO4.out.1.lt hg)).trans (cb1 g hg)))
      have HK : Hid (∀ w7, LpP w2 wL w6 b col4 (hs ++ [(.slice pa n1 ca, L1)]) (ws ++ [.slice pb n1 cb]) [] [] w7 → ∃ col7, Calls Tryd.prog 23 #[.pointer (some ⟨b, 0, none⟩), .slice pc n2 cc, .slice pd n2 cd] w7 fun r w' => r = .returned (.tuple #[]) ∧ LpP w2 wL w7 b col7 (hs ++ [(.slice pa n1 ca, L1)] ++ [(.slice pc n2 cc, L2)]) (ws ++ [.slice pb n1 cb] ++ [.slice pd n2 cd]) [] [] w') := Lib.hid (fun w7 h7 => by
        obtain ⟨col7, V7, k7, _, k8⟩ := h7
        have h5 := HO5.out.1.below HB6.out
        have hc5 : ∀ g, (Value.slice pc n2 cc).ownBlock = some g → col4 g = 16 + (hs.length + 1) := cc1
        refine ⟨col7, k7.holdS (by rw [List.length_append, List.length_append]; simp; omega) (by rw [List.length_append]; simp; omega) HLEN.out.2.2.1 HLEN.out.2.2.2 (h5.keep fun g hg => (k8 g (h5.lt hg)).2 (.inr (by have := hc5 g hg; omega))) (fun g hg => ?_) (HO6.out.1.keep fun g hg => (k8 g (HO6.out.1.lt hg)).2 (.inr (by have := cd1 g hg; omega))) (fun g hg => (k8 g (HO6.out.1.lt hg)).1.trans (cd1 g hg))⟩
        rw [(k8 g (h5.lt hg)).1, hc5 g hg, List.length_append]
        rfl)
      clear hlp hsl hwl k2 ca1 cb1 co2 k4 cc1 cd1 co4 hb46 hb36 HT3 HT4 HT5 HT6 HS3 HS4 HS5 HS6
      go_wp2_with (first
        | (go_at_call 23; (with_reducible refine CH1.out.mono ?_); rintro r w7 ⟨rfl, hp⟩; obtain ⟨col7, hk⟩ := HK.out w7 hp; have HK7 := Lib.hid hk; clear hp hk)
        | (go_at_call 23; (with_reducible refine HK7.out.mono ?_); rintro r w8 ⟨rfl, hp⟩; have HP8 := Lib.hid hp; clear hp))
      obtain ⟨col8, V8, k8, _, _⟩ := HP8.out
      refine ⟨⟨i + 1, by simp, HLT.out, Lib.hid ⟨col8, V8, _, _, k8, by rw [List.length_append, List.length_append]; have := HLP.out.2.1; simp; omega, by rw [List.length_append, List.length_append]; have := HLP.out.2.2; simp; omega⟩⟩, ?_⟩
      show 3 - ((i : Int) + 1).toNat < 3 - ((i : Int)).toNat
      have := HLT.out
      omega
    · have hi3 : ¬ (i : Int) < 3 := by omega
      have CST := Lib.hid (HLP.out.1.still (by have := HLP.out; omega) rfl (by have := HLP.out; omega) (by show (0 : Nat) ≤ 800; omega))
      have HFB : Hid (∀ w', Below w2.heap.size w2 w' → Below w.heap.size w w') := Lib.hid (fun w' hb => below_onS HB2.out hb HB2.out.size)
      clear hlt
      go_wp2_with (go_at_call 17; (with_reducible refine CST.out.mono ?_); rintro r w9 ⟨rfl, hb⟩; have HB9 := Lib.hid hb; clear hb)
      go_ret
      exact ⟨rfl, HFB.out _ HB9.out⟩
end Go.Proofs.YteknpnanmbfhfaaDoor
