/- Law 8: two owned lists that grow side by side (spans, texts); how many spans a batch has. -/
import Derived.Test.YteknpnanmbfhfaaDoorMa32
import Derived.Test.YteknpnanmbfhfaaDoorMa28
import Derived.Deep.CutBlock
namespace Go.Scr
open Go.RowKit
set_option linter.unusedVariables false
theorem wayN_log (j : Nat) : ∀ n m, n ≤ 2 ^ j → m < n → wayN n m ≤ j := by
  induction j with
  | zero => intro n m h hm; rw [wayN_one m (by simpa using h)]; exact Nat.le_refl _
  | succ j ih =>
    intro n m h hm
    by_cases h1 : n ≤ 1
    · rw [wayN_one m h1]; omega
    · have hs := spl_lt (show 2 ≤ n by omega)
      obtain ⟨k, h2, h3, h4⟩ := spl_pow (show 2 ≤ n by omega)
      have hk : k ≤ j := by
        have := (Nat.pow_lt_pow_iff_right (show 1 < 2 by decide)).1 (Nat.lt_of_lt_of_le h3 h)
        omega
      have hp : 2 ^ k ≤ 2 ^ j := Nat.pow_le_pow_right (by decide) hk
      by_cases h5 : m < spl n
      · rw [wayN_left (by omega) h5]
        have := ih (spl n) m (by omega) h5
        omega
      · rw [wayN_right (by omega) h5]
        have := ih (n - spl n) (m - spl n) (by omega) (by omega)
        omega
def castZ (C : List (Nat × Nat)) : List (Int × Int) := C.map fun x => ((x.1 : Int), (x.2 : Int))
/-- spans of numbers from 0 to 2^40 -/
def SpB (P : List (Int × Int)) : Prop := ∀ x ∈ P, 0 ≤ x.1 ∧ x.1 ≤ 1099511627776 ∧ 0 ≤ x.2 ∧ x.2 ≤ 1099511627776
theorem spB_snoc {P : List (Int × Int)} {x : Int × Int} (h : SpB P) (hx : 0 ≤ x.1 ∧ x.1 ≤ 1099511627776 ∧ 0 ≤ x.2 ∧ x.2 ≤ 1099511627776) : SpB (P ++ [x]) := by
  intro y hy
  rcases List.mem_append.1 hy with hy | hy
  · exact h y hy
  · rw [List.mem_singleton.1 hy]; exact hx
def T32 (Y : List ByteArray) : Prop := ∀ s ∈ Y, s.size = 32
theorem t32_snoc {Y : List ByteArray} {s : ByteArray} (h : T32 Y) (hs : s.size = 32) : T32 (Y ++ [s]) := by
  intro y hy
  rcases List.mem_append.1 hy with hy | hy
  · exact h y hy
  · rw [List.mem_singleton.1 hy]; exact hs
theorem zprs_set2 (L : List (Int × Int)) : ∀ (i : Nat) (x : Int × Int), zprs (L.set i x) = ((zprs L).set (i * 2) (.int .i64 x.1)).set (i * 2 + 1) (.int .i64 x.2) := by
  induction L with
  | nil => intro i x; rfl
  | cons y L ih =>
    intro i x
    cases i with
    | zero => simp only [List.set_cons_zero, zprs_cons, Nat.zero_mul, List.set_cons_succ]
    | succ i =>
      rw [List.set_cons_succ, zprs_cons, zprs_cons, ih i x, show (i + 1) * 2 = i * 2 + 1 + 1 by omega]
      rfl
end Go.Scr
namespace Go.Proofs.YteknpnanmbfhfaaDoor
open Go.RowKit Go.Scr Go.Shelf
set_option linter.unusedVariables false
theorem prsV_cast (C : List (Nat × Nat)) : prsV C = zprs (castZ C) := by
  unfold prsV zprs castZ
  rw [List.map_map]
  rfl
theorem held_spz {w : World} {n : Nat} {v : Value} {P : List (Int × Int)} (h : Held w 29 2 v n (zprs P)) (hb : SpB P) (hl : P.length ≤ 281474976710656) : n = P.length ∧ SpZ w v P := by
  have hn : n = P.length := by have := h.1; rw [zprs_length] at this; omega
  subst hn
  obtain ⟨p, c, rfl, h1, _, _⟩ := h.cells
  refine ⟨rfl, p, c, rfl, h1, hl, fun x hx => by have := hb x hx; omega, fun j x hx => ?_⟩
  have hlt := (List.getElem?_eq_some_iff.mp hx).1
  obtain ⟨g, rfl, hc⟩ := held_cell h (by omega)
  have hg := zprs_get hx
  exact ⟨g, 0, rfl, by rw [Nat.zero_add]; exact hc _ _ hg.1, by rw [Nat.zero_add]; exact hc _ _ hg.2⟩
theorem SpZ.cut {w : World} {p : Option Addr} {n c k : Nat} {P : List (Int × Int)} (h : SpZ w (.slice p n c) P) (hk : k ≤ n) : SpZ w (.slice p k c) (P.take k) := by
  obtain ⟨p', c', e, h1, h2, h3, h4⟩ := h
  cases e
  have hlen : (P.take k).length = k := by rw [List.length_take]; omega
  refine ⟨p, c, by rw [hlen], by rw [hlen]; omega, by rw [hlen]; omega, fun x hx => h3 x (List.mem_of_mem_take hx), fun j x hx => h4 j x ?_⟩
  rw [List.getElem?_take] at hx
  split at hx
  · exact hx
  · cases hx
theorem Txts.cut8 {w : World} {p : Option Addr} {n c k : Nat} {L : List ByteArray} (h : Txts w (.slice p n c) L) (hk : k ≤ n) : Txts w (.slice p k c) (L.take k) := by
  obtain ⟨p', c', e, h1, h2, h3⟩ := h
  cases e
  have hlen : (L.take k).length = k := by rw [List.length_take]; omega
  refine ⟨p, c, by rw [hlen], by rw [hlen]; omega, by rw [hlen]; omega, fun j x hx => h3 j x ?_⟩
  rw [List.getElem?_take] at hx
  split at hx
  · exact hx
  · cases hx
structure XY (A wr : World) (P : List (Int × Int)) (Y : List ByteArray) (vx vy : Value) : Prop where
  hx : Held wr 29 2 vx P.length (zprs P)
  hy : Held wr 9 1 vy Y.length (Y.map Value.string)
  ox : ∀ g, vx.ownBlock = some g → A.heap.size ≤ g
  oy : ∀ g, vy.ownBlock = some g → A.heap.size ≤ g
  ne : ∀ g, vx.ownBlock = some g → vy.ownBlock ≠ some g
  bel : Below A.heap.size A wr
  spb : SpB P
  t32 : T32 Y
theorem XY.later {A wr w' : World} {P : List (Int × Int)} {Y : List ByteArray} {vx vy : Value} (h : XY A wr P Y vx vy) (hb : Below wr.heap.size wr w') : XY A w' P Y vx vy :=
  ⟨h.hx.below hb, h.hy.below hb, h.ox, h.oy, h.ne, below_onS h.bel hb h.bel.size, h.spb, h.t32⟩
theorem XY.drewN {A wr : World} {P : List (Int × Int)} {Y : List ByteArray} {vx vy : Value} (h : XY A wr P Y vx vy) (k : Nat) : XY A (wr.drewN k) P Y vx vy :=
  ⟨h.hx.keep (fun _ _ => rfl), h.hy.keep (fun _ _ => rfl), h.ox, h.oy, h.ne, below_drewN h.bel k, h.spb, h.t32⟩
theorem XY.pushX {A wr w2 w5 : World} {P : List (Int × Int)} {Y : List ByteArray} {vx vy v5 : Value} {o : Obj} {x y : Int} (h : XY A wr P Y vx vy) (hb : Below wr.heap.size wr w2) (hxy : 0 ≤ x ∧ x ≤ 1099511627776 ∧ 0 ≤ y ∧ y ≤ 1099511627776)
    (g : Grew 29 2 (w2.alloc o) vx P.length 1 (zprs P) [.int .i64 x, .int .i64 y] v5 w5) : XY A w5 (P ++ [(x, y)]) Y v5 vy := by
  have hgr := grown_alloc g.grown
  have hat := grew_own g
  have h2 := h.later hb
  have hs : wr.heap.size ≤ w2.heap.size := hb.size
  refine ⟨?_, h2.hy.keep fun q hq => hgr.block q (h2.hy.lt hq) (fun e => h.ne q e.symm hq), ?_, h.oy, ?_, h2.bel.grown hgr h2.bel.size h.ox, spB_snoc h.spb hxy, h.t32⟩
  · rw [List.length_append, zprs_append]
    exact g.held
  · intro q hq
    rcases hat q hq with h3 | h3
    · exact h.ox q h3
    · have := h2.bel.size; omega
  · intro q hq hq2
    rcases hat q hq with h3 | h3
    · exact h.ne q h3 hq2
    · have := h.hy.lt hq2; omega
theorem XY.pushY {A wr w2 w5 : World} {P : List (Int × Int)} {Y : List ByteArray} {vx vy v5 : Value} {o : Obj} {s : ByteArray} (h : XY A wr P Y vx vy) (hb : Below wr.heap.size wr w2) (hs32 : s.size = 32)
    (g : Grew 9 1 (w2.alloc o) vy Y.length 1 (Y.map Value.string) [.string s] v5 w5) : XY A w5 P (Y ++ [s]) vx v5 := by
  have hgr := grown_alloc g.grown
  have hat := grew_own g
  have h2 := h.later hb
  have hs : wr.heap.size ≤ w2.heap.size := hb.size
  refine ⟨h2.hx.keep fun q hq => hgr.block q (h2.hx.lt hq) (fun e => h.ne q hq e.symm), ?_, h.ox, ?_, ?_, h2.bel.grown hgr h2.bel.size h.oy, h.spb, t32_snoc h.t32 hs32⟩
  · rw [List.length_append, List.map_append]
    exact g.held
  · intro q hq
    rcases hat q hq with h3 | h3
    · exact h.oy q h3
    · have := h2.bel.size; omega
  · intro q hq hq2
    rcases hat q hq2 with h3 | h3
    · exact h.ne q hq h3
    · have := h.hx.lt hq; omega
theorem XY.put {A wr : World} {P : List (Int × Int)} {Y : List ByteArray} {vx vy : Value} {g : Nat} (h : XY A wr P Y vx vy) (hg : vx.ownBlock = some g) (k : Nat) (x : Int × Int) (hxy : 0 ≤ x.1 ∧ x.1 ≤ 1099511627776 ∧ 0 ≤ x.2 ∧ x.2 ≤ 1099511627776) :
    XY A ((wr.setCell ⟨g, k * 2, none⟩ (.int .i64 x.1)).setCell ⟨g, k * 2 + 1, none⟩ (.int .i64 x.2)) (P.set k x) Y vx vy := by
  refine ⟨?_, ?_, h.ox, h.oy, h.ne, (h.bel.setCell (p := ⟨g, k * 2, none⟩) (h.ox g hg) _).setCell (p := ⟨g, k * 2 + 1, none⟩) (h.ox g hg) _, ?_, h.t32⟩
  · rw [List.length_set, zprs_set2]
    exact (h.hx.put hg _ _).put hg _ _
  · refine h.hy.keep fun q hq => ?_
    have hne : q ≠ g := fun e => h.ne g hg (by rw [← e]; exact hq)
    exact (Below.heap_setCell _ _ _ _ hne).trans (Below.heap_setCell _ _ _ _ hne)
  · intro y hy
    rcases List.mem_or_eq_of_mem_set hy with hy | hy
    · exact h.spb y hy
    · rw [hy]; exact hxy
end Go.Proofs.YteknpnanmbfhfaaDoor
/- Law 8, walked: ShapeFolds. -/
namespace Go.Proofs.YteknpnanmbfhfaaDoor
open Go.RowKit Go.Scr Go.Shelf
set_option linter.unusedVariables false
theorem byte_int8 (c : Int) : c % 256 = ((UInt8.ofNat (c % 256).toNat).toNat : Int) := by
  have h0 : 0 ≤ c % 256 := Int.emod_nonneg _ (by decide)
  have h1 : c % 256 < 256 := Int.emod_lt_of_pos _ (by decide)
  rw [UInt8.toNat_ofNat']
  omega
set_option maxRecDepth 100000 in
set_option maxHeartbeats 8000000 in
theorem shapefolds_any (s0 s5 s6 lo hi : Int) (vs vh vi : Value) (S : List (Int × Int)) (H : List ByteArray) (Z : List Int) (w : World) (ht : Tabs w) (hs : SpZ w vs S) (hh : Txts w vh H) (hv : Ints w vi Z)
    (hb0 : -9223372036854775808 ≤ s0 ∧ s0 ≤ 9223372036854775807) (hb5 : -9223372036854775808 ≤ s5 ∧ s5 ≤ 9223372036854775807) (hb6 : -9223372036854775808 ≤ s6 ∧ s6 ≤ 9223372036854775807)
    (hSl : S.length ≤ 1048576) (hHl : H.length ≤ 1048576) (hsz : ∀ s ∈ H, s.size ≤ 1048576) :
    Calls Tryd.prog 7 #[.int .i64 s0, vs, vh, .agg #[.int .i64 lo, .int .i64 hi], vi, .int .i64 s5, .int .i64 s6] w fun r w' => r = .returned (.bool true) ∧ Below w.heap.size w w' := by
  obtain ⟨b0, hb0'⟩ : ∃ x, x = w.heap.size := ⟨_, rfl⟩
  obtain ⟨w1, hw1⟩ : ∃ x, x = w.alloc (.cells #[.int .i64 lo, .int .i64 hi] 29) := ⟨_, rfl⟩
  have hbel : Below w.heap.size w w1 := by rw [hw1]; exact (Below.refl _ _).alloc (Nat.le_refl _) _
  have r0 : w1.heap[b0]? = some (.cells #[.int .i64 lo, .int .i64 hi] 29 (0, 0)) := by rw [hw1, hb0']; exact heap_alloc_new w _
  have HST : Hid (∀ w2, Below w.heap.size w w2 → SpZ w2 vs S ∧ Txts w2 vh H ∧ Tabs w2 ∧ Ints w2 vi Z) := Lib.hid (fun w2 h => ⟨hs.below h (Nat.le_refl _), hh.below h (Nat.le_refl _), ht.below h, ints_belowH hv h (Nat.le_refl _)⟩)
  have CK := Lib.hid (known8_any w1 (ht.below hbel))
  have CF : Hid (∀ w' (N a b : Int) (x y : Value) (P : List (Int × Int)) (Y : List ByteArray), Tabs w' → SpZ w' x P → Txts w' y Y → P.length ≤ 1048576 → Y.length ≤ 1048576 → (∀ s ∈ Y, s.size ≤ 1048576) → Calls Tryd.prog 28 #[.int .i64 N, x, y, .agg #[.int .i64 a, .int .i64 b]] w' fun r w2 => r = .returned (.bool true) ∧ Below w'.heap.size w' w2) := Lib.hid (fun w' N a b x y P Y h1 h2 h3 h4 h5 h6 => folds8_any N a b x y P Y w' h2 h3 h1 h4 h5 h6)
  obtain ⟨m, hm⟩ : ∃ m, m = pickN s0 1099511627776 := ⟨_, rfl⟩
  have hm2 : m < 1099511627776 := by rw [hm]; exact pickN_lt _ (by decide)
  have CP1 : Hid (∀ w', Calls Tryd.prog 11 #[.int .i64 s0, .int .i64 1099511627776] w' fun e w2 => e = .returned (.int .i64 (m : Int)) ∧ w2 = w') := Lib.hid (fun w' => by
    rw [hm]
    exact pick8_any s0 1099511627776 w' (by decide) (by decide) hb0)
  obtain ⟨N, hN⟩ : ∃ N, N = 1 + m := ⟨_, rfl⟩
  have hNi : 1 + (m : Int) = (N : Int) := by omega
  have hN1 : 1 ≤ N := by omega
  have hNb : N ≤ 1099511627776 := by omega
  have HNN : Hid (1 ≤ N ∧ N ≤ 1099511627776) := Lib.hid ⟨hN1, hNb⟩
  have HBN : Hid ((-9223372036854775808 ≤ s0 ∧ s0 ≤ 9223372036854775807) ∧ (-9223372036854775808 ≤ s5 ∧ s5 ≤ 9223372036854775807) ∧ (-9223372036854775808 ≤ s6 ∧ s6 ≤ 9223372036854775807)) := Lib.hid ⟨hb0, hb5, hb6⟩
  have HSZ : Hid (S.length ≤ 1048576 ∧ H.length ≤ 1048576 ∧ ∀ s ∈ H, s.size ≤ 1048576) := Lib.hid ⟨hSl, hHl, hsz⟩
  obtain ⟨p, c, rfl, s1, s2, _⟩ := id hs
  obtain ⟨q, cq, rfl, t1, t2, _⟩ := id hh
  obtain ⟨vp, vc, rfl, i1, i2, _⟩ := id hv
  obtain ⟨sl, hsl⟩ : ∃ n, n = S.length := ⟨_, rfl⟩
  obtain ⟨hl, hhl⟩ : ∃ n, n = H.length := ⟨_, rfl⟩
  obtain ⟨zl, hzl⟩ : ∃ n, n = Z.length := ⟨_, rfl⟩
  have HL : Hid (sl = S.length ∧ hl = H.length ∧ zl = Z.length) := Lib.hid ⟨hsl, hhl, hzl⟩
  rw [← hsl, ← hhl, ← hzl] at HST
  rw [← hsl] at s1 s2 hSl
  rw [← hhl] at t1 t2 hHl
  rw [← hzl] at i1 i2
  rw [← hsl, ← hhl, ← hzl]
  have HB : Hid (Below w.heap.size w w1 ∧ w1.heap[b0]? = some (.cells #[.int .i64 lo, .int .i64 hi] 29 (0, 0))) := Lib.hid ⟨hbel, r0⟩
  have HW := Lib.hid hw1
  have HB0 := Lib.hid hb0'
  clear hs hh hv ht hb0 hb5 hb6 hsz hw1 hb0' hbel r0 hm hN hsl hhl hzl hm2
  go_enter Tryd.func7, Tryd.ntmps7
  go_upto_region 1 with fail
  rw [← HW.out, ← HB0.out]
  go_upto_region 3 with (go_at_call 10; (with_reducible refine CK.out.mono ?_); rintro r w2 ⟨rfl, hb2⟩; have HB2 : Hid (Below w.heap.size w w2 ∧ w2.heap[b0]? = some (.cells #[.int .i64 lo, .int .i64 hi] 29 (0, 0))) := Lib.hid ⟨below_onS HB.out.1 hb2 HB.out.1.size, (hb2.block b0 (row_lt HB.out.2)).trans HB.out.2⟩; clear hb2)
  clear HB HW CK
  have d0 : w2.cell? ⟨b0, 0, none⟩ = some (.int .i64 lo) := cell_of_row _ _ _ _ _ _ HB2.out.2
  have d1 : w2.cell? ⟨b0, 1, none⟩ = some (.int .i64 hi) := cell_of_row _ _ _ _ _ _ HB2.out.2
  have HF0 := Lib.hid (CF.out w2 s0 lo hi _ _ S H (HST.out w2 HB2.out.1).2.2.1 (HST.out w2 HB2.out.1).1 (HST.out w2 HB2.out.1).2.1 HSZ.out.1 HSZ.out.2.1 HSZ.out.2.2)
  obtain ⟨T, hT⟩ : ∃ T : Bool, T = !decide (60 < sl ∧ sl ≤ 4096 ∧ sl = hl) := ⟨_, rfl⟩
  have HT := Lib.hid hT
  clear hT
  go_cut [48] from 34 to 47 (fun v wx => v = .bool T ∧ Hid (wx = w2))
  case first =>
    by_cases c1 : sl ≤ 60
    · have c1i : (sl : Int) ≤ 60 := by omega
      have e : T = true := by rw [HT.out, decide_eq_false (by omega)]; rfl
      clear c1
      go_wp2_with fail
      go_meet
      exact ⟨by rw [e], Lib.hid rfl⟩
    · have c1i : ¬ (sl : Int) ≤ 60 := by omega
      by_cases c2 : 4096 < sl
      · have c2i : (4096 : Int) < (sl : Int) := by omega
        have e : T = true := by rw [HT.out, decide_eq_false (by omega)]; rfl
        clear c1 c2
        go_wp2_with fail
        go_meet
        exact ⟨by rw [e], Lib.hid rfl⟩
      · have c2i : ¬ (4096 : Int) < (sl : Int) := by omega
        by_cases c3 : sl = hl
        · have c3i : ((sl : Int) != (hl : Int)) = false := by rw [bne_eq_false_iff_eq]; omega
          have e : T = false := by rw [HT.out, decide_eq_true (by omega)]; rfl
          clear c1 c2 c3
          go_wp2_with fail
          go_meet
          exact ⟨by rw [e], Lib.hid rfl⟩
        · have c3i : ((sl : Int) != (hl : Int)) = true := by rw [bne_iff_ne]; omega
          have e : T = true := by rw [HT.out, decide_eq_false (by omega)]; rfl
          clear c1 c2 c3
          go_wp2_with fail
          go_meet
          exact ⟨by rw [e], Lib.hid rfl⟩
  case rest =>
  obtain ⟨rfl, hwc⟩ := hcut
  obtain rfl := hwc.out
  clear HT hwc
  go_upto_if 48 with fail
  go_cut [16] from 49 to 53 (fun v wx => v = .bool true ∧ Hid (Below w.heap.size w wx))
  case first =>
    cases T with
    | true =>
      go_wp2_with (go_at_call 28; (with_reducible refine HF0.out.mono ?_); rintro r w3 ⟨rfl, hb3⟩; have HB3 := Lib.hid (below_onS HB2.out.1 hb3 HB2.out.1.size); clear hb3)
      go_meet
      exact ⟨rfl, HB3⟩
    | false =>
      go_wp2_with fail
      go_meet
      exact ⟨rfl, Lib.hid HB2.out.1⟩
  case rest =>
    obtain ⟨rfl, HBC⟩ := hcut
    clear d0 d1 HF0 HB2
    have CRI := Lib.hid (rising_any (.slice vp zl vc) Z N 12 wc (HST.out wc HBC.out).2.2.2 hN1 hNb (by decide) (by decide))
    go_upto_region 7 with (first
      | (go_at_call 11; with_reducible refine (CP1.out _).mono ?_; rintro r wx ⟨rfl, hwx⟩; rw [hwx]; clear hwx wx)
      | (go_at_call 24; refine CRI.out.mono ?_; rintro r w3 ⟨vr, R, rfl, hne, hlen, hri⟩; obtain ⟨rp, rc, rfl, _⟩ := hri.hd.cells; have HRI := Lib.hid (And.intro hne (And.intro hlen hri)); clear hne hlen hri))
    obtain ⟨hne, hlen, hri⟩ := HRI.out
    obtain ⟨rl, hrl⟩ : ∃ x, x = R.length := ⟨_, rfl⟩
    obtain ⟨C, hC⟩ : ∃ x, x = restT (lookZ (R.map (fun x : Nat => (x : Int)))) 0 N := ⟨_, rfl⟩
    obtain ⟨cl, hcl⟩ : ∃ x, x = C.length := ⟨_, rfl⟩
    have hdepth := rest_depth (R := R) N 0 hN1 (by rw [hasT_all hri.ris.2]; exact List.length_pos_iff.2 hne)
    rw [hasT_all hri.ris.2, ← hC, ← hcl, ← hrl] at hdepth
    have hdp : dptT N ≤ 40 := wayN_log 40 N 0 (by omega) hN1
    have hrl12 : rl ≤ 12 := by omega
    have hcl480 : cl ≤ 480 := Nat.le_trans hdepth (Nat.mul_le_mul hrl12 hdp)
    have HR3 : Hid (Below w.heap.size w w3 ∧ Held w3 3 1 (.slice rp rl rc) rl (natV R) ∧ (∀ x ∈ R, x < N) ∧ rl = R.length ∧ 0 < rl) := Lib.hid ⟨below_onS HBC.out hri.bel HBC.out.size, by rw [hrl]; exact hri.hd, hri.ris.2, hrl, by rw [hrl]; exact List.length_pos_iff.2 hne⟩
    have C8 : Hid (Calls Tryd.prog 29 #[.int .i64 (N : Int), .slice rp rl rc] w3 fun r w2 => ∃ p c, r = .returned (.tuple #[.slice p cl c, .int .i64 0]) ∧ XY w3 w2 (castZ C) [] (.slice p cl c) (.slice none 0 0)) := Lib.hid (by
      have hi := ints_nat hri.hd (by omega) (fun x hx => by have := hri.ris.2 x hx; omega)
      rw [← hrl] at hi
      refine (rbatch_any (N : Int) _ _ w3 hi).mono ?_
      rintro r w2 ⟨_, h2, h3⟩
      obtain ⟨p, c, h1, h4, h5⟩ := h2 (batE_ok hN1 hNb hri.ris hne (by omega))
      rw [Int.toNat_natCast, ← hC, ← hcl] at h1 h4 h5
      have hlc : (castZ C).length = cl := by unfold castZ; rw [List.length_map, hcl]
      refine ⟨p, c, h1, ⟨by rw [hlc, ← prsV_cast]; exact h4, ⟨rfl, .inl ⟨rfl, rfl⟩⟩, h5, (fun g hg => by cases hg), (fun g _ hg => by cases hg), h3, ?_, (fun s hs => by cases hs)⟩⟩
      intro x hx
      unfold castZ at hx
      obtain ⟨y, hy, rfl⟩ := List.mem_map.1 hx
      rw [hC] at hy
      have := restT_fits _ N 0 hN1 y hy
      show 0 ≤ (y.1 : Int) ∧ (y.1 : Int) ≤ 1099511627776 ∧ 0 ≤ (y.2 : Int) ∧ (y.2 : Int) ≤ 1099511627776
      omega)
    have HCL : Hid ((castZ C).length = cl) := Lib.hid (by unfold castZ; rw [List.length_map, hcl])
    rw [← hrl]
    clear hne hlen hri hrl hC hcl hdepth hdp CRI HRI
    go_upto_region 8 with (go_at_call 29; (with_reducible refine C8.out.mono ?_); rintro r w4 ⟨xp, xc, rfl, hxy⟩; have HXY := Lib.hid hxy; clear hxy)
    clear C8
    go_wp2_with fail
    go_loopw [19, 21] (fun x y wr => ∃ (i : Nat), y = .int .i64 (i : Int) ∧ i ≤ rl ∧ Hid (∃ P, P.length = cl + i ∧ XY w3 wr P [] x (.slice none 0 0))) (fun _ y _ => rl - (intOf y).toNat)
    case atStart => exact ⟨0, rfl, by omega, Lib.hid ⟨castZ C, HCL.out, HXY.out⟩⟩
    case round =>
      clear HXY HCL
      obtain ⟨i, rfl, hi, HI⟩ := hrel
      obtain ⟨P, hPl, hxy⟩ := HI.out
      obtain ⟨xp, xc, rfl, _⟩ := hxy.hx.cells
      obtain ⟨pl, hpl⟩ : ∃ x, x = P.length := ⟨_, rfl⟩
      have HP : Hid (pl = P.length ∧ pl = cl + i ∧ XY w3 wr P [] (.slice xp pl xc) (.slice none 0 0)) := Lib.hid ⟨hpl, by omega, by rw [hpl]; exact hxy⟩
      have hplb : pl ≤ 492 := by omega
      rw [← hpl]
      by_cases hlt : i < rl
      · have hl1 : (i : Int) < (rl : Int) := by omega
        have hi0 : (0 : Int) ≤ (i : Int) := by omega
        obtain ⟨rr, hrr⟩ : ∃ x, R[i]? = some x := ⟨R[i]'(by have := HR3.out.2.2.2.1; omega), List.getElem?_eq_getElem _⟩
        have hrN : rr < N := HR3.out.2.2.1 rr (List.mem_of_getElem? hrr)
        obtain ⟨rg, hrg, hrc⟩ := held_cell (HR3.out.2.1.below hxy.bel) HR3.out.2.2.2.2
        have k0 : wr.cell? ⟨rg, i, none⟩ = some (.int .i64 (rr : Int)) := hrc i _ (by show (R.map _)[i]? = _; rw [List.getElem?_map, hrr]; rfl)
        obtain ⟨r1, hr1⟩ : ∃ x, x = rr + 1 := ⟨_, rfl⟩
        have hr1i : (rr : Int) + 1 = (r1 : Int) := by omega
        have hwr : IntKind.i64.wrap (r1 : Int) = (r1 : Int) := wrap_i64_id _ (by omega) (by omega)
        have HR1 := Lib.hid hr1
        have HLT := Lib.hid hlt
        have HRN := Lib.hid hrN
        have hrb : rr ≤ 1099511627776 := by omega
        have hz1 : (pl + 1) * 16 ≤ 140737488355328 := by omega
        have hz2 : pl + 1 ≤ 140737488355328 := by omega
        have HHD2 : Hid (∀ o, Held (wr.drew.alloc o) 29 2 (.slice xp pl xc) pl (zprs P)) := Lib.hid (fun o => Held.below (w := wr.drew) ((show Held wr 29 2 (.slice xp pl xc) pl (zprs P) by have := HP.out.2.2.hx; rwa [← HP.out.1] at this).keep (w' := wr.drew) (fun _ _ => rfl)) ((Below.refl _ _).alloc (Nat.le_refl _) _))
        have HONE : Hid (∀ u ∈ [Value.int .i64 (rr : Int), .int .i64 (r1 : Int)], u.oneCell' = true) := Lib.hid (fun u hu => by
          rcases List.mem_cons.1 hu with rfl | hu
          · rfl
          · rw [List.mem_singleton.1 hu]; rfl)
        subst hrg
        clear hlt hrr hrN hrc hPl hxy hpl HI hr1
        go_upto_region 13 with fail
        go_region_law (first
          | (refine step_grew (v := .slice xp pl xc) rfl (.tmp 74) (.tmp 85) rfl Tryd.underlying31 (.agg #[.int .i64 0, .int .i64 0]) 2 info_spanP rfl (by decide) [.int .i64 (rr : Int), .int .i64 (r1 : Int)] 1 ⟨wr.heap.size, 0, none⟩ rfl rfl (HHD2.out _) rfl (by decide) cells_alloc HONE.out hz1 hz2 ?_; intro v5 w5 hg5; have HG5 := Lib.hid hg5; clear hg5)
          | fail)
        all_goals
          have hfin : Hid (XY w3 w5 (P ++ [((rr : Int), (r1 : Int))]) [] v5 (.slice none 0 0)) := Lib.hid (HP.out.2.2.pushX (w2 := wr.drew) (Below.refl _ wr).drew (by have := HR1.out; have := HRN.out; omega) (by rw [← HP.out.1]; exact HG5.out))
          go_wp2_with fail
          refine ⟨⟨i + 1, by simp, HLT.out, Lib.hid ⟨P ++ [((rr : Int), (r1 : Int))], by rw [List.length_append, List.length_singleton]; have := HP.out; omega, hfin.out⟩⟩, ?_⟩
          show rl - ((i : Int) + 1).toNat < rl - ((i : Int)).toNat
          have := HLT.out
          omega
      · have hl1 : ¬ (i : Int) < (rl : Int) := by omega
        clear hlt hPl hxy hpl HI
        go_wp2_with fail
        have hpl1 : 1 ≤ pl := by have := HP.out.2.1; have := HR3.out.2.2.2.2; omega
        go_loopw [22, 23] (fun y z wr => ∃ (i : Nat), z = .int .i64 (i : Int) ∧ i ≤ pl ∧ Hid (∃ Y, Y.length = i ∧ XY w3 wr P Y (.slice xp pl xc) y)) (fun _ z _ => pl - (intOf z).toNat)
        case atStart => exact ⟨0, rfl, by omega, Lib.hid ⟨[], rfl, HP.out.2.2⟩⟩
        case round =>
          obtain ⟨i, rfl, hi, HI⟩ := hrel
          obtain ⟨Y, hYl, hxy⟩ := HI.out
          obtain ⟨yp, yc, rfl, _⟩ := hxy.hy.cells
          rw [hYl]
          have HQ : Hid (Y.length = i ∧ XY w3 wr P Y (.slice xp pl xc) (.slice yp i yc)) := Lib.hid ⟨hYl, by have := hxy; rwa [hYl] at this⟩
          have HW3 : Hid (Below w.heap.size w wr) := Lib.hid (below_onS HR3.out.1 hxy.bel HR3.out.1.size)
          clear HI hYl hxy
          by_cases hlt : i < pl
          · have hl2 : (i : Int) < (pl : Int) := by omega
            have hi0 : (0 : Int) ≤ (i : Int) := by omega
            have HLT := Lib.hid hlt
            obtain ⟨a, ha⟩ : ∃ a : UInt8, a = UInt8.ofNat ((i : Int) % 256).toNat := ⟨_, rfl⟩
            obtain ⟨b, hb⟩ : ∃ b : UInt8, b = UInt8.ofNat (i / 256) := ⟨_, rfl⟩
            have e1 : (i : Int) % 256 = (a.toNat : Int) := by rw [ha]; exact byte_int8 i
            have hd2 : (i : Int) / 256 = (b.toNat : Int) := by rw [hb, UInt8.toNat_ofNat']; omega
            have hcv := own_string (P := Tryd.prog) (D := 9) (S := 54) (c := 2) Tryd.underlying54 und_u8 und_string (own_of_blk (n := 2) (w := wr.alloc (.cells (bytesV [a, b]).toArray 5)) (heap_alloc_new wr _) (by simp) (by simp))
            have hbB : Below wr.heap.size wr (wr.alloc (.cells (bytesV [a, b]).toArray 5)) := (Below.refl _ _).alloc (Nat.le_refl _) _
            have HBB := Lib.hid hbB
            simp only [bytesV, List.map_cons, List.map_nil] at hcv
            obtain ⟨B1, hB1⟩ : ∃ x, x = wr.alloc (.cells #[.int .u8 (a.toNat : Int), .int .u8 (b.toNat : Int)] 5) := ⟨_, rfl⟩
            have HBB1 : Hid (Below wr.heap.size wr B1) := Lib.hid (by rw [hB1]; exact hbB)
            have HHD : Hid (∀ w5, Below wr.heap.size wr w5 → Held w5 9 1 (.slice yp i yc) i (Y.map Value.string)) := Lib.hid (fun w5 hb5 => by
              have := HQ.out.2.hy
              rw [HQ.out.1] at this
              exact this.below hb5)
            have hz1 : (i + 1) * 16 ≤ 140737488355328 := by omega
            have hz2 : i + 1 ≤ 140737488355328 := by omega
            have HONE : Hid (∀ h0, ∀ u ∈ [Value.string h0], u.oneCell' = true) := Lib.hid (fun h0 u hu => by rw [List.mem_singleton.1 hu]; rfl)
            by_cases hh : i < hl
            · have hhi : (i : Int) < (hl : Int) := by omega
              obtain ⟨s, hs⟩ : ∃ s, H[i]? = some s := ⟨H[i]'(by have := HL.out; omega), List.getElem?_eq_getElem _⟩
              obtain ⟨q', c', hpe, _, _, hzc⟩ := (HST.out _ (below_onS HW3.out hbB HW3.out.size)).2.1
              obtain rfl : q' = q := by cases hpe; rfl
              obtain ⟨qa, rfl, m0⟩ := hzc i s hs
              obtain ⟨h0, hh0⟩ : ∃ x, x = hashS s := ⟨_, rfl⟩
              have CH : Hid (∀ w', Calls Tryd.prog 30 #[.string s] w' fun e w2 => e = .returned (.string h0) ∧ Below w'.heap.size w' w2) := Lib.hid (fun w' => by
                rw [hh0]
                exact hash8_any s w' (by have := HSZ.out.2.2 s (List.mem_of_getElem? hs); omega))
              have H32 : Hid (h0.size = 32) := Lib.hid (by rw [hh0]; exact hashS_size _)
              simp only [bytesV, List.map_cons, List.map_nil] at m0
              clear ha hb hbB hh hs hpe hzc hh0 hlt hB1
              go_wp2_with (first
                | (go_at_call 30; (with_reducible refine (CH.out _).mono ?_); rintro r w5 ⟨rfl, hb5⟩; have HB5 := Lib.hid (below_onS HBB.out hb5 HBB.out.size); clear hb5)
                | (at_builtin; refine wpList_grew (v := .slice yp i yc) (l := Y.map Value.string) rfl _ _ rfl Tryd.underlying50 (.string ⟨#[]⟩) 1 info_str rfl (by decide) [.string h0] 1 (by simp [Act.eval]) (by simp [Act.eval]) (HHD.out _ HB5.out) rfl rfl (by decide) (HONE.out _) hz1 hz2 ?_; intro v9 w9 hg9; have HG9 := Lib.hid hg9; clear hg9))
              have hfin : XY w3 w9 P (Y ++ [h0]) (.slice xp pl xc) v9 := HQ.out.2.pushY HB5.out H32.out (by rw [HQ.out.1]; exact HG9.out)
              refine ⟨⟨i + 1, by simp, HLT.out, Lib.hid ⟨Y ++ [h0], by rw [List.length_append, List.length_singleton, HQ.out.1], hfin⟩⟩, ?_⟩
              show pl - ((i : Int) + 1).toNat < pl - ((i : Int)).toNat
              have := HLT.out
              omega
            · have hhi : ¬ (i : Int) < (hl : Int) := by omega
              obtain ⟨h0, hh0⟩ : ∃ x, x = hashS (⟨#[115]⟩ ++ ⟨#[a, b]⟩) := ⟨_, rfl⟩
              have CH : Hid (∀ w', Calls Tryd.prog 30 #[.string (⟨#[115]⟩ ++ ⟨#[a, b]⟩)] w' fun e w2 => e = .returned (.string h0) ∧ Below w'.heap.size w' w2) := Lib.hid (fun w' => by
                rw [hh0]
                exact hash8_any _ w' (by rw [ByteArray.size_append]; show 1 + 2 ≤ _; decide))
              have H32 : Hid (h0.size = 32) := Lib.hid (by rw [hh0]; exact hashS_size _)
              clear ha hb hbB hh hh0 hlt hB1
              go_wp2_with (first
                | (go_at_call 30; (with_reducible refine (CH.out _).mono ?_); rintro r w5 ⟨rfl, hb5⟩; have HB5 := Lib.hid (below_onS HBB.out hb5 HBB.out.size); clear hb5)
                | (at_builtin; refine wpList_grew (v := .slice yp i yc) (l := Y.map Value.string) rfl _ _ rfl Tryd.underlying50 (.string ⟨#[]⟩) 1 info_str rfl (by decide) [.string h0] 1 (by simp [Act.eval]) (by simp [Act.eval]) (HHD.out _ HB5.out) rfl rfl (by decide) (HONE.out _) hz1 hz2 ?_; intro v9 w9 hg9; have HG9 := Lib.hid hg9; clear hg9))
              have hfin : XY w3 w9 P (Y ++ [h0]) (.slice xp pl xc) v9 := HQ.out.2.pushY HB5.out H32.out (by rw [HQ.out.1]; exact HG9.out)
              refine ⟨⟨i + 1, by simp, HLT.out, Lib.hid ⟨Y ++ [h0], by rw [List.length_append, List.length_singleton, HQ.out.1], hfin⟩⟩, ?_⟩
              show pl - ((i : Int) + 1).toNat < pl - ((i : Int)).toNat
              have := HLT.out
              omega
          · have hl2 : ¬ (i : Int) < (pl : Int) := by omega
            obtain rfl : i = pl := by omega
            clear hlt
            have FC : Hid (∀ (N' : Int) (w' : World) (P' : List (Int × Int)) (Y' : List ByteArray) (x y : Value) (a b : Int), XY w3 w' P' Y' x y → P'.length ≤ 1048576 → Y'.length ≤ 1048576 → Calls Tryd.prog 28 #[.int .i64 N', x, y, .agg #[.int .i64 a, .int .i64 b]] w' fun r w2 => r = .returned (.bool true) ∧ Below w'.heap.size w' w2) := Lib.hid (fun N' w' P' Y' x y a b h h1 h2 => by
              have hbw := below_onS HR3.out.1 h.bel HR3.out.1.size
              exact CF.out w' N' a b x y P' Y' (HST.out _ hbw).2.2.1 (held_spz h.hx h.spb (by omega)).2 (held_txts8 h.hy (by omega)).2 h1 h2 (fun s hs => by rw [h.t32 s hs]; decide))
            have FK : Hid (∀ (N' : Int) (w' : World) (P' : List (Int × Int)) (Y' : List ByteArray) (xp yp : Option Addr) (n xc yc k : Nat) (a b : Int), k ≤ n → P'.length = n → Y'.length = n → n ≤ 1048576 → XY w3 w' P' Y' (.slice xp n xc) (.slice yp n yc) → Calls Tryd.prog 28 #[.int .i64 N', .slice xp k xc, .slice yp k yc, .agg #[.int .i64 a, .int .i64 b]] w' fun r w2 => r = .returned (.bool true) ∧ Below w'.heap.size w' w2) := Lib.hid (fun N' w' P' Y' xp yp n xc yc k a b hk hP hY hn h => by
              have hbw := below_onS HR3.out.1 h.bel HR3.out.1.size
              have h1 := (held_spz h.hx h.spb (by omega)).2.cut hk
              have h2 := Txts.cut8 (held_txts8 h.hy (by omega)).2 hk
              exact CF.out w' N' a b _ _ _ _ (HST.out _ hbw).2.2.1 h1 h2 (by rw [List.length_take]; omega) (by rw [List.length_take]; omega) (fun s hs => by rw [h.t32 s (List.mem_of_mem_take hs)]; decide))
            have CB : Hid (∀ w', Calls Tryd.prog 18 #[.int .i64 (N : Int), .int .i64 s5] w' fun r w2 => (∃ b e : Nat, r = .returned (.agg #[.int .i64 (b : Int), .int .i64 (e : Int)]) ∧ b ≤ 1099511627776 ∧ e ≤ 1099511627776) ∧ Below w'.heap.size w' w2) := Lib.hid (fun w' => by
              refine (below_any N s5 w' hN1 hNb HBN.out.2.1).mono ?_
              rintro r w2 ⟨⟨b, n, h1, h2⟩, h3⟩
              have hin := h2.fits
              exact ⟨⟨b, b + n, h1, by omega, by omega⟩, h3⟩)
            obtain ⟨k, hk⟩ : ∃ k, k = pickN s6 i := ⟨_, rfl⟩
            have hki : k < i := by rw [hk]; exact pickN_lt _ hpl1
            have CP6 : Hid (∀ w', Calls Tryd.prog 11 #[.int .i64 s6, .int .i64 (i : Int)] w' fun e w2 => e = .returned (.int .i64 (k : Int)) ∧ w2 = w') := Lib.hid (fun w' => by
              rw [hk]
              exact pick8_any s6 i w' hpl1 (by omega) HBN.out.2.2)
            have HX0 : Hid (P.length = i ∧ Y.length = i ∧ XY w3 wr P Y (.slice xp i xc) (.slice yp i yc)) := Lib.hid ⟨HP.out.1.symm, HQ.out.1, HQ.out.2⟩
            have HF1 := Lib.hid (FC.out (N : Int) wr P Y _ _ 0 (N : Int) HX0.out.2.2 (by have := HX0.out.1; omega) (by have := HX0.out.2.1; omega))
            clear hk
            go_upto_region 23 with (go_at_call 28; (with_reducible refine HF1.out.mono ?_); rintro r w5 ⟨rfl, hb5⟩; have HX5 := Lib.hid (HX0.out.2.2.later hb5); clear hb5)
            clear HF1 HX0
            have hPY : Hid (P.length = i ∧ Y.length = i) := Lib.hid ⟨HP.out.1.symm, HQ.out.1⟩
            go_upto_region 24 with (first
              | (go_at_call 18; (with_reducible refine (CB.out _).mono ?_); rintro r w6 ⟨⟨b6, e6, rfl, hb6b, he6b⟩, hb6⟩; have hx6 := HX5.out.later hb6; have HX6 := Lib.hid hx6; have HF2 := Lib.hid (FC.out (N : Int) w6 P Y _ _ (b6 : Int) (e6 : Int) hx6 (by have := hPY.out; omega) (by have := hPY.out; omega)); clear hb6 hx6)
              | (go_at_call 28; (with_reducible refine HF2.out.mono ?_); rintro r w7 ⟨rfl, hb7⟩; have HX7 := Lib.hid (HX6.out.later hb7); clear hb7))
            clear HF2 HX6 HX5 hb6b he6b
            obtain ⟨⟨za, zb⟩, hz⟩ : ∃ z, P[k]? = some z := ⟨P[k]'(by have := hPY.out; omega), List.getElem?_eq_getElem _⟩
            have hzb := HX7.out.spb _ (List.mem_of_getElem? hz)
            obtain ⟨xg, hxg, hxc⟩ := held_cell (show Held w7 29 2 (.slice xp i xc) i (zprs P) by have := HX7.out.hx; rwa [hPY.out.1] at this) (by omega)
            have hkk := zprs_get hz
            have k0 : w7.cell? ⟨xg, k * 2, none⟩ = some (.int .i64 za) := hxc _ _ hkk.1
            have k1 : w7.cell? ⟨xg, k * 2 + 1, none⟩ = some (.int .i64 zb) := hxc _ _ hkk.2
            have hk0 : (0 : Int) ≤ (k : Int) := by omega
            have hki2 : (k : Int) < (i : Int) := by omega
            have hkb : k ≤ 492 := by omega
            have HHX : Hid (Held w7 29 2 (.slice xp i xc) i (zprs P)) := Lib.hid (by have := HX7.out.hx; rwa [hPY.out.1] at this)
            have HZB := Lib.hid hzb
            have HKI := Lib.hid hki
            have hz1 : (i + 1) * 16 ≤ 140737488355328 := by omega
            have hz2 : i + 1 ≤ 140737488355328 := by omega
            have HONE : Hid (∀ u ∈ [Value.int .i64 za, .int .i64 zb], u.oneCell' = true) := Lib.hid (fun u hu => by
              rcases List.mem_cons.1 hu with rfl | hu
              · rfl
              · rw [List.mem_singleton.1 hu]; rfl)
            subst hxg
            clear hz hxc hkk hki hzb
            go_upto_region 26 with (first
              | (go_at_call 11; (with_reducible refine (CP6.out _).mono ?_); rintro r wx ⟨rfl, hwx⟩; rw [hwx]; clear hwx wx)
              | (at_builtin; refine wpList_grew (v := .slice (some ⟨xg, 0, none⟩) i xc) (l := zprs P) rfl _ _ rfl Tryd.underlying31 (.agg #[.int .i64 0, .int .i64 0]) 2 info_spanP rfl (by decide) [.int .i64 za, .int .i64 zb] 1 (by simp [Act.eval]) (by simp [Act.eval]) HHX.out rfl rfl (by decide) HONE.out hz1 hz2 ?_; intro v8 w8 hg8; have HG8 := Lib.hid hg8; clear hg8))
            have hx8 : XY w3 w8 (P ++ [(za, zb)]) Y v8 (.slice yp i yc) := HX7.out.pushX (w2 := w7) (Below.refl _ _) HZB.out (by rw [hPY.out.1]; exact HG8.out)
            obtain ⟨xp2, xc2, rfl, _⟩ := hx8.hx.cells
            obtain ⟨j, hj⟩ : ∃ j, j = i + 1 := ⟨_, rfl⟩
            have hPl : (P ++ [(za, zb)]).length = j := by rw [List.length_append, List.length_singleton]; have := hPY.out; omega
            rw [hPl]
            have HX8 : Hid ((P ++ [(za, zb)]).length = j ∧ Y.length = i ∧ j = i + 1 ∧ XY w3 w8 (P ++ [(za, zb)]) Y (.slice xp2 j xc2) (.slice yp i yc)) := Lib.hid ⟨hPl, hPY.out.2, hj, by rwa [hPl] at hx8⟩
            have CH2 : Hid (∀ w', Calls Tryd.prog 30 #[.string ⟨#[116, 119, 105, 99, 101]⟩] w' fun e w2 => e = .returned (.string (hashS ⟨#[116, 119, 105, 99, 101]⟩)) ∧ Below w'.heap.size w' w2) := Lib.hid (fun w' => hash8_any _ w' (by decide))
            obtain ⟨h2, hh2⟩ : ∃ x, x = hashS ⟨#[116, 119, 105, 99, 101]⟩ := ⟨_, rfl⟩
            rw [← hh2] at CH2
            have H322 : Hid (h2.size = 32) := Lib.hid (by rw [hh2]; exact hashS_size _)
            have HHY : Hid (∀ w5, Below w8.heap.size w8 w5 → Held w5 9 1 (.slice yp i yc) i (Y.map Value.string)) := Lib.hid (fun w5 hb5 => by
              have := HX8.out.2.2.2.hy
              rw [HX8.out.2.1] at this
              exact this.below hb5)
            have HONE2 : Hid (∀ u ∈ [Value.string h2], u.oneCell' = true) := Lib.hid (fun u hu => by rw [List.mem_singleton.1 hu]; rfl)
            clear k0 k1 hx8 hPl hh2 HHX HONE HX7 HG8 hj
            go_upto_region 27 with (first
              | (go_at_call 30; (with_reducible refine (CH2.out _).mono ?_); rintro r w9 ⟨rfl, hb9⟩; have HB9 := Lib.hid hb9; clear hb9)
              | (at_builtin; refine wpList_grew (v := .slice yp i yc) (l := Y.map Value.string) rfl _ _ rfl Tryd.underlying50 (.string ⟨#[]⟩) 1 info_str rfl (by decide) [.string h2] 1 (by simp [Act.eval]) (by simp [Act.eval]) (HHY.out _ HB9.out) rfl rfl (by decide) HONE2.out hz1 hz2 ?_; intro v10 w10 hg10; have HG10 := Lib.hid hg10; clear hg10))
            have hx10 : XY w3 w10 (P ++ [(za, zb)]) (Y ++ [h2]) (.slice xp2 j xc2) v10 := HX8.out.2.2.2.pushY HB9.out H322.out (by rw [HX8.out.2.1]; exact HG10.out)
            obtain ⟨yp2, yc2, rfl, _⟩ := hx10.hy.cells
            have hYl : (Y ++ [h2]).length = j := by rw [List.length_append, List.length_singleton]; have := HX8.out; omega
            rw [hYl]
            have HX10 : Hid ((P ++ [(za, zb)]).length = j ∧ (Y ++ [h2]).length = j ∧ j = i + 1 ∧ XY w3 w10 (P ++ [(za, zb)]) (Y ++ [h2]) (.slice xp2 j xc2) (.slice yp2 j yc2)) := Lib.hid ⟨HX8.out.1, hYl, HX8.out.2.2.1, by rwa [hYl] at hx10⟩
            have HF3 := Lib.hid (FC.out (N : Int) w10 _ _ _ _ 0 (N : Int) HX10.out.2.2.2 (by have := HX10.out; omega) (by have := HX10.out; omega))
            clear hx10 hYl HHY HONE2 HX8 HG10 HB9 CH2
            go_upto_region 28 with (go_at_call 28; (with_reducible refine HF3.out.mono ?_); rintro r w11 ⟨rfl, hb11⟩; have HX11 := Lib.hid (HX10.out.2.2.2.later hb11); clear hb11)
            clear HF3
            have hj : j = i + 1 := HX10.out.2.2.1
            obtain ⟨⟨ua, ub⟩, hu⟩ : ∃ z, (P ++ [(za, zb)])[k]? = some z := ⟨(P ++ [(za, zb)])[k]'(by have := HX10.out.1; have := HKI.out; omega), List.getElem?_eq_getElem _⟩
            have hHX : Held w11 29 2 (.slice xp2 j xc2) j (zprs (P ++ [(za, zb)])) := by have := HX11.out.hx; rwa [HX10.out.1] at this
            obtain ⟨xg2, hxg, _⟩ := held_cell hHX (by omega)
            subst hxg
            have HSTO : Hid (∀ w', Below w11.heap.size w11 w' → (w'.cell? ⟨xg2, k * 2, none⟩ = some (.int .i64 ua) ∧ w'.cell? ⟨xg2, k * 2 + 1, none⟩ = some (.int .i64 ub)) ∧ ∀ q, w'.frozen? ⟨xg2, q, none⟩ = false) := Lib.hid (fun w' hb' => by
              have h := hHX.below hb'
              obtain ⟨g', e', hc'⟩ := held_cell h (by omega)
              cases e'
              have hkk := zprs_get hu
              refine ⟨⟨hc' _ _ hkk.1, hc' _ _ hkk.2⟩, fun q => ?_⟩
              rcases h.2 with ⟨e, _⟩ | ⟨g', cap, cur, e, hg', _⟩
              · cases e
              · cases e
                exact frozen_of_row _ _ _ _ _ hg')
            obtain ⟨_, _, e1, c1, _⟩ := hHX.cells
            cases e1
            obtain ⟨_, _, e2, c2, _⟩ := HX11.out.hy.cells
            have hyc : j ≤ yc2 := by have := HX10.out.2.1; cases e2; omega
            have hji : (j : Int) - 1 = (i : Int) := by omega
            have hkj : (k : Int) < (j : Int) := by omega
            have hixc : (i : Int) ≤ (xc2 : Int) := by omega
            have hiyc : (i : Int) ≤ (yc2 : Int) := by omega
            have hixc2 : i ≤ xc2 := by omega
            have hiyc2 : i ≤ yc2 := by omega
            have hj1 : 1 ≤ j := by omega
            have hjb : j ≤ 493 := by omega
            have HPY2 : Hid ((P ++ [(za, zb)]).length = j ∧ (Y ++ [h2]).length = j ∧ j = i + 1) := Lib.hid ⟨HX10.out.1, HX10.out.2.1, HX10.out.2.2.1⟩
            clear hj hu hHX c1 c2 e2 hyc HX10
            go_upto_region 29 with (go_at_call 18; (with_reducible refine (CB.out _).mono ?_); rintro r w12 ⟨⟨b12, e12, rfl, hb12b, he12b⟩, hb12⟩; have HX12 := Lib.hid (HX11.out.later hb12); obtain ⟨⟨f0, f1⟩, ff⟩ := HSTO.out w12 hb12; have HBE := Lib.hid (And.intro hb12b he12b); clear hb12 hb12b he12b)
            have hx13 := HX12.out.put (g := xg2) rfl k ((b12 : Int), (e12 : Int)) (by have := HBE.out; show 0 ≤ (b12 : Int) ∧ (b12 : Int) ≤ 1099511627776 ∧ 0 ≤ (e12 : Int) ∧ (e12 : Int) ≤ 1099511627776; omega)
            obtain ⟨w13, hw13⟩ : ∃ x, x = (w12.setCell ⟨xg2, k * 2, none⟩ (.int .i64 (b12 : Int))).setCell ⟨xg2, k * 2 + 1, none⟩ (.int .i64 (e12 : Int)) := ⟨_, rfl⟩
            have HX13 : Hid (XY w3 w13 ((P ++ [(za, zb)]).set k ((b12 : Int), (e12 : Int))) (Y ++ [h2]) (.slice (some ⟨xg2, 0, none⟩) j xc2) (.slice yp2 j yc2)) := by rw [hw13]; exact Lib.hid hx13
            rw [← hw13]
            have HF4 := Lib.hid (FK.out (N : Int) w13 _ _ (some ⟨xg2, 0, none⟩) yp2 j xc2 yc2 i 0 (N : Int) (by have := HPY2.out; omega) (by rw [List.length_set]; exact HPY2.out.1) HPY2.out.2.1 (by omega) HX13.out)
            clear f0 f1 ff hx13 hw13 HX12 HX11 HSTO
            go_upto_region 33 with (go_at_call 28; (with_reducible refine HF4.out.mono ?_); rintro r w14 ⟨rfl, hb14⟩; have HB14 := Lib.hid (below_onS (below_onS HR3.out.1 HX13.out.bel HR3.out.1.size) hb14 (below_onS HR3.out.1 HX13.out.bel HR3.out.1.size).size); have HA14 := Lib.hid (below_onS HX13.out.bel hb14 HX13.out.bel.size); clear hb14)
            clear HF4 HX13
            obtain ⟨pk, hpk⟩ : ∃ x, x = pickN s6 23 := ⟨_, rfl⟩
            have hpk23 : pk < 23 := by rw [hpk]; exact pickN_lt _ (by decide)
            have CP7 : Hid (∀ w', Calls Tryd.prog 11 #[.int .i64 s6, .int .i64 23] w' fun e w2 => e = .returned (.int .i64 (pk : Int)) ∧ w2 = w') := Lib.hid (fun w' => by
              rw [hpk]
              exact pick8_any s6 23 w' (by decide) (by decide) HBN.out.2.2)
            clear hpk
            by_cases h7 : pk = 7
            · subst h7
              have CP7 : Hid (∀ w', Calls Tryd.prog 11 #[.int .i64 s6, .int .i64 23] w' fun e w2 => e = .returned (.int .i64 7) ∧ w2 = w') := Lib.hid CP7.out
              obtain ⟨m3, hm3⟩ : ∃ x, x = pickN s0 4036 := ⟨_, rfl⟩
              have hm3b : m3 < 4036 := by rw [hm3]; exact pickN_lt _ (by decide)
              have CP8 : Hid (∀ w', Calls Tryd.prog 11 #[.int .i64 s0, .int .i64 4036] w' fun e w2 => e = .returned (.int .i64 (m3 : Int)) ∧ w2 = w') := Lib.hid (fun w' => by
                rw [hm3]
                exact pick8_any s0 4036 w' (by decide) (by decide) HBN.out.1)
              obtain ⟨M, hM⟩ : ∃ x, x = 61 + m3 := ⟨_, rfl⟩
              have hMi : 61 + (m3 : Int) = (M : Int) := by omega
              have hMb : M ≤ 4096 := by omega
              clear hm3 hM
              go_wp2_with (first
                | (go_at_call 11; (with_reducible refine (CP7.out _).mono ?_); rintro r wx ⟨rfl, hwx⟩; rw [hwx]; clear hwx wx)
                | (go_at_call 11; (with_reducible refine (CP8.out _).mono ?_); rintro r wx ⟨rfl, hwx⟩; rw [hwx]; clear hwx wx))
              go_loopw [19, 22, 32] (fun x y z wr => ∃ (i : Nat), z = .int .i64 (i : Int) ∧ i ≤ M ∧ Hid (∃ P Y, P.length = i ∧ Y.length = i ∧ XY w3 wr P Y x y)) (fun _ _ z _ => M - (intOf z).toNat)
              case atStart => exact ⟨0, rfl, by omega, Lib.hid ⟨[], [], rfl, rfl, ⟨rfl, .inl ⟨rfl, rfl⟩⟩, ⟨rfl, .inl ⟨rfl, rfl⟩⟩, (fun g hg => by cases hg), (fun g hg => by cases hg), (fun g hg => by cases hg), HA14.out, (fun x hx => by cases hx), (fun x hx => by cases hx)⟩⟩
              case round =>
                clear HP HQ HPY2 hPY HZB HKI H322
                obtain ⟨i, rfl, hi, HI⟩ := hrel
                obtain ⟨P, Y, hP, hY, hxy⟩ := HI.out
                obtain ⟨xp, xc, rfl, _⟩ := hxy.hx.cells
                obtain ⟨yp, yc, rfl, _⟩ := hxy.hy.cells
                rw [hP, hY]
                have HQ : Hid (P.length = i ∧ Y.length = i ∧ XY w3 wr P Y (.slice xp i xc) (.slice yp i yc)) := Lib.hid ⟨hP, hY, by have := hxy; rwa [hP, hY] at this⟩
                clear HI hP hY hxy
                have hib : i ≤ 4096 := by omega
                by_cases hlt : i < M
                · have hl3 : (i : Int) < (M : Int) := by omega
                  have hi0 : (0 : Int) ≤ (i : Int) := by omega
                  have HLT := Lib.hid hlt
                  have hz1 : (i + 1) * 16 ≤ 140737488355328 := by omega
                  have hz2 : i + 1 ≤ 140737488355328 := by omega
                  have HHX : Hid (Held wr 29 2 (.slice xp i xc) i (zprs P)) := Lib.hid (by have := HQ.out.2.2.hx; rwa [HQ.out.1] at this)
                  have HONE : Hid (∀ u ∈ [Value.int .i64 (i : Int), .int .i64 ((i : Int) + 1)], u.oneCell' = true) := Lib.hid (fun u hu => by
                    rcases List.mem_cons.1 hu with rfl | hu
                    · rfl
                    · rw [List.mem_singleton.1 hu]; rfl)
                  clear hlt
                  go_upto_region 41 with (at_builtin; refine wpList_grew (v := .slice xp i xc) (l := zprs P) rfl _ _ rfl Tryd.underlying31 (.agg #[.int .i64 0, .int .i64 0]) 2 info_spanP rfl (by decide) [.int .i64 (i : Int), .int .i64 ((i : Int) + 1)] 1 (by simp [Act.eval]) (by simp [Act.eval]) HHX.out rfl rfl (by decide) HONE.out hz1 hz2 ?_; intro v8 w8 hg8; have HG8 := Lib.hid hg8; clear hg8)
                  have hx8 : XY w3 w8 (P ++ [((i : Int), (i : Int) + 1)]) Y v8 (.slice yp i yc) := HQ.out.2.2.pushX (w2 := wr) (Below.refl _ _) (by omega) (by rw [HQ.out.1]; exact HG8.out)
                  have HX8 := Lib.hid hx8
                  obtain ⟨a, ha⟩ : ∃ a : UInt8, a = UInt8.ofNat ((i : Int) % 256).toNat := ⟨_, rfl⟩
                  obtain ⟨b, hb⟩ : ∃ b : UInt8, b = UInt8.ofNat (i / 256) := ⟨_, rfl⟩
                  have e1 : (i : Int) % 256 = (a.toNat : Int) := by rw [ha]; exact byte_int8 i
                  have hd2 : (i : Int) / 256 = (b.toNat : Int) := by rw [hb, UInt8.toNat_ofNat']; omega
                  have hcv := own_string (P := Tryd.prog) (D := 9) (S := 54) (c := 2) Tryd.underlying54 und_u8 und_string (own_of_blk (n := 2) (w := w8.alloc (.cells (bytesV [a, b]).toArray 5)) (heap_alloc_new w8 _) (by simp) (by simp))
                  have hbB : Below w8.heap.size w8 (w8.alloc (.cells (bytesV [a, b]).toArray 5)) := (Below.refl _ _).alloc (Nat.le_refl _) _
                  have HBB := Lib.hid hbB
                  simp only [bytesV, List.map_cons, List.map_nil] at hcv
                  have HHD : Hid (∀ w5, Below w8.heap.size w8 w5 → Held w5 9 1 (.slice yp i yc) i (Y.map Value.string)) := Lib.hid (fun w5 hb5 => by
                    have := HX8.out.hy
                    rw [HQ.out.2.1] at this
                    exact this.below hb5)
                  have HONE2 : Hid (∀ h0, ∀ u ∈ [Value.string h0], u.oneCell' = true) := Lib.hid (fun h0 u hu => by rw [List.mem_singleton.1 hu]; rfl)
                  obtain ⟨h0, hh0⟩ : ∃ x, x = hashS (⟨#[108, 101, 97, 102]⟩ ++ ⟨#[a, b]⟩) := ⟨_, rfl⟩
                  have CH : Hid (∀ w', Calls Tryd.prog 30 #[.string (⟨#[108, 101, 97, 102]⟩ ++ ⟨#[a, b]⟩)] w' fun e w2 => e = .returned (.string h0) ∧ Below w'.heap.size w' w2) := Lib.hid (fun w' => by
                    rw [hh0]
                    exact hash8_any _ w' (by rw [ByteArray.size_append]; show 4 + 2 ≤ _; decide))
                  have H32 : Hid (h0.size = 32) := Lib.hid (by rw [hh0]; exact hashS_size _)
                  clear ha hb hbB hh0 hx8 HG8
                  go_wp2_with (first
                    | (go_at_call 30; (with_reducible refine (CH.out _).mono ?_); rintro r w5 ⟨rfl, hb5⟩; have HB5 := Lib.hid (below_onS HBB.out hb5 HBB.out.size); clear hb5)
                    | (at_builtin; refine wpList_grew (v := .slice yp i yc) (l := Y.map Value.string) rfl _ _ rfl Tryd.underlying50 (.string ⟨#[]⟩) 1 info_str rfl (by decide) [.string h0] 1 (by simp [Act.eval]) (by simp [Act.eval]) (HHD.out _ HB5.out) rfl rfl (by decide) (HONE2.out _) hz1 hz2 ?_; intro v9 w9 hg9; have HG9 := Lib.hid hg9; clear hg9))
                  have hfin : XY w3 w9 (P ++ [((i : Int), (i : Int) + 1)]) (Y ++ [h0]) v8 v9 := HX8.out.pushY HB5.out H32.out (by rw [HQ.out.2.1]; exact HG9.out)
                  refine ⟨⟨i + 1, by simp, HLT.out, Lib.hid ⟨_, _, by rw [List.length_append, List.length_singleton, HQ.out.1], by rw [List.length_append, List.length_singleton, HQ.out.2.1], hfin⟩⟩, ?_⟩
                  show M - ((i : Int) + 1).toNat < M - ((i : Int)).toNat
                  have := HLT.out
                  omega
                · have hl3 : ¬ (i : Int) < (M : Int) := by omega
                  have HF5 := Lib.hid (FC.out (M : Int) wr P Y _ _ 0 (M : Int) HQ.out.2.2 (by have := HQ.out; omega) (by have := HQ.out; omega))
                  clear hlt
                  go_wp2_with (go_at_call 28; (with_reducible refine HF5.out.mono ?_); rintro r w15 ⟨rfl, hb15⟩; have HB15 := Lib.hid (below_onS (below_onS HR3.out.1 HQ.out.2.2.bel HR3.out.1.size) hb15 (below_onS HR3.out.1 HQ.out.2.2.bel HR3.out.1.size).size); clear hb15)
                  go_ret
                  exact ⟨rfl, HB15.out⟩
            · have h7i : ((pk : Int) == 7) = false := by rw [beq_eq_false_iff_ne]; omega
              clear h7
              go_wp2_with (go_at_call 11; (with_reducible refine (CP7.out _).mono ?_); rintro r wx ⟨rfl, hwx⟩; rw [hwx]; clear hwx wx)
              go_ret
              exact ⟨rfl, HB14.out⟩
end Go.Proofs.YteknpnanmbfhfaaDoor
