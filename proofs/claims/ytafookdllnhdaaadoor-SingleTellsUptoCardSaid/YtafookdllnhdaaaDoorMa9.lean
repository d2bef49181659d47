/- The reference's block function: walked. -/
import Derived.Test.YtafookdllnhdaaaDoorMa8
namespace Go.Proofs.YtafookdllnhdaaaDoor
open Go.RowKit Go.Scr
set_option linter.unusedVariables false

theorem agg8_get {st : List Nat} {j : Nat} (hl : st.length = 8) (hj : j < 8) : (agg8 st)[j]? = some (.int .i64 ((st.getD j 0 : Nat) : Int)) := by
  unfold agg8
  rw [List.getElem?_toArray, List.getElem?_map, List.getD_eq_getElem?_getD, List.getElem?_eq_getElem (by omega)]
  simp
theorem agg8_set (st : List Nat) (j x : Nat) : (agg8 st).setIfInBounds j (.int .i64 (x : Int)) = agg8 (st.set j x) := by
  unfold agg8
  rw [List.setIfInBounds_toArray, List.map_set]
theorem agg8_size {st : List Nat} (hl : st.length = 8) : (agg8 st).size = 8 := by simp [agg8, hl]
theorem agg8_one (st : List Nat) : (agg8 st).all (·.oneCell') = true := by
  rw [Array.all_eq_true_iff_forall_mem]
  intro v hv
  simp only [agg8, List.mem_toArray, List.mem_map] at hv
  obtain ⟨_, _, rfl⟩ := hv
  rfl
theorem kI_get (j : Nat) (hj : j < 64) : kI[j]? = some (.int .i64 ((Ks.getD j 0 : Nat) : Int)) := by
  unfold kI
  rw [List.getElem?_toArray, List.getElem?_map, List.getD_eq_getElem?_getD, List.getElem?_eq_getElem (show j < Ks.length from hj)]
  simp
def z8 : Array Value := agg8 (List.replicate 8 0)
theorem zero_8 (w : World) : (zeroValue 130).run Tryd.prog w = .ok (.agg z8) w := by kernel_rfl
theorem zI_get (j : Nat) (hj : j < 64) : zI[j]? = some (.int .i64 ((0 : Nat) : Int)) := by
  unfold zI
  rw [List.getElem?_toArray, List.getElem?_replicate, if_pos hj]
  rfl
theorem rowI_step {wr : World} {B T k : Nat} {bs : List UInt8} (h : wr.rowIs B T 64 fun j => .int .i64 ((if j < k then wv bs j else 0 : Nat) : Int)) (hk : k < 64) :
    (wr.setCell ⟨B, k, none⟩ (.int .i64 (wv bs k : Nat))).rowIs B T 64 fun j => .int .i64 ((if j < k + 1 then wv bs j else 0 : Nat) : Int) := by
  refine (h.set k (.int .i64 (wv bs k : Nat))).congr fun j hj => ?_
  split
  · rename_i e; subst e; rw [if_pos (by omega)]
  · by_cases hjk : j < k
    · rw [if_pos hjk, if_pos (by omega)]
    · rw [if_neg hjk, if_neg (by omega)]
def setI8 (w : World) (g : Nat) (x0 x1 x2 x3 x4 x5 x6 x7 : Value) : World :=
  (((((((w.setCell ⟨g, 0, none⟩ x0).setCell ⟨g, 1, none⟩ x1).setCell ⟨g, 2, none⟩ x2).setCell ⟨g, 3, none⟩ x3).setCell ⟨g, 4, none⟩ x4).setCell ⟨g, 5, none⟩ x5).setCell ⟨g, 6, none⟩ x6).setCell ⟨g, 7, none⟩ x7
theorem setI8_row {w : World} {g T : Nat} {f : Nat → Value} (h : w.rowIs g T 8 f) (x0 x1 x2 x3 x4 x5 x6 x7 : Nat) :
    (setI8 w g (.int .i64 x0) (.int .i64 x1) (.int .i64 x2) (.int .i64 x3) (.int .i64 x4) (.int .i64 x5) (.int .i64 x6) (.int .i64 x7)).rowIs g T 8 (fun j => .int .i64 (([x0, x1, x2, x3, x4, x5, x6, x7].getD j 0 : Nat) : Int)) := by
  refine ((((((((h.set 0 _).set 1 _).set 2 _).set 3 _).set 4 _).set 5 _).set 6 _).set 7 _).congr fun j hj => ?_
  match j, hj with
  | 0, _ | 1, _ | 2, _ | 3, _ | 4, _ | 5, _ | 6, _ | 7, _ => rfl
theorem setI8_other {w : World} {g B T n : Nat} {f : Nat → Value} (h : w.rowIs B T n f) (hne : B ≠ g) (x0 x1 x2 x3 x4 x5 x6 x7 : Value) : (setI8 w g x0 x1 x2 x3 x4 x5 x6 x7).rowIs B T n f :=
  (((((((h.setOther hne _).setOther hne _).setOther hne _).setOther hne _).setOther hne _).setOther hne _).setOther hne _).setOther hne _
theorem setI8_below {w0 w : World} {g B : Nat} (h : Below B w0 w) (hB : B ≤ g) (x0 x1 x2 x3 x4 x5 x6 x7 : Value) : Below B w0 (setI8 w g x0 x1 x2 x3 x4 x5 x6 x7) :=
  (((((((h.setCell hB _).setCell hB _).setCell hB _).setCell hB _).setCell hB _).setCell hB _).setCell hB _).setCell hB _

theorem built8 (x0 x1 x2 x3 x4 x5 x6 x7 : Int) : Tryd.prog.built 130 [(0, .int .i64 x0), (1, .int .i64 x1), (2, .int .i64 x2), (3, .int .i64 x3), (4, .int .i64 x4), (5, .int .i64 x5), (6, .int .i64 x6), (7, .int .i64 x7)] =
    some #[.int .i64 x0, .int .i64 x1, .int .i64 x2, .int .i64 x3, .int .i64 x4, .int .i64 x5, .int .i64 x6, .int .i64 x7] := by kernel_rfl
set_option maxRecDepth 100000 in
set_option maxHeartbeats 2000000 in
theorem rblock_any (st : List Nat) (s : ByteArray) (w : World) (hst : St st) (hs : s.size = 64) :
    Calls Tryd.prog 92 #[.agg (agg8 st), .string s] w fun e w' => e = .returned (.agg (agg8 (blockN st s.data.toList))) ∧ Below w.heap.size w w' := by
  have hz8 := zero_8
  have hz64 := zero_64
  have HS := Lib.hid hs
  have HL := Lib.hid hst.1
  obtain ⟨bs, hbs⟩ : ∃ bs, bs = s.data.toList := ⟨_, rfl⟩
  have hbl : bs.length = 64 := by rw [hbs]; simpa using hs
  have hget : ∀ j, (h : j < s.size) → s[j] = bs.getD j 0 := fun j hj => by
    rw [hbs, List.getD_eq_getElem?_getD]
    simp [ByteArray.getElem_eq_getElem_data, hs, show j < 64 by omega]
  have HG := Lib.hid hget
  have HBS := Lib.hid hbs
  have HBL := Lib.hid hbl
  clear hs hbs hbl hget
  go_enter Tryd.func92, Tryd.ntmps92
  go_wp2_with fail
  obtain ⟨B, hB⟩ : ∃ B, B = w.heap.size := ⟨_, rfl⟩
  obtain ⟨w0, hw0⟩ : ∃ w0, w0 = (w.alloc (.cells (agg8 st) 130)).alloc (.cells z8 130) := ⟨_, rfl⟩
  have h0 : w0.heap[B]? = some (.cells (agg8 st) 130 (0, 0)) := by rw [hw0, hB]; exact blk_alloc (heap_alloc_new w _)
  have h1 : w0.heap[B + 1]? = some (.cells z8 130 (0, 0)) := by rw [hw0, hB]; have := heap_alloc_new (w.alloc (.cells (agg8 st) 130)) (.cells z8 130); simpa using this
  have hsz0 : w0.heap.size = B + 2 := by rw [hw0, hB]; simp
  have hbw : Below B w w0 := by rw [hw0, hB]; exact ((Below.refl _ _).alloc (Nat.le_refl _) _).alloc (by simp) _
  rw [← hw0, ← hB]
  obtain ⟨B2, hB2⟩ : ∃ B2, B2 = B + 1 + 1 := ⟨_, rfl⟩
  rw [← hB2]
  have HB2 := Lib.hid hB2
  have H0 := Lib.hid h0
  have H1 := Lib.hid h1
  have HSZ := Lib.hid hsz0
  have HBW := Lib.hid hbw
  have HBQ := Lib.hid hB
  clear hw0 h0 h1 hsz0 hbw hB hB2 hz8
  go_loopw [6] (fun v wr => ∃ k : Nat, k ≤ 64 ∧ v = .int .i64 k ∧ wr.rowIs B2 137 64 (fun j => .int .i64 ((if j < k then wv bs j else 0 : Nat) : Int)) ∧ Below B2 w0 wr) (fun v _ => 64 - (intOf v).toNat)
  case atStart =>
    refine ⟨0, by omega, rfl, ⟨zI, ?_, rfl, fun i hi => by simp only [Nat.not_lt_zero, if_false]; exact zI_get i hi⟩, (Below.refl _ _).alloc (Nat.le_of_eq (by rw [HSZ.out, HB2.out])) _⟩
    rw [show B2 = w0.heap.size by rw [HSZ.out, HB2.out]]
    exact heap_alloc_new w0 _
  case round =>
    obtain ⟨k, hk, rfl, hrow, hbel⟩ := hrel
    by_cases h64 : k < 64
    · by_cases h16 : k < 16
      · have hs64 : 4 * k + 3 < s.size := by have := HS.out; omega
        have h0 := HG.out (4 * k) (by omega)
        have h1 := HG.out (4 * k + 1) (by omega)
        have h2 := HG.out (4 * k + 2) (by omega)
        have h3 := HG.out (4 * k + 3) (by omega)
        have p0 : 4 * (k : Int) < (s.size : Int) := by omega
        have p1 : 4 * (k : Int) + 1 < (s.size : Int) := by omega
        have p2 : 4 * (k : Int) + 2 < (s.size : Int) := by omega
        have p3 : 4 * (k : Int) + 3 < (s.size : Int) := by omega
        have hc := hrow.cell h64
        have hf := hrow.frozen k
        have hw : orr (orr (orr (shl (bs.getD (4 * k) 0).toNat 24) (shl (bs.getD (4 * k + 1) 0).toNat 16)) (shl (bs.getD (4 * k + 2) 0).toNat 8)) (bs.getD (4 * k + 3) 0).toNat = wv bs k := by rw [wv_lo bs k h16]; rfl
        generalize bs.getD (4 * k) 0 = d0 at h0 hw
        generalize bs.getD (4 * k + 1) 0 = d1 at h1 hw
        generalize bs.getD (4 * k + 2) 0 = d2 at h2 hw
        generalize bs.getD (4 * k + 3) 0 = d3 at h3 hw
        have l0 := byte_lt d0
        have l1 := byte_lt d1
        have l2 := byte_lt d2
        have l3 := byte_lt d3
        have c0 := shl_lt d0.toNat 24 l0 (by omega)
        have c1 := shl_lt d1.toNat 16 l1 (by omega)
        have c2 := shl_lt d2.toNat 8 l2 (by omega)
        have q1 := orr_lt c0 c1
        have q2 := orr_lt q1 c2
        have o1 := i64_orr _ _ (show shl d0.toNat 24 < _ by omega) (show shl d1.toNat 16 < _ by omega)
        have o2 := i64_orr _ _ (show orr (shl d0.toNat 24) (shl d1.toNat 16) < _ by omega) (show shl d2.toNat 8 < _ by omega)
        have o3 := i64_orr _ d3.toNat (show orr (orr (shl d0.toNat 24) (shl d1.toNat 16)) (shl d2.toNat 8) < _ by omega) (by omega)
        rw [hw] at o3
        have s0 := i64_s24 d0.toNat l0
        have s1 := i64_s16 d1.toNat l1
        have s2 := i64_s8 d2.toNat l2
        have v0 := i64_byte d0.toNat l0
        have v1 := i64_byte d1.toNat l1
        have v2 := i64_byte d2.toNat l2
        have v3 := i64_byte d3.toNat l3
        have HR := Lib.hid hrow
        have HBE := Lib.hid hbel
        clear hrow hbel hw c0 c1 c2 q1 q2
        go_wp2_with fail
        have e0 : IntKind.i64.wrap (4 * (k : Int)) = 4 * (k : Int) := IntWalk.i64_in _ (by omega)
        have e1 : IntKind.i64.wrap (4 * (k : Int) + 1) = 4 * (k : Int) + 1 := IntWalk.i64_in _ (by omega)
        have e2 : IntKind.i64.wrap (4 * (k : Int) + 2) = 4 * (k : Int) + 2 := IntWalk.i64_in _ (by omega)
        have e3 : IntKind.i64.wrap (4 * (k : Int) + 3) = 4 * (k : Int) + 3 := IntWalk.i64_in _ (by omega)
        have n0 : 0 ≤ 4 * (k : Int) := by omega
        have n1 : 0 ≤ 4 * (k : Int) + 1 := by omega
        have n2 : 0 ≤ 4 * (k : Int) + 2 := by omega
        have n3 : 0 ≤ 4 * (k : Int) + 3 := by omega
        have t0 : (4 * (k : Int)).toNat = 4 * k := by omega
        have t1 : (4 * (k : Int) + 1).toNat = 4 * k + 1 := by omega
        have t2 : (4 * (k : Int) + 2).toNat = 4 * k + 2 := by omega
        have t3 : (4 * (k : Int) + 3).toNat = 4 * k + 3 := by omega
        go_still_tail 31, (by kernel_rfl)
        clear o1 o2 o3 s0 s1 s2 v0 v1 v2 v3 e0 e1 e2 e3 n0 n1 n2 n3 t0 t1 t2 t3 h0 h1 h2 h3 p0 p1 p2 p3
        change wpList _ _ _ _ _ wr.drew
        go_wp2
        go_roundw
        case rel => exact ⟨k + 1, by omega, by go_num, rowI_step HR.out h64, (HBE.out.setCell (Nat.le_refl _) _).drew⟩
        case measure => simp [intOf]; omega
      · have h2 := hrow.cell (i := k - 2) (by omega)
        have h7 := hrow.cell (i := k - 7) (by omega)
        have h15 := hrow.cell (i := k - 15) (by omega)
        have h16' := hrow.cell (i := k - 16) (by omega)
        rw [if_pos (by omega)] at h2 h7 h15 h16'
        have hc := hrow.cell h64
        have hf := hrow.frozen k
        have l2 := wv_lt bs (k - 2)
        have l7 := wv_lt bs (k - 7)
        have l15 := wv_lt bs (k - 15)
        have l16 := wv_lt bs (k - 16)
        have hw := wv_hi bs k (by omega) h64
        generalize wv bs (k - 2) = y at h2 l2 hw
        generalize wv bs (k - 7) = y7 at h7 l7 hw
        generalize wv bs (k - 15) = x at h15 l15 hw
        generalize wv bs (k - 16) = x16 at h16' l16 hw
        have r1 := ror_lt y 17 l2
        have r2 := ror_lt y 19 l2
        have r3 := ror_lt x 7 l15
        have r4 := ror_lt x 18 l15
        have r5 := xo_lt r1 r2
        have r6 := xo_lt r3 r4
        have r7 := sh_lt (n := 10) l2
        have r8 := sh_lt (n := 3) l15
        have r9 := ss1_lt y l2
        have r10 := ss0_lt x l15
        have f1 := i64_xo (ror y 17) (ror y 19) (by omega) (by omega)
        have f2 := u32_r10 y
        have f3 : bits .xor .i64 ((xo (ror y 17) (ror y 19) : Nat) : Int) ((sh y 10 : Nat) : Int) = ((ss1 y : Nat) : Int) := i64_xo _ _ (by omega) (by omega)
        have f5 := i64_xo (ror x 7) (ror x 18) (by omega) (by omega)
        have f6 := u32_r3 x
        have f7 : bits .xor .i64 ((xo (ror x 7) (ror x 18) : Nat) : Int) ((sh x 3 : Nat) : Int) = ((ss0 x : Nat) : Int) := i64_xo _ _ (by omega) (by omega)
        have g1 := i64_pl (ss1 y) y7 (by omega)
        have p1 : pl (ss1 y) y7 < 8589934592 := by unfold pl; omega
        have g2 := i64_pl (pl (ss1 y) y7) (ss0 x) (by omega)
        have p2 : pl (pl (ss1 y) y7) (ss0 x) < 12884901888 := by unfold pl at p1 ⊢; omega
        have g3 := i64_pl (pl (pl (ss1 y) y7) (ss0 x)) x16 (by omega)
        have p3 : pl (pl (pl (ss1 y) y7) (ss0 x)) x16 < 17179869184 := by unfold pl at p2 ⊢; omega
        have g4 := i64_low (pl (pl (pl (ss1 y) y7) (ss0 x)) x16) (by omega)
        rw [show pl (pl (pl (ss1 y) y7) (ss0 x)) x16 % 4294967296 = wv bs k from hw.symm] at g4
        have HR := Lib.hid hrow
        have HBE := Lib.hid hbel
        have G1 := Lib.hid g1
        have G2 := Lib.hid g2
        have G3 := Lib.hid g3
        have G4 := Lib.hid g4
        clear hrow hbel hw p1 p2 p3 r3 r4 r5 r6 r7 r8 r9 r10 r1 r2 g1 g2 g3 g4
        go_wp2_with (go_at_call 95; refine (rror_any _ _ (by assumption) (by omega) (by omega) _).mono ?_; rintro e w' ⟨he, rfl⟩; simp only [Int.reduceToNat] at he; subst he)
        have g1 := G1.out
        have g2 := G2.out
        have g3 := G3.out
        have g4 := G4.out
        replace h7 := cell_drewN h7 4
        replace h16' := cell_drewN h16' 4
        replace hc := cell_drewN hc 4
        replace hf := frozen_drewN hf 4
        replace HR := Lib.hid (rowIs_drewN HR.out 4)
        replace HBE := Lib.hid (below_drewN HBE.out 4)
        clear h2 h15 f1 f2 f3 f5 f6 f7 G1 G2 G3 G4
        change Code.wp _ _ _ _ (wr.drewN 4)
        generalize wr.drewN 4 = wq at h7 h16' hc hf HR HBE ⊢
        have w7 : IntKind.i64.wrap ((k : Int) - 7) = (k : Int) - 7 := IntWalk.i64_in _ (by omega)
        have w16 : IntKind.i64.wrap ((k : Int) - 16) = (k : Int) - 16 := IntWalk.i64_in _ (by omega)
        have q7 : 7 ≤ (k : Int) := by omega
        have q16 : 16 ≤ (k : Int) := by omega
        have n7 : 0 ≤ (k : Int) - 7 := by omega
        have n16 : 0 ≤ (k : Int) - 16 := by omega
        have m7 : (k : Int) - 7 < 64 := by omega
        have m16 : (k : Int) - 16 < 64 := by omega
        have t7 : ((k : Int) - 7).toNat = k - 7 := by omega
        have t16 : ((k : Int) - 16).toNat = k - 16 := by omega
        go_still_tail 16, (by kernel_rfl)
        clear w7 w16 q7 q16 n7 n16 m7 m16 t7 t16 g1 g2 g3 g4 h7 h16'
        change wpList _ _ _ _ _ wq.drew
        go_wp2
        go_roundw
        case rel => exact ⟨k + 1, by omega, by go_num, rowI_step HR.out h64, (HBE.out.setCell (Nat.le_refl _) _).drew⟩
        case measure => simp [intOf]; omega
    · have HK := Lib.hid (show k = 64 by omega)
      have hrow' : wr.rowIs B2 137 64 (fun j => .int .i64 ((wv bs j : Nat) : Int)) := hrow.congr fun j hj => by rw [if_pos (by have := HK.out; omega)]
      have hh : wr.heap[B]? = some (.cells (agg8 st) 130 (0, 0)) := blk_below H0.out hbel (by rw [HB2.out]; omega)
      have HR := Lib.hid hrow'
      have HBE := Lib.hid hbel
      have HH := Lib.hid hh
      have hz8 := zero_8
      have hdk : decide ((k : Int) < 64) = false := by simp; omega
      clear hrow hrow' hbel hh
      go_wp2_with fail
      refine (rounds_any _).mono ?_
      rintro e w1 ⟨rfl, hb1⟩
      have hbe1 : Below B2 w0 w1 := HBE.out.trans (hb1.mono (by have := HBE.out.size; have := HSZ.out; have := HB2.out; omega))
      have hr1 : w1.rowIs B2 137 64 (fun j => .int .i64 ((wv bs j : Nat) : Int)) := HR.out.of_block (hb1.block _ HR.out.lt)
      have hh1 : w1.heap[B]? = some (.cells (agg8 st) 130 (0, 0)) := blk_below HH.out hb1 (blk_lt HH.out)
      have HR1 := Lib.hid hr1
      have HB1 := Lib.hid hbe1
      have HH1 := Lib.hid hh1
      clear hb1 hbe1 hr1 hh1 HR HBE HH
      go_wp2_with (first
        | (refine wpList_store_row rfl 137 (.tmp 11) (.tmp 100) rfl w1.heap.size kI rfl rfl 137 _ (heap_alloc_new w1 _) (by rw [kI_size]; exact info_64) (by rw [kI_size]; exact zI_size) kI_one ?_
           rw [setRow_alloc])
        | (refine wpList_load_row rfl 130 (.tmp 2) rfl B rfl 130 (agg8 st) (0, 0) _ (blk_alloc HH1.out) und_8 rfl (by rw [agg8_size HL.out]; exact info_8) ?_)
        | (refine wpList_store_row rfl 130 (.tmp 12) (.tmp 101) rfl (w1.heap.size + 1) (agg8 st) rfl rfl 130 z8 (heap_alloc_at (w1.alloc _) _ _ (by simp)) (by rw [agg8_size HL.out]; exact info_8) (by rw [agg8_size HL.out]; rfl) (agg8_one st) ?_
           rw [setRow_alloc' _ _ _ _ _ (by simp)]))
      obtain ⟨B3, hB3⟩ : ∃ B3, B3 = w1.heap.size := ⟨_, rfl⟩
      have hBlt : B2 < B3 := by rw [hB3]; exact HR1.out.lt
      have hr3 : ((w1.alloc (.cells kI 137)).alloc (.cells (agg8 st) 130)).rowIs B3 137 64 (fun j => .int .i64 ((Ks.getD j 0 : Nat) : Int)) :=
        World.rowIs.alloc ⟨kI, by rw [hB3]; exact heap_alloc_new w1 _, rfl, kI_get⟩ _
      obtain ⟨B4, hB4⟩ : ∃ B4, B4 = B3 + 1 := ⟨_, rfl⟩
      have hr4 : ((w1.alloc (.cells kI 137)).alloc (.cells (agg8 st) 130)).heap[B4]? = some (.cells (agg8 (rounds (schl bs 48) st 0)) 130 (0, 0)) :=
        heap_alloc_at _ _ _ (by rw [hB4, hB3]; simp)
      have hB34 : B3 < B4 := by omega
      have hr2 : ((w1.alloc (.cells kI 137)).alloc (.cells (agg8 st) 130)).rowIs B2 137 64 (fun j => .int .i64 ((wv bs j : Nat) : Int)) := (HR1.out.alloc _).alloc _
      have hb3 : Below B2 w0 ((w1.alloc (.cells kI 137)).alloc (.cells (agg8 st) 130)) := (HB1.out.alloc (by omega) _).alloc (by simp; omega) _
      rw [← hB3, ← hB4]
      generalize (w1.alloc (.cells kI 137)).alloc (.cells (agg8 st) 130) = w3 at hr3 hr4 hr2 hb3 ⊢
      have HR3 := Lib.hid hr3
      have HR4 := Lib.hid hr4
      have HR2 := Lib.hid hr2
      have HB3 := Lib.hid hb3
      clear hr3 hr4 hr2 hb3 hB3 hB4 hz8 hz64 HR1 HB1 HH1
      go_loopw [13] (fun v wr => ∃ m : Nat, m ≤ 64 ∧ v = .int .i64 m ∧ wr.rowIs B2 137 64 (fun j => .int .i64 ((wv bs j : Nat) : Int)) ∧ wr.rowIs B3 137 64 (fun j => .int .i64 ((Ks.getD j 0 : Nat) : Int)) ∧ wr.heap[B4]? = some (.cells (agg8 (rounds (schl bs 48) st m)) 130 (0, 0)) ∧ Below B2 w0 wr) (fun v _ => 64 - (intOf v).toNat)
      case atStart => exact ⟨0, by omega, rfl, HR2.out, HR3.out, HR4.out, HB3.out⟩
      case round =>
        clear HR2 HR3 HR4 HB3
        obtain ⟨m, hm, rfl, hrow, hrowk, hrow2, hbel⟩ := hrel
        by_cases hlt : m < 64
        · have hs := rounds_St (schl bs 48) hst m
          obtain ⟨a, b, c, d, e, f, g, i, hrr, la, lb, lc, ld, le, lf, lg, li⟩ := hs.open_
          rw [hrr] at hrow2
          have c0 : wr.cell? ⟨B4, 0, none⟩ = some (.int .i64 (a : Int)) := cell_of_row wr B4 0 _ _ _ hrow2
          have c1 : wr.cell? ⟨B4, 1, none⟩ = some (.int .i64 (b : Int)) := cell_of_row wr B4 1 _ _ _ hrow2
          have c2 : wr.cell? ⟨B4, 2, none⟩ = some (.int .i64 (c : Int)) := cell_of_row wr B4 2 _ _ _ hrow2
          have c3 : wr.cell? ⟨B4, 3, none⟩ = some (.int .i64 (d : Int)) := cell_of_row wr B4 3 _ _ _ hrow2
          have c4 : wr.cell? ⟨B4, 4, none⟩ = some (.int .i64 (e : Int)) := cell_of_row wr B4 4 _ _ _ hrow2
          have c5 : wr.cell? ⟨B4, 5, none⟩ = some (.int .i64 (f : Int)) := cell_of_row wr B4 5 _ _ _ hrow2
          have c6 : wr.cell? ⟨B4, 6, none⟩ = some (.int .i64 (g : Int)) := cell_of_row wr B4 6 _ _ _ hrow2
          have c7 : wr.cell? ⟨B4, 7, none⟩ = some (.int .i64 (i : Int)) := cell_of_row wr B4 7 _ _ _ hrow2
          have cw := hrow.cell hlt
          have ck := hrowk.cell hlt
          have lk := Ks_lt m
          have lw := wv_lt bs m
          have hrn : rounds (schl bs 48) st (m + 1) = [ad (rx e f g i (Ks.getD m 0) (wv bs m)) (ry a b c), a, b, c, ad d (rx e f g i (Ks.getD m 0) (wv bs m)), e, f, g] := by
            show rnd (Ks.getD m 0) ((schl bs 48).getD m 0) (rounds (schl bs 48) st m) = _
            rw [hrr]; rfl
          generalize Ks.getD m 0 = kk at ck lk hrn
          generalize wv bs m = ww at cw lw hrn
          have r1 := ror_lt e 6 le
          have r2 := ror_lt e 11 le
          have r3 := ror_lt e 25 le
          have r4 := xo_lt r1 r2
          have b1 := bs1_lt e le
          have b2 := chs_lt e f g le
          have i1 := inv_lt le
          have n1 := an_lt (b := f) le
          have n2 := an_lt (b := g) i1
          have f1 := i64_xo (ror e 6) (ror e 11) (by omega) (by omega)
          have f2 : bits .xor .i64 ((xo (ror e 6) (ror e 11) : Nat) : Int) ((ror e 25 : Nat) : Int) = ((bs1 e : Nat) : Int) := i64_xo _ _ (by omega) (by omega)
          have f4 := i64_an e f (by omega) (by omega)
          have f5 := i64_inv e le
          have f6 := i64_an (inv e) g (by omega) (by omega)
          have f7 : bits .xor .i64 ((an e f : Nat) : Int) ((an (inv e) g : Nat) : Int) = ((chs e f g : Nat) : Int) := i64_xo _ _ (by omega) (by omega)
          have g1 := i64_pl i (bs1 e) (by omega)
          have p1 : pl i (bs1 e) < 8589934592 := by unfold pl; omega
          have g2 := i64_pl (pl i (bs1 e)) (chs e f g) (by omega)
          have p2 : pl (pl i (bs1 e)) (chs e f g) < 12884901888 := by unfold pl at p1 ⊢; omega
          have g3 := i64_pl (pl (pl i (bs1 e)) (chs e f g)) kk (by omega)
          have p3 : pl (pl (pl i (bs1 e)) (chs e f g)) kk < 17179869184 := by unfold pl at p2 ⊢; omega
          have g4 := i64_pl (pl (pl (pl i (bs1 e)) (chs e f g)) kk) ww (by omega)
          have p4 : pl (pl (pl (pl i (bs1 e)) (chs e f g)) kk) ww < 21474836480 := by unfold pl at p3 ⊢; omega
          have g5 := i64_low (pl (pl (pl (pl i (bs1 e)) (chs e f g)) kk) ww) (by omega)
          rw [rx_pl] at g5
          have hx := rx_lt e f g i kk ww
          have hy := ry_lt a b c
          have s1 := ror_lt a 2 la
          have s2 := ror_lt a 13 la
          have s3 := ror_lt a 22 la
          have s4 := xo_lt s1 s2
          have b3 := bs0_lt a la
          have b4 := maj_lt a b c la lb
          have n3 := an_lt (b := b) la
          have n4 := an_lt (b := c) la
          have n5 := an_lt (b := c) lb
          have s5 := xo_lt n3 n4
          have k1 := i64_xo (ror a 2) (ror a 13) (by omega) (by omega)
          have k2 : bits .xor .i64 ((xo (ror a 2) (ror a 13) : Nat) : Int) ((ror a 22 : Nat) : Int) = ((bs0 a : Nat) : Int) := i64_xo _ _ (by omega) (by omega)
          have k3 := i64_an a b (by omega) (by omega)
          have k4 := i64_an a c (by omega) (by omega)
          have k5 := i64_xo (an a b) (an a c) (by omega) (by omega)
          have k6 := i64_an b c (by omega) (by omega)
          have k7 : bits .xor .i64 ((xo (an a b) (an a c) : Nat) : Int) ((an b c : Nat) : Int) = ((maj a b c : Nat) : Int) := i64_xo _ _ (by omega) (by omega)
          have k8 : bits .and .i64 (((bs0 a : Nat) : Int) + ((maj a b c : Nat) : Int)) 4294967295 = ((ry a b c : Nat) : Int) := i64_low2 (bs0 a) (maj a b c) b3 b4
          have k9 := i64_low2 (rx e f g i kk ww) (ry a b c) hx hy
          have k10 := i64_low2 d (rx e f g i kk ww) ld hx
          generalize ad (rx e f g i kk ww) (ry a b c) = x0 at k9 hrn
          generalize ad d (rx e f g i kk ww) = x4 at k10 hrn
          generalize hxg : rx e f g i kk ww = xx at k9 k10 hx g5
          generalize hyg : ry a b c = yy at k8 k9 hy
          clear hxg hyg
          have K1 := Lib.hid k1
          clear k1
          have K2 := Lib.hid k2
          clear k2
          have K3 := Lib.hid k3
          clear k3
          have K4 := Lib.hid k4
          clear k4
          have K5 := Lib.hid k5
          clear k5
          have K6 := Lib.hid k6
          clear k6
          have K7 := Lib.hid k7
          clear k7
          have K8 := Lib.hid k8
          clear k8
          have K9 := Lib.hid k9
          clear k9
          have K10 := Lib.hid k10
          clear k10
          have HRN := Lib.hid hrn
          have HR := Lib.hid hrow
          have HRK := Lib.hid hrowk
          have HR2 := Lib.hid hrow2
          have HB := Lib.hid hbel
          have G1 := Lib.hid g1
          have G2 := Lib.hid g2
          have G3 := Lib.hid g3
          have G4 := Lib.hid g4
          have G5 := Lib.hid g5
          clear hrn hrow hrowk hrow2 hbel hrr hs lk lw r1 r2 r3 r4 b1 b2 i1 n1 n2 p1 p2 p3 p4 s1 s2 s3 s4 n3 n4 n5 s5 g1 g2 g3 g4 g5
          go_wp2_with (go_at_call 95; refine (rror_any _ _ (by assumption) (by omega) (by omega) _).mono ?_; rintro e w' ⟨he, rfl⟩; simp only [Int.reduceToNat] at he; subst he)
          have g1 := G1.out
          have g2 := G2.out
          have g3 := G3.out
          have g4 := G4.out
          have g5 := G5.out
          replace c0 := cell_drewN c0 3
          replace c1 := cell_drewN c1 3
          replace c2 := cell_drewN c2 3
          replace c3 := cell_drewN c3 3
          replace c4 := cell_drewN c4 3
          replace c5 := cell_drewN c5 3
          replace c6 := cell_drewN c6 3
          replace c7 := cell_drewN c7 3
          replace ck := cell_drewN ck 3
          replace cw := cell_drewN cw 3
          replace HR := Lib.hid (rowIs_drewN HR.out 3)
          replace HRK := Lib.hid (rowIs_drewN HRK.out 3)
          replace HR2 := Lib.hid (blk_drewN HR2.out 3)
          replace HB := Lib.hid (below_drewN HB.out 3)
          clear f1 f2 f4 f5 f6 f7 G1 G2 G3 G4 G5
          change Code.wp _ _ _ _ (wr.drewN 3)
          generalize wr.drewN 3 = wq at *
          refine wp_region_still_lit (by kernel_rfl) (by kernel_rfl) ?_
          repeat (refine wpStill_step (fun K hK => ?_); go_simp; refine hK _ ?_; clear hK K)
          refine wpStill_nil ?_
          clear g1 g2 g3 g4 g5
          change Exit.then _ _ _ _ wq.drew
          replace c0 := cell_drew c0
          replace c1 := cell_drew c1
          replace c2 := cell_drew c2
          replace c3 := cell_drew c3
          replace c4 := cell_drew c4
          replace c5 := cell_drew c5
          replace c6 := cell_drew c6
          replace c7 := cell_drew c7
          replace ck := cell_drew ck
          replace cw := cell_drew cw
          replace HR := Lib.hid (rowIs_drew HR.out)
          replace HRK := Lib.hid (rowIs_drew HRK.out)
          replace HR2 := Lib.hid (blk_drew HR2.out)
          replace HB := Lib.hid (below_drew HB.out)
          generalize wq.drew = ws at *
          have k1 := K1.out
          have k2 := K2.out
          go_upto_region 23 with (go_at_call 95; refine (rror_any _ _ (by assumption) (by omega) (by omega) _).mono ?_; rintro e w' ⟨he, rfl⟩; simp only [Int.reduceToNat] at he; subst he)
          clear k1 k2
          have k3 := K3.out
          have k4 := K4.out
          have k5 := K5.out
          have k6 := K6.out
          have k7 := K7.out
          go_upto_region 24 with fail
          clear k3 k4 k5 k6 k7
          have k8 := K8.out
          go_upto_region 25 with fail
          clear k8
          have k9 := K9.out
          have k10 := K10.out
          go_upto_region 16 with (first
            | (with_reducible refine wpList_build_as (o := ⟨some 189, _, _, _, _, _⟩) rfl 130 _ rfl (agg8 [x0, a, b, c, x4, e, f, g]) (by kernel_rfl) ?_)
            | ((with_reducible refine wpList_store_row (o := ⟨none, _, _, _, _, _⟩) rfl 130 (.tmp 12) (.tmp 189) rfl B4 (agg8 [x0, a, b, c, x4, e, f, g]) ?_ ?_ 130 (agg8 [a, b, c, d, e, f, g, i]) ?_ ?_ ?_ ?_ ?_); rfl; rfl; exact blk_drewN HR2.out 3; (rw [agg8_size rfl]; exact info_8); (rw [agg8_size rfl, agg8_size rfl]); exact agg8_one _))
          clear k9 k10
          go_wp2_with fail
          go_roundw
          case rel =>
            refine ⟨m + 1, by omega, by go_num, ?_, ?_, ?_, ?_⟩
            · exact (rowIs_drewN HR.out 3).of_block (setRow_other _ _ _ _ (by omega))
            · exact (rowIs_drewN HRK.out 3).of_block (setRow_other _ _ _ _ (by omega))
            · rw [HRN.out]; exact blk_row (blk_drewN HR2.out 3) _
            · exact below_setRow (below_drewN HB.out 3) (by omega) _
          case measure => simp [intOf]; omega
        · have HM := Lib.hid (show m = 64 by omega)
          have hdm : decide ((m : Int) < 64) = false := by simp; omega
          have hs := rounds_St (schl bs 48) hst m
          generalize hV : rounds (schl bs 48) st m = V at hs hrow2
          have HV := Lib.hid hV
          have HVS := Lib.hid hs
          have hB2l : B + 1 < B2 := by have := HB2.out; omega
          have HBB := Lib.hid (blk_below H0.out hbel (by omega))
          have HB1 := Lib.hid (blk_below H1.out hbel (by omega))
          have HBW2 := Lib.hid (HBW.out.trans (hbel.mono (by omega)))
          have HR2 := Lib.hid hrow2
          clear hV hs hrow hrowk hrow2 hbel
          go_wp2_with fail
          obtain ⟨w5, rfl⟩ : ∃ w5 : World, w5 = wr := ⟨_, rfl⟩
          go_loopw [22] (fun v wr => ∃ j : Nat, j ≤ 8 ∧ v = .int .i64 j ∧ wr.heap[B]? = some (.cells (agg8 (upd8 st V j)) 130 (0, 0)) ∧ wr.heap[B4]? = some (.cells (agg8 V) 130 (0, 0)) ∧ wr.heap[B + 1]? = some (.cells z8 130 (0, 0)) ∧ Below B w wr) (fun v _ => 8 - (intOf v).toNat)
          case atStart => exact ⟨0, by omega, rfl, by rw [upd8_zero]; exact HBB.out, HR2.out, HB1.out, HBW2.out⟩
          case round =>
            clear HBB HB1 HBW2 HR2
            obtain ⟨j, hj, rfl, hb0, hb4, hb1, hbel⟩ := hrel
            have hvl := HVS.out.1
            by_cases h8 : j < 8
            · have hpl : (upd8 st V j).length = 8 := upd8_length HL.out hvl hj
              have c1 : wr.cell? ⟨B, j, none⟩ = some (.int .i64 ((st.getD j 0 : Nat) : Int)) := by
                rw [cell_of_row wr B j _ _ _ hb0, agg8_get hpl h8, upd8_get HL.out hvl h8]
              have c2 : wr.cell? ⟨B4, j, none⟩ = some (.int .i64 ((V.getD j 0 : Nat) : Int)) := by
                rw [cell_of_row wr B4 j _ _ _ hb4, agg8_get hvl h8]
              have z1 : wr.frozen? ⟨B, j, none⟩ = false := frozen_of_row wr B j _ _ hb0
              have l1 := hst.get_lt j
              have l2 := HVS.out.get_lt j
              have k1 := i64_pl (st.getD j 0) (V.getD j 0) (by omega)
              have k2 := i64_low3 (st.getD j 0) (V.getD j 0) (by omega)
              have HP : Hid ((agg8 (upd8 st V j)).setIfInBounds j (.int .i64 ((ad (st.getD j 0) (V.getD j 0) : Nat) : Int)) = agg8 (upd8 st V (j + 1))) := by
                show _ = _
                rw [agg8_set, upd8_step HL.out hvl h8]
              generalize ad (st.getD j 0) (V.getD j 0) = x at k2 HP
              generalize st.getD j 0 = sj at c1 k1 k2 l1
              generalize V.getD j 0 = vj at c2 k1 k2 l2
              have HB0 := Lib.hid hb0
              have HB4 := Lib.hid hb4
              have HB1 := Lib.hid hb1
              have HBE := Lib.hid hbel
              clear hb0 hb4 hb1 hbel hpl hvl
              go_wp2_with fail
              go_still_tail 10, (by kernel_rfl)
              clear k1 k2
              change wpList _ _ _ _ _ wr.drew
              go_wp2
              go_roundw
              case rel =>
                refine ⟨j + 1, by omega, by go_num, ?_, ?_, ?_, ?_⟩
                · rw [← HP.out]; exact blk_set HB0.out _ _
                · exact blk_far HB4.out (by show B4 ≠ B; omega) _
                · exact blk_far HB1.out (by show B + 1 ≠ B; omega) _
                · exact below_drew (HBE.out.setCell (Nat.le_refl _) _)
              case measure => simp [intOf]; omega
            · have hj8 : j = 8 := by omega
              have hfin : upd8 st V j = blockN st s.data.toList := by
                rw [hj8, upd8_all HL.out hvl, ← HV.out, HM.out, HBS.out]
                rfl
              have hsz2 : (agg8 (upd8 st V j)).size = 8 := agg8_size (upd8_length HL.out hvl hj)
              have HF := Lib.hid hfin
              have HB0 := Lib.hid hb0
              have HB1 := Lib.hid hb1
              have HBE := Lib.hid hbel
              have HSZ2 := Lib.hid hsz2
              clear hb0 hb4 hb1 hbel hvl hj8 hfin hsz2
              generalize upd8 st V j = fin at HF HB0 HSZ2
              go_wp2_with (first
                | ((with_reducible refine wpList_load_row (o := ⟨some 204, _, _, _, _, _⟩) rfl 130 (.tmp 2) rfl B ?_ 130 (agg8 fin) (0, 0) _ ?_ und_8 ?_ ?_ ?_); rfl; exact HB0.out; rfl; (rw [HSZ2.out]; exact info_8))
                | ((with_reducible refine wpList_store_row (o := ⟨none, _, _, _, _, _⟩) rfl 130 (.tmp 4) (.tmp 204) rfl (B + 1) (agg8 fin) ?_ ?_ 130 z8 ?_ ?_ ?_ ?_ ?_); rfl; rfl; exact HB1.out; (rw [HSZ2.out]; exact info_8); (rw [HSZ2.out]; rfl); exact agg8_one _))
              rw [← HF.out]
              refine bodyPost_ret (v := .agg (agg8 fin)) ?_ rfl ⟨rfl, ?_⟩
              · exact results_cell_row rfl _ _ (B + 1) 130 (agg8 fin) (0, 0) _ rfl (blk_row HB1.out _) und_8 rfl (by rw [HSZ2.out]; exact info_8)
              · rw [← HBQ.out]
                exact below_setRow HBE.out (by omega) _
end Go.Proofs.YtafookdllnhdaaaDoor
