/- The digest's block function: walked. -/
import Derived.Test.YtafookdllnhdaaaDoorMa4
import Derived.Deep.QuietTactic
import Derived.BigQuiet
import Derived.StillTailTactics
import Derived.Deep.OwnRows
import Derived.Deep.DeepCutAuto
namespace Go.Proofs.YtafookdllnhdaaaDoor
open Go.RowKit Go.Scr
set_option linter.unusedVariables false

theorem zeros64 (i : Nat) (hi : i < 64) : (#[Value.int .u32 0, Value.int .u32 0, Value.int .u32 0, Value.int .u32 0, Value.int .u32 0, Value.int .u32 0, Value.int .u32 0, Value.int .u32 0, Value.int .u32 0, Value.int .u32 0, Value.int .u32 0, Value.int .u32 0, Value.int .u32 0, Value.int .u32 0, Value.int .u32 0, Value.int .u32 0, Value.int .u32 0, Value.int .u32 0, Value.int .u32 0, Value.int .u32 0, Value.int .u32 0, Value.int .u32 0, Value.int .u32 0, Value.int .u32 0, Value.int .u32 0, Value.int .u32 0, Value.int .u32 0, Value.int .u32 0, Value.int .u32 0, Value.int .u32 0, Value.int .u32 0, Value.int .u32 0, Value.int .u32 0, Value.int .u32 0, Value.int .u32 0, Value.int .u32 0, Value.int .u32 0, Value.int .u32 0, Value.int .u32 0, Value.int .u32 0, Value.int .u32 0, Value.int .u32 0, Value.int .u32 0, Value.int .u32 0, Value.int .u32 0, Value.int .u32 0, Value.int .u32 0, Value.int .u32 0, Value.int .u32 0, Value.int .u32 0, Value.int .u32 0, Value.int .u32 0, Value.int .u32 0, Value.int .u32 0, Value.int .u32 0, Value.int .u32 0, Value.int .u32 0, Value.int .u32 0, Value.int .u32 0, Value.int .u32 0, Value.int .u32 0, Value.int .u32 0, Value.int .u32 0, Value.int .u32 0] : Array Value)[i]? = some (.int .u32 ((0 : Nat) : Int)) := by
  have h : (#[Value.int .u32 0, Value.int .u32 0, Value.int .u32 0, Value.int .u32 0, Value.int .u32 0, Value.int .u32 0, Value.int .u32 0, Value.int .u32 0, Value.int .u32 0, Value.int .u32 0, Value.int .u32 0, Value.int .u32 0, Value.int .u32 0, Value.int .u32 0, Value.int .u32 0, Value.int .u32 0, Value.int .u32 0, Value.int .u32 0, Value.int .u32 0, Value.int .u32 0, Value.int .u32 0, Value.int .u32 0, Value.int .u32 0, Value.int .u32 0, Value.int .u32 0, Value.int .u32 0, Value.int .u32 0, Value.int .u32 0, Value.int .u32 0, Value.int .u32 0, Value.int .u32 0, Value.int .u32 0, Value.int .u32 0, Value.int .u32 0, Value.int .u32 0, Value.int .u32 0, Value.int .u32 0, Value.int .u32 0, Value.int .u32 0, Value.int .u32 0, Value.int .u32 0, Value.int .u32 0, Value.int .u32 0, Value.int .u32 0, Value.int .u32 0, Value.int .u32 0, Value.int .u32 0, Value.int .u32 0, Value.int .u32 0, Value.int .u32 0, Value.int .u32 0, Value.int .u32 0, Value.int .u32 0, Value.int .u32 0, Value.int .u32 0, Value.int .u32 0, Value.int .u32 0, Value.int .u32 0, Value.int .u32 0, Value.int .u32 0, Value.int .u32 0, Value.int .u32 0, Value.int .u32 0, Value.int .u32 0] : Array Value) = (List.replicate 64 (Value.int .u32 0)).toArray := rfl
  rw [h, List.getElem?_toArray, List.getElem?_replicate, if_pos hi]
  rfl
theorem row_step {wr : World} {B T k : Nat} {bs : List UInt8} (h : wr.rowIs B T 64 fun j => .int .u32 ((if j < k then wv bs j else 0 : Nat) : Int)) (hk : k < 64) :
    (wr.setCell ⟨B, k, none⟩ (.int .u32 (wv bs k : Nat))).drew.rowIs B T 64 fun j => .int .u32 ((if j < k + 1 then wv bs j else 0 : Nat) : Int) := by
  have h1 := (h.set k (.int .u32 (wv bs k : Nat))).drew
  refine h1.congr fun j hj => ?_
  split
  · rename_i e; subst e; rw [if_pos (by omega)]
  · by_cases hjk : j < k
    · rw [if_pos hjk, if_pos (by omega)]
    · rw [if_neg hjk, if_neg (by omega)]
/-- eight stores into one block -/
def set8 (w : World) (g : Nat) (x0 x1 x2 x3 x4 x5 x6 x7 : Value) : World :=
  (((((((w.setCell ⟨g, 0, none⟩ x0).setCell ⟨g, 1, none⟩ x1).setCell ⟨g, 2, none⟩ x2).setCell ⟨g, 3, none⟩ x3).setCell ⟨g, 4, none⟩ x4).setCell ⟨g, 5, none⟩ x5).setCell ⟨g, 6, none⟩ x6).setCell ⟨g, 7, none⟩ x7
theorem set8_row {w : World} {g T : Nat} {f : Nat → Value} (h : w.rowIs g T 8 f) (x0 x1 x2 x3 x4 x5 x6 x7 : Nat) :
    (set8 w g (.int .u32 x0) (.int .u32 x1) (.int .u32 x2) (.int .u32 x3) (.int .u32 x4) (.int .u32 x5) (.int .u32 x6) (.int .u32 x7)).rowIs g T 8 (fun j => .int .u32 (([x0, x1, x2, x3, x4, x5, x6, x7].getD j 0 : Nat) : Int)) := by
  refine ((((((((h.set 0 _).set 1 _).set 2 _).set 3 _).set 4 _).set 5 _).set 6 _).set 7 _).congr fun j hj => ?_
  match j, hj with
  | 0, _ | 1, _ | 2, _ | 3, _ | 4, _ | 5, _ | 6, _ | 7, _ => rfl
theorem set8_other {w : World} {g B T n : Nat} {f : Nat → Value} (h : w.rowIs B T n f) (hne : B ≠ g) (x0 x1 x2 x3 x4 x5 x6 x7 : Value) : (set8 w g x0 x1 x2 x3 x4 x5 x6 x7).rowIs B T n f :=
  (((((((h.setOther hne _).setOther hne _).setOther hne _).setOther hne _).setOther hne _).setOther hne _).setOther hne _).setOther hne _
theorem set8_below {w0 w : World} {g B : Nat} (h : Below B w0 w) (hB : B ≤ g) (x0 x1 x2 x3 x4 x5 x6 x7 : Value) : Below B w0 (set8 w g x0 x1 x2 x3 x4 x5 x6 x7) :=
  (((((((h.setCell hB _).setCell hB _).setCell hB _).setCell hB _).setCell hB _).setCell hB _).setCell hB _).setCell hB _
set_option maxRecDepth 100000 in
set_option maxHeartbeats 1000000 in
theorem block_any (hb : Nat) (st : List Nat) (bs : List UInt8) (n : Nat) (w : World) (hst : St st) (hlen : bs.length = 64)
    (hblk : w.heap[hb]? = some (.cells (hcells st bs n) 127 (0, 0)))
    (hnum : ∀ j, j < 64 → w.cell? ⟨3, j, none⟩ = some (.int .u32 ((Ks.getD j 0 : Nat) : Int))) :
    Calls Tryd.prog 89 #[.pointer (some ⟨hb, 0, none⟩), .pointer (some ⟨hb, 8, none⟩)] w fun e w' => e = .returned (.tuple #[]) ∧
      w'.heap[hb]? = some (.cells (hcells (blockN st bs) bs n) 127 (0, 0)) ∧ w.grownBy w' (some hb) := by
  have hl := hst.1
  have hbl : hb < w.heap.size := by
    rcases Nat.lt_or_ge hb w.heap.size with h | h
    · exact h
    · rw [Array.getElem?_eq_none h] at hblk; cases hblk
  have hbs : ∀ j, j < 64 → w.cell? ⟨hb, 8 + j, none⟩ = some (.int .u8 (bs.getD j 0).toNat) := fun j hj => (cell_of_row w hb (8 + j) _ _ _ hblk).trans (hcells_rest hl hlen hj)
  have hss : ∀ j, j < 8 → w.cell? ⟨hb, j, none⟩ = some (.int .u32 ((st.getD j 0 : Nat) : Int)) := fun j hj => (cell_of_row w hb j _ _ _ hblk).trans (hcells_st hl hj)
  have HBLK := Lib.hid hblk
  have HL := Lib.hid hl
  have HN := Lib.hid hnum
  have HBS := Lib.hid hbs
  have HSS := Lib.hid hss
  have HLEN := Lib.hid hlen
  clear hblk hl hnum hbs hss hlen
  go_enter Tryd.func89, Tryd.ntmps89
  go_wp2_with fail
  go_loopw [15] (fun v wr => ∃ k : Nat, k ≤ 64 ∧ v = .int .i64 k ∧ wr.rowIs w.heap.size 135 64 (fun j => .int .u32 ((if j < k then wv bs j else 0 : Nat) : Int)) ∧ Below w.heap.size w wr) (fun v _ => 64 - (intOf v).toNat)
  case atStart =>
    exact ⟨0, by omega, rfl, ⟨_, heap_alloc_new w _, rfl, fun i hi => by simp only [Nat.not_lt_zero, if_false]; exact zeros64 i hi⟩, (Below.refl _ _).alloc (Nat.le_refl _) _⟩
  case round =>
    obtain ⟨k, hk, rfl, hrow, hbel⟩ := hrel
    by_cases h64 : k < 64
    · by_cases h16 : k < 16
      · have h0 := (hbel.cell (p := ⟨hb, 8 + 4 * k, none⟩) hbl).trans (HBS.out (4 * k) (by omega))
        have h1 := (hbel.cell (p := ⟨hb, 8 + (4 * k + 1), none⟩) hbl).trans (HBS.out (4 * k + 1) (by omega))
        have h2 := (hbel.cell (p := ⟨hb, 8 + (4 * k + 2), none⟩) hbl).trans (HBS.out (4 * k + 2) (by omega))
        have h3 := (hbel.cell (p := ⟨hb, 8 + (4 * k + 3), none⟩) hbl).trans (HBS.out (4 * k + 3) (by omega))
        have hc := hrow.cell h64
        have hf := hrow.frozen k
        obtain ⟨b0, hb0⟩ : ∃ b0, b0 = (bs.getD (4 * k) 0).toNat := ⟨_, rfl⟩
        obtain ⟨b1, hb1⟩ : ∃ b1, b1 = (bs.getD (4 * k + 1) 0).toNat := ⟨_, rfl⟩
        obtain ⟨b2, hb2⟩ : ∃ b2, b2 = (bs.getD (4 * k + 2) 0).toNat := ⟨_, rfl⟩
        obtain ⟨b3, hb3⟩ : ∃ b3, b3 = (bs.getD (4 * k + 3) 0).toNat := ⟨_, rfl⟩
        rw [← hb0] at h0; rw [← hb1] at h1; rw [← hb2] at h2; rw [← hb3] at h3
        have l0 : b0 < 256 := hb0 ▸ byte_lt _
        have l1 : b1 < 256 := hb1 ▸ byte_lt _
        have l2 : b2 < 256 := hb2 ▸ byte_lt _
        have l3 : b3 < 256 := hb3 ▸ byte_lt _
        have hw : orr (orr (orr (shl b0 24) (shl b1 16)) (shl b2 8)) b3 = wv bs k := by rw [wv_lo bs k h16, hb0, hb1, hb2, hb3]; rfl
        have c0 := shl_lt b0 24 l0 (by omega)
        have c1 := shl_lt b1 16 l1 (by omega)
        have c2 := shl_lt b2 8 l2 (by omega)
        have o1 := u32_orr _ _ c0 c1
        have o2 := u32_orr _ _ (orr_lt c0 c1) c2
        have o3 := u32_orr _ b3 (orr_lt (orr_lt c0 c1) c2) (by omega)
        rw [hw] at o3
        have s0 := u32_s24 b0 l0
        have s1 := u32_s16 b1 l1
        have s2 := u32_s8 b2 l2
        have v0 := u32_small b0 (by omega)
        have v1 := u32_small b1 (by omega)
        have v2 := u32_small b2 (by omega)
        have v3 := u32_small b3 (by omega)
        clear hb0 hb1 hb2 hb3 hw c0 c1 c2
        have HR := Lib.hid hrow
        have HB := Lib.hid hbel
        clear hrow hbel
        go_wp2_with fail
        have w0 : IntKind.i64.wrap (4 * (k : Int)) = 4 * (k : Int) := IntWalk.i64_in _ (by omega)
        have w1 : IntKind.i64.wrap (4 * (k : Int) + 1) = 4 * (k : Int) + 1 := IntWalk.i64_in _ (by omega)
        have w2 : IntKind.i64.wrap (4 * (k : Int) + 2) = 4 * (k : Int) + 2 := IntWalk.i64_in _ (by omega)
        have w3 : IntKind.i64.wrap (4 * (k : Int) + 3) = 4 * (k : Int) + 3 := IntWalk.i64_in _ (by omega)
        have n0 : 0 ≤ 4 * (k : Int) := by omega
        have n1 : 0 ≤ 4 * (k : Int) + 1 := by omega
        have n2 : 0 ≤ 4 * (k : Int) + 2 := by omega
        have n3 : 0 ≤ 4 * (k : Int) + 3 := by omega
        have m0 : 4 * (k : Int) < 64 := by omega
        have m1 : 4 * (k : Int) + 1 < 64 := by omega
        have m2 : 4 * (k : Int) + 2 < 64 := by omega
        have m3 : 4 * (k : Int) + 3 < 64 := by omega
        have t0 : (4 * (k : Int)).toNat = 4 * k := by omega
        have t1 : (4 * (k : Int) + 1).toNat = 4 * k + 1 := by omega
        have t2 : (4 * (k : Int) + 2).toNat = 4 * k + 2 := by omega
        have t3 : (4 * (k : Int) + 3).toNat = 4 * k + 3 := by omega
        go_still_tail 39, (by kernel_rfl)
        clear o1 o2 o3 s0 s1 s2 v0 v1 v2 v3 w0 w1 w2 w3 n0 n1 n2 n3 m0 m1 m2 m3 t0 t1 t2 t3
        change wpList _ _ _ _ _ wr.drew
        go_wp2
        go_roundw
        case rel => exact ⟨k + 1, by omega, by go_num, row_step HR.out h64, (HB.out.setCell (Nat.le_refl _) _).drew⟩
        case measure => simp [intOf]; omega
      · have h2 := hrow.cell (i := k - 2) (by omega)
        have h7 := hrow.cell (i := k - 7) (by omega)
        have h15 := hrow.cell (i := k - 15) (by omega)
        have h16' := hrow.cell (i := k - 16) (by omega)
        rw [if_pos (by omega)] at h2 h7 h15 h16'
        have hc := hrow.cell h64
        have hf := hrow.frozen k
        have l2 := wv_lt bs (k - 2)
        have l7 := wv_lt bs (k - 7)
        have l15 := wv_lt bs (k - 15)
        have l16 := wv_lt bs (k - 16)
        have hw := wv_step bs k (by omega) h64
        generalize wv bs (k - 2) = y at h2 l2 hw
        generalize wv bs (k - 7) = y7 at h7 l7 hw
        generalize wv bs (k - 15) = x at h15 l15 hw
        generalize wv bs (k - 16) = x16 at h16' l16 hw
        have f1 := u32_xo _ _ (ror_lt y 17 l2) (ror_lt y 19 l2)
        have f2 := u32_r10 y
        have f3 : bits .xor .u32 ((xo (ror y 17) (ror y 19) : Nat) : Int) ((sh y 10 : Nat) : Int) = ((ss1 y : Nat) : Int) := u32_xo _ _ (xo_lt (ror_lt y 17 l2) (ror_lt y 19 l2)) (sh_lt l2)
        have f4 := u32_ad (ss1 y) y7
        have f5 := u32_xo _ _ (ror_lt x 7 l15) (ror_lt x 18 l15)
        have f6 := u32_r3 x
        have f7 : bits .xor .u32 ((xo (ror x 7) (ror x 18) : Nat) : Int) ((sh x 3 : Nat) : Int) = ((ss0 x : Nat) : Int) := u32_xo _ _ (xo_lt (ror_lt x 7 l15) (ror_lt x 18 l15)) (sh_lt l15)
        have f8 := u32_ad (ad (ss1 y) y7) (ss0 x)
        have f9 := u32_ad (ad (ad (ss1 y) y7) (ss0 x)) x16
        rw [← hw] at f9
        have HR := Lib.hid hrow
        have HB := Lib.hid hbel
        clear hrow hbel hw
        go_wp2_with fail
        have w2 : IntKind.i64.wrap ((k : Int) - 2) = (k : Int) - 2 := IntWalk.i64_in _ (by omega)
        have w7 : IntKind.i64.wrap ((k : Int) - 7) = (k : Int) - 7 := IntWalk.i64_in _ (by omega)
        have w15 : IntKind.i64.wrap ((k : Int) - 15) = (k : Int) - 15 := IntWalk.i64_in _ (by omega)
        have w16 : IntKind.i64.wrap ((k : Int) - 16) = (k : Int) - 16 := IntWalk.i64_in _ (by omega)
        have q2 : 2 ≤ (k : Int) := by omega
        have q7 : 7 ≤ (k : Int) := by omega
        have q15 : 15 ≤ (k : Int) := by omega
        have q16 : 16 ≤ (k : Int) := by omega
        have n2 : 0 ≤ (k : Int) - 2 := by omega
        have n7 : 0 ≤ (k : Int) - 7 := by omega
        have n15 : 0 ≤ (k : Int) - 15 := by omega
        have n16 : 0 ≤ (k : Int) - 16 := by omega
        have m2 : (k : Int) - 2 < 64 := by omega
        have m7 : (k : Int) - 7 < 64 := by omega
        have m15 : (k : Int) - 15 < 64 := by omega
        have m16 : (k : Int) - 16 < 64 := by omega
        have t2 : ((k : Int) - 2).toNat = k - 2 := by omega
        have t7 : ((k : Int) - 7).toNat = k - 7 := by omega
        have t15 : ((k : Int) - 15).toNat = k - 15 := by omega
        have t16 : ((k : Int) - 16).toNat = k - 16 := by omega
        go_quiet (fail)
        go_wp2_with fail
        obtain ⟨wq, hq⟩ : ∃ wq, wq = wr.drewN nq := ⟨_, rfl⟩
        rw [← hq]
        have g2 := cell_drewN h2 nq
        have g7 := cell_drewN h7 nq
        have g15 := cell_drewN h15 nq
        have g16 := cell_drewN h16' nq
        have gc := cell_drewN hc nq
        have gf := frozen_drewN hf nq
        have HR2 := Lib.hid (rowIs_drewN HR.out nq)
        have HB2 := Lib.hid (below_drewN HB.out nq)
        rw [← hq] at g2 g7 g15 g16 gc gf HR2 HB2
        clear h2 h7 h15 h16' hc hf HR HB hq
        refine wp_region_still_tail 29 (by kernel_rfl) (by kernel_rfl) ?_
        simp only [List.take_succ_cons, List.take_zero, List.drop_succ_cons, List.drop_zero]
        repeat (refine wpStill_step (fun K hK => ?_); go_simp; first | (refine hK _ ?_; clear hK K) | (refine ⟨_, turned_any _ _ (by assumption) (by omega) (by omega) _, hK _ ?_⟩; clear hK K; simp only [Int.reduceToNat]))
        try refine wpStill_nil ?_
        clear f1 f2 f3 f4 f5 f6 f7 f8 f9 w2 w7 w15 w16 n2 n7 n15 n16 q2 q7 q15 q16 m2 m7 m15 m16 t2 t7 t15 t16
        change wpList _ _ _ _ _ wq.drew
        go_wp2
        go_roundw
        case rel => exact ⟨k + 1, by omega, by go_num, row_step HR2.out h64, (HB2.out.setCell (Nat.le_refl _) _).drew⟩
        case measure => simp [intOf]; omega
    · have HK := Lib.hid (show k = 64 by omega)
      have hs := HSS.out
      have s0 := (hbel.cell (p := ⟨hb, 0, none⟩) hbl).trans (hs 0 (by omega))
      have s1 := (hbel.cell (p := ⟨hb, 1, none⟩) hbl).trans (hs 1 (by omega))
      have s2 := (hbel.cell (p := ⟨hb, 2, none⟩) hbl).trans (hs 2 (by omega))
      have s3 := (hbel.cell (p := ⟨hb, 3, none⟩) hbl).trans (hs 3 (by omega))
      have s4 := (hbel.cell (p := ⟨hb, 4, none⟩) hbl).trans (hs 4 (by omega))
      have s5 := (hbel.cell (p := ⟨hb, 5, none⟩) hbl).trans (hs 5 (by omega))
      have s6 := (hbel.cell (p := ⟨hb, 6, none⟩) hbl).trans (hs 6 (by omega))
      have s7 := (hbel.cell (p := ⟨hb, 7, none⟩) hbl).trans (hs 7 (by omega))
      have HR := Lib.hid hrow
      have HB := Lib.hid hbel
      clear hs hrow hbel
      have hBB := HR.out.lt
      go_wp2_with fail
      obtain ⟨wo, rfl⟩ : ∃ wo : World, wo = wr := ⟨_, rfl⟩
      go_loopw [100] (fun v wr => ∃ m : Nat, m ≤ 64 ∧ v = .int .i64 m ∧ wr.rowIs w.heap.size 135 64 (fun j => .int .u32 ((wv bs j : Nat) : Int)) ∧ wr.rowIs wo.heap.size 125 8 (fun j => .int .u32 (((rounds (schl bs 48) st m).getD j 0 : Nat) : Int)) ∧ Below w.heap.size w wr) (fun v _ => 64 - (intOf v).toNat)
      case atStart =>
        have hr : wo.rowIs w.heap.size 135 64 (fun j => .int .u32 ((wv bs j : Nat) : Int)) := HR.out.congr fun j hj => by rw [if_pos (by have := HK.out; omega)]
        refine ⟨0, by omega, rfl, hr.alloc _, ⟨_, heap_alloc_new wo _, rfl, ?_⟩, HB.out.alloc (by omega) _⟩
        intro j hj
        obtain ⟨_, _, _, _, _, _, _, _, rfl, _⟩ := hst.open_
        match j, hj with
        | 0, _ | 1, _ | 2, _ | 3, _ | 4, _ | 5, _ | 6, _ | 7, _ => rfl
      case round =>
        clear HR HB s0 s1 s2 s3 s4 s5 s6 s7
        obtain ⟨m, hm, rfl, hrow, hrow2, hbel⟩ := hrel
        by_cases hlt : m < 64
        · have hs := rounds_St (schl bs 48) hst m
          obtain ⟨a, b, c, d, e, f, g, i, hrr, la, lb, lc, ld, le, lf, lg, li⟩ := hs.open_
          rw [hrr] at hrow2
          have c0 := hrow2.cell (i := 0) (by omega)
          have c1 := hrow2.cell (i := 1) (by omega)
          have c2 := hrow2.cell (i := 2) (by omega)
          have c3 := hrow2.cell (i := 3) (by omega)
          have c4 := hrow2.cell (i := 4) (by omega)
          have c5 := hrow2.cell (i := 5) (by omega)
          have c6 := hrow2.cell (i := 6) (by omega)
          have c7 := hrow2.cell (i := 7) (by omega)
          simp only [List.getD_cons_zero, List.getD_cons_succ] at c0 c1 c2 c3 c4 c5 c6 c7
          have z0 := hrow2.frozen 0
          have z1 := hrow2.frozen 1
          have z2 := hrow2.frozen 2
          have z3 := hrow2.frozen 3
          have z4 := hrow2.frozen 4
          have z5 := hrow2.frozen 5
          have z6 := hrow2.frozen 6
          have z7 := hrow2.frozen 7
          have cw := hrow.cell hlt
          have ck := (hbel.cell (p := ⟨3, m, none⟩) (block_lt_of_cell (HN.out m hlt))).trans (HN.out m hlt)
          have lk := Ks_lt m
          have lw := wv_lt bs m
          have hrn : rounds (schl bs 48) st (m + 1) = [ad (rx e f g i (Ks.getD m 0) (wv bs m)) (ry a b c), a, b, c, ad d (rx e f g i (Ks.getD m 0) (wv bs m)), e, f, g] := by
            show rnd (Ks.getD m 0) ((schl bs 48).getD m 0) (rounds (schl bs 48) st m) = _
            rw [hrr]; rfl
          generalize Ks.getD m 0 = kk at ck lk hrn
          generalize wv bs m = ww at cw lw hrn
          have f1 := u32_xo _ _ (ror_lt e 6 le) (ror_lt e 11 le)
          have f2 : bits .xor .u32 ((xo (ror e 6) (ror e 11) : Nat) : Int) ((ror e 25 : Nat) : Int) = ((bs1 e : Nat) : Int) := u32_xo _ _ (xo_lt (ror_lt e 6 le) (ror_lt e 11 le)) (ror_lt e 25 le)
          have f3 := u32_ad i (bs1 e)
          have f4 := u32_an e f le lf
          have f5 := u32_inv e le
          have f6 := u32_an (inv e) g (inv_lt le) lg
          have f7 : bits .xor .u32 ((an e f : Nat) : Int) ((an (inv e) g : Nat) : Int) = ((chs e f g : Nat) : Int) := u32_xo _ _ (an_lt le) (an_lt (inv_lt le))
          have f8 := u32_ad (ad i (bs1 e)) (chs e f g)
          have f9 := u32_ad (ad (ad i (bs1 e)) (chs e f g)) kk
          have f10 : IntKind.u32.wrap (((ad (ad (ad i (bs1 e)) (chs e f g)) kk : Nat) : Int) + (ww : Int)) = ((rx e f g i kk ww : Nat) : Int) := u32_ad _ _
          have g1 := u32_xo _ _ (ror_lt a 2 la) (ror_lt a 13 la)
          have g2 : bits .xor .u32 ((xo (ror a 2) (ror a 13) : Nat) : Int) ((ror a 22 : Nat) : Int) = ((bs0 a : Nat) : Int) := u32_xo _ _ (xo_lt (ror_lt a 2 la) (ror_lt a 13 la)) (ror_lt a 22 la)
          have g3 := u32_an a b la lb
          have g4 := u32_an a c la lc
          have g5 := u32_xo _ _ (an_lt (b := b) la) (an_lt (b := c) la)
          have g6 := u32_an b c lb lc
          have g7 : bits .xor .u32 ((xo (an a b) (an a c) : Nat) : Int) ((an b c : Nat) : Int) = ((maj a b c : Nat) : Int) := u32_xo _ _ (xo_lt (an_lt la) (an_lt la)) (an_lt lb)
          have g8 : IntKind.u32.wrap (((bs0 a : Nat) : Int) + ((maj a b c : Nat) : Int)) = ((ry a b c : Nat) : Int) := u32_ad _ _
          have HRN := Lib.hid hrn
          have HR := Lib.hid hrow
          have HR2 := Lib.hid hrow2
          have HB := Lib.hid hbel
          clear hrn hrow hrow2 hbel hrr hs lk lw
          go_wp2_with fail
          go_quiet (fail)
          go_wp2_with fail
          replace c0 := cell_drewN c0 nq
          replace c1 := cell_drewN c1 nq
          replace c2 := cell_drewN c2 nq
          replace c3 := cell_drewN c3 nq
          replace c4 := cell_drewN c4 nq
          replace c5 := cell_drewN c5 nq
          replace c6 := cell_drewN c6 nq
          replace c7 := cell_drewN c7 nq
          replace ck := cell_drewN ck nq
          replace cw := cell_drewN cw nq
          replace z0 := frozen_drewN z0 nq
          replace z1 := frozen_drewN z1 nq
          replace z2 := frozen_drewN z2 nq
          replace z3 := frozen_drewN z3 nq
          replace z4 := frozen_drewN z4 nq
          replace z5 := frozen_drewN z5 nq
          replace z6 := frozen_drewN z6 nq
          replace z7 := frozen_drewN z7 nq
          replace HR := Lib.hid (rowIs_drewN HR.out nq)
          replace HR2 := Lib.hid (rowIs_drewN HR2.out nq)
          replace HB := Lib.hid (below_drewN HB.out nq)
          generalize wr.drewN nq = wq at *
          refine wp_region_still_lit (by kernel_rfl) (by kernel_rfl) ?_
          repeat (refine wpStill_step (fun K hK => ?_); go_simp; first | (refine hK _ ?_; clear hK K) | (refine ⟨_, turned_any _ _ (by assumption) (by omega) (by omega) _, hK _ ?_⟩; clear hK K; simp only [Int.reduceToNat]))
          refine wpStill_nil ?_
          clear f1 f2 f3 f4 f5 f6 f7 f8 f9 f10
          change Exit.then _ _ _ _ wq.drew
          replace c0 := cell_drew c0
          replace c1 := cell_drew c1
          replace c2 := cell_drew c2
          replace c3 := cell_drew c3
          replace c4 := cell_drew c4
          replace c5 := cell_drew c5
          replace c6 := cell_drew c6
          replace c7 := cell_drew c7
          replace ck := cell_drew ck
          replace cw := cell_drew cw
          replace z0 := frozen_drew z0
          replace z1 := frozen_drew z1
          replace z2 := frozen_drew z2
          replace z3 := frozen_drew z3
          replace z4 := frozen_drew z4
          replace z5 := frozen_drew z5
          replace z6 := frozen_drew z6
          replace z7 := frozen_drew z7
          replace HR := Lib.hid (rowIs_drew HR.out)
          replace HR2 := Lib.hid (rowIs_drew HR2.out)
          replace HB := Lib.hid (below_drew HB.out)
          generalize wq.drew = wp at *
          go_wp2_with fail
          refine wp_region_still_lit (by kernel_rfl) (by kernel_rfl) ?_
          repeat (refine wpStill_step (fun K hK => ?_); go_simp; first | (refine hK _ ?_; clear hK K) | (refine ⟨_, turned_any _ _ (by assumption) (by omega) (by omega) _, hK _ ?_⟩; clear hK K; simp only [Int.reduceToNat]))
          refine wpStill_nil ?_
          clear g1 g2 g3 g4 g5 g6 g7 g8
          change Exit.then _ _ _ _ wp.drew
          replace c0 := cell_drew c0
          replace c1 := cell_drew c1
          replace c2 := cell_drew c2
          replace c3 := cell_drew c3
          replace c4 := cell_drew c4
          replace c5 := cell_drew c5
          replace c6 := cell_drew c6
          replace c7 := cell_drew c7
          replace ck := cell_drew ck
          replace cw := cell_drew cw
          replace z0 := frozen_drew z0
          replace z1 := frozen_drew z1
          replace z2 := frozen_drew z2
          replace z3 := frozen_drew z3
          replace z4 := frozen_drew z4
          replace z5 := frozen_drew z5
          replace z6 := frozen_drew z6
          replace z7 := frozen_drew z7
          replace HR := Lib.hid (rowIs_drew HR.out)
          replace HR2 := Lib.hid (rowIs_drew HR2.out)
          replace HB := Lib.hid (below_drew HB.out)
          generalize wp.drew = ws at *
          have k1 := u32_ad (rx e f g i kk ww) (ry a b c)
          have k2 := u32_ad d (rx e f g i kk ww)
          go_wp2
          go_roundw
          case rel =>
            refine ⟨m + 1, by omega, by go_num, ?_, ?_, ?_⟩
            · exact set8_other HR.out (by omega) _ _ _ _ _ _ _ _
            · rw [HRN.out]; exact set8_row HR2.out _ _ _ _ _ _ _ _
            · exact set8_below HB.out (by omega) _ _ _ _ _ _ _ _
          case measure => simp [intOf]; omega
        · have HM := Lib.hid (show m = 64 by omega)
          have hs := rounds_St (schl bs 48) hst m
          have HR2 := Lib.hid hrow2
          have HB := Lib.hid hbel
          clear hrow hrow2 hbel
          go_wp2_with fail
          obtain ⟨wz, rfl⟩ : ∃ wz : World, wz = wr := ⟨_, rfl⟩
          have hvl := hs.1
          have hslt := hs.2
          generalize hV : rounds (schl bs 48) st m = V at hs HR2 hvl hslt
          have HV := Lib.hid hV
          clear hV hs
          go_loopw [180] (fun v wr => ∃ j : Nat, j ≤ 8 ∧ v = .int .i64 j ∧ wr.heap[hb]? = some (.cells (hcells (upd8 st V j) bs n) 127 (0, 0)) ∧ wr.rowIs wo.heap.size 125 8 (fun i => .int .u32 ((V.getD i 0 : Nat) : Int)) ∧ w.grownBy wr (some hb)) (fun v _ => 8 - (intOf v).toNat)
          case atStart =>
            refine ⟨0, by omega, rfl, ?_, HR2.out, only_of_below HB.out _⟩
            rw [upd8_zero]
            exact (HB.out.block hb hbl).trans HBLK.out
          case round =>
            clear HB HR2
            obtain ⟨j, hj, rfl, hblk, hrow, hgr⟩ := hrel
            by_cases h8 : j < 8
            · have hpl : (upd8 st V j).length = 8 := upd8_length HL.out hvl hj
              have c1 : wr.cell? ⟨hb, j, none⟩ = some (.int .u32 ((st.getD j 0 : Nat) : Int)) := by
                rw [cell_of_row wr hb j _ _ _ hblk, hcells_st hpl h8, upd8_get HL.out hvl h8]
              have c2 := hrow.cell (i := j) h8
              have z1 : wr.frozen? ⟨hb, j, none⟩ = false := frozen_of_row wr hb j _ _ hblk
              have hst2 := hst.2
              have k1 := u32_ad (st.getD j 0) (V.getD j 0)
              have HP : Hid (((hcells (upd8 st V j) bs n).setIfInBounds j (.int .u32 ((ad (st.getD j 0) (V.getD j 0) : Nat) : Int))) = hcells (upd8 st V (j + 1)) bs n) := by
                show _ = _
                rw [hcells_set hpl h8, upd8_step HL.out hvl h8]
              generalize st.getD j 0 = sj at c1 k1 HP
              generalize V.getD j 0 = vj at c2 k1 HP
              have HB := Lib.hid hblk
              have HR := Lib.hid hrow
              have HG := Lib.hid hgr
              clear hblk hrow hgr hpl hst2 hvl
              go_wp2_with fail
              go_still_tail 11, (by kernel_rfl)
              clear k1
              change wpList _ _ _ _ _ wr.drew
              go_wp2
              go_roundw
              case rel =>
                refine ⟨j + 1, by omega, by go_num, ?_, ?_, ?_⟩
                · rw [← HP.out]; exact blk_set HB.out _ _
                · exact HR.out.setOther (by show _ ≠ hb; omega) _
                · exact only_drew (only_setCell HG.out (.inl rfl) _)
              case measure => simp [intOf]; omega
            · have HJ := Lib.hid (show j = 8 by omega)
              have HB := Lib.hid hblk
              have HG := Lib.hid hgr
              have HVL := Lib.hid hvl
              clear hblk hrow hgr hvl
              go_wp2
              go_end0
              refine ⟨rfl, ?_, HG.out⟩
              rw [HB.out, HJ.out, upd8_all HL.out HVL.out, ← HV.out, HM.out]
              rfl
end Go.Proofs.YtafookdllnhdaaaDoor
