/- The cache: Put of a new key that is refused; what a call of the cache does to its list. -/
import Derived.Test.YthaccjjkbbkehaaCaj
import Derived.StillTailTactics
namespace Go.Proofs.Ythaccjjkbbkehaa
open Go.RowKit Go.Scr Go.Maps
set_option linter.unusedVariables false

set_option maxRecDepth 100000 in
set_option maxHeartbeats 2000000 in
theorem put_refN {w : World} {col : Nat → Nat} {κ cb n f m o : Nat} {L : List Ent} {k v : ByteArray} (hκ : κ ≠ 0) (hlo : ∀ g, col g ≠ 0 → g < w.heap.size) (h : Cash w col κ cb n f m o L) (hn : n ≤ 16777216) (hno : ∀ e ∈ L, e.key ≠ k)
    (hks : k.size ≤ 1099511627776) (hvs : v.size ≤ 1099511627776) (hLl : L.length ≤ 1099511627776) (ho : o ≤ 1099511627776) (hw : wts L ≤ n) (hfit : ¬ pinw L + (k.size + v.size) ≤ n) :
    Calls Try.prog 10 #[bp cb, .string k, .string v] w fun r w' => r = .returned (.int .i64 151) ∧ Below w.heap.size w w' := by
  obtain ⟨ob, mb, c, hC, hN, hK⟩ := h
  have hkm : k.size ≤ maxLen := by simp only [maxLen]; omega
  have HG : Hid (∀ w', Below w.heap.size w w' → Calls Try.prog 19 #[.pointer (some ⟨cb, 7, none⟩), .string k] w' fun r w2 => r = .returned (.tuple #[.pointer none, .bool false]) ∧ w2 = w') :=
    Lib.hid (fun w' hb => get_out (hC.below hb).c7 (hC.below hb).mp hno hkm)
  have HC := Lib.hid hC
  have HN := Lib.hid hN
  have HK := Lib.hid hK
  obtain ⟨b0, hb0⟩ : ∃ x, x = w.heap.size := ⟨_, rfl⟩
  obtain ⟨w1, hw1⟩ : ∃ x, x = w.alloc (.cells #[bp cb] 25) := ⟨_, rfl⟩
  have hbx : Below w.heap.size w w1 := by rw [hw1]; exact (Below.refl _ _).alloc (Nat.le_refl _) _
  have HG1 := Lib.hid (HG.out w1 hbx)
  have d0 : w1.cell? ⟨b0, 0, none⟩ = some (bp cb) := by rw [hw1, hb0]; simp
  have HW1 := Lib.hid hw1
  have HB1 := Lib.hid hbx
  have HB0 := Lib.hid hb0
  have hs1 : w1.heap.size = b0 + 1 := by rw [hw1, hb0]; simp
  have hb0c : col b0 = 0 := Classical.byContradiction fun hne => by have := hlo b0 hne; omega
  have hb1c : col w1.heap.size = 0 := Classical.byContradiction fun hne => by have := hlo _ hne; omega
  have hb2c : col (w1.heap.size + 1) = 0 := Classical.byContradiction fun hne => by have := hlo _ hne; omega
  obtain ⟨pw, hpw⟩ : ∃ x, x = pinw L := ⟨_, rfl⟩
  obtain ⟨wt, hwt⟩ : ∃ x, x = k.size + v.size := ⟨_, rfl⟩
  have hc2 : c 2 = pw := hN.p.trans hpw.symm
  have hpwn : ¬ pw + wt ≤ n := by rw [hpw, hwt]; exact hfit
  have hpwb : pw ≤ n := by rw [hpw]; exact Nat.le_trans (pinw_le L) hw
  have HPW := Lib.hid hpw
  have HWT := Lib.hid hwt
  have HLO := Lib.hid hlo
  have HNO := Lib.hid hno
  have HW := Lib.hid hw
  have HC2 := Lib.hid hc2
  have hcnt : ∀ w, Calls Try.prog 21 #[.agg #[.string k, .string v, .int .i64 0]] w fun r w' => r = .returned (.int .i64 ((k.size + v.size : Nat) : Int)) ∧ Below w.heap.size w w' := fun w => counts_any k v 0 w (by omega) (by omega)
  rw [← hwt] at hcnt
  have CD := Lib.hid hcnt
  have HLTB : Hid (b0 < w1.heap.size) := Lib.hid (by rw [hs1]; omega)
  have HCOL : Hid (col b0 = 0 ∧ col w1.heap.size = 0 ∧ col (w1.heap.size + 1) = 0) := Lib.hid ⟨hb0c, hb1c, hb2c⟩
  have hc0 : c 0 = n := hN.n
  have HC0 := Lib.hid hc0
  clear hC hN hK hbx hw1 hlo hno hfit hw HG hb0 hs1 hb0c hb1c hb2c hpw hwt hc2 hcnt hc0
  go_enter Try.func10, Try.ntmps10
  go_upto_region 1 with fail
  rw [← HW1.out, ← HB0.out]
  go_upto_region 3 with (first
    | (go_at_call 19; with_reducible refine (HG1.out).mono ?_; rintro r wx ⟨rfl, hwx⟩; rw [hwx]; clear hwx wx))
  obtain ⟨b1, hb1⟩ : ∃ x, x = w1.heap.size := ⟨_, rfl⟩
  obtain ⟨w2, hw2⟩ : ∃ x, x = (w1.alloc (.cells #[Value.pointer none] 60)).alloc (.cells #[.string k, .string v, .int .i64 0] 57) := ⟨_, rfl⟩
  have hbel2 : Below w1.heap.size w1 w2 := by rw [hw2]; exact ((Below.refl _ _).alloc (Nat.le_refl _) _).alloc (by simp) _
  have hbelw : Below w.heap.size w w2 := below_on HB1.out hbel2 HB1.out.size
  have hl0 : w2.cell? ⟨b1, 0, none⟩ = some (.pointer none) := by rw [hw2, hb1, World.cell?_alloc_lt _ _ _ (by simp)]; simp
  have hx2 : ∀ i, w2.cell? ⟨b1 + 1, i, none⟩ = (#[Value.string k, Value.string v, Value.int .i64 0] : Array Value)[i]? := fun i => by
    rw [hw2, hb1]
    simp
  have hd0 : w2.cell? ⟨b0, 0, none⟩ = some (bp cb) := (hbel2.cell (block_lt_of_cell d0)).trans d0
  have ht2 : Thaw w2 (b1 + 1) := ⟨#[.string k, .string v, .int .i64 0], 57, by rw [hw2]; exact heap_alloc_at _ _ _ (by simp [hb1])⟩
  have ht1 : Thaw w2 b1 := ⟨#[.pointer none], 60, by rw [hw2, hb1]; exact blk_alloc (heap_alloc_new w1 _)⟩
  have HBX : Hid (Bx w2 col κ b0 (b1 + 1) b1 cb k v 0 (.pointer none)) := Lib.hid ⟨hd0, hx2 0, hx2 1, hx2 2, hl0, ⟨(by rw [HCOL.out.1]; exact hκ.symm), (by rw [hb1, HCOL.out.2.2]; exact hκ.symm), (by rw [hb1, HCOL.out.2.1]; exact hκ.symm)⟩, ht2, ht1⟩
  have HCB := Lib.hid (HC.out.below hbelw)
  have HB01 : Hid (b0 < b1 ∧ col b0 ≠ κ ∧ col b1 ≠ κ ∧ col (b1 + 1) ≠ κ ∧ w.heap.size ≤ b1) := Lib.hid ⟨by rw [hb1]; exact HLTB.out, by rw [HCOL.out.1]; exact hκ.symm, by rw [hb1, HCOL.out.2.1]; exact hκ.symm, by rw [hb1, HCOL.out.2.2]; exact hκ.symm, by rw [hb1]; exact HB1.out.size⟩
  have HBW := Lib.hid hbelw
  rw [← hw2, ← hb1]
  clear d0 hw2 hb1 hbel2 hbelw hl0 hx2 hd0 HC HG1 HB1 ht1 ht2
  have e2 : w2.cell? ⟨cb, 2, none⟩ = some (.int .i64 (pw : Int)) := by rw [← HC2.out]; exact HCB.out.c 2 (by decide)
  have e0 := HBX.out.c
  go_upto_region 6 with fail
  have HRC : Hid (∀ w', RB w w' col κ cb ob mb b0 (b1 + 1) b1 c L k v 0 (.pointer none) → w'.cell? ⟨b0, 0, none⟩ = some (bp cb) ∧ w'.cell? ⟨cb, 0, none⟩ = some (.int .i64 (n : Int)) ∧ w'.cell? ⟨b1 + 1, 0, none⟩ = some (.string k) ∧ w'.cell? ⟨b1 + 1, 1, none⟩ = some (.string v) ∧ w'.cell? ⟨b1 + 1, 2, none⟩ = some (.int .i64 0) ∧ RB w w' col κ cb ob mb b0 (b1 + 1) b1 c L k v 0 (.pointer none)) := Lib.hid (fun w' h =>
    ⟨h.2.1.c, (by rw [← HC0.out]; exact h.1.c 0 (by decide)), h.2.1.x0, h.2.1.x1, h.2.1.x2, h⟩)
  have HRB : Hid (RB w w2.drew col κ cb ob mb b0 (b1 + 1) b1 c L k v 0 (.pointer none)) := Lib.hid ⟨HCB.out.drew, HBX.out.only (only_drew' (Only.refl _ _ _)), HBW.out.drew⟩
  have HS := Lib.hid (HRC.out _ HRB.out)
  have hgt : (n : Int) - (pw : Int) < (wt : Int) := by omega
  have hwr : IntKind.i64.wrap ((n : Int) - (pw : Int)) = (n : Int) - (pw : Int) := IntWalk.i64_in _ (by omega)
  clear e2 e0
  go_region_held3 (fun w' => w'.cell? ⟨b0, 0, none⟩ = some (bp cb) ∧ w'.cell? ⟨cb, 0, none⟩ = some (.int .i64 (n : Int)) ∧ w'.cell? ⟨b1 + 1, 0, none⟩ = some (.string k) ∧ w'.cell? ⟨b1 + 1, 1, none⟩ = some (.string v) ∧ w'.cell? ⟨b1 + 1, 2, none⟩ = some (.int .i64 0) ∧ RB w w' col κ cb ob mb b0 (b1 + 1) b1 c L k v 0 (.pointer none)) (first | exact HS3.out | exact HS.out) (first
    | (go_at_call 21; with_reducible refine (CD.out _).mono ?_; rintro r w3 ⟨rfl, hb3⟩; have HB3 := Lib.hid (HRB.out.below hb3); have HS3 := Lib.hid (HRC.out w3 HB3.out); clear hb3))
  have HBF := Lib.hid HB3.out.2.2
  go_wp2
  go_ret
  exact ⟨rfl, HBF.out⟩
end Go.Proofs.Ythaccjjkbbkehaa
