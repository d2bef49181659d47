/- The cache's call Tally. -/
import Derived.Test.YthaccjjkbbkehaaCad
import Derived.StillTailTactics
namespace Go.Proofs.Ythaccjjkbbkehaa
open Go.RowKit Go.Scr Go.Maps
set_option linter.unusedVariables false

abbrev tallyV (k b p f m o : Nat) : Value := .agg #[.int .i64 (k : Int), .int .i64 (b : Int), .int .i64 (p : Int), .int .i64 (f : Int), .int .i64 (m : Int), .int .i64 (o : Int)]
set_option maxRecDepth 100000 in
set_option maxHeartbeats 2000000 in
theorem ctally_any {w : World} {col : Nat → Nat} {κ cb n f m o : Nat} {L : List Ent} (h : Cash w col κ cb n f m o L) :
    Calls Try.prog 12 #[bp cb] w fun r w' => r = .returned (tallyV L.length (wts L) (pinw L) f m o) ∧ Below w.heap.size w w' := by
  obtain ⟨ob, mb, c, hC, hN, hK⟩ := h
  obtain ⟨w1, hw1⟩ : ∃ x, x = w.alloc (.cells #[.int .i64 0, .int .i64 0, .int .i64 0, .int .i64 0, .int .i64 0, .int .i64 0] 36) := ⟨_, rfl⟩
  obtain ⟨tb, htb⟩ : ∃ x, x = w.heap.size := ⟨_, rfl⟩
  have hb1 : Below w.heap.size w w1 := by rw [hw1]; exact (Below.refl _ _).alloc (Nat.le_refl _) _
  have hC1 := hC.below hb1
  have d6 : w1.cell? ⟨cb, 6, none⟩ = some (.int .i64 (L.length : Int)) := by rw [← hN.k]; exact hC1.c 6 (by decide)
  have d1 : w1.cell? ⟨cb, 1, none⟩ = some (.int .i64 (wts L : Int)) := by rw [← hN.b]; exact hC1.c 1 (by decide)
  have d2 : w1.cell? ⟨cb, 2, none⟩ = some (.int .i64 (pinw L : Int)) := by rw [← hN.p]; exact hC1.c 2 (by decide)
  have d3 : w1.cell? ⟨cb, 3, none⟩ = some (.int .i64 (f : Int)) := by rw [← hN.f]; exact hC1.c 3 (by decide)
  have d4 : w1.cell? ⟨cb, 4, none⟩ = some (.int .i64 (m : Int)) := by rw [← hN.m]; exact hC1.c 4 (by decide)
  have d5 : w1.cell? ⟨cb, 5, none⟩ = some (.int .i64 (o : Int)) := by rw [← hN.o]; exact hC1.c 5 (by decide)
  obtain ⟨k, hk⟩ : ∃ k, k = L.length := ⟨_, rfl⟩
  obtain ⟨b, hb⟩ : ∃ b, b = wts L := ⟨_, rfl⟩
  obtain ⟨p, hp⟩ : ∃ p, p = pinw L := ⟨_, rfl⟩
  rw [← hk] at d6
  rw [← hb] at d1
  rw [← hp] at d2
  rw [← hk, ← hb, ← hp]
  have HW := Lib.hid hw1
  have HB := Lib.hid hb1
  have HT := Lib.hid htb
  clear hC hN hK hC1 hk hb hp hw1 hb1 htb
  go_enter Try.func12, Try.ntmps12
  go_upto_region 1 with fail
  rw [← HW.out, ← HT.out]
  go_still_tail 25, (by kernel_rfl)
  change wpList _ _ _ _ _ w1.drew
  refine wpList_store_row rfl 36 (.tmp 2) (.tmp 27) rfl tb #[.int .i64 (k : Int), .int .i64 (b : Int), .int .i64 (p : Int), .int .i64 (f : Int), .int .i64 (m : Int), .int .i64 (o : Int)] rfl rfl 36 #[.int .i64 0, .int .i64 0, .int .i64 0, .int .i64 0, .int .i64 0, .int .i64 0] (by rw [HW.out, HT.out]; exact heap_alloc_new w _) (by kernel_rfl) rfl (by simp [Value.oneCell']) ?_
  have hrow : (w1.drew.setRow tb #[.int .i64 (k : Int), .int .i64 (b : Int), .int .i64 (p : Int), .int .i64 (f : Int), .int .i64 (m : Int), .int .i64 (o : Int)]).heap[tb]? = some (.cells #[.int .i64 (k : Int), .int .i64 (b : Int), .int .i64 (p : Int), .int .i64 (f : Int), .int .i64 (m : Int), .int .i64 (o : Int)] 36 (0, 0)) :=
    blk_row (cs := #[.int .i64 0, .int .i64 0, .int .i64 0, .int .i64 0, .int .i64 0, .int .i64 0]) (by rw [HW.out, HT.out]; exact heap_alloc_new w _) _
  have hbel : Below w.heap.size w (w1.drew.setRow tb #[.int .i64 (k : Int), .int .i64 (b : Int), .int .i64 (p : Int), .int .i64 (f : Int), .int .i64 (m : Int), .int .i64 (o : Int)]) :=
    below_only HB.out.drew (only_setRow (only_refl _ _) _) HB.out.size (Nat.le_of_eq HT.out.symm)
  have HBEL := Lib.hid hbel
  have HROW := Lib.hid hrow
  clear hbel hrow d1 d2 d3 d4 d5 d6
  generalize w1.drew.setRow tb #[.int .i64 (k : Int), .int .i64 (b : Int), .int .i64 (p : Int), .int .i64 (f : Int), .int .i64 (m : Int), .int .i64 (o : Int)] = w2 at *
  go_wp2
  refine bodyPost_ret (results_cell_row rfl _ w2 tb 36 _ (0, 0) _ rfl HROW.out Try.underlying36 rfl (by kernel_rfl)) rfl ?_
  exact ⟨rfl, HBEL.out⟩
end Go.Proofs.Ythaccjjkbbkehaa
