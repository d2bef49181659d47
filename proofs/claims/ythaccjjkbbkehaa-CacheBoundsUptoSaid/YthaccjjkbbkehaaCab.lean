/- The cache's calls New, Get. -/
import Derived.Test.YthaccjjkbbkehaaCaa
import Derived.Handy
namespace Go.Proofs.Ythaccjjkbbkehaa
open Go.RowKit Go.Scr Go.Maps
set_option linter.unusedVariables false

set_option maxRecDepth 100000 in
set_option maxHeartbeats 1000000 in
theorem order_any (w : World) :
    Calls Try.prog 18 #[] w fun r w' => r = .returned (bp w.heap.size) ∧ Below w.heap.size w w' ∧ Ring w' w.heap.size [] ∧ Thaw w' w.heap.size ∧ w'.heap.size = w.heap.size + 1 := by
  obtain ⟨ob, hob⟩ : ∃ x, x = w.heap.size := ⟨_, rfl⟩
  obtain ⟨w1, hw1⟩ : ∃ x, x = w.alloc (.cells #[.string ⟨#[]⟩, .string ⟨#[]⟩, .int .i64 0, .pointer none, .pointer none] 70) := ⟨_, rfl⟩
  have hb1 : w1.heap[ob]? = some (.cells #[.string ⟨#[]⟩, .string ⟨#[]⟩, .int .i64 0, .pointer none, .pointer none] 70 (0, 0)) := by rw [hw1, hob]; exact heap_alloc_new w _
  have ht : Thaw w1 ob := ⟨_, _, hb1⟩
  have c3 : w1.cell? ⟨ob, 3, none⟩ = some (.pointer none) := by rw [cell_of_row _ _ _ _ _ _ hb1]; rfl
  have c4 : w1.cell? ⟨ob, 4, none⟩ = some (.pointer none) := by rw [cell_of_row _ _ _ _ _ _ hb1]; rfl
  have c4' : (w1.setCell ⟨ob, 3, none⟩ (bp ob)).cell? ⟨ob, 4, none⟩ = some (.pointer none) := by rw [cs_ne _ (.inr (by decide))]; exact c4
  have f3 := ht.f 3
  have f4 := ht.f 4
  have HBEL : Hid (Below w.heap.size w ((w1.setCell ⟨ob, 3, none⟩ (bp ob)).setCell ⟨ob, 4, none⟩ (bp ob))) := Lib.hid (by
    have : Below w.heap.size w w1 := by rw [hw1]; exact (Below.refl _ _).alloc (Nat.le_refl _) _
    exact (this.setCell (p := ⟨ob, 3, none⟩) (Nat.le_of_eq hob.symm) _).setCell (p := ⟨ob, 4, none⟩) (Nat.le_of_eq hob.symm) _)
  have HR : Hid (Ring ((w1.setCell ⟨ob, 3, none⟩ (bp ob)).setCell ⟨ob, 4, none⟩ (bp ob)) ob []) := Lib.hid ⟨⟨cs_at _ c4', by rw [cs_ne _ (.inr (by decide)), cs_at _ c3]⟩, trivial⟩
  have HT : Hid (Thaw ((w1.setCell ⟨ob, 3, none⟩ (bp ob)).setCell ⟨ob, 4, none⟩ (bp ob)) ob) := Lib.hid ((ht.set _ _).set _ _)
  have HS : Hid (((w1.setCell ⟨ob, 3, none⟩ (bp ob)).setCell ⟨ob, 4, none⟩ (bp ob)).heap.size = w.heap.size + 1) := Lib.hid (by simp [World.setCell, hw1])
  have HW := Lib.hid hw1
  have HO := Lib.hid hob
  rw [← hob] at HBEL HS ⊢
  clear hw1 hob hb1 ht
  go_enter Try.func18, Try.ntmps18
  go_upto_region 2 with fail
  rw [← HW.out, ← HO.out]
  go_region
  go_wp2
  go_ret
  exact ⟨rfl, HBEL.out.drew, HR.out.frame (fun _ _ _ => rfl), HT.out.at rfl, HS.out⟩

def NewPost (w w' : World) (col : Nat → Nat) (κ cb n : Nat) : Prop := w.heap.size ≤ cb ∧ ∃ col', Turn col col' κ w w' ∧ Below w.heap.size w w' ∧ Cash w' col' κ cb n 0 0 0 []
set_option maxRecDepth 100000 in
set_option maxHeartbeats 1000000 in
theorem cnew_any (n : Nat) (w : World) (col : Nat → Nat) (κ : Nat) (hκ : κ ≠ 0) (hlo : ∀ g, col g ≠ 0 → g < w.heap.size) (hn : n ≤ 16777216) :
    Calls Try.prog 8 #[.int .i64 (n : Int)] w fun r w' => ∃ cb, r = .returned (.tuple #[bp cb, .int .i64 0]) ∧ NewPost w w' col κ cb n := by
  obtain ⟨mb, hmb⟩ : ∃ x, x = w.heap.size := ⟨_, rfl⟩
  have hlt : ¬ ((n : Int) < 0) := by omega
  have hgt : ¬ ((16777216 : Int) < (n : Int)) := by omega
  have CO := Lib.hid (order_any (w.alloc (.map #[] 0)))
  have HMB := Lib.hid hmb
  have HLO := Lib.hid hlo
  have hmm := @run_makeMap Try.prog
  clear hlo
  go_enter Try.func8, Try.ntmps8
  go_wp2_with (first
    | (go_at_call 18; with_reducible refine (CO.out).mono ?_; rintro r w2 ⟨rfl, hb2, hr2, ht2, hs2⟩; have HB2 := Lib.hid hb2; have HR2 := Lib.hid hr2; have HT2 := Lib.hid ht2; have HS2 := Lib.hid hs2; clear hb2 hr2 ht2 hs2))
  go_ret2
  refine ⟨w2.heap.size, rfl, ?_⟩
  have hs1 : (w.alloc (.map #[] 0)).heap.size = mb + 1 := by rw [hmb]; simp
  have hs2 := HS2.out
  have hb2 := HB2.out
  have hr2 := HR2.out
  have ht2 := HT2.out
  rw [hs1] at hs2 hb2 hr2 ht2
  obtain ⟨cb, hcb⟩ : ∃ x, x = w2.heap.size := ⟨_, rfl⟩
  have hcm : cb = mb + 2 := by rw [hcb, hs2]
  obtain ⟨w3, hw3⟩ : ∃ x, x = w2.alloc (.cells #[.int .i64 (n : Int), .int .i64 0, .int .i64 0, .int .i64 0, .int .i64 0, .int .i64 0, .int .i64 0, .map (some w.heap.size), .pointer (some ⟨w.heap.size + 1, 0, none⟩)] 59) := ⟨_, rfl⟩
  have hB : w3.heap[cb]? = some (.cells #[.int .i64 (n : Int), .int .i64 0, .int .i64 0, .int .i64 0, .int .i64 0, .int .i64 0, .int .i64 0, .map (some w.heap.size), .pointer (some ⟨w.heap.size + 1, 0, none⟩)] 59 (0, 0)) := by rw [hw3, hcb]; exact heap_alloc_new w2 _
  have hb3 : Below w2.heap.size w2 w3 := by rw [hw3]; exact (Below.refl _ _).alloc (Nat.le_refl _) _
  have hs3 : w3.heap.size = cb + 1 := by rw [hw3, hcb]; simp
  have hbw : Below w.heap.size w w3 := by
    have h1 : Below w.heap.size w (w.alloc (.map #[] 0)) := (Below.refl _ _).alloc (Nat.le_refl _) _
    have h2 : Below w.heap.size w w2 := below_on h1 (by rw [hs1]; exact hb2) h1.size
    exact below_on h2 hb3 h2.size
  have hm : MapOf w3 mb [] := by
    have h1 : MapOf (w.alloc (.map #[] 0)) mb [] := by rw [hmb]; exact MapOf.made w
    have h2 : MapOf w2 mb [] := h1.keep (hb2.block mb (by omega))
    exact h2.keep (hb3.block mb (by omega))
  have hob : w3.heap[mb + 1]? = w2.heap[mb + 1]? := hb3.block _ (by omega)
  have hw4 : w3 = w2.alloc (.cells #[.int .i64 (n : Int), .int .i64 0, .int .i64 0, .int .i64 0, .int .i64 0, .int .i64 0, .int .i64 0, .map (some w.heap.size), bp (w.heap.size + 1)] 59) := hw3
  rw [← hw4, ← hcb]
  have hd : ∀ g, dye (dye (dye col mb κ) (mb + 1) κ) cb κ g = if g = mb ∨ g = mb + 1 ∨ g = cb then κ else col g := fun g => by
    unfold dye
    by_cases h1 : g = cb
    · simp [h1]
    · by_cases h2 : g = mb + 1
      · simp [h2, h1]
      · by_cases h3 : g = mb
        · simp [h3]
        · simp [h1, h2, h3]
  have hold : ∀ g, g < w.heap.size → dye (dye (dye col mb κ) (mb + 1) κ) cb κ g = col g := fun g hg => by rw [hd, if_neg (by omega)]
  refine ⟨by omega, dye (dye (dye col mb κ) (mb + 1) κ) cb κ, ⟨only_of_below' hbw, hold, fun g hg => ?_⟩, hbw, mb + 1, mb, fun j => if j = 0 then n else 0, ⟨fun j hj => ?_, ?_, ?_, ⟨_, _, hB⟩, ht2.at hob, hr2.frame (fun b hb i => ?_), fun e he => (by cases he), by simp [blks], ?_, hm, ?_⟩, ⟨rfl, rfl, rfl, rfl, rfl, rfl, rfl⟩, ⟨by simp, fun e he => (by cases he)⟩⟩
  · rw [hd] at hg ⊢
    by_cases h1 : g = mb ∨ g = mb + 1 ∨ g = cb
    · rw [if_pos h1]
      refine ⟨by omega, by omega, rfl⟩
    · rw [if_neg h1] at hg
      exact absurd rfl hg
  · rw [cell_of_row _ _ _ _ _ _ hB]
    match j, hj with
    | 0, _ => rfl
    | 1, _ => rfl
    | 2, _ => rfl
    | 3, _ => rfl
    | 4, _ => rfl
    | 5, _ => rfl
    | 6, _ => rfl
  · rw [cell_of_row _ _ _ _ _ _ hB, hmb]; rfl
  · rw [cell_of_row _ _ _ _ _ _ hB, hmb]; rfl
  · simp only [List.mem_singleton] at hb
    rw [hb]
    exact cell_at hob i
  · simp [blks]; omega
  · rw [hd, hd, hd]
    exact ⟨if_pos (.inr (.inr rfl)), if_pos (.inr (.inl rfl)), if_pos (.inl rfl), fun e he => (by cases he)⟩
end Go.Proofs.Ythaccjjkbbkehaa
