/- The document's shape, walked: Inside. -/
import Derived.Test.YteknpnanmbfhfaaDoorMa30
namespace Go.Scr
theorem way_left_iff {b n lo hi : Nat} (h : 1 < n) (hne : ¬ (b = lo ∧ b + n = hi)) (h2 : hi ≤ b + spl n) : (lo, hi) ∈ wayT b n lo hi ↔ (lo, hi) ∈ wayT b (spl n) lo hi := by
  rw [wayT_left h h2, List.mem_cons]
  constructor
  · rintro (h | h)
    · simp only [Prod.mk.injEq] at h; omega
    · exact h
  · exact .inr
theorem way_right_iff {b n lo hi : Nat} (h : 1 < n) (hne : ¬ (b = lo ∧ b + n = hi)) (h2 : ¬ hi ≤ b + spl n) (h3 : b + spl n ≤ lo) : (lo, hi) ∈ wayT b n lo hi ↔ (lo, hi) ∈ wayT (b + spl n) (n - spl n) lo hi := by
  rw [wayT_right h h2 h3, List.mem_cons]
  constructor
  · rintro (h | h)
    · simp only [Prod.mk.injEq] at h; omega
    · exact h
  · exact .inr
theorem way_no {b n lo hi : Nat} (hne : ¬ (b = lo ∧ b + n = hi)) (h : n ≤ 1 ∨ (¬ hi ≤ b + spl n ∧ ¬ b + spl n ≤ lo)) : (lo, hi) ∉ wayT b n lo hi := by
  by_cases h1 : n ≤ 1
  · rw [wayT_one lo hi h1, List.mem_singleton]
    simp only [Prod.mk.injEq]
    omega
  · rw [wayT_stop (by omega) (by omega) (by omega), List.mem_singleton]
    simp only [Prod.mk.injEq]
    omega
theorem way_at (n lo : Nat) : (lo, lo + n) ∈ wayT lo n lo (lo + n) := by rw [wayT]; exact List.mem_cons_self ..
end Go.Scr
namespace Go.Proofs.YteknpnanmbfhfaaDoor
open Go.RowKit Go.Scr Go.Shelf
set_option linter.unusedVariables false
set_option maxRecDepth 100000 in
set_option maxHeartbeats 1000000 in
theorem rin_noA (n b e : Int) (w : World) (h : n < 1) :
    Calls Tryd.prog 16 #[.int .i64 n, .agg #[.int .i64 b, .int .i64 e]] w fun r w' => r = .returned (.bool false) ∧ Below w.heap.size w w' := by
  obtain ⟨b0, hb0⟩ : ∃ x, x = w.heap.size := ⟨_, rfl⟩
  obtain ⟨w1, hw1⟩ : ∃ x, x = w.alloc (.cells #[.int .i64 b, .int .i64 e] 29) := ⟨_, rfl⟩
  have hbel : Below w.heap.size w w1 := by rw [hw1]; exact (Below.refl _ _).alloc (Nat.le_refl _) _
  have r0 : w1.heap[b0]? = some (.cells #[.int .i64 b, .int .i64 e] 29 (0, 0)) := by rw [hw1, hb0]; exact heap_alloc_new w _
  have d0 : w1.cell? ⟨b0, 0, none⟩ = some (.int .i64 b) := cell_of_row _ _ _ _ _ _ r0
  have d1 : w1.cell? ⟨b0, 1, none⟩ = some (.int .i64 e) := cell_of_row _ _ _ _ _ _ r0
  have HW := Lib.hid hw1
  have HB := Lib.hid hb0
  have HBEL := Lib.hid hbel
  clear hw1 hb0 hbel r0
  go_enter Tryd.func16, Tryd.ntmps16
  go_upto_region 1 with fail
  rw [← HW.out, ← HB.out]
  go_wp2_with fail
  go_ret
  exact ⟨rfl, HBEL.out⟩
set_option maxRecDepth 100000 in
set_option maxHeartbeats 1000000 in
theorem rin_noC (n b e : Int) (w : World) (h1 : 1 ≤ n) (h : 1099511627776 < n) :
    Calls Tryd.prog 16 #[.int .i64 n, .agg #[.int .i64 b, .int .i64 e]] w fun r w' => r = .returned (.bool false) ∧ Below w.heap.size w w' := by
  obtain ⟨b0, hb0⟩ : ∃ x, x = w.heap.size := ⟨_, rfl⟩
  obtain ⟨w1, hw1⟩ : ∃ x, x = w.alloc (.cells #[.int .i64 b, .int .i64 e] 29) := ⟨_, rfl⟩
  have hbel : Below w.heap.size w w1 := by rw [hw1]; exact (Below.refl _ _).alloc (Nat.le_refl _) _
  have r0 : w1.heap[b0]? = some (.cells #[.int .i64 b, .int .i64 e] 29 (0, 0)) := by rw [hw1, hb0]; exact heap_alloc_new w _
  have d0 : w1.cell? ⟨b0, 0, none⟩ = some (.int .i64 b) := cell_of_row _ _ _ _ _ _ r0
  have d1 : w1.cell? ⟨b0, 1, none⟩ = some (.int .i64 e) := cell_of_row _ _ _ _ _ _ r0
  have HW := Lib.hid hw1
  have HB := Lib.hid hb0
  have HBEL := Lib.hid hbel
  have h1b : ¬ n < 1 := by omega
  clear hw1 hb0 hbel r0
  go_enter Tryd.func16, Tryd.ntmps16
  go_upto_region 1 with fail
  rw [← HW.out, ← HB.out]
  go_wp2_with fail
  go_ret
  exact ⟨rfl, HBEL.out⟩
set_option maxRecDepth 100000 in
set_option maxHeartbeats 1000000 in
theorem rin_noB (n b e : Int) (w : World) (h1 : 1 ≤ n) (h2 : n ≤ 1099511627776) (h : b < 0) :
    Calls Tryd.prog 16 #[.int .i64 n, .agg #[.int .i64 b, .int .i64 e]] w fun r w' => r = .returned (.bool false) ∧ Below w.heap.size w w' := by
  obtain ⟨b0, hb0⟩ : ∃ x, x = w.heap.size := ⟨_, rfl⟩
  obtain ⟨w1, hw1⟩ : ∃ x, x = w.alloc (.cells #[.int .i64 b, .int .i64 e] 29) := ⟨_, rfl⟩
  have hbel : Below w.heap.size w w1 := by rw [hw1]; exact (Below.refl _ _).alloc (Nat.le_refl _) _
  have r0 : w1.heap[b0]? = some (.cells #[.int .i64 b, .int .i64 e] 29 (0, 0)) := by rw [hw1, hb0]; exact heap_alloc_new w _
  have d0 : w1.cell? ⟨b0, 0, none⟩ = some (.int .i64 b) := cell_of_row _ _ _ _ _ _ r0
  have d1 : w1.cell? ⟨b0, 1, none⟩ = some (.int .i64 e) := cell_of_row _ _ _ _ _ _ r0
  have HW := Lib.hid hw1
  have HB := Lib.hid hb0
  have HBEL := Lib.hid hbel
  have h1b : ¬ n < 1 := by omega
  have h2b : ¬ 1099511627776 < n := by omega
  clear hw1 hb0 hbel r0
  go_enter Tryd.func16, Tryd.ntmps16
  go_upto_region 1 with fail
  rw [← HW.out, ← HB.out]
  go_wp2_with fail
  go_ret
  exact ⟨rfl, HBEL.out⟩
set_option maxRecDepth 100000 in
set_option maxHeartbeats 1000000 in
theorem rin_noE (n b e : Int) (w : World) (h1 : 1 ≤ n) (h2 : n ≤ 1099511627776) (hb : 0 ≤ b) (h : e ≤ b) :
    Calls Tryd.prog 16 #[.int .i64 n, .agg #[.int .i64 b, .int .i64 e]] w fun r w' => r = .returned (.bool false) ∧ Below w.heap.size w w' := by
  obtain ⟨b0, hb0⟩ : ∃ x, x = w.heap.size := ⟨_, rfl⟩
  obtain ⟨w1, hw1⟩ : ∃ x, x = w.alloc (.cells #[.int .i64 b, .int .i64 e] 29) := ⟨_, rfl⟩
  have hbel : Below w.heap.size w w1 := by rw [hw1]; exact (Below.refl _ _).alloc (Nat.le_refl _) _
  have r0 : w1.heap[b0]? = some (.cells #[.int .i64 b, .int .i64 e] 29 (0, 0)) := by rw [hw1, hb0]; exact heap_alloc_new w _
  have d0 : w1.cell? ⟨b0, 0, none⟩ = some (.int .i64 b) := cell_of_row _ _ _ _ _ _ r0
  have d1 : w1.cell? ⟨b0, 1, none⟩ = some (.int .i64 e) := cell_of_row _ _ _ _ _ _ r0
  have HW := Lib.hid hw1
  have HB := Lib.hid hb0
  have HBEL := Lib.hid hbel
  have h1b : ¬ n < 1 := by omega
  have h2b : ¬ 1099511627776 < n := by omega
  have hbb : ¬ b < 0 := by omega
  clear hw1 hb0 hbel r0
  go_enter Tryd.func16, Tryd.ntmps16
  go_upto_region 1 with fail
  rw [← HW.out, ← HB.out]
  go_wp2_with fail
  go_ret
  exact ⟨rfl, HBEL.out⟩
set_option maxRecDepth 100000 in
set_option maxHeartbeats 1000000 in
theorem rin_noN (n b e : Int) (w : World) (h1 : 1 ≤ n) (h2 : n ≤ 1099511627776) (hb : 0 ≤ b) (he : b < e) (h : n < e) :
    Calls Tryd.prog 16 #[.int .i64 n, .agg #[.int .i64 b, .int .i64 e]] w fun r w' => r = .returned (.bool false) ∧ Below w.heap.size w w' := by
  obtain ⟨b0, hb0⟩ : ∃ x, x = w.heap.size := ⟨_, rfl⟩
  obtain ⟨w1, hw1⟩ : ∃ x, x = w.alloc (.cells #[.int .i64 b, .int .i64 e] 29) := ⟨_, rfl⟩
  have hbel : Below w.heap.size w w1 := by rw [hw1]; exact (Below.refl _ _).alloc (Nat.le_refl _) _
  have r0 : w1.heap[b0]? = some (.cells #[.int .i64 b, .int .i64 e] 29 (0, 0)) := by rw [hw1, hb0]; exact heap_alloc_new w _
  have d0 : w1.cell? ⟨b0, 0, none⟩ = some (.int .i64 b) := cell_of_row _ _ _ _ _ _ r0
  have d1 : w1.cell? ⟨b0, 1, none⟩ = some (.int .i64 e) := cell_of_row _ _ _ _ _ _ r0
  have HW := Lib.hid hw1
  have HB := Lib.hid hb0
  have HBEL := Lib.hid hbel
  have h1b : ¬ n < 1 := by omega
  have h2b : ¬ 1099511627776 < n := by omega
  have hbb : ¬ b < 0 := by omega
  have heb : ¬ e ≤ b := by omega
  clear hw1 hb0 hbel r0
  go_enter Tryd.func16, Tryd.ntmps16
  go_upto_region 1 with fail
  rw [← HW.out, ← HB.out]
  go_wp2_with fail
  go_ret
  exact ⟨rfl, HBEL.out⟩
set_option maxRecDepth 100000 in
set_option maxHeartbeats 4000000 in
theorem rin_yes (N lo hi : Nat) (w : World) (h1 : 1 ≤ N) (h2 : N ≤ 1099511627776) (h3 : lo < hi) (h4 : hi ≤ N) :
    Calls Tryd.prog 16 #[.int .i64 (N : Int), spV lo hi] w fun r w' => r = .returned (.bool (decide ((lo, hi) ∈ wayT 0 N lo hi))) ∧ Below w.heap.size w w' := by
  have e1 : ¬ (N : Int) < 1 := by omega
  have e2 : ¬ (1099511627776 : Int) < (N : Int) := by omega
  have e3 : ¬ (lo : Int) < 0 := by omega
  have e4 : ¬ (hi : Int) ≤ (lo : Int) := by omega
  have e5 : ¬ (N : Int) < (hi : Int) := by omega
  obtain ⟨b0, hb0⟩ : ∃ x, x = w.heap.size := ⟨_, rfl⟩
  obtain ⟨w1, hw1⟩ : ∃ x, x = w.alloc (.cells #[.int .i64 (lo : Int), .int .i64 (hi : Int)] 29) := ⟨_, rfl⟩
  obtain ⟨w2, hw2⟩ : ∃ x, x = w1.alloc (.cells #[.int .i64 0, .int .i64 (N : Int)] 29) := ⟨_, rfl⟩
  have hbel : Below w.heap.size w w1 := by rw [hw1]; exact (Below.refl _ _).alloc (Nat.le_refl _) _
  have hbel2 : Below w.heap.size w w2 := by rw [hw2]; exact hbel.alloc hbel.size _
  have hsz : w1.heap.size = b0 + 1 := by rw [hw1, hb0]; simp
  have r0 : spRow w1 b0 lo hi := by rw [hw1, hb0]; exact heap_alloc_new w _
  have r1 : spRow w2 b0 lo hi := by rw [hw2]; exact r0.keep (Below.heap_alloc _ _ _ r0.lt)
  have r2 : spRow w2 (b0 + 1) 0 N := by rw [hw2, ← hsz]; exact heap_alloc_new w1 _
  obtain ⟨d0, d1, _⟩ := r0.at
  have HS : Hid (spRow w2 b0 lo hi ∧ spRow w2 (b0 + 1) 0 (0 + N) ∧ Below w.heap.size w w2) := Lib.hid ⟨r1, by rw [Nat.zero_add]; exact r2, hbel2⟩
  have HW := Lib.hid hw1
  have HW2 := Lib.hid hw2
  have HB := Lib.hid hb0
  have HSZ := Lib.hid hsz
  have HH : Hid (1 ≤ N ∧ N ≤ 1099511627776 ∧ lo < hi ∧ hi ≤ N ∧ w.heap.size ≤ b0) := Lib.hid ⟨h1, h2, h3, h4, by omega⟩
  obtain ⟨T, hT⟩ : ∃ T, T = decide ((lo, hi) ∈ wayT 0 N lo hi) := ⟨_, rfl⟩
  rw [← hT]
  have HT := Lib.hid hT
  clear h1 h2 h3 h4 hb0 hw1 hw2 hbel hbel2 r0 r1 r2 hsz hT
  go_enter Tryd.func16, Tryd.ntmps16
  go_upto_region 1 with fail
  rw [← HW.out, ← HB.out]
  go_wp2_with fail
  rw [← HW2.out, HSZ.out]
  clear d0 d1 e1 e2 e3 e4 e5
  go_loopw [4] (fun v wr => v = .bool false ∧ Hid (∃ b n, T = decide ((lo, hi) ∈ wayT b n lo hi) ∧ 1 ≤ n ∧ b + n ≤ N ∧ spRow wr b0 lo hi ∧ spRow wr (b0 + 1) b (b + n) ∧ Below w.heap.size w wr)) (fun _ wr => spLen wr (b0 + 1))
  case atStart => exact ⟨rfl, Lib.hid ⟨0, N, HT.out, HH.out.1, by omega, HS.out⟩⟩
  case round =>
    clear HS
    obtain ⟨rfl, hinv⟩ := hrel
    obtain ⟨b, n, q1, q2, q3, q4, q5, q6⟩ := hinv.out
    obtain ⟨e, he⟩ : ∃ e, e = b + n := ⟨_, rfl⟩
    rw [← he] at q5
    obtain ⟨s0, s1, _⟩ := q4.at
    obtain ⟨d0, d1, df⟩ := q5.at
    have hsub : (e : Int) - (b : Int) = (n : Int) := by omega
    have HQ : Hid (T = decide ((lo, hi) ∈ wayT b n lo hi) ∧ 1 ≤ n ∧ b + n ≤ N ∧ e = b + n ∧ spRow wr b0 lo hi ∧ spRow wr (b0 + 1) b e ∧ Below w.heap.size w wr) := Lib.hid ⟨q1, q2, q3, he, q4, q5, q6⟩
    have heb : e ≤ 1099511627776 := by have := HH.out; omega
    have hnb : n ≤ 1099511627776 := by omega
    clear hinv q1 q2 q3 q4 q5 q6 he
    by_cases hat : b = lo ∧ e = hi
    · have hq : ∀ w', (binOp .neq 29 (.agg #[.int .i64 (b : Int), .int .i64 (e : Int)]) (.agg #[.int .i64 (lo : Int), .int .i64 (hi : Int)])).run Tryd.prog w' = .ok (.bool false) w' := fun w' => by
        rw [span_neq, hat.1, hat.2]; simp
      have hTt : T = true := by
        rw [HQ.out.1, decide_eq_true_eq, ← hat.1, ← hat.2, HQ.out.2.2.2.1]
        exact way_at n b
      subst hTt
      clear hat
      go_wp2_with fail
      go_ret
      exact ⟨rfl, HQ.out.2.2.2.2.2.2⟩
    · have hq : ∀ w', (binOp .neq 29 (.agg #[.int .i64 (b : Int), .int .i64 (e : Int)]) (.agg #[.int .i64 (lo : Int), .int .i64 (hi : Int)])).run Tryd.prog w' = .ok (.bool true) w' := fun w' => by
        rw [span_neq]
        have : ((b : Int) == (lo : Int) && (e : Int) == (hi : Int)) = false := by
          rw [Bool.and_eq_false_iff]
          simp only [beq_eq_false_iff_ne]
          omega
        rw [this]; rfl
      have hne : ¬ (b = lo ∧ b + n = hi) := by have := HQ.out; omega
      have HNE := Lib.hid hne
      clear hat hne
      by_cases hn1 : n ≤ 1
      · have hTf : T = false := by rw [HQ.out.1]; exact decide_eq_false (way_no HNE.out (.inl hn1))
        subst hTf
        have hni : (n : Int) < 2 := by omega
        clear hn1
        go_wp2_with fail
        go_ret
        exact ⟨rfl, HQ.out.2.2.2.2.2.2⟩
      · have hni : ¬ (n : Int) < 2 := by omega
        have hsp := spl_lt (show 2 ≤ n by omega)
        obtain ⟨md, hmd⟩ : ∃ x, x = b + spl n := ⟨_, rfl⟩
        have CM : Hid (∀ w', Calls Tryd.prog 48 #[.agg #[.int .i64 (b : Int), .int .i64 (e : Int)]] w' fun r w2 => r = .returned (.int .i64 (md : Int)) ∧ Below w'.heap.size w' w2) := Lib.hid (fun w' => by
          have := rmiddle_any b e w' (by have := HQ.out; omega) (by omega)
          rwa [show e - b = n by have := HQ.out; omega, ← hmd] at this)
        have CL : Hid (∀ w', Calls Tryd.prog 49 #[.agg #[.int .i64 (b : Int), .int .i64 (e : Int)]] w' fun r w2 => r = .returned (spV b md) ∧ Below w'.heap.size w' w2) := Lib.hid (fun w' => by
          have := rleft_any b e w' (by have := HQ.out; omega) (by omega)
          rwa [show e - b = n by have := HQ.out; omega, ← hmd] at this)
        have CR : Hid (∀ w', Calls Tryd.prog 50 #[.agg #[.int .i64 (b : Int), .int .i64 (e : Int)]] w' fun r w2 => r = .returned (spV md e) ∧ Below w'.heap.size w' w2) := Lib.hid (fun w' => by
          have := rright_any b e w' (by have := HQ.out; omega) (by omega)
          rwa [show e - b = n by have := HQ.out; omega, ← hmd] at this)
        have HMD : Hid (md = b + spl n ∧ 1 < n ∧ 1 ≤ spl n ∧ spl n < n) := Lib.hid ⟨hmd, by omega, by omega, by omega⟩
        have HKP : Hid (∀ w', Below wr.heap.size wr w' → spRow w' b0 lo hi ∧ spRow w' (b0 + 1) b e ∧ Below w.heap.size w w') := Lib.hid (fun w' h => ⟨HQ.out.2.2.2.2.1.keep (h.block _ HQ.out.2.2.2.2.1.lt), HQ.out.2.2.2.2.2.1.keep (h.block _ HQ.out.2.2.2.2.2.1.lt), below_onS HQ.out.2.2.2.2.2.2 h HQ.out.2.2.2.2.2.2.size⟩)
        have hlenB := HQ.out.2.2.2.2.2.1.len
        have HLB := Lib.hid hlenB
        clear hn1 hsp hmd hlenB
        by_cases hA : hi ≤ md
        · have hAi : (hi : Int) ≤ (md : Int) := by omega
          have HW3 : Hid (T = decide ((lo, hi) ∈ wayT b (spl n) lo hi)) := Lib.hid (by rw [HQ.out.1, decide_eq_decide]; exact way_left_iff HMD.out.2.1 HNE.out (by have := HMD.out; omega))
          clear hA
          go_wp2_with (first
            | (go_at_call 48; (with_reducible refine (CM.out _).mono ?_); rintro r w5 ⟨rfl, hb5⟩; obtain ⟨k1, k2, k3⟩ := HKP.out w5 hb5; obtain ⟨x0, x1, _⟩ := k1.at; obtain ⟨y0, y1, _⟩ := k2.at; have HB5 := Lib.hid hb5; clear hb5 k1 k2 k3)
            | (go_at_call 49; (with_reducible refine (CL.out _).mono ?_); rintro r w6 ⟨rfl, hb6⟩; have hb56 := below_onS HB5.out hb6 HB5.out.size; obtain ⟨k1, k2, k3⟩ := HKP.out w6 hb56; obtain ⟨z0, z1, zf⟩ := k2.at; have HK6 := Lib.hid (And.intro k1 (And.intro k2 k3)); clear hb6 k1 k2 k3 hb56))
          have hrow := HK6.out.2.1.set b md
          have hlenA := hrow.len
          refine ⟨⟨rfl, Lib.hid ⟨b, spl n, HW3.out, HMD.out.2.2.1, by have := HQ.out; have := HMD.out; omega, ?_, by rw [← HMD.out.1]; exact hrow, ?_⟩⟩, ?_⟩
          · exact HK6.out.1.keep ((Below.heap_setCell _ _ _ _ (by show b0 ≠ b0 + 1; omega)).trans (Below.heap_setCell _ _ _ _ (by show b0 ≠ b0 + 1; omega)))
          · exact (HK6.out.2.2.setCell (p := ⟨b0 + 1, 0, none⟩) (by have := HH.out; show w.heap.size ≤ b0 + 1; omega) _).setCell (p := ⟨b0 + 1, 1, none⟩) (by have := HH.out; show w.heap.size ≤ b0 + 1; omega) _
          · have := HLB.out; have := HMD.out; have := HQ.out; omega
        · have hAi : ¬ (hi : Int) ≤ (md : Int) := by omega
          by_cases hC : md ≤ lo
          · have hCi : (md : Int) ≤ (lo : Int) := by omega
            have HW3 : Hid (T = decide ((lo, hi) ∈ wayT (b + spl n) (n - spl n) lo hi)) := Lib.hid (by rw [HQ.out.1, decide_eq_decide]; exact way_right_iff HMD.out.2.1 HNE.out (by have := HMD.out; omega) (by have := HMD.out; omega))
            clear hA hC
            go_wp2_with (first
              | (go_at_call 48; (with_reducible refine (CM.out _).mono ?_); rintro r w5 ⟨rfl, hb5⟩; obtain ⟨k1, k2, k3⟩ := HKP.out w5 hb5; obtain ⟨x0, x1, _⟩ := k1.at; obtain ⟨y0, y1, _⟩ := k2.at; have HB5 := Lib.hid hb5; clear hb5 k1 k2 k3)
              | (go_at_call 50; (with_reducible refine (CR.out _).mono ?_); rintro r w6 ⟨rfl, hb6⟩; have hb56 := below_onS HB5.out hb6 HB5.out.size; obtain ⟨k1, k2, k3⟩ := HKP.out w6 hb56; obtain ⟨z0, z1, zf⟩ := k2.at; have HK6 := Lib.hid (And.intro k1 (And.intro k2 k3)); clear hb6 k1 k2 k3 hb56))
            have hrow := HK6.out.2.1.set md e
            have hlenA := hrow.len
            refine ⟨⟨rfl, Lib.hid ⟨b + spl n, n - spl n, HW3.out, by have := HMD.out; omega, by have := HQ.out; have := HMD.out; omega, ?_, by rw [show b + spl n + (n - spl n) = e by have := HMD.out; have := HQ.out; omega, ← HMD.out.1]; exact hrow, ?_⟩⟩, ?_⟩
            · exact HK6.out.1.keep ((Below.heap_setCell _ _ _ _ (by show b0 ≠ b0 + 1; omega)).trans (Below.heap_setCell _ _ _ _ (by show b0 ≠ b0 + 1; omega)))
            · exact (HK6.out.2.2.setCell (p := ⟨b0 + 1, 0, none⟩) (by have := HH.out; show w.heap.size ≤ b0 + 1; omega) _).setCell (p := ⟨b0 + 1, 1, none⟩) (by have := HH.out; show w.heap.size ≤ b0 + 1; omega) _
            · have := HLB.out; have := HMD.out; have := HQ.out; omega
          · have hCi : ¬ (md : Int) ≤ (lo : Int) := by omega
            have hTf : T = false := by rw [HQ.out.1]; exact decide_eq_false (way_no HNE.out (.inr ⟨by have := HMD.out; omega, by have := HMD.out; omega⟩))
            subst hTf
            clear hA hC
            go_wp2_with (first
              | (go_at_call 48; (with_reducible refine (CM.out _).mono ?_); rintro r w5 ⟨rfl, hb5⟩; obtain ⟨k1, k2, k3⟩ := HKP.out w5 hb5; obtain ⟨x0, x1, _⟩ := k1.at; have HK5 := Lib.hid k3; clear hb5 k1 k2 k3))
            go_ret
            exact ⟨rfl, HK5.out⟩
theorem rinside_any (n b e : Int) (w : World) :
    Calls Tryd.prog 16 #[.int .i64 n, .agg #[.int .i64 b, .int .i64 e]] w fun r w' => r = .returned (.bool (insideZ n b e)) ∧ Below w.heap.size w w' := by
  by_cases h : 1 ≤ n ∧ n ≤ 1099511627776 ∧ 0 ≤ b ∧ b < e ∧ e ≤ n
  · unfold insideZ
    rw [if_pos h]
    obtain ⟨n, rfl⟩ := Int.eq_ofNat_of_zero_le (show 0 ≤ n by omega)
    obtain ⟨b, rfl⟩ := Int.eq_ofNat_of_zero_le (show 0 ≤ b by omega)
    obtain ⟨e, rfl⟩ := Int.eq_ofNat_of_zero_le (show 0 ≤ e by omega)
    exact rin_yes n b e w (by omega) (by omega) (by omega) (by omega)
  · have e0 : insideZ n b e = false := if_neg h
    rw [e0]
    by_cases h1 : n < 1
    · exact rin_noA n b e w h1
    · by_cases h2 : 1099511627776 < n
      · exact rin_noC n b e w (by omega) h2
      · by_cases h3 : b < 0
        · exact rin_noB n b e w (by omega) (by omega) h3
        · by_cases h4 : e ≤ b
          · exact rin_noE n b e w (by omega) (by omega) (by omega) h4
          · exact rin_noN n b e w (by omega) (by omega) (by omega) (by omega) (by omega)
end Go.Proofs.YteknpnanmbfhfaaDoor
/- The document's Fold and Run, walked. -/
namespace Go.Proofs.YteknpnanmbfhfaaDoor
open Go.RowKit Go.Scr Go.Shelf
set_option linter.unusedVariables false
set_option maxRecDepth 100000 in
set_option maxHeartbeats 4000000 in
theorem rfold_any (n lo hi : Int) (vs vh : Value) (S : List (Int × Int)) (H : List ByteArray) (w : World) (hs : SpZ w vs S) (hh : Txts w vh H) :
    Calls Tryd.prog 61 #[.int .i64 n, vs, vh, .agg #[.int .i64 lo, .int .i64 hi]] w fun r w' => r = .returned (foldPV (foldP n S H lo hi)) ∧ Below w.heap.size w w' := by
  obtain ⟨b0, hb0⟩ : ∃ x, x = w.heap.size := ⟨_, rfl⟩
  obtain ⟨w1, hw1⟩ : ∃ x, x = w.alloc (.cells #[.int .i64 lo, .int .i64 hi] 29) := ⟨_, rfl⟩
  have hbel : Below w.heap.size w w1 := by rw [hw1]; exact (Below.refl _ _).alloc (Nat.le_refl _) _
  have r0 : w1.heap[b0]? = some (.cells #[.int .i64 lo, .int .i64 hi] 29 (0, 0)) := by rw [hw1, hb0]; exact heap_alloc_new w _
  have d0 : w1.cell? ⟨b0, 0, none⟩ = some (.int .i64 lo) := cell_of_row _ _ _ _ _ _ r0
  have d1 : w1.cell? ⟨b0, 1, none⟩ = some (.int .i64 hi) := cell_of_row _ _ _ _ _ _ r0
  have CI : Hid (∀ w', Calls Tryd.prog 16 #[.int .i64 n, .agg #[.int .i64 lo, .int .i64 hi]] w' fun r w2 => r = .returned (.bool (insideZ n lo hi)) ∧ Below w'.heap.size w' w2) := Lib.hid (fun w' => rinside_any n lo hi w')
  obtain ⟨p, c, rfl, s1, s2, s3, s4⟩ := id hs
  obtain ⟨q, cq, rfl, t1, t2, t3⟩ := id hh
  obtain ⟨m, hm⟩ : ∃ m, m = S.length := ⟨_, rfl⟩
  obtain ⟨k, hk⟩ : ∃ k, k = H.length := ⟨_, rfl⟩
  have HST : Hid (∀ w2, Below w1.heap.size w1 w2 → Below w.heap.size w w2 ∧ SpZ w2 (.slice p S.length c) S ∧ Txts w2 (.slice q H.length cq) H ∧ w2.cell? ⟨b0, 0, none⟩ = some (.int .i64 lo) ∧ w2.cell? ⟨b0, 1, none⟩ = some (.int .i64 hi)) := Lib.hid (fun w2 h => by
    have hb2 := below_onS hbel h hbel.size
    have e := h.block b0 (block_lt_of_cell d0)
    exact ⟨hb2, hs.below hb2 (Nat.le_refl _), hh.below hb2 (Nat.le_refl _), (World.cell?_of_block e).trans d0, (World.cell?_of_block e).trans d1⟩)
  obtain ⟨R, hR⟩ : ∃ R, R = foldP n S H lo hi := ⟨_, rfl⟩
  have HR := Lib.hid hR
  have HM := Lib.hid hm
  have HK := Lib.hid hk
  have HW := Lib.hid hw1
  have HB := Lib.hid hb0
  have HBEL := Lib.hid hbel
  rw [← hm] at s1 s2
  rw [← hk] at t1 t2
  rw [← hm, ← hk, ← hR]
  clear hs hh hw1 hb0 hbel r0 s3 s4 t3 hm hk hR
  by_cases hn : n < 1 ∨ 1099511627776 < n
  · have hr : R = (⟨#[]⟩, 81) := by rw [HR.out, foldP, if_pos hn]
    subst hr
    by_cases hn1 : n < 1
    · clear hn
      go_enter Tryd.func61, Tryd.ntmps61
      go_upto_region 1 with fail
      rw [← HW.out, ← HB.out]
      go_wp2_with fail
      go_ret2
      exact ⟨rfl, HBEL.out⟩
    · have hn2 : 1099511627776 < n := by omega
      clear hn
      go_enter Tryd.func61, Tryd.ntmps61
      go_upto_region 1 with fail
      rw [← HW.out, ← HB.out]
      go_wp2_with fail
      go_ret2
      exact ⟨rfl, HBEL.out⟩
  · have HN := Lib.hid hn
    have hn1 : ¬ n < 1 := by omega
    have hn2 : ¬ 1099511627776 < n := by omega
    clear hn
    by_cases hmk : m = k
    · subst hmk
      by_cases h4 : 4096 < m
      · have h4i : (4096 : Int) < (m : Int) := by omega
        have hr : R = (⟨#[]⟩, 83) := by rw [HR.out, foldP, if_neg HN.out, if_pos (.inr (by have := HM.out; omega))]
        subst hr
        clear h4
        go_enter Tryd.func61, Tryd.ntmps61
        go_upto_region 1 with fail
        rw [← HW.out, ← HB.out]
        go_wp2_with fail
        go_ret2
        exact ⟨rfl, HBEL.out⟩
      · have h4i : ¬ (4096 : Int) < (m : Int) := by omega
        have h3 : ¬ (S.length ≠ H.length ∨ 4096 < S.length) := by have := HM.out; have := HK.out; omega
        have HR3 := Lib.hid h3
        have hm4 : m ≤ 4096 := by omega
        clear h4 h3
        go_enter Tryd.func61, Tryd.ntmps61
        go_upto_region 1 with fail
        rw [← HW.out, ← HB.out]
        go_wp2_with fail
        go_loopw [10] (fun x wr => ∃ i : Nat, x = .int .i64 (i : Int) ∧ Hid (i ≤ m ∧ ok32 (H.take i) = true ∧ Below w1.heap.size w1 wr)) (fun x _ => m - (intOf x).toNat)
        case atStart => exact ⟨0, rfl, Lib.hid ⟨Nat.zero_le _, rfl, Below.refl _ _⟩⟩
        case round =>
          obtain ⟨i, rfl, HI⟩ := hrel
          clear d0 d1
          obtain ⟨a0, a1, a2, d0, d1⟩ := HST.out _ HI.out.2.2
          have him : i ≤ 4096 := by have := HI.out.1; omega
          by_cases hlt : i < m
          · have hlti : (i : Int) < (m : Int) := by omega
            have hi0 : (0 : Int) ≤ (i : Int) := by omega
            obtain ⟨xh, hxh⟩ : ∃ x, H[i]? = some x := ⟨H[i]'(by have := HK.out; omega), List.getElem?_eq_getElem _⟩
            obtain ⟨q', cq', hqe, _, _, htc⟩ := a2
            cases hqe
            obtain ⟨qa, rfl, hq0⟩ := htc i xh hxh
            have HX : Hid (H[i]? = some xh ∧ i < m) := Lib.hid ⟨hxh, hlt⟩
            clear htc hlt hxh a0 a1 d0 d1
            by_cases h32 : xh.size = 32
            · have h32i : ((xh.size : Int) != 32) = false := by rw [bne_eq_false_iff_eq]; omega
              have H32 := Lib.hid h32
              clear h32
              go_wp2_with fail
              refine ⟨⟨i + 1, by simp, Lib.hid ⟨HX.out.2, by rw [ok32_take HX.out.1, HI.out.2.1]; simp [H32.out], HI.out.2.2⟩⟩, ?_⟩
              show m - ((i : Int) + 1).toNat < m - ((i : Int)).toNat
              have := HX.out.2
              omega
            · have h32i : ((xh.size : Int) != 32) = true := by rw [bne_iff_ne]; omega
              have hr : R = (⟨#[]⟩, 1) := by rw [HR.out, foldP, if_neg HN.out, if_neg HR3.out, if_pos (ok32_bad HX.out.1 h32)]
              subst hr
              clear h32
              go_wp2_with fail
              go_ret2
              exact ⟨rfl, (HST.out _ HI.out.2.2).1⟩
          · have hlti : ¬ (i : Int) < (m : Int) := by omega
            have H32 : Hid (ok32 H = true) := Lib.hid (by have := HI.out.2.1; rwa [List.take_of_length_le (by have := HK.out; omega)] at this)
            clear hlt
            cases hin : insideZ n lo hi with
            | false =>
              rw [hin] at CI
              have hr : R = (⟨#[]⟩, 80) := by rw [HR.out, foldP, if_neg HN.out, if_neg HR3.out, if_neg (by rw [H32.out]; decide), if_pos hin]
              subst hr
              clear hin
              go_wp2_with (first
                | (go_at_call 16; (with_reducible refine (CI.out _).mono ?_); rintro r w2 ⟨rfl, hb2⟩; have HB2 := Lib.hid (below_onS a0 hb2 a0.size); clear hb2))
              go_ret2
              exact ⟨rfl, HB2.out⟩
            | true =>
              have hin2 : 1 ≤ n ∧ n ≤ 1099511627776 ∧ 0 ≤ lo ∧ lo < hi ∧ hi ≤ n := by
                unfold insideZ at hin
                by_cases h : 1 ≤ n ∧ n ≤ 1099511627776 ∧ 0 ≤ lo ∧ lo < hi ∧ hi ≤ n
                · exact h
                · rw [if_neg h] at hin; cases hin
              have HIN := Lib.hid hin
              rw [hin] at CI
              clear hin
              obtain ⟨lo, rfl⟩ := Int.eq_ofNat_of_zero_le hin2.2.2.1
              obtain ⟨hi, rfl⟩ := Int.eq_ofNat_of_zero_le (show 0 ≤ hi by omega)
              obtain ⟨T, hT⟩ : ∃ T, T = foldX S H (hi - lo) lo := ⟨_, rfl⟩
              have hhl : lo + (hi - lo) = hi := by omega
              have hr : R = foldO T := by
                rw [HR.out, foldP, if_neg HN.out, if_neg HR3.out, if_neg (by rw [H32.out]; decide), if_neg (by rw [HIN.out]; decide)]
                rw [show ((hi : Int) - (lo : Int)).toNat = hi - lo by omega, show (lo : Int).toNat = lo by omega, hT, foldX, hhl]
              have CF : Hid (∀ w', SpZ w' (.slice p S.length c) S → Calls Tryd.prog 85 #[.slice p S.length c, .agg #[.int .i64 (lo : Int), .int .i64 (hi : Int)]] w' fun r w2 => r = .returned (.bool T.isSome) ∧ Below w'.heap.size w' w2) := Lib.hid (fun w' h => by
                have := folds_any _ S H (by have := HM.out; have := HK.out; omega) (hi - lo) lo w' (by omega) (by omega) h
                rwa [hhl, ← hT] at this)
              have CG : Hid (∀ w' x, T = some x → SpZ w' (.slice p S.length c) S → Txts w' (.slice q H.length cq) H → Calls Tryd.prog 86 #[.slice p S.length c, .slice q H.length cq, .agg #[.int .i64 (lo : Int), .int .i64 (hi : Int)]] w' fun r w2 => r = .returned (.string x) ∧ Below w'.heap.size w' w2) := Lib.hid (fun w' x hx h h2 => by
                have := folded_any _ _ S H (by have := HM.out; have := HK.out; omega) (hi - lo) lo w' (by omega) (by omega) h x h2 (by rw [← hT]; exact hx)
                rwa [hhl] at this)
              have HRR := Lib.hid hr
              have HBI := Lib.hid HI.out.2.2
              clear hr hT hin2 hhl
              rw [← HM.out] at CF CG
              rw [← HK.out] at CG
              cases T with
              | none =>
                have hr : R = (⟨#[]⟩, 82) := HRR.out
                subst hr
                have CF := Lib.hid (show ∀ w', SpZ w' (.slice p m c) S → Calls Tryd.prog 85 #[.slice p m c, .agg #[.int .i64 (lo : Int), .int .i64 (hi : Int)]] w' (fun r w2 => r = .returned (.bool false) ∧ Below w'.heap.size w' w2) from CF.out)
                go_wp2_with (first
                  | (go_at_call 16; (with_reducible refine (CI.out _).mono ?_); rintro r w2 ⟨rfl, hb2⟩; have HB2 := Lib.hid (below_onS HBI.out hb2 HBI.out.size); obtain ⟨f0, f1, f2, x0, x1⟩ := HST.out _ HB2.out; rw [← HM.out] at f1; have HF1 := Lib.hid f1; clear hb2 f0 f1 f2)
                  | (go_at_call 85; (with_reducible refine (CF.out _ HF1.out).mono ?_); rintro r w3 ⟨rfl, hb3⟩; have HB3 := Lib.hid (below_onS HB2.out hb3 HB2.out.size); clear hb3))
                go_ret2
                exact ⟨rfl, (HST.out _ HB3.out).1⟩
              | some h1 =>
                have hr : R = (h1, 0) := HRR.out
                subst hr
                have CF := Lib.hid (show ∀ w', SpZ w' (.slice p m c) S → Calls Tryd.prog 85 #[.slice p m c, .agg #[.int .i64 (lo : Int), .int .i64 (hi : Int)]] w' (fun r w2 => r = .returned (.bool true) ∧ Below w'.heap.size w' w2) from CF.out)
                have CG := Lib.hid (fun w' => CG.out w' h1 rfl)
                go_wp2_with (first
                  | (go_at_call 16; (with_reducible refine (CI.out _).mono ?_); rintro r w2 ⟨rfl, hb2⟩; have HB2 := Lib.hid (below_onS HBI.out hb2 HBI.out.size); obtain ⟨f0, f1, f2, x0, x1⟩ := HST.out _ HB2.out; rw [← HM.out] at f1; have HF1 := Lib.hid f1; clear hb2 f0 f1 f2)
                  | (go_at_call 85; (with_reducible refine (CF.out _ HF1.out).mono ?_); rintro r w3 ⟨rfl, hb3⟩; have HB3 := Lib.hid (below_onS HB2.out hb3 HB2.out.size); obtain ⟨f0, f1, f2, y0, y1⟩ := HST.out _ HB3.out; rw [← HM.out] at f1; rw [← HK.out] at f2; have HF3 := Lib.hid (And.intro f1 f2); clear hb3 f0 f1 f2)
                  | (go_at_call 86; (with_reducible refine (CG.out _ HF3.out.1 HF3.out.2).mono ?_); rintro r w4 ⟨rfl, hb4⟩; have HB4 := Lib.hid (below_onS HB3.out hb4 HB3.out.size); clear hb4))
                go_ret2
                exact ⟨rfl, (HST.out _ HB4.out).1⟩
    · have hmki : ((m : Int) != (k : Int)) = true := by rw [bne_iff_ne]; omega
      have hr : R = (⟨#[]⟩, 83) := by rw [HR.out, foldP, if_neg HN.out, if_pos (.inl (by have := HM.out; have := HK.out; omega))]
      subst hr
      clear hmk
      go_enter Tryd.func61, Tryd.ntmps61
      go_upto_region 1 with fail
      rw [← HW.out, ← HB.out]
      go_wp2_with fail
      go_ret2
      exact ⟨rfl, HBEL.out⟩
end Go.Proofs.YteknpnanmbfhfaaDoor
