/- Law 8, walked: ShapeInside. -/
import Derived.Test.YteknpnanmbfhfaaDoorMa25
namespace Go.Proofs.YteknpnanmbfhfaaDoor
open Go.RowKit Go.Scr Go.Shelf
set_option linter.unusedVariables false
theorem insideZ_sub {N b n : Nat} (h : SubT N b n) (h1 : 1 ≤ N) (h2 : N ≤ 1099511627776) : insideZ (N : Int) (b : Int) ((b + n : Nat) : Int) = true := by
  have hf := h.fits h1
  unfold insideZ
  rw [if_pos (by omega), decide_eq_true_eq, Int.toNat_natCast, Int.toNat_natCast, Int.toNat_natCast]
  exact h.mem hf.1
theorem insideZ_beside {N b n : Nat} (h : SubT N b n) (hn : 2 < n) : insideZ (N : Int) ((b : Int) + 1) (((b + n : Nat) : Int) + 1) = false := by
  unfold insideZ
  split
  · rename_i hc
    rw [decide_eq_false_iff_not]
    intro hm
    rw [show (N : Int).toNat = N by omega, show ((b : Int) + 1).toNat = b + 1 by omega, show (((b + n : Nat) : Int) + 1).toNat = b + n + 1 by omega] at hm
    have := subT_of_mem N 0 _ .root hm
    rw [show (b + 1, b + n + 1).1 = b + 1 from rfl, show (b + 1, b + n + 1).2 = b + n + 1 from rfl, show b + n + 1 - (b + 1) = n by omega] at this
    exact subT_beside h hn this
  · rfl
theorem insideZ_over {n b e : Int} (h : n < e) : insideZ n b e = false := by
  unfold insideZ
  rw [if_neg (by omega)]
theorem insideZ_size {n b e : Int} (h : n < 1 ∨ 1099511627776 < n) : insideZ n b e = false := by
  unfold insideZ
  rw [if_neg (by omega)]
set_option maxRecDepth 100000 in
set_option maxHeartbeats 8000000 in
theorem shapeinside_any (s0 s1 : Int) (w : World) (ht : Tabs w) (hb0 : -9223372036854775808 ≤ s0 ∧ s0 ≤ 9223372036854775807) (hb1 : -9223372036854775808 ≤ s1 ∧ s1 ≤ 9223372036854775807) :
    Calls Tryd.prog 4 #[.int .i64 s0, .int .i64 s1] w fun r w' => r = .returned (.bool true) ∧ Below w.heap.size w w' := by
  have CK := Lib.hid (known8_any w ht)
  obtain ⟨m, hm⟩ : ∃ m, m = pickN s0 1099511627776 := ⟨_, rfl⟩
  have hm2 : m < 1099511627776 := by rw [hm]; exact pickN_lt _ (by decide)
  have CP : Hid (∀ w', Calls Tryd.prog 11 #[.int .i64 s0, .int .i64 1099511627776] w' fun e w2 => e = .returned (.int .i64 (m : Int)) ∧ w2 = w') := Lib.hid (fun w' => by
    rw [hm]
    exact pick8_any s0 1099511627776 w' (by decide) (by decide) hb0)
  obtain ⟨N, hN⟩ : ∃ N, N = 1 + m := ⟨_, rfl⟩
  have hNi : 1 + (m : Int) = (N : Int) := by omega
  have CB : Hid (∀ w', Calls Tryd.prog 18 #[.int .i64 (N : Int), .int .i64 s1] w' fun r w2 => (∃ b e n, r = .returned (spV b e) ∧ e = b + n ∧ SubT N b n) ∧ Below w'.heap.size w' w2) := Lib.hid (fun w' => by
    refine (below_any N s1 w' (by omega) (by omega) hb1).mono ?_
    rintro r w2 ⟨⟨b, n, h1, h2⟩, h3⟩
    exact ⟨⟨b, b + n, n, h1, rfl, h2⟩, h3⟩)
  have HN : Hid (1 ≤ N ∧ N ≤ 1099511627776) := Lib.hid ⟨by omega, by omega⟩
  have HB0 := Lib.hid (Below.refl w.heap.size w)
  clear hm hN ht hb0 hb1
  go_enter Tryd.func4, Tryd.ntmps4
  go_upto_region 3 with (first
    | (go_at_call 10; with_reducible refine CK.out.mono ?_; rintro r w2 ⟨rfl, hb2⟩; have HB2 := Lib.hid hb2; clear hb2)
    | (go_at_call 11; with_reducible refine (CP.out _).mono ?_; rintro r wx ⟨rfl, hwx⟩; rw [hwx]; clear hwx wx))
  go_upto_region 4 with (go_at_call 18; refine (CB.out _).mono ?_; rintro r w3 ⟨⟨b, e, n, rfl, he, hsub⟩, hb3⟩; have HSUB := Lib.hid hsub; have HB3 := Lib.hid hb3; have HEE := Lib.hid he; clear hsub hb3 he)
  have he := HEE.out
  obtain ⟨B7, hB7⟩ : ∃ x, x = w3.heap.size := ⟨_, rfl⟩
  obtain ⟨wA, hwA⟩ : ∃ x, x = w3.alloc (.cells #[.int .i64 (b : Int), .int .i64 (e : Int)] 29) := ⟨_, rfl⟩
  have hb3w := below_onS HB2.out HB3.out HB2.out.size
  have hbA : Below w.heap.size w wA := by rw [hwA]; exact hb3w.alloc hb3w.size _
  have r7 : spRow wA B7 b e := by rw [hwA, hB7]; exact heap_alloc_new w3 _
  rw [← hwA, ← hB7]
  obtain ⟨d0, d1, _⟩ := r7.at
  have HR7 := Lib.hid r7
  have HBA := Lib.hid hbA
  have HE : Hid (e = b + n ∧ SubT N b n ∧ 1 ≤ n ∧ b + n ≤ N ∧ w.heap.size ≤ B7) := Lib.hid ⟨he, HSUB.out, (HSUB.out.fits HN.out.1).1, (HSUB.out.fits HN.out.1).2, by rw [hB7]; exact hb3w.size⟩
  have heb : e ≤ 1099511627776 := by have := HE.out; have := HN.out; omega
  have hbb : b ≤ 1099511627776 := by have := HE.out; omega
  have CI1 := Lib.hid (fun w' => inside_any (N : Int) (b : Int) (e : Int) w')
  rw [show insideZ (N : Int) (b : Int) (e : Int) = true by rw [HE.out.1]; exact insideZ_sub HSUB.out HN.out.1 HN.out.2] at CI1
  obtain ⟨v1, hv1⟩ : ∃ x, x = insideZ (N : Int) ((b : Int) + 1) ((e : Int) + 1) := ⟨_, rfl⟩
  obtain ⟨v2, hv2⟩ : ∃ x, x = insideZ (N : Int) (b : Int) ((e : Int) + 1) := ⟨_, rfl⟩
  have CI2 := Lib.hid (fun w' => inside_any (N : Int) ((b : Int) + 1) ((e : Int) + 1) w')
  have CI3 := Lib.hid (fun w' => inside_any (N : Int) (b : Int) ((e : Int) + 1) w')
  rw [← hv1] at CI2
  rw [← hv2] at CI3
  have CI4 := Lib.hid (fun w' => inside_any 0 (b : Int) (e : Int) w')
  rw [insideZ_size (by omega)] at CI4
  have CI5 := Lib.hid (fun w' => inside_any 1099511627777 (b : Int) (e : Int) w')
  rw [insideZ_size (by omega)] at CI5
  have HV1 := Lib.hid hv1
  have HV2 := Lib.hid hv2
  clear he hB7 hwA hbA r7 hb3w hv1 hv2
  go_upto_region 5 with (go_at_call 15; with_reducible refine (CI1.out _).mono ?_; rintro r w4 ⟨rfl, hb4⟩; have HB4 := Lib.hid hb4; clear hb4)
  clear d0 d1
  have r7 := HR7.out.keep (HB4.out.block _ HR7.out.lt)
  obtain ⟨d0, d1, _⟩ := r7.at
  have HR74 := Lib.hid r7
  have m0 : ∀ o, (w4.alloc o).cell? ⟨B7, 0, none⟩ = some (.int .i64 (b : Int)) := fun o => (HR74.out.keep (Below.heap_alloc w4 o B7 HR74.out.lt)).at.1
  have m1 : ∀ o, (w4.alloc o).cell? ⟨B7, 1, none⟩ = some (.int .i64 (e : Int)) := fun o => (HR74.out.keep (Below.heap_alloc w4 o B7 HR74.out.lt)).at.2.1
  clear r7
  go_upto_region 10 with fail
  clear d0 d1 m0 m1
  obtain ⟨B9, hB9⟩ : ∃ x, x = w4.heap.size := ⟨_, rfl⟩
  obtain ⟨wC, hwC⟩ : ∃ x, x = (w4.alloc (.cells #[.int .i64 ((b : Int) + 1), .int .i64 ((e : Int) + 1)] 29)).alloc (.cells #[.int .i64 (b : Int), .int .i64 ((e : Int) + 1)] 29) := ⟨_, rfl⟩
  have hb4w := below_onS HBA.out HB4.out HBA.out.size
  have hbC : Below w4.heap.size w4 wC := by rw [hwC]; exact ((Below.refl _ _).alloc (Nat.le_refl _) _).alloc (by simp) _
  have r9 : wC.heap[B9]? = some (.cells #[.int .i64 ((b : Int) + 1), .int .i64 ((e : Int) + 1)] 29 (0, 0)) := by rw [hwC, hB9]; exact blk_alloc (heap_alloc_new w4 _)
  have r10 : wC.heap[B9 + 1]? = some (.cells #[.int .i64 (b : Int), .int .i64 ((e : Int) + 1)] 29 (0, 0)) := by rw [hwC, hB9]; exact heap_alloc_at _ _ _ (by simp)
  rw [← hwC, ← hB9]
  have HC : Hid (Below w.heap.size w wC ∧ spRow wC B7 b e ∧ B9 + 1 < wC.heap.size ∧ wC.heap[B9 + 1]? = some (.cells #[.int .i64 (b : Int), .int .i64 ((e : Int) + 1)] 29 (0, 0))) := Lib.hid ⟨below_onS hb4w hbC hb4w.size, HR74.out.keep (hbC.block _ HR74.out.lt), (Array.getElem?_eq_some_iff.mp r10).1, r10⟩
  have c0 : wC.cell? ⟨B9, 0, none⟩ = some (.int .i64 ((b : Int) + 1)) := cell_of_row _ _ _ _ _ _ r9
  have c1 : wC.cell? ⟨B9, 1, none⟩ = some (.int .i64 ((e : Int) + 1)) := cell_of_row _ _ _ _ _ _ r9
  clear hB9 hwC hb4w hbC r9 r10
  go_upto_region 11 with (go_at_call 15; with_reducible refine (CI2.out _).mono ?_; rintro r w5 ⟨rfl, hb5⟩; have HB5 := Lib.hid hb5; clear hb5)
  clear c0 c1
  have r10 := (HB5.out.block _ HC.out.2.2.1).trans HC.out.2.2.2
  have c0 : w5.cell? ⟨B9 + 1, 0, none⟩ = some (.int .i64 (b : Int)) := cell_of_row _ _ _ _ _ _ r10
  have c1 : w5.cell? ⟨B9 + 1, 1, none⟩ = some (.int .i64 ((e : Int) + 1)) := cell_of_row _ _ _ _ _ _ r10
  have HR10 := Lib.hid r10
  clear r10
  go_upto_region 12 with (go_at_call 15; with_reducible refine (CI3.out _).mono ?_; rintro r w6 ⟨rfl, hb6⟩; have HB6 := Lib.hid hb6; clear hb6)
  clear c0 c1
  have r10 := (HB6.out.block _ (Array.getElem?_eq_some_iff.mp HR10.out).1).trans HR10.out
  have c1 : w6.cell? ⟨B9 + 1, 1, none⟩ = some (.int .i64 ((e : Int) + 1)) := cell_of_row _ _ _ _ _ _ r10
  have r7 := (HC.out.2.1.keep (HB5.out.block _ HC.out.2.1.lt))
  have r7b := r7.keep (HB6.out.block _ r7.lt)
  obtain ⟨d0, d1, _⟩ := r7b.at
  have hb6w : Below w.heap.size w w6 := by
    have h5 := below_onS HC.out.1 HB5.out HC.out.1.size
    exact below_onS h5 HB6.out h5.size
  have HB6W := Lib.hid hb6w
  have HR7B := Lib.hid r7b
  have hsubi : (e : Int) - (b : Int) = (n : Int) := by have := HE.out.1; omega
  have hnb : n ≤ 1099511627776 := by have := HE.out.1; omega
  clear r10 r7 r7b hb6w
  have hfin : ∀ (wf : World), Below w6.heap.size w6 wf → Below w.heap.size w wf := fun wf h => below_onS HB6W.out h HB6W.out.size
  have HFIN := Lib.hid hfin
  clear hfin
  by_cases hn : 2 < n
  · have hni : (2 : Int) < (n : Int) := by omega
    have hv : v1 = false := by rw [HV1.out, HE.out.1]; exact insideZ_beside HE.out.2.1 hn
    subst hv
    clear hn
    by_cases hb : 0 < b
    · have hbi : (0 : Int) < (b : Int) := by omega
      clear hb
      by_cases ho : N < e + 1
      · have hoi : (N : Int) < (e : Int) + 1 := by omega
        have hv : v2 = false := by rw [HV2.out]; exact insideZ_over hoi
        subst hv
        clear ho
        go_wp2_with (first
          | (go_at_call 15; with_reducible refine (CI4.out _).mono ?_; rintro r w7 ⟨rfl, hb7⟩; obtain ⟨g0, g1, _⟩ := (HR7B.out.keep (hb7.block _ HR7B.out.lt)).at; have HB7 := Lib.hid hb7; clear hb7)
          | (go_at_call 15; with_reducible refine (CI5.out _).mono ?_; rintro r w8 ⟨rfl, hb8⟩; have HB8 := Lib.hid hb8; clear hb8))
        go_ret
        exact ⟨rfl, HFIN.out _ (below_onS HB7.out HB8.out HB7.out.size)⟩
      · have hoi : ¬ (N : Int) < (e : Int) + 1 := by omega
        clear ho
        go_wp2_with (first
          | (go_at_call 15; with_reducible refine (CI4.out _).mono ?_; rintro r w7 ⟨rfl, hb7⟩; obtain ⟨g0, g1, _⟩ := (HR7B.out.keep (hb7.block _ HR7B.out.lt)).at; have HB7 := Lib.hid hb7; clear hb7)
          | (go_at_call 15; with_reducible refine (CI5.out _).mono ?_; rintro r w8 ⟨rfl, hb8⟩; have HB8 := Lib.hid hb8; clear hb8))
        go_ret
        exact ⟨rfl, HFIN.out _ (below_onS HB7.out HB8.out HB7.out.size)⟩
    · have hbi : ¬ (0 : Int) < (b : Int) := by omega
      clear hb
      by_cases ho : N < e + 1
      · have hoi : (N : Int) < (e : Int) + 1 := by omega
        have hv : v2 = false := by rw [HV2.out]; exact insideZ_over hoi
        subst hv
        clear ho
        go_wp2_with (first
          | (go_at_call 15; with_reducible refine (CI4.out _).mono ?_; rintro r w7 ⟨rfl, hb7⟩; obtain ⟨g0, g1, _⟩ := (HR7B.out.keep (hb7.block _ HR7B.out.lt)).at; have HB7 := Lib.hid hb7; clear hb7)
          | (go_at_call 15; with_reducible refine (CI5.out _).mono ?_; rintro r w8 ⟨rfl, hb8⟩; have HB8 := Lib.hid hb8; clear hb8))
        go_ret
        exact ⟨rfl, HFIN.out _ (below_onS HB7.out HB8.out HB7.out.size)⟩
      · have hoi : ¬ (N : Int) < (e : Int) + 1 := by omega
        clear ho
        go_wp2_with (first
          | (go_at_call 15; with_reducible refine (CI4.out _).mono ?_; rintro r w7 ⟨rfl, hb7⟩; obtain ⟨g0, g1, _⟩ := (HR7B.out.keep (hb7.block _ HR7B.out.lt)).at; have HB7 := Lib.hid hb7; clear hb7)
          | (go_at_call 15; with_reducible refine (CI5.out _).mono ?_; rintro r w8 ⟨rfl, hb8⟩; have HB8 := Lib.hid hb8; clear hb8))
        go_ret
        exact ⟨rfl, HFIN.out _ (below_onS HB7.out HB8.out HB7.out.size)⟩
  · have hni : ¬ (2 : Int) < (n : Int) := by omega
    clear hn
    by_cases ho : N < e + 1
    · have hoi : (N : Int) < (e : Int) + 1 := by omega
      have hv : v2 = false := by rw [HV2.out]; exact insideZ_over hoi
      subst hv
      clear ho
      go_wp2_with (first
        | (go_at_call 15; with_reducible refine (CI4.out _).mono ?_; rintro r w7 ⟨rfl, hb7⟩; obtain ⟨g0, g1, _⟩ := (HR7B.out.keep (hb7.block _ HR7B.out.lt)).at; have HB7 := Lib.hid hb7; clear hb7)
        | (go_at_call 15; with_reducible refine (CI5.out _).mono ?_; rintro r w8 ⟨rfl, hb8⟩; have HB8 := Lib.hid hb8; clear hb8))
      go_ret
      exact ⟨rfl, HFIN.out _ (below_onS HB7.out HB8.out HB7.out.size)⟩
    · have hoi : ¬ (N : Int) < (e : Int) + 1 := by omega
      clear ho
      go_wp2_with (first
        | (go_at_call 15; with_reducible refine (CI4.out _).mono ?_; rintro r w7 ⟨rfl, hb7⟩; obtain ⟨g0, g1, _⟩ := (HR7B.out.keep (hb7.block _ HR7B.out.lt)).at; have HB7 := Lib.hid hb7; clear hb7)
        | (go_at_call 15; with_reducible refine (CI5.out _).mono ?_; rintro r w8 ⟨rfl, hb8⟩; have HB8 := Lib.hid hb8; clear hb8))
      go_ret
      exact ⟨rfl, HFIN.out _ (below_onS HB7.out HB8.out HB7.out.size)⟩
end Go.Proofs.YteknpnanmbfhfaaDoor
