/- extract.down: which pair (printed by gen_ew2.py). -/
import Derived.Test.YtdbghgpohdijfaaGreatDoorMa40
import Derived.Test.YtdbghgpohdijfaaGreatDoorMa32
import Derived.Test.YtdbghgpohdijfaaGreatDoorMa41
import Derived.Test.YtdbghgpohdijfaaGreatDoorMa39
namespace Go.Proofs.YtdbghgpohdijfaaGreatDoor
open Go.RowKit Go.Scr
set_option linter.unusedVariables false
/-- the text of a list's root -/
def topT (A : List ByteArray) : ByteArray := txtS (rootR (A.take (spl A.length))) (rootR (A.drop (spl A.length)))
/-- the pair that the way down meets -/
inductive DnR : List ByteArray → List ByteArray → ByteArray → ByteArray → Prop
  | here {A B : List ByteArray} : topT A ≠ topT B → DnR A B (topT A) (topT B)
  | left {A B : List ByteArray} {p q : ByteArray} : topT A = topT B → A.take (spl A.length) ≠ B.take (spl A.length) → DnR (A.take (spl A.length)) (B.take (spl A.length)) p q → DnR A B p q
  | right {A B : List ByteArray} {p q : ByteArray} : topT A = topT B → A.take (spl A.length) = B.take (spl A.length) → DnR (A.drop (spl A.length)) (B.drop (spl A.length)) p q → DnR A B p q
theorem DnR.one {A B : List ByteArray} {p q : ByteArray} (h : DnR A B p q) : ∀ {p' q' : ByteArray}, DnR A B p' q' → p = p' ∧ q = q' := by
  induction h with
  | here hne =>
    intro p' q' h2
    cases h2 with
    | here _ => exact ⟨rfl, rfl⟩
    | left he _ _ => exact absurd he hne
    | right he _ _ => exact absurd he hne
  | left he ht _ ih =>
    intro p' q' h2
    cases h2 with
    | here hne => exact absurd he hne
    | left _ _ h3 => exact ih h3
    | right _ ht2 _ => exact absurd ht2 ht
  | right he ht _ ih =>
    intro p' q' h2
    cases h2 with
    | here hne => exact absurd he hne
    | left _ ht2 _ => exact absurd ht ht2
    | right _ _ h3 => exact ih h3
set_option maxRecDepth 100000 in
set_option maxHeartbeats 4000000 in
theorem down_anyQ (n : Nat) : ∀ (A B : List ByteArray) (va vb : Value) (w : World), Tabs w → Txts w va A → Txts w vb B → A.length = n → B.length = n → 1 ≤ n → n ≤ 4096 → (∀ s ∈ A, s.size = 32) → (∀ s ∈ B, s.size = 32) → A ≠ B → rootR A = rootR B →
    Calls Tryz.prog 34 #[va, vb] w (DownQ (DnR A B) w) := by
  induction n using Nat.strongRecOn with
  | ind n ih =>
  intro A B va vb w ht hva hvb hA hB h1 h4 h32a h32b hne hr
  rcases Nat.lt_or_ge n 2 with hlt | h2
  · exact absurd (one_same (by omega) (by omega) hr) hne
  obtain ⟨k, hk⟩ : ∃ k, k = spl n := ⟨_, rfl⟩
  have hs := spl_lt h2
  obtain ⟨d1, d2⟩ := down_step hA hB h2 h32a h32b hne hr
  rw [← hk] at hs d1 d2
  obtain ⟨pa, ca, rfl, ha1, ha2, _⟩ := id hva
  obtain ⟨pb, cb, rfl, hb1, hb2, _⟩ := id hvb
  rw [hA] at hva ha1 ha2 ⊢
  rw [hB] at hvb hb1 hb2 ⊢
  have hal : (A.take k).length = k := by rw [List.length_take]; omega
  have hbl : (B.take k).length = k := by rw [List.length_take]; omega
  have hal2 : (A.drop k).length = n - k := by rw [List.length_drop]; omega
  have hbl2 : (B.drop k).length = n - k := by rw [List.length_drop]; omega
  have z1 : ∀ s ∈ A.take k, s.size = 32 := fun s hs => h32a s (List.mem_of_mem_take hs)
  have z2 : ∀ s ∈ A.drop k, s.size = 32 := fun s hs => h32a s (List.mem_of_mem_drop hs)
  have z3 : ∀ s ∈ B.take k, s.size = 32 := fun s hs => h32b s (List.mem_of_mem_take hs)
  have z4 : ∀ s ∈ B.drop k, s.size = 32 := fun s hs => h32b s (List.mem_of_mem_drop hs)
  have HTX : Hid (∀ w', Below w.heap.size w w' → Tabs w' ∧ Txts w' (.slice pa k ca) (A.take k) ∧ Txts w' (.slice (pa.map (·.add k)) (n - k) (ca - k)) (A.drop k) ∧ Txts w' (.slice pb k cb) (B.take k) ∧ Txts w' (.slice (pb.map (·.add k)) (n - k) (cb - k)) (B.drop k)) := Lib.hid (fun w' hb =>
    ⟨ht.below hb, (hva.below hb (Nat.le_refl _)).cutC (by omega), (hva.below hb (Nat.le_refl _)).rightC (by omega), (hvb.below hb (Nat.le_refl _)).cutC (by omega), (hvb.below hb (Nat.le_refl _)).rightC (by omega)⟩)
  obtain ⟨r1, hr1⟩ : ∃ r, r = rootR (A.take k) := ⟨_, rfl⟩
  obtain ⟨r2, hr2⟩ : ∃ r, r = rootR (A.drop k) := ⟨_, rfl⟩
  obtain ⟨r3, hr3⟩ : ∃ r, r = rootR (B.take k) := ⟨_, rfl⟩
  obtain ⟨r4, hr4⟩ : ∃ r, r = rootR (B.drop k) := ⟨_, rfl⟩
  have CR1 : Hid (∀ w', Below w.heap.size w w' → Calls Tryz.prog 32 #[.slice pa k ca] w' fun o z => o = .returned (.string r1) ∧ Below w'.heap.size w' z) := Lib.hid (fun w' hb => by
    have := eroot_any _ _ w' (HTX.out w' hb).1 (HTX.out w' hb).2.1
    rwa [rootT_R z1 (by omega), ← hr1] at this)
  have CR2 : Hid (∀ w', Below w.heap.size w w' → Calls Tryz.prog 32 #[.slice (pa.map (·.add k)) (n - k) (ca - k)] w' fun o z => o = .returned (.string r2) ∧ Below w'.heap.size w' z) := Lib.hid (fun w' hb => by
    have := eroot_any _ _ w' (HTX.out w' hb).1 (HTX.out w' hb).2.2.1
    rwa [rootT_R z2 (by omega), ← hr2] at this)
  have CR3 : Hid (∀ w', Below w.heap.size w w' → Calls Tryz.prog 32 #[.slice pb k cb] w' fun o z => o = .returned (.string r3) ∧ Below w'.heap.size w' z) := Lib.hid (fun w' hb => by
    have := eroot_any _ _ w' (HTX.out w' hb).1 (HTX.out w' hb).2.2.2.1
    rwa [rootT_R z3 (by omega), ← hr3] at this)
  have CR4 : Hid (∀ w', Below w.heap.size w w' → Calls Tryz.prog 32 #[.slice (pb.map (·.add k)) (n - k) (cb - k)] w' fun o z => o = .returned (.string r4) ∧ Below w'.heap.size w' z) := Lib.hid (fun w' hb => by
    have := eroot_any _ _ w' (HTX.out w' hb).1 (HTX.out w' hb).2.2.2.2
    rwa [rootT_R z4 (by omega), ← hr4] at this)
  have g1 := rootR_32E (all32_ofE z1)
  have g2 := rootR_32E (all32_ofE z2)
  have g3 := rootR_32E (all32_ofE z3)
  have g4 := rootR_32E (all32_ofE z4)
  rw [← hr1, ← hr2, ← hr3, ← hr4] at d1 d2
  rw [← hr1] at g1
  rw [← hr2] at g2
  rw [← hr3] at g3
  rw [← hr4] at g4
  obtain ⟨t1, ht1⟩ : ∃ t, t = txtS r1 r2 := ⟨_, rfl⟩
  obtain ⟨t2, ht2⟩ : ∃ t, t = txtS r3 r4 := ⟨_, rfl⟩
  have CT1 : Hid (∀ w', Calls Tryz.prog 61 #[.string r1, .string r2] w' fun o z => o = .returned (.string t1) ∧ z = w') := Lib.hid (fun w' => by rw [ht1]; exact etext_any _ _ w' (by omega) (by omega))
  have CT2 : Hid (∀ w', Calls Tryz.prog 61 #[.string r3, .string r4] w' fun o z => o = .returned (.string t2) ∧ z = w') := Lib.hid (fun w' => by rw [ht2]; exact etext_any _ _ w' (by omega) (by omega))
  rw [← ht1, ← ht2] at d1 d2
  have HSZ : Hid (t1.size ≤ 2000000 ∧ t2.size ≤ 2000000) := Lib.hid ⟨by rw [ht1]; unfold txtS; rw [ByteArray.size_append, ByteArray.size_append]; show 1 + r1.size + r2.size ≤ _; omega, by rw [ht2]; unfold txtS; rw [ByteArray.size_append, ByteArray.size_append]; show 1 + r3.size + r4.size ≤ _; omega⟩
  have HD : Hid (shaS t1 = shaS t2 ∧ (t1 = t2 → r1 = r3 ∧ r2 = r4 ∧ (A.take k = B.take k → A.drop k ≠ B.drop k))) := Lib.hid ⟨d1, d2⟩
  have CSP : Hid (∀ w', Calls Tryz.prog 60 #[.int .i64 (n : Int)] w' fun o z => o = .returned (.int .i64 (k : Int)) ∧ z = w') := Lib.hid (fun w' => by
    have := split_any (n : Int) w' (by omega)
    rwa [splitS_nat h2, ← hk] at this)
  have hn2 : ¬ (n : Int) < 2 := by omega
  have hkc : ¬ ca = k := by omega
  have hkc2 : ¬ cb = k := by omega
  have hkn : (k : Int) ≤ (n : Int) := by omega
  have hk0 : (0 : Int) ≤ (k : Int) := by omega
  have hkca : (k : Int) ≤ (ca : Int) := by omega
  have hkcb : (k : Int) ≤ (cb : Int) := by omega
  have hkw : IntKind.i64.wrap (k : Int) = (k : Int) := IntWalk.i64_in _ (by omega)
  have HBA : Hid (Below w.heap.size w w.drew) := Lib.hid (Below.refl _ _).drew
  have IH : Hid (∀ m, m < n → ∀ (A B : List ByteArray) (va vb : Value) (w : World), Tabs w → Txts w va A → Txts w vb B → A.length = m → B.length = m → 1 ≤ m → m ≤ 4096 → (∀ s ∈ A, s.size = 32) → (∀ s ∈ B, s.size = 32) → A ≠ B → rootR A = rootR B → Calls Tryz.prog 34 #[va, vb] w (DownQ (DnR A B) w)) := Lib.hid ih
  have HF : Hid ((A.take k).length = k ∧ (B.take k).length = k ∧ (A.drop k).length = n - k ∧ (B.drop k).length = n - k ∧ 0 < k ∧ k < n ∧ r1 = rootR (A.take k) ∧ r2 = rootR (A.drop k) ∧ r3 = rootR (B.take k) ∧ r4 = rootR (B.drop k)) := Lib.hid ⟨hal, hbl, hal2, hbl2, hs.1, hs.2.1, hr1, hr2, hr3, hr4⟩
  have HZ : Hid ((∀ s ∈ A.take k, s.size = 32) ∧ (∀ s ∈ A.drop k, s.size = 32) ∧ (∀ s ∈ B.take k, s.size = 32) ∧ (∀ s ∈ B.drop k, s.size = 32)) := Lib.hid ⟨z1, z2, z3, z4⟩
  have HQ : Hid (A.length = n ∧ B.length = n ∧ k = spl n ∧ t1 = txtS r1 r2 ∧ t2 = txtS r3 r4) := Lib.hid ⟨hA, hB, hk, ht1, ht2⟩
  have HTOP : Hid (topT A = t1 ∧ topT B = t2) := Lib.hid (by unfold topT; rw [hA, hB, ← hk, ← hr1, ← hr2, ← hr3, ← hr4, ht1, ht2]; exact ⟨rfl, rfl⟩)
  clear ih ht hva hvb hA hB h32a h32b hne hr hk hs d1 d2 ha1 ha2 hb1 hb2 hal hbl hal2 hbl2 z1 z2 z3 z4 hr1 hr2 hr3 hr4 g1 g2 g3 g4 ht1 ht2
  by_cases htt : t1 = t2
  case neg =>
    have CM := Lib.hid (fun w' => meet_no t1 t2 w' htt)
    have HTT := Lib.hid htt
    clear htt
    go_enter Tryz.func34, Tryz.ntmps34
    go_upto_region 2 with (go_at_call 60; with_reducible refine (CSP.out _).mono ?_; rintro o w' ⟨rfl, hww⟩; rw [hww]; clear hww w')
    refine wp_region_held_drew (S := fun _ => True) (by kernel_rfl) trivial (fun hHeld => ?_)
    refine wpAnyH_take (i := 0) (oi := ⟨_, _, _, _, _, _⟩) (v := ?_) rfl (by kernel_rfl) (by kernel_rfl) (by kernel_rfl) (fun _ _ _ h => h) (Or.inl ⟨by rfl, ?_⟩) hHeld ?_
    rotate_left
    · ((intro w hSw; (try dsimp only at hSw); go_simp) <;> with_reducible rfl)
    try simp only [Act.put, List.setIfInBounds_toArray, List.set_cons_zero, List.set_cons_succ]
    refine wpAnyH_take (i := 1) (oi := ⟨_, _, _, _, _, _⟩) (v := ?_) rfl (by kernel_rfl) (by kernel_rfl) (by kernel_rfl) (fun _ _ _ h => h) (Or.inl ⟨by rfl, ?_⟩) hHeld ?_
    rotate_left
    · ((intro w hSw; (try dsimp only at hSw); go_simp) <;> with_reducible rfl)
    try simp only [Act.put, List.setIfInBounds_toArray, List.set_cons_zero, List.set_cons_succ]
    refine wpAnyH_take (i := 2) (oi := ⟨_, _, _, _, _, _⟩) (v := ?_) rfl (by kernel_rfl) (by kernel_rfl) (by kernel_rfl) (fun _ _ _ h => h) (Or.inl ⟨by rfl, ?_⟩) hHeld ?_
    rotate_left
    · ((intro w hSw; (try dsimp only at hSw); go_simp) <;> with_reducible rfl)
    try simp only [Act.put, List.setIfInBounds_toArray, List.set_cons_zero, List.set_cons_succ]
    refine wpAnyH_take (i := 4) (oi := ⟨_, _, _, _, _, _⟩) (v := ?_) rfl (by kernel_rfl) (by kernel_rfl) (by kernel_rfl) (fun _ _ _ h => h) (Or.inl ⟨by rfl, ?_⟩) hHeld ?_
    rotate_left
    · ((intro w hSw; (try dsimp only at hSw); go_simp) <;> with_reducible rfl)
    try simp only [Act.put, List.setIfInBounds_toArray, List.set_cons_zero, List.set_cons_succ]
    refine wpAnyH_take (i := 5) (oi := ⟨_, _, _, _, _, _⟩) (v := ?_) rfl (by kernel_rfl) (by kernel_rfl) (by kernel_rfl) (fun _ _ _ h => h) (Or.inl ⟨by rfl, ?_⟩) hHeld ?_
    rotate_left
    · ((intro w hSw; (try dsimp only at hSw); go_simp) <;> with_reducible rfl)
    try simp only [Act.put, List.setIfInBounds_toArray, List.set_cons_zero, List.set_cons_succ]
    refine wpAnyH_take (i := 6) (oi := ⟨_, _, _, _, _, _⟩) (v := ?_) rfl (by kernel_rfl) (by kernel_rfl) (by kernel_rfl) (fun _ _ _ h => h) (Or.inl ⟨by rfl, ?_⟩) hHeld ?_
    rotate_left
    · ((intro w hSw; (try dsimp only at hSw); go_simp) <;> with_reducible rfl)
    try simp only [Act.put, List.setIfInBounds_toArray, List.set_cons_zero, List.set_cons_succ]
    refine wpAnyH_take (i := 9) (oi := ⟨_, _, _, _, _, _⟩) (v := ?_) rfl (by kernel_rfl) (by kernel_rfl) (by kernel_rfl) (fun _ _ _ h => h) (Or.inl ⟨by rfl, ?_⟩) hHeld ?_
    rotate_left
    · ((intro w hSw; (try dsimp only at hSw); go_simp) <;> with_reducible rfl)
    try simp only [Act.put, List.setIfInBounds_toArray, List.set_cons_zero, List.set_cons_succ]
    refine wpAnyH_take (i := 10) (oi := ⟨_, _, _, _, _, _⟩) (v := ?_) rfl (by kernel_rfl) (by kernel_rfl) (by kernel_rfl) (fun _ _ _ h => h) (Or.inl ⟨by rfl, ?_⟩) hHeld ?_
    rotate_left
    · ((intro w hSw; (try dsimp only at hSw); go_simp) <;> with_reducible rfl)
    try simp only [Act.put, List.setIfInBounds_toArray, List.set_cons_zero, List.set_cons_succ]
    refine wpAnyH_take (i := 11) (oi := ⟨_, _, _, _, _, _⟩) (v := ?_) rfl (by kernel_rfl) (by kernel_rfl) (by kernel_rfl) (fun _ _ _ h => h) (Or.inl ⟨by rfl, ?_⟩) hHeld ?_
    rotate_left
    · ((intro w hSw; (try dsimp only at hSw); go_simp) <;> with_reducible rfl)
    try simp only [Act.put, List.setIfInBounds_toArray, List.set_cons_zero, List.set_cons_succ]
    refine wpAnyH_take (i := 13) (oi := ⟨_, _, _, _, _, _⟩) (v := ?_) rfl (by kernel_rfl) (by kernel_rfl) (by kernel_rfl) (fun _ _ _ h => h) (Or.inl ⟨by rfl, ?_⟩) hHeld ?_
    rotate_left
    · ((intro w hSw; (try dsimp only at hSw); go_simp) <;> with_reducible rfl)
    try simp only [Act.put, List.setIfInBounds_toArray, List.set_cons_zero, List.set_cons_succ]
    refine wpAnyH_take (i := 14) (oi := ⟨_, _, _, _, _, _⟩) (v := ?_) rfl (by kernel_rfl) (by kernel_rfl) (by kernel_rfl) (fun _ _ _ h => h) (Or.inl ⟨by rfl, ?_⟩) hHeld ?_
    rotate_left
    · ((intro w hSw; (try dsimp only at hSw); go_simp) <;> with_reducible rfl)
    try simp only [Act.put, List.setIfInBounds_toArray, List.set_cons_zero, List.set_cons_succ]
    refine wpAnyH_take (i := 15) (oi := ⟨_, _, _, _, _, _⟩) (v := ?_) rfl (by kernel_rfl) (by kernel_rfl) (by kernel_rfl) (fun _ _ _ h => h) (Or.inl ⟨by rfl, ?_⟩) hHeld ?_
    rotate_left
    · ((intro w hSw; (try dsimp only at hSw); go_simp) <;> with_reducible rfl)
    try simp only [Act.put, List.setIfInBounds_toArray, List.set_cons_zero, List.set_cons_succ]
    refine wpAnyH_ready (rs := [3]) (by kernel_rfl) (by simp) ?_
    refine AllReadyH.cons (o := ⟨_, _, _, _, _, _⟩) rfl (fun K hK => ?_) ?_
    rotate_left
    · exact AllReadyH.nil
    go_simp
    go_at_call 32; ((with_reducible refine (CR1.out _ HBA.out).mono ?_); rintro o x1 ⟨rfl, h⟩; have HB1 : Hid (Below w.heap.size w x1) := Lib.hid (HBA.out.trans (h.mono HBA.out.size)); clear h)
    refine hK.out _ _ trivial (fun hHeld => ?_)
    clear hK K
    try simp only [Act.put, List.setIfInBounds_toArray, List.set_cons_zero, List.set_cons_succ]
    refine wpAnyH_ready (rs := [7]) (by kernel_rfl) (by simp) ?_
    refine AllReadyH.cons (o := ⟨_, _, _, _, _, _⟩) rfl (fun K hK => ?_) ?_
    rotate_left
    · exact AllReadyH.nil
    go_simp
    go_at_call 32; ((with_reducible refine (CR2.out _ HB1.out).mono ?_); rintro o x2 ⟨rfl, h⟩; have HB2 : Hid (Below w.heap.size w x2) := Lib.hid (HB1.out.trans (h.mono HB1.out.size)); clear h)
    refine hK.out _ _ trivial (fun hHeld => ?_)
    clear hK K
    try simp only [Act.put, List.setIfInBounds_toArray, List.set_cons_zero, List.set_cons_succ]
    refine wpAnyH_ready (rs := [8]) (by kernel_rfl) (by simp) ?_
    refine AllReadyH.cons (o := ⟨_, _, _, _, _, _⟩) rfl (fun K hK => ?_) ?_
    rotate_left
    · exact AllReadyH.nil
    go_simp
    go_at_call 61; ((with_reducible refine (CT1.out _).mono ?_); rintro o z ⟨rfl, hx⟩; rw [hx]; clear hx z)
    refine hK.out _ _ trivial (fun hHeld => ?_)
    clear hK K
    try simp only [Act.put, List.setIfInBounds_toArray, List.set_cons_zero, List.set_cons_succ]
    refine wpAnyH_ready (rs := [12]) (by kernel_rfl) (by simp) ?_
    refine AllReadyH.cons (o := ⟨_, _, _, _, _, _⟩) rfl (fun K hK => ?_) ?_
    rotate_left
    · exact AllReadyH.nil
    go_simp
    go_at_call 32; ((with_reducible refine (CR3.out _ HB2.out).mono ?_); rintro o x3 ⟨rfl, h⟩; have HB3 : Hid (Below w.heap.size w x3) := Lib.hid (HB2.out.trans (h.mono HB2.out.size)); clear h)
    refine hK.out _ _ trivial (fun hHeld => ?_)
    clear hK K
    try simp only [Act.put, List.setIfInBounds_toArray, List.set_cons_zero, List.set_cons_succ]
    refine wpAnyH_ready (rs := [16]) (by kernel_rfl) (by simp) ?_
    refine AllReadyH.cons (o := ⟨_, _, _, _, _, _⟩) rfl (fun K hK => ?_) ?_
    rotate_left
    · exact AllReadyH.nil
    go_simp
    go_at_call 32; ((with_reducible refine (CR4.out _ HB3.out).mono ?_); rintro o x4 ⟨rfl, h⟩; have HB4 : Hid (Below w.heap.size w x4) := Lib.hid (HB3.out.trans (h.mono HB3.out.size)); clear h)
    refine hK.out _ _ trivial (fun hHeld => ?_)
    clear hK K
    try simp only [Act.put, List.setIfInBounds_toArray, List.set_cons_zero, List.set_cons_succ]
    refine wpAnyH_ready (rs := [17]) (by kernel_rfl) (by simp) ?_
    refine AllReadyH.cons (o := ⟨_, _, _, _, _, _⟩) rfl (fun K hK => ?_) ?_
    rotate_left
    · exact AllReadyH.nil
    go_simp
    go_at_call 61; ((with_reducible refine (CT2.out _).mono ?_); rintro o z ⟨rfl, hx⟩; rw [hx]; clear hx z)
    refine hK.out _ _ trivial (fun hHeld => ?_)
    clear hK K
    try simp only [Act.put, List.setIfInBounds_toArray, List.set_cons_zero, List.set_cons_succ]
    refine wpAnyH_ready (rs := [18]) (by kernel_rfl) (by simp) ?_
    refine AllReadyH.cons (o := ⟨_, _, _, _, _, _⟩) rfl (fun K hK => ?_) ?_
    rotate_left
    · exact AllReadyH.nil
    go_simp
    go_at_call 55; ((with_reducible refine (CM.out _).mono ?_); rintro o z ⟨rfl, hx⟩; rw [hx]; clear hx z)
    exact ⟨rfl, t1, t2, rfl, by have h := DnR.here (A := A) (B := B) (by rw [HTOP.out.1, HTOP.out.2]; exact HTT.out); rwa [HTOP.out.1, HTOP.out.2] at h, HB4.out⟩
  subst htt
  obtain ⟨e13, e24, hdr⟩ := HD.out.2 rfl
  have CM := Lib.hid (fun w' => meet_same t1 w')
  obtain ⟨d, hd⟩ : ∃ d, d = decide (A.take k = B.take k) := ⟨_, rfl⟩
  have CE : Hid (∀ w', Below w.heap.size w w' → Calls Tryz.prog 20 #[.slice pa k ca, .slice pb k cb] w' fun o z => o = .returned (.bool d) ∧ Below w'.heap.size w' z) := Lib.hid (fun w' hb => by
    rw [hd]
    exact sameQ_any _ _ _ _ w' (HTX.out w' hb).2.1 (HTX.out w' hb).2.2.2.1 (by have := HF.out.1; omega) (by have := HF.out.2.1; omega))
  have HDR : Hid (d = decide (A.take k = B.take k) ∧ (A.take k = B.take k → A.drop k ≠ B.drop k) ∧ r1 = r3 ∧ r2 = r4) := Lib.hid ⟨hd, hdr, e13, e24⟩
  clear hd hdr e13 e24
  go_enter Tryz.func34, Tryz.ntmps34
  go_upto_region 2 with (go_at_call 60; with_reducible refine (CSP.out _).mono ?_; rintro o w' ⟨rfl, hww⟩; rw [hww]; clear hww w')
  go_region_held3 (fun w' => Below w.heap.size w w') (first | exact HB4.out | exact HB3.out | exact HB2.out | exact HB1.out | exact HBA.out) (first
    | (go_at_call 32; (with_reducible refine (CR1.out _ HBA.out).mono ?_); rintro o x1 ⟨rfl, h⟩; have HB1 : Hid (Below w.heap.size w x1) := Lib.hid (HBA.out.trans (h.mono HBA.out.size)); clear h)
    | (go_at_call 32; (with_reducible refine (CR2.out _ HB1.out).mono ?_); rintro o x2 ⟨rfl, h⟩; have HB2 : Hid (Below w.heap.size w x2) := Lib.hid (HB1.out.trans (h.mono HB1.out.size)); clear h)
    | (go_at_call 32; (with_reducible refine (CR3.out _ HB2.out).mono ?_); rintro o x3 ⟨rfl, h⟩; have HB3 : Hid (Below w.heap.size w x3) := Lib.hid (HB2.out.trans (h.mono HB2.out.size)); clear h)
    | (go_at_call 32; (with_reducible refine (CR4.out _ HB3.out).mono ?_); rintro o x4 ⟨rfl, h⟩; have HB4 : Hid (Below w.heap.size w x4) := Lib.hid (HB3.out.trans (h.mono HB3.out.size)); clear h)
    | (go_at_call 61; (with_reducible refine (CT1.out _).mono ?_); rintro o z ⟨rfl, hx⟩; rw [hx]; clear hx z)
    | (go_at_call 61; (with_reducible refine (CT2.out _).mono ?_); rintro o z ⟨rfl, hx⟩; rw [hx]; clear hx z)
    | (go_at_call 55; (with_reducible refine (CM.out _).mono ?_); rintro o z ⟨rfl, hx⟩; rw [hx]; clear hx z))
  have HB5 : Hid (Below w.heap.size w x4.drew) := Lib.hid HB4.out.drew
  clear CR1 CR2 CR3 CR4 CT1 CT2 CM CSP
  go_upto_region 3 with fail
  go_region_held3 (fun w' => Below w.heap.size w w') (first | exact HB6.out | exact HB5.out) (first
    | (go_at_call 20; (with_reducible refine (CE.out _ HB5.out).mono ?_); rintro o x6 ⟨rfl, h⟩; have HB6 : Hid (Below w.heap.size w x6) := Lib.hid (HB5.out.trans (h.mono HB5.out.size)); clear h))
  replace HB6 : Hid (Below w.heap.size w x6.drew) := Lib.hid HB6.out.drew
  cases d with
  | true =>
    have CDn : Hid (∀ w', Below w.heap.size w w' → Calls Tryz.prog 34 #[.slice (pa.map (·.add k)) (n - k) (ca - k), .slice (pb.map (·.add k)) (n - k) (cb - k)] w' (DownQ (DnR (A.drop k) (B.drop k)) w')) := Lib.hid (fun w' hb => by
      have hf := HF.out
      have hdd := HDR.out
      have htx := HTX.out w' hb
      exact IH.out (n - k) (by omega) _ _ _ _ w' htx.1 htx.2.2.1 htx.2.2.2.2 hf.2.2.1 hf.2.2.2.1 (by omega) (by omega) HZ.out.2.1 HZ.out.2.2.2 (hdd.2.1 (of_decide_eq_true hdd.1.symm)) (by rw [← hf.2.2.2.2.2.2.2.1, ← hf.2.2.2.2.2.2.2.2.2]; exact hdd.2.2.2))
    go_upto_region 4 with fail
    refine wp_region_held_drew (S := fun _ => True) (by kernel_rfl) trivial (fun hHeld => ?_)
    refine wpAnyH_take (i := 0) (oi := ⟨_, _, _, _, _, _⟩) (v := ?_) rfl (by kernel_rfl) (by kernel_rfl) (by kernel_rfl) (fun _ _ _ h => h) (Or.inl ⟨by rfl, ?_⟩) hHeld ?_
    rotate_left
    · ((intro w hSw; (try dsimp only at hSw); go_simp) <;> with_reducible rfl)
    try simp only [Act.put, List.setIfInBounds_toArray, List.set_cons_zero, List.set_cons_succ]
    refine wpAnyH_take (i := 1) (oi := ⟨_, _, _, _, _, _⟩) (v := ?_) rfl (by kernel_rfl) (by kernel_rfl) (by kernel_rfl) (fun _ _ _ h => h) (Or.inl ⟨by rfl, ?_⟩) hHeld ?_
    rotate_left
    · ((intro w hSw; (try dsimp only at hSw); go_simp) <;> with_reducible rfl)
    try simp only [Act.put, List.setIfInBounds_toArray, List.set_cons_zero, List.set_cons_succ]
    refine wpAnyH_take (i := 2) (oi := ⟨_, _, _, _, _, _⟩) (v := ?_) rfl (by kernel_rfl) (by kernel_rfl) (by kernel_rfl) (fun _ _ _ h => h) (Or.inl ⟨by rfl, ?_⟩) hHeld ?_
    rotate_left
    · ((intro w hSw; (try dsimp only at hSw); go_simp) <;> with_reducible rfl)
    try simp only [Act.put, List.setIfInBounds_toArray, List.set_cons_zero, List.set_cons_succ]
    refine wpAnyH_take (i := 3) (oi := ⟨_, _, _, _, _, _⟩) (v := ?_) rfl (by kernel_rfl) (by kernel_rfl) (by kernel_rfl) (fun _ _ _ h => h) (Or.inl ⟨by rfl, ?_⟩) hHeld ?_
    rotate_left
    · ((intro w hSw; (try dsimp only at hSw); go_simp) <;> with_reducible rfl)
    try simp only [Act.put, List.setIfInBounds_toArray, List.set_cons_zero, List.set_cons_succ]
    refine wpAnyH_take (i := 4) (oi := ⟨_, _, _, _, _, _⟩) (v := ?_) rfl (by kernel_rfl) (by kernel_rfl) (by kernel_rfl) (fun _ _ _ h => h) (Or.inl ⟨by rfl, ?_⟩) hHeld ?_
    rotate_left
    · ((intro w hSw; (try dsimp only at hSw); go_simp) <;> with_reducible rfl)
    try simp only [Act.put, List.setIfInBounds_toArray, List.set_cons_zero, List.set_cons_succ]
    refine wpAnyH_take (i := 5) (oi := ⟨_, _, _, _, _, _⟩) (v := ?_) rfl (by kernel_rfl) (by kernel_rfl) (by kernel_rfl) (fun _ _ _ h => h) (Or.inl ⟨by rfl, ?_⟩) hHeld ?_
    rotate_left
    · ((intro w hSw; (try dsimp only at hSw); go_simp) <;> with_reducible rfl)
    try simp only [Act.put, List.setIfInBounds_toArray, List.set_cons_zero, List.set_cons_succ]
    refine wpAnyH_ready (rs := [6]) (by kernel_rfl) (by simp) ?_
    refine AllReadyH.cons (o := ⟨_, _, _, _, _, _⟩) rfl (fun K hK => ?_) ?_
    rotate_left
    · exact AllReadyH.nil
    go_simp
    go_at_call 34; ((with_reducible refine (CDn.out _ HB6.out).mono ?_); rintro o z ⟨p, q, rfl, hpq, hb⟩)
    exact ⟨rfl, p, q, rfl, DnR.right (by rw [HTOP.out.1, HTOP.out.2]) (by rw [HQ.out.1, ← HQ.out.2.2.1]; exact of_decide_eq_true HDR.out.1.symm) (by rw [HQ.out.1, ← HQ.out.2.2.1]; exact hpq), HB6.out.trans (hb.mono HB6.out.size)⟩
  | false =>
    have CDn : Hid (∀ w', Below w.heap.size w w' → Calls Tryz.prog 34 #[.slice pa k ca, .slice pb k cb] w' (DownQ (DnR (A.take k) (B.take k)) w')) := Lib.hid (fun w' hb => by
      have hf := HF.out
      have hdd := HDR.out
      have htx := HTX.out w' hb
      exact IH.out k (by omega) _ _ _ _ w' htx.1 htx.2.1 htx.2.2.2.1 hf.1 hf.2.1 (by omega) (by omega) HZ.out.1 HZ.out.2.2.1 (of_decide_eq_false hdd.1.symm) (by rw [← hf.2.2.2.2.2.2.1, ← hf.2.2.2.2.2.2.2.2.1]; exact hdd.2.2.1))
    go_upto_region 5 with fail
    refine wp_region_held_drew (S := fun _ => True) (by kernel_rfl) trivial (fun hHeld => ?_)
    refine wpAnyH_take (i := 0) (oi := ⟨_, _, _, _, _, _⟩) (v := ?_) rfl (by kernel_rfl) (by kernel_rfl) (by kernel_rfl) (fun _ _ _ h => h) (Or.inl ⟨by rfl, ?_⟩) hHeld ?_
    rotate_left
    · ((intro w hSw; (try dsimp only at hSw); go_simp) <;> with_reducible rfl)
    try simp only [Act.put, List.setIfInBounds_toArray, List.set_cons_zero, List.set_cons_succ]
    refine wpAnyH_take (i := 1) (oi := ⟨_, _, _, _, _, _⟩) (v := ?_) rfl (by kernel_rfl) (by kernel_rfl) (by kernel_rfl) (fun _ _ _ h => h) (Or.inl ⟨by rfl, ?_⟩) hHeld ?_
    rotate_left
    · ((intro w hSw; (try dsimp only at hSw); go_simp) <;> with_reducible rfl)
    try simp only [Act.put, List.setIfInBounds_toArray, List.set_cons_zero, List.set_cons_succ]
    refine wpAnyH_take (i := 2) (oi := ⟨_, _, _, _, _, _⟩) (v := ?_) rfl (by kernel_rfl) (by kernel_rfl) (by kernel_rfl) (fun _ _ _ h => h) (Or.inl ⟨by rfl, ?_⟩) hHeld ?_
    rotate_left
    · ((intro w hSw; (try dsimp only at hSw); go_simp) <;> with_reducible rfl)
    try simp only [Act.put, List.setIfInBounds_toArray, List.set_cons_zero, List.set_cons_succ]
    refine wpAnyH_take (i := 3) (oi := ⟨_, _, _, _, _, _⟩) (v := ?_) rfl (by kernel_rfl) (by kernel_rfl) (by kernel_rfl) (fun _ _ _ h => h) (Or.inl ⟨by rfl, ?_⟩) hHeld ?_
    rotate_left
    · ((intro w hSw; (try dsimp only at hSw); go_simp) <;> with_reducible rfl)
    try simp only [Act.put, List.setIfInBounds_toArray, List.set_cons_zero, List.set_cons_succ]
    refine wpAnyH_take (i := 4) (oi := ⟨_, _, _, _, _, _⟩) (v := ?_) rfl (by kernel_rfl) (by kernel_rfl) (by kernel_rfl) (fun _ _ _ h => h) (Or.inl ⟨by rfl, ?_⟩) hHeld ?_
    rotate_left
    · ((intro w hSw; (try dsimp only at hSw); go_simp) <;> with_reducible rfl)
    try simp only [Act.put, List.setIfInBounds_toArray, List.set_cons_zero, List.set_cons_succ]
    refine wpAnyH_take (i := 5) (oi := ⟨_, _, _, _, _, _⟩) (v := ?_) rfl (by kernel_rfl) (by kernel_rfl) (by kernel_rfl) (fun _ _ _ h => h) (Or.inl ⟨by rfl, ?_⟩) hHeld ?_
    rotate_left
    · ((intro w hSw; (try dsimp only at hSw); go_simp) <;> with_reducible rfl)
    try simp only [Act.put, List.setIfInBounds_toArray, List.set_cons_zero, List.set_cons_succ]
    refine wpAnyH_ready (rs := [6]) (by kernel_rfl) (by simp) ?_
    refine AllReadyH.cons (o := ⟨_, _, _, _, _, _⟩) rfl (fun K hK => ?_) ?_
    rotate_left
    · exact AllReadyH.nil
    go_simp
    go_at_call 34; ((with_reducible refine (CDn.out _ HB6.out).mono ?_); rintro o z ⟨p, q, rfl, hpq, hb⟩)
    exact ⟨rfl, p, q, rfl, DnR.left (by rw [HTOP.out.1, HTOP.out.2]) (by rw [HQ.out.1, ← HQ.out.2.2.1]; exact of_decide_eq_false HDR.out.1.symm) (by rw [HQ.out.1, ← HQ.out.2.2.1]; exact hpq), HB6.out.trans (hb.mono HB6.out.size)⟩
end Go.Proofs.YtdbghgpohdijfaaGreatDoor
/- extract.Leaves: which pair (printed by gen_ew3.py). -/
namespace Go.Proofs.YtdbghgpohdijfaaGreatDoor
open Go.RowKit Go.Scr
set_option linter.unusedVariables false
/-- what Leaves answers where the lists may be: none, or the pair that the way down meets -/
def LvQ (A B : List ByteArray) (w : World) (e : Ending) (w' : World) : Prop := if A = B ∨ rootR A ≠ rootR B then NoneP 60 w e w' else PairQ (DnR A B) w e w'
set_option maxRecDepth 100000 in
set_option maxHeartbeats 1000000 in
theorem leaves1_anyQ {w : World} {ba bb : Nat} {va vb : Value} {A B : List ByteArray} (ht : Tabs w) (ca : w.cell? ⟨ba, 0, none⟩ = some va) (cb : w.cell? ⟨bb, 0, none⟩ = some vb) (hva : Txts w va A) (hvb : Txts w vb B)
    (hl : A.length = B.length) (h4 : A.length ≤ 4096) (h32a : ∀ s ∈ A, s.size = 32) (h32b : ∀ s ∈ B, s.size = 32) (hne : A ≠ B) (hr : rootR A = rootR B) :
    Calls Tryz.prog 33 #[.pointer (some ⟨ba, 0, none⟩), .pointer (some ⟨bb, 0, none⟩)] w (DownQ (DnR A B) w) := by
  have h1 : 1 ≤ A.length := by
    rcases Nat.eq_zero_or_pos A.length with h | h
    · exact absurd (by rw [List.eq_nil_of_length_eq_zero h, List.eq_nil_of_length_eq_zero (by omega : B.length = 0)]) hne
    · exact h
  have CD := Lib.hid (down_anyQ A.length A B va vb w ht hva hvb rfl hl.symm h1 h4 h32a h32b hne hr)
  clear ht hva hvb hl h4 h32a h32b hne hr h1
  go_enter Tryz.func33, Tryz.ntmps33
  go_wp2_with fail
  refine CD.out.mono ?_
  rintro o z h
  obtain ⟨p, q, rfl, _⟩ := id h
  exact ⟨rfl, h⟩
set_option maxRecDepth 100000 in
set_option maxHeartbeats 4000000 in
theorem leaves_okQ {w : World} {va vb : Value} {A B : List ByteArray} (ht : Tabs w) (hva : Txts w va A) (hvb : Txts w vb B) (hno : lvNo A B = false) :
    Calls Tryz.prog 9 #[va, vb] w (LvQ A B w) := by
  have hno2 : A.length = B.length ∧ A.length ≤ 4096 ∧ ok32 A = true ∧ ok32 B = true := by
    unfold lvNo at hno
    rw [Bool.or_eq_false_iff, Bool.or_eq_false_iff, Bool.or_eq_false_iff] at hno
    obtain ⟨⟨⟨h1, h2⟩, h3⟩, h4⟩ := hno
    have h1 := of_decide_eq_false h1
    have h2 := of_decide_eq_false h2
    exact ⟨by omega, by omega, by simpa using h3, by simpa using h4⟩
  obtain ⟨hl, h4, ho1, ho2⟩ := hno2
  have z1 : ∀ s ∈ A, s.size = 32 := fun s hs => by unfold ok32 at ho1; rw [List.all_eq_true] at ho1; simpa using ho1 s hs
  have z2 : ∀ s ∈ B, s.size = 32 := fun s hs => by unfold ok32 at ho2; rw [List.all_eq_true] at ho2; simpa using ho2 s hs
  obtain ⟨w3, hw3⟩ : ∃ x, x = ((w.alloc (.cells #[va] 22)).alloc (.cells #[vb] 22)).alloc (.cells #[.string ⟨#[]⟩, .string ⟨#[]⟩] 26) := ⟨_, rfl⟩
  obtain ⟨x0, x1, x2, x3⟩ := three_blocksE w #[va] #[vb] #[.string ⟨#[]⟩, .string ⟨#[]⟩] 22 22 26
  rw [← hw3] at x0 x1 x2 x3
  obtain ⟨ba, hba⟩ : ∃ x, x = w.heap.size := ⟨_, rfl⟩
  obtain ⟨bb, hbb⟩ : ∃ x, x = w.heap.size + 1 := ⟨_, rfl⟩
  obtain ⟨bp, hbp⟩ : ∃ x, x = w.heap.size + 1 + 1 := ⟨_, rfl⟩
  rw [← hba] at x0
  rw [← hbb] at x1
  rw [← hbp] at x2
  have CH1 := Lib.hid (ehashes_any va A w3 (hva.below x3 (Nat.le_refl _)))
  have CH2 := Lib.hid (ehashes_any vb B w3 (hvb.below x3 (Nat.le_refl _)))
  have HTX : Hid (∀ w', Below w3.heap.size w3 w' → Tabs w' ∧ Txts w' va A ∧ Txts w' vb B) := Lib.hid (fun w' hb => ⟨(ht.below x3).below hb, (hva.below x3 (Nat.le_refl _)).below hb (Nat.le_refl _), (hvb.below x3 (Nat.le_refl _)).below hb (Nat.le_refl _)⟩)
  rw [ho1] at CH1
  rw [ho2] at CH2
  obtain ⟨rA, hrA⟩ : ∃ r, r = rootR A := ⟨_, rfl⟩
  obtain ⟨rB, hrB⟩ : ∃ r, r = rootR B := ⟨_, rfl⟩
  obtain ⟨d, hd⟩ : ∃ d, d = decide (A = B) := ⟨_, rfl⟩
  have CE : Hid (∀ w', Below w3.heap.size w3 w' → Calls Tryz.prog 20 #[va, vb] w' fun o z => o = .returned (.bool d) ∧ Below w'.heap.size w' z) := Lib.hid (fun w' hb => by
    rw [hd]
    exact sameQ_any _ _ _ _ w' (HTX.out w' hb).2.1 (HTX.out w' hb).2.2 (by omega) (by omega))
  have CRA : Hid (∀ w', Below w3.heap.size w3 w' → Calls Tryz.prog 32 #[va] w' fun o z => o = .returned (.string rA) ∧ Below w'.heap.size w' z) := Lib.hid (fun w' hb => by
    have := eroot_any _ _ w' (HTX.out w' hb).1 (HTX.out w' hb).2.1
    rwa [rootT_R z1 h4, ← hrA] at this)
  have CRB : Hid (∀ w', Below w3.heap.size w3 w' → Calls Tryz.prog 32 #[vb] w' fun o z => o = .returned (.string rB) ∧ Below w'.heap.size w' z) := Lib.hid (fun w' hb => by
    have := eroot_any _ _ w' (HTX.out w' hb).1 (HTX.out w' hb).2.2
    rwa [rootT_R z2 (by omega), ← hrB] at this)
  obtain ⟨n, hn⟩ : ∃ n, n = A.length := ⟨_, rfl⟩
  obtain ⟨pa, ca, rfl⟩ : ∃ p c, va = .slice p n c := by obtain ⟨p, c, h, _⟩ := hva; exact ⟨p, c, by rw [h, hn]⟩
  obtain ⟨pb, cb, rfl⟩ : ∃ p c, vb = .slice p n c := by obtain ⟨p, c, h, _⟩ := hvb; exact ⟨p, c, by rw [h, hn, hl]⟩
  have HXX : Hid (∀ w', Below w3.heap.size w3 w' → w'.heap[ba]? = some (.cells #[.slice pa n ca] 22 (0, 0)) ∧ w'.heap[bb]? = some (.cells #[.slice pb n cb] 22 (0, 0)) ∧ w'.heap[bp]? = some (.cells #[.string ⟨#[]⟩, .string ⟨#[]⟩] 26 (0, 0))) := Lib.hid (fun w' hb => ⟨blk_below x0 hb (blk_lt x0), blk_below x1 hb (blk_lt x1), blk_below x2 hb (blk_lt x2)⟩)
  have HCS : Hid (∀ w', Below w3.heap.size w3 w' → w'.cell? ⟨ba, 0, none⟩ = some (.slice pa n ca) ∧ w'.cell? ⟨bb, 0, none⟩ = some (.slice pb n cb)) := Lib.hid (fun w' hb => ⟨cellB (HXX.out w' hb).1 rfl, cellB (HXX.out w' hb).2.1 rfl⟩)
  have c0 : w3.cell? ⟨ba, 0, none⟩ = some (.slice pa n ca) := cellB x0 rfl
  have c1 : w3.cell? ⟨bb, 0, none⟩ = some (.slice pb n cb) := cellB x1 rfl
  have HF : Hid (A.length = B.length ∧ A.length ≤ 4096 ∧ (∀ s ∈ A, s.size = 32) ∧ (∀ s ∈ B, s.size = 32) ∧ rA = rootR A ∧ rB = rootR B ∧ d = decide (A = B) ∧ Below w.heap.size w w3 ∧ bp = w.heap.size + 1 + 1 ∧ bp < w3.heap.size) := Lib.hid ⟨hl, h4, z1, z2, hrA, hrB, hd, x3, hbp, blk_lt x2⟩
  have e1 : ((n : Int) == (n : Int)) = true := by simp
  have e2 : ¬ (4096 : Int) < (n : Int) := by omega
  have HW3 := Lib.hid hw3
  have HBA := Lib.hid hba
  have HBB := Lib.hid hbb
  have HBP := Lib.hid hbp
  obtain ⟨T, hT⟩ : ∃ T, T = (d || decide (rA ≠ rB)) := ⟨_, rfl⟩
  have HT := Lib.hid hT
  have HBD : Hid (Below w3.heap.size w3 w3.drew) := Lib.hid (Below.refl _ _).drew
  clear hno hl h4 ho1 ho2 z1 z2 hrA hrB hd hn ht hva hvb x0 x1 x2 x3 hba hbb hbp hw3 hT
  go_enter Tryz.func9, Tryz.ntmps9
  go_upto_region 1 with fail
  rw [← HW3.out, ← HBP.out, ← HBB.out, ← HBA.out]
  go_upto_region 3 with (first
    | (go_at_call 31; (with_reducible refine CH1.out.mono ?_); rintro o z ⟨rfl, hx⟩; rw [hx]; clear hx z CH1)
    | (go_at_call 31; (with_reducible refine CH2.out.mono ?_); rintro o z ⟨rfl, hx⟩; rw [hx]; clear hx z))
  go_cut [28] from 29 to 39 (fun x wx => x = .bool T ∧ Hid (Below w3.heap.size w3 wx))
  case first =>
    obtain ⟨q0, q1⟩ := HCS.out _ HBD.out
    cases d with
    | true =>
      refine wp_region_noPanic ?_
      refine wp_region_held_drew (S := fun w' => w'.cell? ⟨ba, 0, none⟩ = some (.slice pa n ca) ∧ w'.cell? ⟨bb, 0, none⟩ = some (.slice pb n cb)) (by kernel_rfl) (by first | exact HCS.out _ HB6.out | exact HCS.out _ HBD.out) (fun hHeld => ?_)
      refine wpAnyH_take (i := 0) (oi := ⟨_, _, _, _, _, _⟩) (v := ?_) rfl (by kernel_rfl) (by kernel_rfl) (by kernel_rfl) (fun _ _ _ h => h) (Or.inl ⟨by rfl, ?_⟩) hHeld ?_
      rotate_left
      · ((intro w hSw; (try dsimp only at hSw); go_simp) <;> with_reducible rfl)
      try simp only [Act.put, List.setIfInBounds_toArray, List.set_cons_zero, List.set_cons_succ]
      refine wpAnyH_take (i := 1) (oi := ⟨_, _, _, _, _, _⟩) (v := ?_) rfl (by kernel_rfl) (by kernel_rfl) (by kernel_rfl) (fun _ _ _ h => h) (Or.inl ⟨by rfl, ?_⟩) hHeld ?_
      rotate_left
      · ((intro w hSw; (try dsimp only at hSw); go_simp) <;> with_reducible rfl)
      try simp only [Act.put, List.setIfInBounds_toArray, List.set_cons_zero, List.set_cons_succ]
      refine wpAnyH_ready (rs := [2]) (by kernel_rfl) (by simp) ?_
      refine AllReadyH.cons (o := ⟨_, _, _, _, _, _⟩) rfl (fun K hK => ?_) ?_
      rotate_left
      · exact AllReadyH.nil
      go_simp
      go_at_call 20; ((with_reducible refine (CE.out _ HBD.out).mono ?_); rintro o x6 ⟨rfl, h⟩; have HB6 : Hid (Below w3.heap.size w3 x6) := Lib.hid (HBD.out.trans (h.mono HBD.out.size)); clear h)
      refine hK.out _ _ (by first | exact HCS.out _ HB6.out | exact HCS.out _ HBD.out) (fun hHeld => ?_)
      clear hK K
      try simp only [Act.put, List.setIfInBounds_toArray, List.set_cons_zero, List.set_cons_succ]
      refine wpAnyH_take (i := 3) (oi := ⟨_, _, _, _, _, _⟩) (v := ?_) rfl (by kernel_rfl) (by kernel_rfl) (by kernel_rfl) (fun _ _ _ h => h) (Or.inl ⟨by rfl, ?_⟩) hHeld ?_
      rotate_left
      · ((intro w hSw; (try dsimp only at hSw); go_simp) <;> with_reducible rfl)
      try simp only [Act.put, List.setIfInBounds_toArray, List.set_cons_zero, List.set_cons_succ]
      refine wpAnyH_take (i := 4) (oi := ⟨_, _, _, _, _, _⟩) (v := undef) rfl (by kernel_rfl) (by kernel_rfl) (by kernel_rfl) (fun _ _ _ h => h) (Or.inr ⟨by rfl, rfl⟩) hHeld ?_
      try simp only [Act.put, List.setIfInBounds_toArray, List.set_cons_zero, List.set_cons_succ]
      refine wpAnyH_take (i := 5) (oi := ⟨_, _, _, _, _, _⟩) (v := undef) rfl (by kernel_rfl) (by kernel_rfl) (by kernel_rfl) (fun _ _ _ h => h) (Or.inr ⟨by rfl, rfl⟩) hHeld ?_
      try simp only [Act.put, List.setIfInBounds_toArray, List.set_cons_zero, List.set_cons_succ]
      refine wpAnyH_take (i := 6) (oi := ⟨_, _, _, _, _, _⟩) (v := undef) rfl (by kernel_rfl) (by kernel_rfl) (by kernel_rfl) (fun _ _ _ h => h) (Or.inr ⟨by rfl, rfl⟩) hHeld ?_
      try simp only [Act.put, List.setIfInBounds_toArray, List.set_cons_zero, List.set_cons_succ]
      refine wpAnyH_take (i := 7) (oi := ⟨_, _, _, _, _, _⟩) (v := undef) rfl (by kernel_rfl) (by kernel_rfl) (by kernel_rfl) (fun _ _ _ h => h) (Or.inr ⟨by rfl, rfl⟩) hHeld ?_
      try simp only [Act.put, List.setIfInBounds_toArray, List.set_cons_zero, List.set_cons_succ]
      refine wpAnyH_take (i := 8) (oi := ⟨_, _, _, _, _, _⟩) (v := undef) rfl (by kernel_rfl) (by kernel_rfl) (by kernel_rfl) (fun _ _ _ h => h) (Or.inr ⟨by rfl, rfl⟩) hHeld ?_
      try simp only [Act.put, List.setIfInBounds_toArray, List.set_cons_zero, List.set_cons_succ]
      refine wpAnyH_take (i := 9) (oi := ⟨_, _, _, _, _, _⟩) (v := ?_) rfl (by kernel_rfl) (by kernel_rfl) (by kernel_rfl) (fun _ _ _ h => h) (Or.inl ⟨by rfl, ?_⟩) hHeld ?_
      rotate_left
      · ((intro w hSw; (try dsimp only at hSw); go_simp) <;> with_reducible rfl)
      try simp only [Act.put, List.setIfInBounds_toArray, List.set_cons_zero, List.set_cons_succ]
      refine wpAnyH_take (i := 10) (oi := ⟨_, _, _, _, _, _⟩) (v := ?_) rfl (by kernel_rfl) (by kernel_rfl) (by kernel_rfl) (fun _ _ _ h => h) (Or.inl ⟨by rfl, ?_⟩) hHeld ?_
      rotate_left
      · ((intro w hSw; (try dsimp only at hSw); go_simp) <;> with_reducible rfl)
      try simp only [Act.put, List.setIfInBounds_toArray, List.set_cons_zero, List.set_cons_succ]
      refine wpAnyH_done (by kernel_rfl) ?_ _
      refine NoPanic.normal ?_
      go_wp2_with fail
      go_meet
      exact ⟨by rw [HT.out]; rfl, HB6⟩
    | false =>
      by_cases hab : rA = rB
      · subst hab
        have e3 : (rA.toList == rA.toList) = true := by simp
        have hTT : T = false := by rw [HT.out]; simp
        go_region_held3 (fun w' => w'.cell? ⟨ba, 0, none⟩ = some (.slice pa n ca) ∧ w'.cell? ⟨bb, 0, none⟩ = some (.slice pb n cb)) (first | exact HCS.out _ HB8.out | exact HCS.out _ HB7.out | exact HCS.out _ HB6.out | exact HCS.out _ HBD.out) (first
          | (go_at_call 20; (with_reducible refine (CE.out _ HBD.out).mono ?_); rintro o x6 ⟨rfl, h⟩; have HB6 : Hid (Below w3.heap.size w3 x6) := Lib.hid (HBD.out.trans (h.mono HBD.out.size)); clear h)
          | (go_at_call 32; (with_reducible refine (CRA.out _ HB6.out).mono ?_); rintro o x7 ⟨rfl, h⟩; have HB7 : Hid (Below w3.heap.size w3 x7) := Lib.hid (HB6.out.trans (h.mono HB6.out.size)); clear h)
          | (go_at_call 32; (with_reducible refine (CRB.out _ HB7.out).mono ?_); rintro o x8 ⟨rfl, h⟩; have HB8 : Hid (Below w3.heap.size w3 x8) := Lib.hid (HB7.out.trans (h.mono HB7.out.size)); clear h))
        all_goals
          go_wp2_with fail
          go_meet
          exact ⟨by rw [hTT], HB8⟩
      · have e3 : (rA.toList == rB.toList) = false := textQ_ne hab
        have e4 : (rA.toList != rB.toList) = true := textQ_bne hab
        have hTT : T = true := by rw [HT.out, decide_eq_true hab]; rfl
        clear hab
        go_region_held3 (fun w' => w'.cell? ⟨ba, 0, none⟩ = some (.slice pa n ca) ∧ w'.cell? ⟨bb, 0, none⟩ = some (.slice pb n cb)) (first | exact HCS.out _ HB8.out | exact HCS.out _ HB7.out | exact HCS.out _ HB6.out | exact HCS.out _ HBD.out) (first
          | (go_at_call 20; (with_reducible refine (CE.out _ HBD.out).mono ?_); rintro o x6 ⟨rfl, h⟩; have HB6 : Hid (Below w3.heap.size w3 x6) := Lib.hid (HBD.out.trans (h.mono HBD.out.size)); clear h)
          | (go_at_call 32; (with_reducible refine (CRA.out _ HB6.out).mono ?_); rintro o x7 ⟨rfl, h⟩; have HB7 : Hid (Below w3.heap.size w3 x7) := Lib.hid (HB6.out.trans (h.mono HB6.out.size)); clear h)
          | (go_at_call 32; (with_reducible refine (CRB.out _ HB7.out).mono ?_); rintro o x8 ⟨rfl, h⟩; have HB8 : Hid (Below w3.heap.size w3 x8) := Lib.hid (HB7.out.trans (h.mono HB7.out.size)); clear h))
        all_goals
          go_wp2_with fail
          go_meet
          exact ⟨by rw [hTT], HB8⟩
  case rest =>
    obtain ⟨rfl, HWC⟩ := hcut
    have hxp := (HXX.out _ HWC.out).2.2
    have hf := HF.out
    have hbc := hf.2.2.2.2.2.2.2.1.trans (HWC.out.mono hf.2.2.2.2.2.2.2.1.size)
    cases T with
    | true =>
      have hP : A = B ∨ rootR A ≠ rootR B := by
        have h1 := HT.out
        rw [hf.2.2.2.2.2.2.1, hf.2.2.2.2.1, hf.2.2.2.2.2.1] at h1
        by_cases hab : A = B
        · exact .inl hab
        · rw [decide_eq_false hab, Bool.false_or] at h1
          exact .inr (of_decide_eq_true h1.symm)
      have k0 : wc.cell? ⟨bp, 0, none⟩ = some (.string ⟨#[]⟩) := cellB hxp rfl
      have k1 : wc.cell? ⟨bp, 1, none⟩ = some (.string ⟨#[]⟩) := cellB hxp rfl
      have f0 : wc.frozen? ⟨bp, 0, none⟩ = false := frozB hxp
      have f1 : wc.frozen? ⟨bp, 1, none⟩ = false := frozB hxp
      have HX6 := Lib.hid (blk_set2 (x := .string ⟨#[]⟩) (y := .string ⟨#[]⟩) hxp)
      have HFIN : Hid (NoneP 60 w (.returned (.tuple #[.agg #[.string ⟨#[]⟩, .string ⟨#[]⟩], .int .i64 60])) ((wc.setCell ⟨bp, 0, none⟩ (.string ⟨#[]⟩)).setCell ⟨bp, 1, none⟩ (.string ⟨#[]⟩))) :=
        Lib.hid ⟨rfl, (hbc.setCell (p := ⟨bp, 0, none⟩) (by show w.heap.size ≤ bp; omega) _).setCell (p := ⟨bp, 1, none⟩) (by show w.heap.size ≤ bp; omega) _⟩
      have HP := Lib.hid hP
      clear hP hxp hf hbc
      go_wp2_with fail
      have m0 := cellB (k := 0) HX6.out rfl
      have m1 := cellB (k := 1) HX6.out rfl
      refine bodyPost_ret (v := .tuple #[.agg #[.string ⟨#[]⟩, .string ⟨#[]⟩], .int .i64 60]) (by simp [results, Tryz.results9, go_sem, m0, m1]) rfl ?_
      unfold LvQ
      rw [if_pos HP.out]
      exact HFIN.out
    | false =>
      have hP : ¬ (A = B ∨ rootR A ≠ rootR B) := by
        have h1 := HT.out
        rw [hf.2.2.2.2.2.2.1, hf.2.2.2.2.1, hf.2.2.2.2.2.1] at h1
        rintro (h2 | h2)
        · rw [decide_eq_true h2] at h1
          exact nomatch h1
        · rw [decide_eq_true h2, Bool.or_true] at h1
          exact nomatch h1
      have hPa : A ≠ B := fun h => hP (.inl h)
      have hPb : rootR A = rootR B := by
        by_cases h : rootR A = rootR B
        · exact h
        · exact absurd (.inr h) hP
      have CC := Lib.hid (caughtLq_any (DnR A B) ba bb wc (Lib.hid (fun w' hb => by
        have hb3 := HWC.out.trans (hb.mono HWC.out.size)
        obtain ⟨t1, t2, t3⟩ := HTX.out w' hb3
        obtain ⟨s1, s2⟩ := HCS.out w' hb3
        exact leaves1_anyQ t1 s1 s2 t2 t3 hf.1 hf.2.1 hf.2.2.1 hf.2.2.2.1 hPa hPb)))
      have hmf : ∀ (fn : Fn) (first cap : Array Value) (w : World), (Instr.makeFunc fn first cap).run Tryz.prog w = .ok (.func fn first cap) w := fun _ _ _ _ => rfl
      have HP := Lib.hid hP
      have HBC := Lib.hid hbc
      have HXP := Lib.hid hxp
      have HBPW : Hid (w.heap.size ≤ bp) := Lib.hid (by omega)
      clear hP hPa hPb hf hxp hbc
      go_wp2_with (go_at_call 23; (with_reducible refine CC.out.mono ?_); rintro o z ⟨p, q, rfl, hpq, hb⟩; have HZ := Lib.hid (And.intro hpq hb); have hxz := blk_below HXP.out hb (blk_lt HXP.out); have HXZ := Lib.hid hxz; have k0 : z.cell? ⟨bp, 0, none⟩ = some (.string ⟨#[]⟩) := cellB hxz rfl; have k1 : z.cell? ⟨bp, 1, none⟩ = some (.string ⟨#[]⟩) := cellB hxz rfl; have f0 : z.frozen? ⟨bp, 0, none⟩ = false := frozB hxz; have f1 : z.frozen? ⟨bp, 1, none⟩ = false := frozB hxz; clear hpq hb hxz)
      have hx6 := blk_set2 (x := .string p) (y := .string q) HXZ.out
      have m0 := cellB (k := 0) hx6 rfl
      have m1 := cellB (k := 1) hx6 rfl
      refine bodyPost_ret (v := .tuple #[.agg #[.string p, .string q], .int .i64 0]) (by simp [results, Tryz.results9, go_sem, m0, m1]) rfl ?_
      unfold LvQ
      rw [if_neg HP.out]
      have hb2 := HBC.out.trans (HZ.out.2.mono HBC.out.size)
      exact ⟨p, q, rfl, HZ.out.1, (hb2.setCell (p := ⟨bp, 0, none⟩) HBPW.out _).setCell (p := ⟨bp, 1, none⟩) HBPW.out _⟩
end Go.Proofs.YtdbghgpohdijfaaGreatDoor
/- extract.Entries, told which pair. -/
namespace Go.Proofs.YtdbghgpohdijfaaGreatDoor
open Go.RowKit Go.Scr
set_option linter.unusedVariables false
/-- what Entries answers -/
def EnQ (a b : ByteArray) (w : World) (e : Ending) (w' : World) : Prop := if a = b ∨ hleaf a ≠ hleaf b then NoneP 60 w e w' else PairQ (fun p q => p = ⟨#[0]⟩ ++ a ∧ q = ⟨#[0]⟩ ++ b) w e w'
set_option maxRecDepth 100000 in
set_option maxHeartbeats 4000000 in
theorem entries_anyQ {w : World} {a b : ByteArray} (ht : Tabs w) (hsa : a.size ≤ 1048576) (hsb : b.size ≤ 1048576) :
    Calls Tryz.prog 13 #[.string a, .string b] w (EnQ a b w) := by
  obtain ⟨w1, hw1⟩ : ∃ x, x = w.alloc (.cells #[.string ⟨#[]⟩, .string ⟨#[]⟩] 26) := ⟨_, rfl⟩
  obtain ⟨x0, x1⟩ := one_blockE w #[.string ⟨#[]⟩, .string ⟨#[]⟩] 26
  rw [← hw1] at x0 x1
  obtain ⟨bp, hbp⟩ : ∃ x, x = w.heap.size := ⟨_, rfl⟩
  rw [← hbp] at x0
  obtain ⟨la, hla⟩ : ∃ x, x = hleaf a := ⟨_, rfl⟩
  obtain ⟨lb, hlb⟩ : ∃ x, x = hleaf b := ⟨_, rfl⟩
  have CL1 : Hid (∀ w', Below w1.heap.size w1 w' → Calls Tryz.prog 42 #[.string a] w' fun o z => o = .returned (.string la) ∧ Below w'.heap.size w' z) := Lib.hid (fun w' hb => by rw [hla]; exact dleaf_any a w' ((ht.below x1).below hb) (by omega))
  have CL2 : Hid (∀ w', Below w1.heap.size w1 w' → Calls Tryz.prog 42 #[.string b] w' fun o z => o = .returned (.string lb) ∧ Below w'.heap.size w' z) := Lib.hid (fun w' hb => by rw [hlb]; exact dleaf_any b w' ((ht.below x1).below hb) (by omega))
  have HX : Hid (∀ w', Below w1.heap.size w1 w' → w'.heap[bp]? = some (.cells #[.string ⟨#[]⟩, .string ⟨#[]⟩] 26 (0, 0))) := Lib.hid (fun w' hb => blk_below x0 hb (blk_lt x0))
  have HF : Hid (la = hleaf a ∧ lb = hleaf b ∧ Below w.heap.size w w1 ∧ bp = w.heap.size) := Lib.hid ⟨hla, hlb, x1, hbp⟩
  have HNO : Hid (∀ wx, Below w1.heap.size w1 wx → (a = b ∨ la ≠ lb) → ∀ e, e = .returned (.tuple #[.agg #[.string ⟨#[]⟩, .string ⟨#[]⟩], .int .i64 60]) → EnQ a b w e ((wx.setCell ⟨bp, 0, none⟩ (.string ⟨#[]⟩)).setCell ⟨bp, 1, none⟩ (.string ⟨#[]⟩))) := Lib.hid (fun wx hb h e he => by
    unfold EnQ
    rw [← hla, ← hlb, if_pos h]
    exact ⟨he, ((x1.trans (hb.mono x1.size)).setCell (p := ⟨bp, 0, none⟩) (by show w.heap.size ≤ bp; omega) _).setCell (p := ⟨bp, 1, none⟩) (by show w.heap.size ≤ bp; omega) _⟩)
  have HW1 := Lib.hid hw1
  have HBP := Lib.hid hbp
  have ha1 : (⟨#[0]⟩ : ByteArray).size + a.size ≤ 140737488355200 := by show 1 + a.size ≤ _; omega
  have hb1 : (⟨#[0]⟩ : ByteArray).size + b.size ≤ 140737488355200 := by show 1 + b.size ≤ _; omega
  have HSZ : Hid ((⟨#[0]⟩ ++ a : ByteArray).size ≤ 2000000 ∧ (⟨#[0]⟩ ++ b : ByteArray).size ≤ 2000000) := Lib.hid ⟨by rw [ByteArray.size_append]; show 1 + a.size ≤ _; omega, by rw [ByteArray.size_append]; show 1 + b.size ≤ _; omega⟩
  clear ht hsa hsb hw1 x0 x1 hbp hla hlb
  by_cases hab : a = b
  · subst hab
    have e1 : (a.toList == a.toList) = true := by simp
    have hx := HX.out w1 (Below.refl _ _)
    have k0 : w1.cell? ⟨bp, 0, none⟩ = some (.string ⟨#[]⟩) := cellB hx rfl
    have k1 : w1.cell? ⟨bp, 1, none⟩ = some (.string ⟨#[]⟩) := cellB hx rfl
    have f0 : w1.frozen? ⟨bp, 0, none⟩ = false := frozB hx
    have f1 : w1.frozen? ⟨bp, 1, none⟩ = false := frozB hx
    have HX6 := Lib.hid (blk_set2 (x := .string ⟨#[]⟩) (y := .string ⟨#[]⟩) hx)
    clear hx
    go_enter Tryz.func13, Tryz.ntmps13
    go_upto_region 1 with fail
    rw [← HW1.out, ← HBP.out]
    go_wp2_with fail
    have m0 := cellB (k := 0) HX6.out rfl
    have m1 := cellB (k := 1) HX6.out rfl
    refine bodyPost_ret (v := .tuple #[.agg #[.string ⟨#[]⟩, .string ⟨#[]⟩], .int .i64 60]) (by simp [results, Tryz.results13, go_sem, m0, m1]) rfl ?_
    exact HNO.out w1 (Below.refl _ _) (.inl (by first | rfl | trivial)) _ rfl
  have e1 : (a.toList == b.toList) = false := textQ_ne hab
  by_cases hll : la = lb
  case neg =>
    have e2 : (la.toList == lb.toList) = false := textQ_ne hll
    have e3 : (la.toList != lb.toList) = true := textQ_bne hll
    have HLL := Lib.hid hll
    clear hll hab
    go_enter Tryz.func13, Tryz.ntmps13
    go_upto_region 1 with fail
    rw [← HW1.out, ← HBP.out]
    go_wp2_with (first
      | (go_at_call 42; (with_reducible refine (CL1.out _ (Below.refl _ _)).mono ?_); rintro o x1 ⟨rfl, h⟩; have HB1 : Hid (Below w1.heap.size w1 x1) := Lib.hid h; clear h)
      | (go_at_call 42; (with_reducible refine (CL2.out _ HB1.out).mono ?_); rintro o x2 ⟨rfl, h⟩; have HB2 : Hid (Below w1.heap.size w1 x2) := Lib.hid (HB1.out.trans (h.mono HB1.out.size)); have hx := HX.out _ HB2.out; have HXX := Lib.hid hx; have k0 : x2.cell? ⟨bp, 0, none⟩ = some (.string ⟨#[]⟩) := cellB hx rfl; have k1 : x2.cell? ⟨bp, 1, none⟩ = some (.string ⟨#[]⟩) := cellB hx rfl; have f0 : x2.frozen? ⟨bp, 0, none⟩ = false := frozB hx; have f1 : x2.frozen? ⟨bp, 1, none⟩ = false := frozB hx; clear h hx))
    have hx6 := blk_set2 (x := .string ⟨#[]⟩) (y := .string ⟨#[]⟩) HXX.out
    have m0 := cellB (k := 0) hx6 rfl
    have m1 := cellB (k := 1) hx6 rfl
    refine bodyPost_ret (v := .tuple #[.agg #[.string ⟨#[]⟩, .string ⟨#[]⟩], .int .i64 60]) (by simp [results, Tryz.results13, go_sem, m0, m1]) rfl ?_
    exact HNO.out _ HB2.out (.inr HLL.out) _ rfl
  subst hll
  have e2 : (la.toList == la.toList) = true := by simp
  have HAB := Lib.hid hab
  clear hab
  obtain ⟨ta, hta⟩ : ∃ x : ByteArray, x = ⟨#[0]⟩ ++ a := ⟨_, rfl⟩
  obtain ⟨tb, htb⟩ : ∃ x : ByteArray, x = ⟨#[0]⟩ ++ b := ⟨_, rfl⟩
  have HTT : Hid (ta = ⟨#[0]⟩ ++ a ∧ tb = ⟨#[0]⟩ ++ b) := Lib.hid ⟨hta, htb⟩
  clear hta htb
  go_enter Tryz.func13, Tryz.ntmps13
  go_upto_region 1 with fail
  rw [← HW1.out, ← HBP.out]
  go_wp2_with (first
    | (go_at_call 42; (with_reducible refine (CL1.out _ (Below.refl _ _)).mono ?_); rintro o x1 ⟨rfl, h⟩; have HB1 : Hid (Below w1.heap.size w1 x1) := Lib.hid h; clear h)
    | (go_at_call 42; (with_reducible refine (CL2.out _ HB1.out).mono ?_); rintro o x2 ⟨rfl, h⟩; have HB2 : Hid (Below w1.heap.size w1 x2) := Lib.hid (HB1.out.trans (h.mono HB1.out.size)); have hx := HX.out _ HB2.out; have HXX := Lib.hid hx; have k0 : x2.cell? ⟨bp, 0, none⟩ = some (.string ⟨#[]⟩) := cellB hx rfl; have k1 : x2.cell? ⟨bp, 1, none⟩ = some (.string ⟨#[]⟩) := cellB hx rfl; have f0 : x2.frozen? ⟨bp, 0, none⟩ = false := frozB hx; have f1 : x2.frozen? ⟨bp, 1, none⟩ = false := frozB hx; clear h hx))
  rw [← HTT.out.1, ← HTT.out.2]
  have hx6 := blk_set2 (x := .string ta) (y := .string tb) HXX.out
  have m0 := cellB (k := 0) hx6 rfl
  have m1 := cellB (k := 1) hx6 rfl
  refine bodyPost_ret (v := .tuple #[.agg #[.string ta, .string tb], .int .i64 0]) (by simp [results, Tryz.results13, go_sem, m0, m1]) rfl ?_
  have hf := HF.out
  have hne : ¬ (a = b ∨ hleaf a ≠ hleaf b) := by
    rintro (h | h)
    · exact HAB.out h
    · exact h (by rw [← hf.1, ← hf.2.1])
  unfold EnQ
  rw [if_neg hne]
  exact ⟨ta, tb, rfl, ⟨HTT.out.1, HTT.out.2⟩, ((hf.2.2.1.trans (HB2.out.mono hf.2.2.1.size)).setCell (p := ⟨bp, 0, none⟩) (by show w.heap.size ≤ bp; omega) _).setCell (p := ⟨bp, 1, none⟩) (by show w.heap.size ≤ bp; omega) _⟩
end Go.Proofs.YtdbghgpohdijfaaGreatDoor
/- extract's four answers in one form. -/
namespace Go.Proofs.YtdbghgpohdijfaaGreatDoor
open Go.RowKit Go.Scr
set_option linter.unusedVariables false
/-- a pair and an error come out, told which -/
def Pr (S : ByteArray → ByteArray → Int → Prop) (w : World) (e : Ending) (w' : World) : Prop := ∃ p q c, e = .returned (.tuple #[.agg #[.string p, .string q], .int .i64 c]) ∧ S p q c ∧ Below w.heap.size w w'
/-- no pair -/
def NoS (d : Int) (p q : ByteArray) (c : Int) : Prop := p = ⟨#[]⟩ ∧ q = ⟨#[]⟩ ∧ c = d
theorem pr_no {d : Int} {S : ByteArray → ByteArray → Int → Prop} (h : S ⟨#[]⟩ ⟨#[]⟩ d) {w w' : World} {e : Ending} (hn : NoneP d w e w') : Pr S w e w' := ⟨_, _, _, hn.1, h, hn.2⟩
theorem pr_pair {Z : ByteArray → ByteArray → Prop} {S : ByteArray → ByteArray → Int → Prop} (h : ∀ p q, Z p q → S p q 0) {w w' : World} {e : Ending} (hn : PairQ Z w e w') : Pr S w e w' := by
  obtain ⟨p, q, he, hz, hb⟩ := hn
  exact ⟨p, q, 0, he, h p q hz, hb⟩
open Classical in
/-- Inclusion's answer -/
def InS (s i : Int) (root leaf : ByteArray) (P : List ByteArray) (other : ByteArray) (Q : List ByteArray) (p q : ByteArray) (c : Int) : Prop :=
  if inclS s i leaf P root ≠ 0 ∨ inclS s i other Q root ≠ 0 then NoS 61 p q c
  else if leaf = other ∧ P = Q then NoS 60 p q c
  else hiR (textsF ((dn s.toNat i.toNat).zip P) leaf) (textsF ((dn s.toNat i.toNat).zip Q) other) = some (p, q) ∧ c = 0
theorem incl_all {w : World} (s i : Int) (root leaf other : ByteArray) (vp vq : Value) (P Q : List ByteArray) (ht : Tabs w) (hvp : Txts w vp P) (hvq : Txts w vq Q) (hlp : P.length ≤ 1048576) (hlq : Q.length ≤ 1048576) :
    Calls Tryz.prog 6 #[.int .i64 s, .int .i64 i, .string root, .string leaf, vp, .string other, vq] w (Pr (InS s i root leaf P other Q) w) := by
  by_cases h : inclS s i leaf P root ≠ 0 ∨ inclS s i other Q root ≠ 0
  · refine (incl_proof ht hvp hvq hlp hlq h).mono fun e w' hn => pr_no ?_ hn
    unfold InS
    rw [if_pos h]
    exact ⟨rfl, rfl, rfl⟩
  · have h1 : inclS s i leaf P root = 0 := Classical.byContradiction fun x => h (.inl x)
    have h2 : inclS s i other Q root = 0 := Classical.byContradiction fun x => h (.inr x)
    by_cases h3 : leaf = other ∧ P = Q
    · obtain ⟨rfl, rfl⟩ := h3
      refine (incl_none ht hvp hvq hlp h1).mono fun e w' hn => pr_no ?_ hn
      unfold InS
      rw [if_neg h, if_pos ⟨rfl, rfl⟩]
      exact ⟨rfl, rfl, rfl⟩
    · have h4 : leaf ≠ other ∨ P ≠ Q := by
        by_cases e : leaf = other
        · exact .inr fun e2 => h3 ⟨e, e2⟩
        · exact .inl e
      refine (incl_pairQ ht hvp hvq hlp hlq h1 h2 h4).mono fun e w' hn => pr_pair (fun p q hz => ?_) hn
      unfold InS
      rw [if_neg h, if_neg h3]
      exact ⟨hz, rfl⟩
open Classical in
/-- Leaves' answer -/
def LvS (A B : List ByteArray) (p q : ByteArray) (c : Int) : Prop :=
  if lvNo A B = true then NoS 1 p q c else if A = B ∨ rootR A ≠ rootR B then NoS 60 p q c else DnR A B p q ∧ c = 0
theorem leaves_all {w : World} {va vb : Value} {A B : List ByteArray} (ht : Tabs w) (hva : Txts w va A) (hvb : Txts w vb B) :
    Calls Tryz.prog 9 #[va, vb] w (Pr (LvS A B) w) := by
  by_cases h : lvNo A B = true
  · refine (leaves_arg ht hva hvb h).mono fun e w' hn => pr_no ?_ hn
    unfold LvS
    rw [if_pos h]
    exact ⟨rfl, rfl, rfl⟩
  · refine (leaves_okQ ht hva hvb (by simpa using h)).mono fun e w' hn => ?_
    unfold LvQ at hn
    by_cases h2 : A = B ∨ rootR A ≠ rootR B
    · rw [if_pos h2] at hn
      refine pr_no ?_ hn
      unfold LvS
      rw [if_neg h, if_pos h2]
      exact ⟨rfl, rfl, rfl⟩
    · rw [if_neg h2] at hn
      refine pr_pair (fun p q hz => ?_) hn
      unfold LvS
      rw [if_neg h, if_neg h2]
      exact ⟨hz, rfl⟩
open Classical in
/-- Consistency's answer -/
def CoS (L : List ByteArray) (f : Int) (old : ByteArray) (P : List ByteArray) (p q : ByteArray) (c : Int) : Prop :=
  if refusedE L ≠ 0 then NoS 1 p q c
  else if consS f L.length old (rootR L) P ≠ 0 then NoS 61 p q c
  else if old = rootR (L.take f.toNat) then NoS 60 p q c
  else hiR (textsF ((fl f.toNat L.length).zip (restL (wh f.toNat L.length true) P)) (seedL (wh f.toNat L.length true) old P)) (textsF ((fl f.toNat L.length).zip (restL (wh f.toNat L.length true) (proofR f.toNat L true))) (seedL (wh f.toNat L.length true) (rootR (L.take f.toNat)) (proofR f.toNat L true))) = some (p, q) ∧ c = 0
theorem not_refused {L : List ByteArray} (h : refusedE L = 0) : L.length ≤ 4096 ∧ ∀ s ∈ L, s.size = 32 := by
  unfold refusedE at h
  split at h
  · omega
  · split at h
    · omega
    · rename_i h1 h2
      refine ⟨by omega, fun s hs => ?_⟩
      have h3 : ok32 L = true := by simpa using h2
      unfold ok32 at h3
      rw [List.all_eq_true] at h3
      simpa using h3 s hs
theorem cons_all {w : World} (f : Int) (old : ByteArray) {vl vp : Value} {L P : List ByteArray} (ht : Tabs w) (hvl : Txts w vl L) (hvp : Txts w vp P) (hlp : P.length ≤ 1048576) :
    Calls Tryz.prog 11 #[vl, .int .i64 f, .string old, vp] w (Pr (CoS L f old P) w) := by
  by_cases h : refusedE L ≠ 0
  · refine (cons_arg (P := P) ht hvl h).mono fun e w' hn => pr_no ?_ hn
    unfold CoS
    rw [if_pos h]
    exact ⟨rfl, rfl, rfl⟩
  · obtain ⟨h4, h32⟩ := not_refused (Classical.byContradiction h)
    by_cases h2 : consS f L.length old (rootR L) P ≠ 0
    · refine (cons_proof ht hvl hvp h4 h32 hlp h2).mono fun e w' hn => pr_no ?_ hn
      unfold CoS
      rw [if_neg h, if_pos h2]
      exact ⟨rfl, rfl, rfl⟩
    · have h3 : consS f L.length old (rootR L) P = 0 := Classical.byContradiction h2
      obtain ⟨m, rfl, h1m, hml, _⟩ := consS_ok h3
      by_cases ho : old = rootR (L.take m)
      · refine (cons_none ht hvl hvp h4 h32 hlp hml h3 ho).mono fun e w' hn => pr_no ?_ hn
        unfold CoS
        rw [if_neg h, if_neg h2, Int.toNat_natCast, if_pos ho]
        exact ⟨rfl, rfl, rfl⟩
      · refine (cons_pairQ ht hvl hvp h4 h32 hlp h1m hml h3 ho).mono fun e w' hn => pr_pair (fun p q hz => ?_) hn
        unfold CoS
        rw [if_neg h, if_neg h2, Int.toNat_natCast, if_neg ho]
        exact ⟨hz, rfl⟩
open Classical in
/-- Entries' answer -/
def EtS (a b : ByteArray) (p q : ByteArray) (c : Int) : Prop :=
  if a = b ∨ hleaf a ≠ hleaf b then NoS 60 p q c else (p = ⟨#[0]⟩ ++ a ∧ q = ⟨#[0]⟩ ++ b) ∧ c = 0
theorem entries_all {w : World} {a b : ByteArray} (ht : Tabs w) (hsa : a.size ≤ 1048576) (hsb : b.size ≤ 1048576) :
    Calls Tryz.prog 13 #[.string a, .string b] w (Pr (EtS a b) w) := by
  refine (entries_anyQ ht hsa hsb).mono fun e w' hn => ?_
  unfold EnQ at hn
  by_cases h : a = b ∨ hleaf a ≠ hleaf b
  · rw [if_pos h] at hn
    refine pr_no ?_ hn
    unfold EtS
    rw [if_pos h]
    exact ⟨rfl, rfl, rfl⟩
  · rw [if_neg h] at hn
    refine pr_pair (fun p q hz => ?_) hn
    unfold EtS
    rw [if_neg h]
    exact ⟨hz, rfl⟩
end Go.Proofs.YtdbghgpohdijfaaGreatDoor
