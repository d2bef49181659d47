/- extract.Leaves, the lists looked through: walked. -/
import Derived.Test.YtdbghgpohdijfaaGreatDoorMa31
namespace Go.Proofs.YtdbghgpohdijfaaGreatDoor
open Go.RowKit Go.Scr
set_option linter.unusedVariables false
theorem textQ_bne {a b : ByteArray} (h : a ≠ b) : (a.toList != b.toList) = true := by
  unfold bne
  rw [textQ_ne h]
  rfl
/-- what Leaves answers where the lists may be: none, or a pair -/
def LvP (A B : List ByteArray) (w : World) (e : Ending) (w' : World) : Prop := if A = B ∨ rootR A ≠ rootR B then NoneP 60 w e w' else PairP w e w'
set_option maxRecDepth 100000 in
set_option maxHeartbeats 4000000 in
theorem leaves_ok {w : World} {va vb : Value} {A B : List ByteArray} (ht : Tabs w) (hva : Txts w va A) (hvb : Txts w vb B) (hno : lvNo A B = false) :
    Calls Tryz.prog 9 #[va, vb] w (LvP A B w) := by
  have hno2 : A.length = B.length ∧ A.length ≤ 4096 ∧ ok32 A = true ∧ ok32 B = true := by
    unfold lvNo at hno
    rw [Bool.or_eq_false_iff, Bool.or_eq_false_iff, Bool.or_eq_false_iff] at hno
    obtain ⟨⟨⟨h1, h2⟩, h3⟩, h4⟩ := hno
    have h1 := of_decide_eq_false h1
    have h2 := of_decide_eq_false h2
    exact ⟨by omega, by omega, by simpa using h3, by simpa using h4⟩
  obtain ⟨hl, h4, ho1, ho2⟩ := hno2
  have z1 : ∀ s ∈ A, s.size = 32 := fun s hs => by unfold ok32 at ho1; rw [List.all_eq_true] at ho1; simpa using ho1 s hs
  have z2 : ∀ s ∈ B, s.size = 32 := fun s hs => by unfold ok32 at ho2; rw [List.all_eq_true] at ho2; simpa using ho2 s hs
  obtain ⟨w3, hw3⟩ : ∃ x, x = ((w.alloc (.cells #[va] 22)).alloc (.cells #[vb] 22)).alloc (.cells #[.string ⟨#[]⟩, .string ⟨#[]⟩] 26) := ⟨_, rfl⟩
  obtain ⟨x0, x1, x2, x3⟩ := three_blocksE w #[va] #[vb] #[.string ⟨#[]⟩, .string ⟨#[]⟩] 22 22 26
  rw [← hw3] at x0 x1 x2 x3
  obtain ⟨ba, hba⟩ : ∃ x, x = w.heap.size := ⟨_, rfl⟩
  obtain ⟨bb, hbb⟩ : ∃ x, x = w.heap.size + 1 := ⟨_, rfl⟩
  obtain ⟨bp, hbp⟩ : ∃ x, x = w.heap.size + 1 + 1 := ⟨_, rfl⟩
  rw [← hba] at x0
  rw [← hbb] at x1
  rw [← hbp] at x2
  have CH1 := Lib.hid (ehashes_any va A w3 (hva.below x3 (Nat.le_refl _)))
  have CH2 := Lib.hid (ehashes_any vb B w3 (hvb.below x3 (Nat.le_refl _)))
  have HTX : Hid (∀ w', Below w3.heap.size w3 w' → Tabs w' ∧ Txts w' va A ∧ Txts w' vb B) := Lib.hid (fun w' hb => ⟨(ht.below x3).below hb, (hva.below x3 (Nat.le_refl _)).below hb (Nat.le_refl _), (hvb.below x3 (Nat.le_refl _)).below hb (Nat.le_refl _)⟩)
  rw [ho1] at CH1
  rw [ho2] at CH2
  obtain ⟨rA, hrA⟩ : ∃ r, r = rootR A := ⟨_, rfl⟩
  obtain ⟨rB, hrB⟩ : ∃ r, r = rootR B := ⟨_, rfl⟩
  obtain ⟨d, hd⟩ : ∃ d, d = decide (A = B) := ⟨_, rfl⟩
  have CE : Hid (∀ w', Below w3.heap.size w3 w' → Calls Tryz.prog 20 #[va, vb] w' fun o z => o = .returned (.bool d) ∧ Below w'.heap.size w' z) := Lib.hid (fun w' hb => by
    rw [hd]
    exact sameQ_any _ _ _ _ w' (HTX.out w' hb).2.1 (HTX.out w' hb).2.2 (by omega) (by omega))
  have CRA : Hid (∀ w', Below w3.heap.size w3 w' → Calls Tryz.prog 32 #[va] w' fun o z => o = .returned (.string rA) ∧ Below w'.heap.size w' z) := Lib.hid (fun w' hb => by
    have := eroot_any _ _ w' (HTX.out w' hb).1 (HTX.out w' hb).2.1
    rwa [rootT_R z1 h4, ← hrA] at this)
  have CRB : Hid (∀ w', Below w3.heap.size w3 w' → Calls Tryz.prog 32 #[vb] w' fun o z => o = .returned (.string rB) ∧ Below w'.heap.size w' z) := Lib.hid (fun w' hb => by
    have := eroot_any _ _ w' (HTX.out w' hb).1 (HTX.out w' hb).2.2
    rwa [rootT_R z2 (by omega), ← hrB] at this)
  obtain ⟨n, hn⟩ : ∃ n, n = A.length := ⟨_, rfl⟩
  obtain ⟨pa, ca, rfl⟩ : ∃ p c, va = .slice p n c := by obtain ⟨p, c, h, _⟩ := hva; exact ⟨p, c, by rw [h, hn]⟩
  obtain ⟨pb, cb, rfl⟩ : ∃ p c, vb = .slice p n c := by obtain ⟨p, c, h, _⟩ := hvb; exact ⟨p, c, by rw [h, hn, hl]⟩
  have HXX : Hid (∀ w', Below w3.heap.size w3 w' → w'.heap[ba]? = some (.cells #[.slice pa n ca] 22 (0, 0)) ∧ w'.heap[bb]? = some (.cells #[.slice pb n cb] 22 (0, 0)) ∧ w'.heap[bp]? = some (.cells #[.string ⟨#[]⟩, .string ⟨#[]⟩] 26 (0, 0))) := Lib.hid (fun w' hb => ⟨blk_below x0 hb (blk_lt x0), blk_below x1 hb (blk_lt x1), blk_below x2 hb (blk_lt x2)⟩)
  have HCS : Hid (∀ w', Below w3.heap.size w3 w' → w'.cell? ⟨ba, 0, none⟩ = some (.slice pa n ca) ∧ w'.cell? ⟨bb, 0, none⟩ = some (.slice pb n cb)) := Lib.hid (fun w' hb => ⟨cellB (HXX.out w' hb).1 rfl, cellB (HXX.out w' hb).2.1 rfl⟩)
  have c0 : w3.cell? ⟨ba, 0, none⟩ = some (.slice pa n ca) := cellB x0 rfl
  have c1 : w3.cell? ⟨bb, 0, none⟩ = some (.slice pb n cb) := cellB x1 rfl
  have HF : Hid (A.length = B.length ∧ A.length ≤ 4096 ∧ (∀ s ∈ A, s.size = 32) ∧ (∀ s ∈ B, s.size = 32) ∧ rA = rootR A ∧ rB = rootR B ∧ d = decide (A = B) ∧ Below w.heap.size w w3 ∧ bp = w.heap.size + 1 + 1 ∧ bp < w3.heap.size) := Lib.hid ⟨hl, h4, z1, z2, hrA, hrB, hd, x3, hbp, blk_lt x2⟩
  have e1 : ((n : Int) == (n : Int)) = true := by simp
  have e2 : ¬ (4096 : Int) < (n : Int) := by omega
  have HW3 := Lib.hid hw3
  have HBA := Lib.hid hba
  have HBB := Lib.hid hbb
  have HBP := Lib.hid hbp
  obtain ⟨T, hT⟩ : ∃ T, T = (d || decide (rA ≠ rB)) := ⟨_, rfl⟩
  have HT := Lib.hid hT
  have HBD : Hid (Below w3.heap.size w3 w3.drew) := Lib.hid (Below.refl _ _).drew
  clear hno hl h4 ho1 ho2 z1 z2 hrA hrB hd hn ht hva hvb x0 x1 x2 x3 hba hbb hbp hw3 hT
  go_enter Tryz.func9, Tryz.ntmps9
  go_upto_region 1 with fail
  rw [← HW3.out, ← HBP.out, ← HBB.out, ← HBA.out]
  go_upto_region 3 with (first
    | (go_at_call 31; (with_reducible refine CH1.out.mono ?_); rintro o z ⟨rfl, hx⟩; rw [hx]; clear hx z CH1)
    | (go_at_call 31; (with_reducible refine CH2.out.mono ?_); rintro o z ⟨rfl, hx⟩; rw [hx]; clear hx z))
  go_cut [28] from 29 to 39 (fun x wx => x = .bool T ∧ Hid (Below w3.heap.size w3 wx))
  case first =>
    obtain ⟨q0, q1⟩ := HCS.out _ HBD.out
    cases d with
    | true =>
      refine wp_region_noPanic ?_
      refine wp_region_held_drew (S := fun w' => w'.cell? ⟨ba, 0, none⟩ = some (.slice pa n ca) ∧ w'.cell? ⟨bb, 0, none⟩ = some (.slice pb n cb)) (by kernel_rfl) (by first | exact HCS.out _ HB6.out | exact HCS.out _ HBD.out) (fun hHeld => ?_)
      refine wpAnyH_take (i := 0) (oi := ⟨_, _, _, _, _, _⟩) (v := ?_) rfl (by kernel_rfl) (by kernel_rfl) (by kernel_rfl) (fun _ _ _ h => h) (Or.inl ⟨by rfl, ?_⟩) hHeld ?_
      rotate_left
      · ((intro w hSw; (try dsimp only at hSw); go_simp) <;> with_reducible rfl)
      try simp only [Act.put, List.setIfInBounds_toArray, List.set_cons_zero, List.set_cons_succ]
      refine wpAnyH_take (i := 1) (oi := ⟨_, _, _, _, _, _⟩) (v := ?_) rfl (by kernel_rfl) (by kernel_rfl) (by kernel_rfl) (fun _ _ _ h => h) (Or.inl ⟨by rfl, ?_⟩) hHeld ?_
      rotate_left
      · ((intro w hSw; (try dsimp only at hSw); go_simp) <;> with_reducible rfl)
      try simp only [Act.put, List.setIfInBounds_toArray, List.set_cons_zero, List.set_cons_succ]
      refine wpAnyH_ready (rs := [2]) (by kernel_rfl) (by simp) ?_
      refine AllReadyH.cons (o := ⟨_, _, _, _, _, _⟩) rfl (fun K hK => ?_) ?_
      rotate_left
      · exact AllReadyH.nil
      go_simp
      go_at_call 20; ((with_reducible refine (CE.out _ HBD.out).mono ?_); rintro o x6 ⟨rfl, h⟩; have HB6 : Hid (Below w3.heap.size w3 x6) := Lib.hid (HBD.out.trans (h.mono HBD.out.size)); clear h)
      refine hK.out _ _ (by first | exact HCS.out _ HB6.out | exact HCS.out _ HBD.out) (fun hHeld => ?_)
      clear hK K
      try simp only [Act.put, List.setIfInBounds_toArray, List.set_cons_zero, List.set_cons_succ]
      refine wpAnyH_take (i := 3) (oi := ⟨_, _, _, _, _, _⟩) (v := ?_) rfl (by kernel_rfl) (by kernel_rfl) (by kernel_rfl) (fun _ _ _ h => h) (Or.inl ⟨by rfl, ?_⟩) hHeld ?_
      rotate_left
      · ((intro w hSw; (try dsimp only at hSw); go_simp) <;> with_reducible rfl)
      try simp only [Act.put, List.setIfInBounds_toArray, List.set_cons_zero, List.set_cons_succ]
      refine wpAnyH_take (i := 4) (oi := ⟨_, _, _, _, _, _⟩) (v := undef) rfl (by kernel_rfl) (by kernel_rfl) (by kernel_rfl) (fun _ _ _ h => h) (Or.inr ⟨by rfl, rfl⟩) hHeld ?_
      try simp only [Act.put, List.setIfInBounds_toArray, List.set_cons_zero, List.set_cons_succ]
      refine wpAnyH_take (i := 5) (oi := ⟨_, _, _, _, _, _⟩) (v := undef) rfl (by kernel_rfl) (by kernel_rfl) (by kernel_rfl) (fun _ _ _ h => h) (Or.inr ⟨by rfl, rfl⟩) hHeld ?_
      try simp only [Act.put, List.setIfInBounds_toArray, List.set_cons_zero, List.set_cons_succ]
      refine wpAnyH_take (i := 6) (oi := ⟨_, _, _, _, _, _⟩) (v := undef) rfl (by kernel_rfl) (by kernel_rfl) (by kernel_rfl) (fun _ _ _ h => h) (Or.inr ⟨by rfl, rfl⟩) hHeld ?_
      try simp only [Act.put, List.setIfInBounds_toArray, List.set_cons_zero, List.set_cons_succ]
      refine wpAnyH_take (i := 7) (oi := ⟨_, _, _, _, _, _⟩) (v := undef) rfl (by kernel_rfl) (by kernel_rfl) (by kernel_rfl) (fun _ _ _ h => h) (Or.inr ⟨by rfl, rfl⟩) hHeld ?_
      try simp only [Act.put, List.setIfInBounds_toArray, List.set_cons_zero, List.set_cons_succ]
      refine wpAnyH_take (i := 8) (oi := ⟨_, _, _, _, _, _⟩) (v := undef) rfl (by kernel_rfl) (by kernel_rfl) (by kernel_rfl) (fun _ _ _ h => h) (Or.inr ⟨by rfl, rfl⟩) hHeld ?_
      try simp only [Act.put, List.setIfInBounds_toArray, List.set_cons_zero, List.set_cons_succ]
      refine wpAnyH_take (i := 9) (oi := ⟨_, _, _, _, _, _⟩) (v := ?_) rfl (by kernel_rfl) (by kernel_rfl) (by kernel_rfl) (fun _ _ _ h => h) (Or.inl ⟨by rfl, ?_⟩) hHeld ?_
      rotate_left
      · ((intro w hSw; (try dsimp only at hSw); go_simp) <;> with_reducible rfl)
      try simp only [Act.put, List.setIfInBounds_toArray, List.set_cons_zero, List.set_cons_succ]
      refine wpAnyH_take (i := 10) (oi := ⟨_, _, _, _, _, _⟩) (v := ?_) rfl (by kernel_rfl) (by kernel_rfl) (by kernel_rfl) (fun _ _ _ h => h) (Or.inl ⟨by rfl, ?_⟩) hHeld ?_
      rotate_left
      · ((intro w hSw; (try dsimp only at hSw); go_simp) <;> with_reducible rfl)
      try simp only [Act.put, List.setIfInBounds_toArray, List.set_cons_zero, List.set_cons_succ]
      refine wpAnyH_done (by kernel_rfl) ?_ _
      refine NoPanic.normal ?_
      go_wp2_with fail
      go_meet
      exact ⟨by rw [HT.out]; rfl, HB6⟩
    | false =>
      by_cases hab : rA = rB
      · subst hab
        have e3 : (rA.toList == rA.toList) = true := by simp
        have hTT : T = false := by rw [HT.out]; simp
        go_region_held3 (fun w' => w'.cell? ⟨ba, 0, none⟩ = some (.slice pa n ca) ∧ w'.cell? ⟨bb, 0, none⟩ = some (.slice pb n cb)) (first | exact HCS.out _ HB8.out | exact HCS.out _ HB7.out | exact HCS.out _ HB6.out | exact HCS.out _ HBD.out) (first
          | (go_at_call 20; (with_reducible refine (CE.out _ HBD.out).mono ?_); rintro o x6 ⟨rfl, h⟩; have HB6 : Hid (Below w3.heap.size w3 x6) := Lib.hid (HBD.out.trans (h.mono HBD.out.size)); clear h)
          | (go_at_call 32; (with_reducible refine (CRA.out _ HB6.out).mono ?_); rintro o x7 ⟨rfl, h⟩; have HB7 : Hid (Below w3.heap.size w3 x7) := Lib.hid (HB6.out.trans (h.mono HB6.out.size)); clear h)
          | (go_at_call 32; (with_reducible refine (CRB.out _ HB7.out).mono ?_); rintro o x8 ⟨rfl, h⟩; have HB8 : Hid (Below w3.heap.size w3 x8) := Lib.hid (HB7.out.trans (h.mono HB7.out.size)); clear h))
        all_goals
          go_wp2_with fail
          go_meet
          exact ⟨by rw [hTT], HB8⟩
      · have e3 : (rA.toList == rB.toList) = false := textQ_ne hab
        have e4 : (rA.toList != rB.toList) = true := textQ_bne hab
        have hTT : T = true := by rw [HT.out, decide_eq_true hab]; rfl
        clear hab
        go_region_held3 (fun w' => w'.cell? ⟨ba, 0, none⟩ = some (.slice pa n ca) ∧ w'.cell? ⟨bb, 0, none⟩ = some (.slice pb n cb)) (first | exact HCS.out _ HB8.out | exact HCS.out _ HB7.out | exact HCS.out _ HB6.out | exact HCS.out _ HBD.out) (first
          | (go_at_call 20; (with_reducible refine (CE.out _ HBD.out).mono ?_); rintro o x6 ⟨rfl, h⟩; have HB6 : Hid (Below w3.heap.size w3 x6) := Lib.hid (HBD.out.trans (h.mono HBD.out.size)); clear h)
          | (go_at_call 32; (with_reducible refine (CRA.out _ HB6.out).mono ?_); rintro o x7 ⟨rfl, h⟩; have HB7 : Hid (Below w3.heap.size w3 x7) := Lib.hid (HB6.out.trans (h.mono HB6.out.size)); clear h)
          | (go_at_call 32; (with_reducible refine (CRB.out _ HB7.out).mono ?_); rintro o x8 ⟨rfl, h⟩; have HB8 : Hid (Below w3.heap.size w3 x8) := Lib.hid (HB7.out.trans (h.mono HB7.out.size)); clear h))
        all_goals
          go_wp2_with fail
          go_meet
          exact ⟨by rw [hTT], HB8⟩
  case rest =>
    obtain ⟨rfl, HWC⟩ := hcut
    have hxp := (HXX.out _ HWC.out).2.2
    have hf := HF.out
    have hbc := hf.2.2.2.2.2.2.2.1.trans (HWC.out.mono hf.2.2.2.2.2.2.2.1.size)
    cases T with
    | true =>
      have hP : A = B ∨ rootR A ≠ rootR B := by
        have h1 := HT.out
        rw [hf.2.2.2.2.2.2.1, hf.2.2.2.2.1, hf.2.2.2.2.2.1] at h1
        by_cases hab : A = B
        · exact .inl hab
        · rw [decide_eq_false hab, Bool.false_or] at h1
          exact .inr (of_decide_eq_true h1.symm)
      have k0 : wc.cell? ⟨bp, 0, none⟩ = some (.string ⟨#[]⟩) := cellB hxp rfl
      have k1 : wc.cell? ⟨bp, 1, none⟩ = some (.string ⟨#[]⟩) := cellB hxp rfl
      have f0 : wc.frozen? ⟨bp, 0, none⟩ = false := frozB hxp
      have f1 : wc.frozen? ⟨bp, 1, none⟩ = false := frozB hxp
      have HX6 := Lib.hid (blk_set2 (x := .string ⟨#[]⟩) (y := .string ⟨#[]⟩) hxp)
      have HFIN : Hid (NoneP 60 w (.returned (.tuple #[.agg #[.string ⟨#[]⟩, .string ⟨#[]⟩], .int .i64 60])) ((wc.setCell ⟨bp, 0, none⟩ (.string ⟨#[]⟩)).setCell ⟨bp, 1, none⟩ (.string ⟨#[]⟩))) :=
        Lib.hid ⟨rfl, (hbc.setCell (p := ⟨bp, 0, none⟩) (by show w.heap.size ≤ bp; omega) _).setCell (p := ⟨bp, 1, none⟩) (by show w.heap.size ≤ bp; omega) _⟩
      have HP := Lib.hid hP
      clear hP hxp hf hbc
      go_wp2_with fail
      have m0 := cellB (k := 0) HX6.out rfl
      have m1 := cellB (k := 1) HX6.out rfl
      refine bodyPost_ret (v := .tuple #[.agg #[.string ⟨#[]⟩, .string ⟨#[]⟩], .int .i64 60]) (by simp [results, Tryz.results9, go_sem, m0, m1]) rfl ?_
      unfold LvP
      rw [if_pos HP.out]
      exact HFIN.out
    | false =>
      have hP : ¬ (A = B ∨ rootR A ≠ rootR B) := by
        have h1 := HT.out
        rw [hf.2.2.2.2.2.2.1, hf.2.2.2.2.1, hf.2.2.2.2.2.1] at h1
        rintro (h2 | h2)
        · rw [decide_eq_true h2] at h1
          exact nomatch h1
        · rw [decide_eq_true h2, Bool.or_true] at h1
          exact nomatch h1
      have hPa : A ≠ B := fun h => hP (.inl h)
      have hPb : rootR A = rootR B := by
        by_cases h : rootR A = rootR B
        · exact h
        · exact absurd (.inr h) hP
      have CC := Lib.hid (caughtL_any ba bb wc (Lib.hid (fun w' hb => by
        have hb3 := HWC.out.trans (hb.mono HWC.out.size)
        obtain ⟨t1, t2, t3⟩ := HTX.out w' hb3
        obtain ⟨s1, s2⟩ := HCS.out w' hb3
        exact leaves1_any t1 s1 s2 t2 t3 hf.1 hf.2.1 hf.2.2.1 hf.2.2.2.1 hPa hPb)))
      have hmf : ∀ (fn : Fn) (first cap : Array Value) (w : World), (Instr.makeFunc fn first cap).run Tryz.prog w = .ok (.func fn first cap) w := fun _ _ _ _ => rfl
      have HP := Lib.hid hP
      have HBC := Lib.hid hbc
      have HXP := Lib.hid hxp
      have HBPW : Hid (w.heap.size ≤ bp) := Lib.hid (by omega)
      clear hP hPa hPb hf hxp hbc
      go_wp2_with (go_at_call 23; (with_reducible refine CC.out.mono ?_); rintro o z ⟨p, q, rfl, hpq, hsh, hb⟩; have HZ := Lib.hid (And.intro hpq (And.intro hsh hb)); have hxz := blk_below HXP.out hb (blk_lt HXP.out); have HXZ := Lib.hid hxz; have k0 : z.cell? ⟨bp, 0, none⟩ = some (.string ⟨#[]⟩) := cellB hxz rfl; have k1 : z.cell? ⟨bp, 1, none⟩ = some (.string ⟨#[]⟩) := cellB hxz rfl; have f0 : z.frozen? ⟨bp, 0, none⟩ = false := frozB hxz; have f1 : z.frozen? ⟨bp, 1, none⟩ = false := frozB hxz; clear hpq hsh hb hxz)
      have hx6 := blk_set2 (x := .string p) (y := .string q) HXZ.out
      have m0 := cellB (k := 0) hx6 rfl
      have m1 := cellB (k := 1) hx6 rfl
      refine bodyPost_ret (v := .tuple #[.agg #[.string p, .string q], .int .i64 0]) (by simp [results, Tryz.results9, go_sem, m0, m1]) rfl ?_
      unfold LvP
      rw [if_neg HP.out]
      have hb2 := HBC.out.trans (HZ.out.2.2.mono HBC.out.size)
      exact ⟨p, q, rfl, HZ.out.1, HZ.out.2.1, (hb2.setCell (p := ⟨bp, 0, none⟩) HBPW.out _).setCell (p := ⟨bp, 1, none⟩) HBPW.out _⟩
end Go.Proofs.YtdbghgpohdijfaaGreatDoor
/- extract.Entries; law 6: unlike texts. -/
namespace Go.Proofs.YtdbghgpohdijfaaGreatDoor
open Go.RowKit Go.Scr
set_option linter.unusedVariables false
def EnP (a b : ByteArray) (w : World) (e : Ending) (w' : World) : Prop := if a = b ∨ hleaf a ≠ hleaf b then NoneP 60 w e w' else PairP w e w'
theorem one_blockE (w : World) (a : Array Value) (S : TypeId) : (w.alloc (.cells a S)).heap[w.heap.size]? = some (.cells a S (0, 0)) ∧ Below w.heap.size w (w.alloc (.cells a S)) := ⟨heap_alloc_new w _, (Below.refl _ _).alloc (Nat.le_refl _) _⟩
set_option maxRecDepth 100000 in
set_option maxHeartbeats 4000000 in
theorem entries_any {w : World} {a b : ByteArray} (ht : Tabs w) (hsa : a.size ≤ 1048576) (hsb : b.size ≤ 1048576) :
    Calls Tryz.prog 13 #[.string a, .string b] w (EnP a b w) := by
  obtain ⟨w1, hw1⟩ : ∃ x, x = w.alloc (.cells #[.string ⟨#[]⟩, .string ⟨#[]⟩] 26) := ⟨_, rfl⟩
  obtain ⟨x0, x1⟩ := one_blockE w #[.string ⟨#[]⟩, .string ⟨#[]⟩] 26
  rw [← hw1] at x0 x1
  obtain ⟨bp, hbp⟩ : ∃ x, x = w.heap.size := ⟨_, rfl⟩
  rw [← hbp] at x0
  obtain ⟨la, hla⟩ : ∃ x, x = hleaf a := ⟨_, rfl⟩
  obtain ⟨lb, hlb⟩ : ∃ x, x = hleaf b := ⟨_, rfl⟩
  have CL1 : Hid (∀ w', Below w1.heap.size w1 w' → Calls Tryz.prog 42 #[.string a] w' fun o z => o = .returned (.string la) ∧ Below w'.heap.size w' z) := Lib.hid (fun w' hb => by rw [hla]; exact dleaf_any a w' ((ht.below x1).below hb) (by omega))
  have CL2 : Hid (∀ w', Below w1.heap.size w1 w' → Calls Tryz.prog 42 #[.string b] w' fun o z => o = .returned (.string lb) ∧ Below w'.heap.size w' z) := Lib.hid (fun w' hb => by rw [hlb]; exact dleaf_any b w' ((ht.below x1).below hb) (by omega))
  have HX : Hid (∀ w', Below w1.heap.size w1 w' → w'.heap[bp]? = some (.cells #[.string ⟨#[]⟩, .string ⟨#[]⟩] 26 (0, 0))) := Lib.hid (fun w' hb => blk_below x0 hb (blk_lt x0))
  have HF : Hid (la = hleaf a ∧ lb = hleaf b ∧ Below w.heap.size w w1 ∧ bp = w.heap.size) := Lib.hid ⟨hla, hlb, x1, hbp⟩
  have HNO : Hid (∀ wx, Below w1.heap.size w1 wx → (a = b ∨ la ≠ lb) → ∀ e, e = .returned (.tuple #[.agg #[.string ⟨#[]⟩, .string ⟨#[]⟩], .int .i64 60]) → EnP a b w e ((wx.setCell ⟨bp, 0, none⟩ (.string ⟨#[]⟩)).setCell ⟨bp, 1, none⟩ (.string ⟨#[]⟩))) := Lib.hid (fun wx hb h e he => by
    unfold EnP
    rw [← hla, ← hlb, if_pos h]
    exact ⟨he, ((x1.trans (hb.mono x1.size)).setCell (p := ⟨bp, 0, none⟩) (by show w.heap.size ≤ bp; omega) _).setCell (p := ⟨bp, 1, none⟩) (by show w.heap.size ≤ bp; omega) _⟩)
  have HW1 := Lib.hid hw1
  have HBP := Lib.hid hbp
  have ha1 : (⟨#[0]⟩ : ByteArray).size + a.size ≤ 140737488355200 := by show 1 + a.size ≤ _; omega
  have hb1 : (⟨#[0]⟩ : ByteArray).size + b.size ≤ 140737488355200 := by show 1 + b.size ≤ _; omega
  have HSZ : Hid ((⟨#[0]⟩ ++ a : ByteArray).size ≤ 2000000 ∧ (⟨#[0]⟩ ++ b : ByteArray).size ≤ 2000000) := Lib.hid ⟨by rw [ByteArray.size_append]; show 1 + a.size ≤ _; omega, by rw [ByteArray.size_append]; show 1 + b.size ≤ _; omega⟩
  clear ht hsa hsb hw1 x0 x1 hbp hla hlb
  by_cases hab : a = b
  · subst hab
    have e1 : (a.toList == a.toList) = true := by simp
    have hx := HX.out w1 (Below.refl _ _)
    have k0 : w1.cell? ⟨bp, 0, none⟩ = some (.string ⟨#[]⟩) := cellB hx rfl
    have k1 : w1.cell? ⟨bp, 1, none⟩ = some (.string ⟨#[]⟩) := cellB hx rfl
    have f0 : w1.frozen? ⟨bp, 0, none⟩ = false := frozB hx
    have f1 : w1.frozen? ⟨bp, 1, none⟩ = false := frozB hx
    have HX6 := Lib.hid (blk_set2 (x := .string ⟨#[]⟩) (y := .string ⟨#[]⟩) hx)
    clear hx
    go_enter Tryz.func13, Tryz.ntmps13
    go_upto_region 1 with fail
    rw [← HW1.out, ← HBP.out]
    go_wp2_with fail
    have m0 := cellB (k := 0) HX6.out rfl
    have m1 := cellB (k := 1) HX6.out rfl
    refine bodyPost_ret (v := .tuple #[.agg #[.string ⟨#[]⟩, .string ⟨#[]⟩], .int .i64 60]) (by simp [results, Tryz.results13, go_sem, m0, m1]) rfl ?_
    exact HNO.out w1 (Below.refl _ _) (.inl (by first | rfl | trivial)) _ rfl
  have e1 : (a.toList == b.toList) = false := textQ_ne hab
  by_cases hll : la = lb
  case neg =>
    have e2 : (la.toList == lb.toList) = false := textQ_ne hll
    have e3 : (la.toList != lb.toList) = true := textQ_bne hll
    have HLL := Lib.hid hll
    clear hll hab
    go_enter Tryz.func13, Tryz.ntmps13
    go_upto_region 1 with fail
    rw [← HW1.out, ← HBP.out]
    go_wp2_with (first
      | (go_at_call 42; (with_reducible refine (CL1.out _ (Below.refl _ _)).mono ?_); rintro o x1 ⟨rfl, h⟩; have HB1 : Hid (Below w1.heap.size w1 x1) := Lib.hid h; clear h)
      | (go_at_call 42; (with_reducible refine (CL2.out _ HB1.out).mono ?_); rintro o x2 ⟨rfl, h⟩; have HB2 : Hid (Below w1.heap.size w1 x2) := Lib.hid (HB1.out.trans (h.mono HB1.out.size)); have hx := HX.out _ HB2.out; have HXX := Lib.hid hx; have k0 : x2.cell? ⟨bp, 0, none⟩ = some (.string ⟨#[]⟩) := cellB hx rfl; have k1 : x2.cell? ⟨bp, 1, none⟩ = some (.string ⟨#[]⟩) := cellB hx rfl; have f0 : x2.frozen? ⟨bp, 0, none⟩ = false := frozB hx; have f1 : x2.frozen? ⟨bp, 1, none⟩ = false := frozB hx; clear h hx))
    have hx6 := blk_set2 (x := .string ⟨#[]⟩) (y := .string ⟨#[]⟩) HXX.out
    have m0 := cellB (k := 0) hx6 rfl
    have m1 := cellB (k := 1) hx6 rfl
    refine bodyPost_ret (v := .tuple #[.agg #[.string ⟨#[]⟩, .string ⟨#[]⟩], .int .i64 60]) (by simp [results, Tryz.results13, go_sem, m0, m1]) rfl ?_
    exact HNO.out _ HB2.out (.inr HLL.out) _ rfl
  subst hll
  have e2 : (la.toList == la.toList) = true := by simp
  have HAB := Lib.hid hab
  clear hab
  obtain ⟨ta, hta⟩ : ∃ x : ByteArray, x = ⟨#[0]⟩ ++ a := ⟨_, rfl⟩
  obtain ⟨tb, htb⟩ : ∃ x : ByteArray, x = ⟨#[0]⟩ ++ b := ⟨_, rfl⟩
  have HTT : Hid (ta = ⟨#[0]⟩ ++ a ∧ tb = ⟨#[0]⟩ ++ b) := Lib.hid ⟨hta, htb⟩
  clear hta htb
  go_enter Tryz.func13, Tryz.ntmps13
  go_upto_region 1 with fail
  rw [← HW1.out, ← HBP.out]
  go_wp2_with (first
    | (go_at_call 42; (with_reducible refine (CL1.out _ (Below.refl _ _)).mono ?_); rintro o x1 ⟨rfl, h⟩; have HB1 : Hid (Below w1.heap.size w1 x1) := Lib.hid h; clear h)
    | (go_at_call 42; (with_reducible refine (CL2.out _ HB1.out).mono ?_); rintro o x2 ⟨rfl, h⟩; have HB2 : Hid (Below w1.heap.size w1 x2) := Lib.hid (HB1.out.trans (h.mono HB1.out.size)); have hx := HX.out _ HB2.out; have HXX := Lib.hid hx; have k0 : x2.cell? ⟨bp, 0, none⟩ = some (.string ⟨#[]⟩) := cellB hx rfl; have k1 : x2.cell? ⟨bp, 1, none⟩ = some (.string ⟨#[]⟩) := cellB hx rfl; have f0 : x2.frozen? ⟨bp, 0, none⟩ = false := frozB hx; have f1 : x2.frozen? ⟨bp, 1, none⟩ = false := frozB hx; clear h hx))
  rw [← HTT.out.1, ← HTT.out.2]
  have hx6 := blk_set2 (x := .string ta) (y := .string tb) HXX.out
  have m0 := cellB (k := 0) hx6 rfl
  have m1 := cellB (k := 1) hx6 rfl
  refine bodyPost_ret (v := .tuple #[.agg #[.string ta, .string tb], .int .i64 0]) (by simp [results, Tryz.results13, go_sem, m0, m1]) rfl ?_
  have hf := HF.out
  have hne : ¬ (a = b ∨ hleaf a ≠ hleaf b) := by
    rintro (h | h)
    · exact HAB.out h
    · exact h (by rw [← hf.1, ← hf.2.1])
  unfold EnP
  rw [if_neg hne]
  refine ⟨ta, tb, rfl, fun h => ?_, ?_, ((hf.2.2.1.trans (HB2.out.mono hf.2.2.1.size)).setCell (p := ⟨bp, 0, none⟩) (by show w.heap.size ≤ bp; omega) _).setCell (p := ⟨bp, 1, none⟩) (by show w.heap.size ≤ bp; omega) _⟩
  · rw [HTT.out.1, HTT.out.2] at h
    exact HAB.out (ba_append_inj h rfl).2
  · rw [HTT.out.1, HTT.out.2]
    exact ⟨by rw [← hleaf_txt, ← hleaf_txt, ← hf.1, ← hf.2.1], HSZ.out⟩
end Go.Proofs.YtdbghgpohdijfaaGreatDoor
