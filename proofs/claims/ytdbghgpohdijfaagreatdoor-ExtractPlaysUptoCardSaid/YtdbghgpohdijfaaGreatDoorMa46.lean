/- The document's Leaves, walked. -/
import Derived.Test.YtdbghgpohdijfaaGreatDoorMa44
import Derived.Test.YtdbghgpohdijfaaGreatDoorMa45
import Derived.BigQuiet
namespace Go.Proofs.YtdbghgpohdijfaaGreatDoor
open Go.RowKit Go.Scr
set_option linter.unusedVariables false
set_option maxRecDepth 100000 in
set_option maxHeartbeats 4000000 in
theorem leaves6_any {w : World} {va vb : Value} {A B : List ByteArray} {p q : ByteArray} {c : Int} (hva : Txts w va A) (hvb : Txts w vb B) (hlA : A.length ≤ 1048576) (hlB : B.length ≤ 1048576) (hS : LvS A B p q c) :
    Calls Tryz.prog 10 #[va, vb] w (Rt p q c w) := by
  obtain ⟨w1, hw1⟩ : ∃ x, x = w.alloc (.cells #[.string ⟨#[]⟩, .string ⟨#[]⟩] 26) := ⟨_, rfl⟩
  obtain ⟨x0, x1⟩ := one_blockE w #[.string ⟨#[]⟩, .string ⟨#[]⟩] 26
  rw [← hw1] at x0 x1
  obtain ⟨bp, hbp⟩ : ∃ x, x = w.heap.size := ⟨_, rfl⟩
  rw [← hbp] at x0
  obtain ⟨X, hX⟩ : ∃ X, X = (all32 A && decide (A.length ≤ 4096)) := ⟨_, rfl⟩
  obtain ⟨Y, hY⟩ : ∃ Y, Y = (all32 B && decide (B.length ≤ 4096)) := ⟨_, rfl⟩
  have CH1 : Hid (∀ w', Below w1.heap.size w1 w' → Calls Tryz.prog 35 #[va] w' fun o z => o = .returned (.bool X) ∧ z = w') := Lib.hid (fun w' hb => by rw [hX]; exact hashes6_any va A w' ((hva.below x1 (Nat.le_refl _)).below hb (Nat.le_refl _)))
  have CH2 : Hid (∀ w', Below w1.heap.size w1 w' → Calls Tryz.prog 35 #[vb] w' fun o z => o = .returned (.bool Y) ∧ z = w') := Lib.hid (fun w' hb => by rw [hY]; exact hashes6_any vb B w' ((hvb.below x1 (Nat.le_refl _)).below hb (Nat.le_refl _)))
  obtain ⟨rA, hrA⟩ : ∃ r, r = rootT A := ⟨_, rfl⟩
  obtain ⟨rB, hrB⟩ : ∃ r, r = rootT B := ⟨_, rfl⟩
  obtain ⟨d, hd⟩ : ∃ d, d = decide (A = B) := ⟨_, rfl⟩
  have HTX : Hid (∀ w', Below w1.heap.size w1 w' → Txts w' va A ∧ Txts w' vb B) := Lib.hid (fun w' hb => ⟨(hva.below x1 (Nat.le_refl _)).below hb (Nat.le_refl _), (hvb.below x1 (Nat.le_refl _)).below hb (Nat.le_refl _)⟩)
  have CE : Hid (∀ w', Below w1.heap.size w1 w' → Calls Tryz.prog 27 #[va, vb] w' fun o z => o = .returned (.bool d) ∧ Below w'.heap.size w' z) := Lib.hid (fun w' hb => by
    rw [hd]
    exact sameE_any _ _ _ _ w' (HTX.out w' hb).1 (HTX.out w' hb).2 hlA hlB)
  have CRA : Hid (∀ w', Below w1.heap.size w1 w' → Calls Tryz.prog 36 #[va] w' fun o z => o = .returned (.string rA) ∧ Below w'.heap.size w' z) := Lib.hid (fun w' hb => by rw [hrA]; exact root6_any _ _ w' (HTX.out w' hb).1)
  have CRB : Hid (∀ w', Below w1.heap.size w1 w' → Calls Tryz.prog 36 #[vb] w' fun o z => o = .returned (.string rB) ∧ Below w'.heap.size w' z) := Lib.hid (fun w' hb => by rw [hrB]; exact root6_any _ _ w' (HTX.out w' hb).2)
  have HX : Hid (∀ w', Below w1.heap.size w1 w' → w'.heap[bp]? = some (.cells #[.string ⟨#[]⟩, .string ⟨#[]⟩] 26 (0, 0))) := Lib.hid (fun w' hb => blk_below x0 hb (blk_lt x0))
  have HF : Hid (Below w.heap.size w w1 ∧ w.heap.size ≤ bp) := Lib.hid ⟨x1, by omega⟩
  have HW1 := Lib.hid hw1
  have HBP := Lib.hid hbp
  have HB0 : Hid (Below w1.heap.size w1 w1) := Lib.hid (Below.refl _ _)
  obtain ⟨n, hn⟩ : ∃ n, n = A.length := ⟨_, rfl⟩
  obtain ⟨m, hm⟩ : ∃ n, n = B.length := ⟨_, rfl⟩
  obtain ⟨pa, ca, rfl⟩ : ∃ p c, va = .slice p n c := by obtain ⟨p, c, h, _⟩ := hva; exact ⟨p, c, by rw [h, hn]⟩
  obtain ⟨pb, cb, rfl⟩ : ∃ p c, vb = .slice p m c := by obtain ⟨p, c, h, _⟩ := hvb; exact ⟨p, c, by rw [h, hm]⟩
  have HLN : Hid (A.length = n ∧ B.length = m) := Lib.hid ⟨hn.symm, hm.symm⟩
  have hn4 : n ≤ 1048576 := by omega
  have hm4 : m ≤ 1048576 := by omega
  obtain ⟨T, hT⟩ : ∃ T, T = lvNo A B := ⟨_, rfl⟩
  have HT : Hid (T = ((!X || !Y) || decide (n ≠ m))) := Lib.hid (by
    rw [hT, hX, hY, hn, hm]
    unfold lvNo
    rw [show all32 A = ok32 A from rfl, show all32 B = ok32 B from rfl]
    by_cases h1 : A.length = B.length
    · rw [decide_eq_false (show ¬ (A.length ≠ B.length) from fun h => h h1), h1]
      by_cases h2 : B.length ≤ 4096
      · rw [decide_eq_true h2, decide_eq_false (show ¬ 4096 < B.length by omega)]; simp
      · rw [decide_eq_false h2, decide_eq_true (show 4096 < B.length by omega)]; simp
    · rw [decide_eq_true (show A.length ≠ B.length from h1)]; simp)
  have HXY : Hid (T = lvNo A B) := Lib.hid hT
  have HS := Lib.hid hS
  have HD : Hid (d = decide (A = B) ∧ rA = rootT A ∧ rB = rootT B) := Lib.hid ⟨hd, hrA, hrB⟩
  clear hva hvb hlA hlB hS hw1 hbp x0 x1 hX hY hrA hrB hd hn hm hT
  go_enter Tryz.func10, Tryz.ntmps10
  go_upto_region 1 with fail
  rw [← HW1.out, ← HBP.out]
  go_upto_region 3 with (first
    | (go_at_call 35; (with_reducible refine (CH1.out _ HB0.out).mono ?_); rintro o z ⟨rfl, hz⟩; rw [hz]; clear hz z)
    | (go_at_call 35; (with_reducible refine (CH2.out _ HB0.out).mono ?_); rintro o z ⟨rfl, hz⟩; rw [hz]; clear hz z))
  go_cut [29] from 17 to 30 (fun u wx => u = .bool T ∧ wx = w1)
  case first =>
    cases X with
    | false =>
      have HTT : Hid (T = true) := Lib.hid (by rw [HT.out]; rfl)
      go_wp2_with fail
      go_meet
      exact ⟨by rw [HTT.out], rfl⟩
    | true =>
      cases Y with
      | false =>
        have HTT : Hid (T = true) := Lib.hid (by rw [HT.out]; rfl)
        go_wp2_with fail
        go_meet
        exact ⟨by rw [HTT.out], rfl⟩
      | true =>
        by_cases hnm : n = m
        · have e1 : ((n : Int) == (m : Int)) = true := beq_iff_eq.2 (by omega)
          have HTT : Hid (T = false) := Lib.hid (by rw [HT.out]; simp [hnm])
          clear hnm
          go_wp2_with fail
          go_meet
          exact ⟨by rw [HTT.out]; show Value.bool (!((n : Int) == (m : Int))) = _; rw [e1]; rfl, rfl⟩
        · have e1 : ((n : Int) == (m : Int)) = false := beq_eq_false_iff_ne.2 (by omega)
          have HTT : Hid (T = true) := Lib.hid (by rw [HT.out]; simp [hnm])
          clear hnm
          go_wp2_with fail
          go_meet
          exact ⟨by rw [HTT.out]; show Value.bool (!((n : Int) == (m : Int))) = _; rw [e1]; rfl, rfl⟩
  case rest =>
    obtain ⟨rfl, hwx⟩ := hcut
    obtain rfl := hwx.symm
    cases T with
    | true =>
      have hno : p = ⟨#[]⟩ ∧ q = ⟨#[]⟩ ∧ c = 1 := by
        have h := HS.out
        unfold LvS at h
        rw [if_pos HXY.out.symm] at h
        exact h
      obtain ⟨rfl, rfl, rfl⟩ := hno
      have hx := HX.out w1 (Below.refl _ _)
      have k0 : w1.cell? ⟨bp, 0, none⟩ = some (.string ⟨#[]⟩) := cellB hx rfl
      have k1 : w1.cell? ⟨bp, 1, none⟩ = some (.string ⟨#[]⟩) := cellB hx rfl
      have f0 : w1.frozen? ⟨bp, 0, none⟩ = false := frozB hx
      have f1 : w1.frozen? ⟨bp, 1, none⟩ = false := frozB hx
      have HX6 := Lib.hid (blk_set2 (x := .string ⟨#[]⟩) (y := .string ⟨#[]⟩) hx)
      clear hx
      go_wp2_with fail
      have m0 := cellB (k := 0) HX6.out rfl
      have m1 := cellB (k := 1) HX6.out rfl
      refine bodyPost_ret (v := .tuple #[.agg #[.string ⟨#[]⟩, .string ⟨#[]⟩], .int .i64 1]) (by simp [results, Tryz.results10, go_sem, m0, m1]) rfl ?_
      exact pair_end6 HF.out.1 (Below.refl _ _) HF.out.2 rfl
    | false =>
      have hh : n = m ∧ n ≤ 4096 ∧ (∀ s ∈ A, s.size = 32) ∧ ∀ s ∈ B, s.size = 32 := by
        have h := HXY.out.symm
        unfold lvNo at h
        rw [Bool.or_eq_false_iff, Bool.or_eq_false_iff, Bool.or_eq_false_iff] at h
        obtain ⟨⟨⟨h1, h2⟩, h3⟩, h4⟩ := h
        have h1 := of_decide_eq_false h1
        have h2 := of_decide_eq_false h2
        have hl := HLN.out
        have g3 : ok32 A = true := by simpa using h3
        have g4 : ok32 B = true := by simpa using h4
        unfold ok32 at g3 g4
        rw [List.all_eq_true] at g3 g4
        exact ⟨by omega, by omega, fun s hs => by simpa using g3 s hs, fun s hs => by simpa using g4 s hs⟩
      obtain ⟨rfl, hn4', hza, hzb⟩ := hh
      have hS2 : if A = B ∨ rootR A ≠ rootR B then NoS 60 p q c else DnR A B p q ∧ c = 0 := by
        have h := HS.out
        unfold LvS at h
        rw [if_neg (by rw [← HXY.out]; decide)] at h
        exact h
      obtain ⟨T2, hT2⟩ : ∃ T, T = (d || !(rA.toList == rB.toList)) := ⟨_, rfl⟩
      have HR : Hid (T2 = decide (A = B ∨ rootR A ≠ rootR B)) := Lib.hid (by
        have hd := HD.out
        rw [hT2, hd.1, hd.2.1, hd.2.2, rootT_R hza (by have := HLN.out; omega), rootT_R hzb (by have := HLN.out; omega)]
        by_cases h1 : A = B
        · simp [h1]
        · by_cases h2 : rootR A = rootR B
          · rw [h2, textE_same]; simp [h1]
          · rw [textE_ne h2]; simp [h1, h2])
      have HT2 := Lib.hid hT2
      have HL0 : Hid (T2 = false → Lv6 w1 pa pb ca cb n A B p q ∧ c = 0) := Lib.hid (fun h => by
        have h1 : ¬ (A = B ∨ rootR A ≠ rootR B) := of_decide_eq_false (HR.out.symm.trans h)
        rw [if_neg h1] at hS2
        have ht := HTX.out w1 HB0.out
        exact ⟨⟨ht.1, ht.2, HLN.out.1, HLN.out.2, hn4', hza, hzb, fun e => h1 (.inl e), Classical.byContradiction fun e => h1 (.inr e), hS2.1⟩, hS2.2⟩)
      have HN0 : Hid (T2 = true → p = ⟨#[]⟩ ∧ q = ⟨#[]⟩ ∧ c = 60) := Lib.hid (fun h => by
        have h1 : A = B ∨ rootR A ≠ rootR B := of_decide_eq_true (HR.out.symm.trans h)
        rw [if_pos h1] at hS2
        exact hS2)
      clear hS2 hT2 hza hzb HXY HD HT HS HR HTX
      go_upto_region 6 with (go_at_call 27; (with_reducible refine (CE.out _ HB0.out).mono ?_); rintro o z ⟨rfl, h⟩; have HB1 := Lib.hid h; clear h)
      go_cut [41] from 34 to 42 (fun u wx => u = .bool T2 ∧ Below w1.heap.size w1 wx)
      case first =>
        cases d with
        | true =>
          have HTT : Hid (T2 = true) := Lib.hid (by rw [HT2.out]; rfl)
          go_wp2_with fail
          go_meet
          exact ⟨by rw [HTT.out], HB1.out⟩
        | false =>
          have HTT : Hid (T2 = !(rA.toList == rB.toList)) := Lib.hid (by rw [HT2.out]; rfl)
          go_wp2_with (first
            | (go_at_call 36; (with_reducible refine (CRA.out _ HB1.out).mono ?_); rintro o y1 ⟨rfl, h⟩; have HB2 : Hid (Below w1.heap.size w1 y1) := Lib.hid (HB1.out.trans (h.mono HB1.out.size)); clear h)
            | (go_at_call 36; (with_reducible refine (CRB.out _ HB2.out).mono ?_); rintro o y2 ⟨rfl, h⟩; have HB3 : Hid (Below w1.heap.size w1 y2) := Lib.hid (HB2.out.trans (h.mono HB2.out.size)); clear h))
          go_meet
          exact ⟨by rw [HTT.out], HB3.out⟩
      case rest =>
        obtain ⟨rfl, hbx⟩ := hcut
        have HB := Lib.hid hbx
        clear hbx
        cases T2 with
        | true =>
          obtain ⟨rfl, rfl, rfl⟩ := HN0.out rfl
          have hx := HX.out wc HB.out
          have k0 : wc.cell? ⟨bp, 0, none⟩ = some (.string ⟨#[]⟩) := cellB hx rfl
          have k1 : wc.cell? ⟨bp, 1, none⟩ = some (.string ⟨#[]⟩) := cellB hx rfl
          have f0 : wc.frozen? ⟨bp, 0, none⟩ = false := frozB hx
          have f1 : wc.frozen? ⟨bp, 1, none⟩ = false := frozB hx
          have HX6 := Lib.hid (blk_set2 (x := .string ⟨#[]⟩) (y := .string ⟨#[]⟩) hx)
          clear hx
          go_wp2_with fail
          have m0 := cellB (k := 0) HX6.out rfl
          have m1 := cellB (k := 1) HX6.out rfl
          refine bodyPost_ret (v := .tuple #[.agg #[.string ⟨#[]⟩, .string ⟨#[]⟩], .int .i64 60]) (by simp [results, Tryz.results10, go_sem, m0, m1]) rfl ?_
          exact pair_end6 HF.out.1 HB.out HF.out.2 rfl
        | false =>
          obtain ⟨hv0, rfl⟩ := HL0.out rfl
          have HV0 : Hid (Lv6 wc pa pb ca cb n A B p q) := Lib.hid ⟨hv0.a.below HB.out (Nat.le_refl _), hv0.b.below HB.out (Nat.le_refl _), hv0.la, hv0.lb, hv0.k4, hv0.za, hv0.zb, hv0.ne, hv0.r, hv0.d⟩
          clear hv0 HL0 HN0 CE CRA CRB CH1 CH2
          go_wp2_with fail
          go_loopw [0, 1] (fun u v wr => ∃ (A' B' : List ByteArray) (k : Nat) (pa pb : Option Addr) (ca cb : Nat), u = .slice pa k ca ∧ v = .slice pb k cb ∧ Hid (Lv6 wr pa pb ca cb k A' B' p q) ∧ Hid (Below w1.heap.size w1 wr)) (fun u _ _ => len6 u)
          case atStart => exact ⟨A, B, n, pa, pb, ca, cb, rfl, rfl, HV0, HB⟩
          case round =>
            clear HV0 HB
            obtain ⟨A', B', k, pa, pb, ca, cb, rfl, rfl, HV, HB⟩ := hrel
            have h2 := HV.out.pos
            have hk4 := HV.out.k4
            obtain ⟨kk, hkk⟩ : ∃ t, t = spl k := ⟨_, rfl⟩
            have hs := spl_lt h2
            have hst := HV.out.step
            rw [← hkk] at hs hst
            have hla := HV.out.la
            have hlb := HV.out.lb
            obtain ⟨_, _, e1, ha1, _, _⟩ := id HV.out.a
            obtain ⟨_, _, e2, hb1, _, _⟩ := id HV.out.b
            have hkca0 : kk < ca := by cases e1; omega
            have hkcb0 : kk < cb := by cases e2; omega
            clear e1 e2 ha1 hb1
            have HTX : Hid (∀ w', Below wr.heap.size wr w' → Txts w' (.slice pa kk ca) (A'.take kk) ∧ Txts w' (.slice (pa.map (·.add kk)) (k - kk) (ca - kk)) (A'.drop kk) ∧ Txts w' (.slice pb kk cb) (B'.take kk) ∧ Txts w' (.slice (pb.map (·.add kk)) (k - kk) (cb - kk)) (B'.drop kk)) := Lib.hid (fun w' hb =>
              ⟨(HV.out.a.below hb (Nat.le_refl _)).cutC (by omega), (HV.out.a.below hb (Nat.le_refl _)).rightC (by omega), (HV.out.b.below hb (Nat.le_refl _)).cutC (by omega), (HV.out.b.below hb (Nat.le_refl _)).rightC (by omega)⟩)
            have z1 : ∀ s ∈ A'.take kk, s.size = 32 := fun s hs => HV.out.za s (List.mem_of_mem_take hs)
            have z2 : ∀ s ∈ A'.drop kk, s.size = 32 := fun s hs => HV.out.za s (List.mem_of_mem_drop hs)
            have z3 : ∀ s ∈ B'.take kk, s.size = 32 := fun s hs => HV.out.zb s (List.mem_of_mem_take hs)
            have z4 : ∀ s ∈ B'.drop kk, s.size = 32 := fun s hs => HV.out.zb s (List.mem_of_mem_drop hs)
            obtain ⟨r1, hr1⟩ : ∃ r, r = rootR (A'.take kk) := ⟨_, rfl⟩
            obtain ⟨r2, hr2⟩ : ∃ r, r = rootR (A'.drop kk) := ⟨_, rfl⟩
            obtain ⟨r3, hr3⟩ : ∃ r, r = rootR (B'.take kk) := ⟨_, rfl⟩
            obtain ⟨r4, hr4⟩ : ∃ r, r = rootR (B'.drop kk) := ⟨_, rfl⟩
            have CR1 : Hid (∀ w', Below wr.heap.size wr w' → Calls Tryz.prog 36 #[.slice pa kk ca] w' fun o z => o = .returned (.string r1) ∧ Below w'.heap.size w' z) := Lib.hid (fun w' hb => by
              have := root6_any _ _ w' (HTX.out w' hb).1
              rwa [rootT_R z1 (by rw [List.length_take]; omega), ← hr1] at this)
            have CR2 : Hid (∀ w', Below wr.heap.size wr w' → Calls Tryz.prog 36 #[.slice (pa.map (·.add kk)) (k - kk) (ca - kk)] w' fun o z => o = .returned (.string r2) ∧ Below w'.heap.size w' z) := Lib.hid (fun w' hb => by
              have := root6_any _ _ w' (HTX.out w' hb).2.1
              rwa [rootT_R z2 (by rw [List.length_drop]; omega), ← hr2] at this)
            have CR3 : Hid (∀ w', Below wr.heap.size wr w' → Calls Tryz.prog 36 #[.slice pb kk cb] w' fun o z => o = .returned (.string r3) ∧ Below w'.heap.size w' z) := Lib.hid (fun w' hb => by
              have := root6_any _ _ w' (HTX.out w' hb).2.2.1
              rwa [rootT_R z3 (by rw [List.length_take]; omega), ← hr3] at this)
            have CR4 : Hid (∀ w', Below wr.heap.size wr w' → Calls Tryz.prog 36 #[.slice (pb.map (·.add kk)) (k - kk) (cb - kk)] w' fun o z => o = .returned (.string r4) ∧ Below w'.heap.size w' z) := Lib.hid (fun w' hb => by
              have := root6_any _ _ w' (HTX.out w' hb).2.2.2
              rwa [rootT_R z4 (by rw [List.length_drop]; omega), ← hr4] at this)
            have g1 := rootR_32E (all32_ofE z1)
            have g2 := rootR_32E (all32_ofE z2)
            have g3 := rootR_32E (all32_ofE z3)
            have g4 := rootR_32E (all32_ofE z4)
            rw [← hr1] at g1
            rw [← hr2] at g2
            rw [← hr3] at g3
            rw [← hr4] at g4
            obtain ⟨t1, ht1⟩ : ∃ t, t = txtS r1 r2 := ⟨_, rfl⟩
            obtain ⟨t2, ht2⟩ : ∃ t, t = txtS r3 r4 := ⟨_, rfl⟩
            have CT1 : Hid (∀ w', Calls Tryz.prog 38 #[.string r1, .string r2] w' fun o z => o = .returned (.string t1) ∧ z = w') := Lib.hid (fun w' => by rw [ht1]; exact text6_any _ _ w' (by omega) (by omega))
            have CT2 : Hid (∀ w', Calls Tryz.prog 38 #[.string r3, .string r4] w' fun o z => o = .returned (.string t2) ∧ z = w') := Lib.hid (fun w' => by rw [ht2]; exact text6_any _ _ w' (by omega) (by omega))
            have HTOP : Hid (topT A' = t1 ∧ topT B' = t2) := Lib.hid (by unfold topT; rw [hla, hlb, ← hkk, ← hr1, ← hr2, ← hr3, ← hr4, ht1, ht2]; exact ⟨rfl, rfl⟩)
            obtain ⟨d2, hd2⟩ : ∃ d, d = decide (A'.take kk = B'.take kk) := ⟨_, rfl⟩
            have CE2 : Hid (∀ w', Below wr.heap.size wr w' → Calls Tryz.prog 27 #[.slice pa kk ca, .slice pb kk cb] w' fun o z => o = .returned (.bool d2) ∧ Below w'.heap.size w' z) := Lib.hid (fun w' hb => by
              rw [hd2]
              exact sameE_any _ _ _ _ w' (HTX.out w' hb).1 (HTX.out w' hb).2.2.1 (by rw [List.length_take]; omega) (by rw [List.length_take]; omega))
            have CSP : Hid (∀ w', Calls Tryz.prog 37 #[.int .i64 (k : Int)] w' fun o z => o = .returned (.int .i64 (kk : Int)) ∧ z = w') := Lib.hid (fun w' => by
              have := splitr_any (k : Int) w' (by omega)
              rwa [splitS_nat h2, ← hkk] at this)
            have HST := Lib.hid hst
            have HDD := Lib.hid hd2
            have HKK : Hid (0 < kk ∧ kk < k) := Lib.hid ⟨hs.1, hs.2.1⟩
            have hn2 : (1 : Int) < (k : Int) := by omega
            have hkc : ¬ ca = kk := by omega
            have hkc2 : ¬ cb = kk := by omega
            have hkn : (kk : Int) ≤ (k : Int) := by omega
            have hk0 : (0 : Int) ≤ (kk : Int) := by omega
            have hkca : (kk : Int) ≤ (ca : Int) := by omega
            have hkcb : (kk : Int) ≤ (cb : Int) := by omega
            have hkw : IntKind.i64.wrap (kk : Int) = (kk : Int) := IntWalk.i64_in _ (by omega)
            have HBA : Hid (Below wr.heap.size wr wr.drew) := Lib.hid (Below.refl _ _).drew
            clear h2 hs hst hla hlb hr1 hr2 hr3 hr4 z1 z2 z3 z4 g1 g2 g3 g4 ht1 ht2 hd2 hkk HTX hkca0 hkcb0
            go_upto_region 10 with (go_at_call 37; (with_reducible refine (CSP.out _).mono ?_); rintro o w' ⟨rfl, hww⟩; rw [hww]; clear hww w')
            go_region_held3 (fun w' => Below wr.heap.size wr w') (first | exact HB2.out | exact HB1.out | exact HBA.out) (first
              | (go_at_call 36; (with_reducible refine (CR1.out _ HBA.out).mono ?_); rintro o x1 ⟨rfl, h⟩; have HB1 : Hid (Below wr.heap.size wr x1) := Lib.hid (HBA.out.trans (h.mono HBA.out.size)); clear h)
              | (go_at_call 36; (with_reducible refine (CR2.out _ HB1.out).mono ?_); rintro o x2 ⟨rfl, h⟩; have HB2 : Hid (Below wr.heap.size wr x2) := Lib.hid (HB1.out.trans (h.mono HB1.out.size)); clear h)
              | (go_at_call 38; (with_reducible refine (CT1.out _).mono ?_); rintro o z ⟨rfl, hx⟩; rw [hx]; clear hx z))
            have HB3d : Hid (Below wr.heap.size wr x2.drew) := Lib.hid HB2.out.drew
            clear CR1 CR2 CT1 HBA HB1 HB2
            go_upto_region 11 with fail
            go_region_held3 (fun w' => Below wr.heap.size wr w') (first | exact HB5.out | exact HB4.out | exact HB3d.out) (first
              | (go_at_call 36; (with_reducible refine (CR3.out _ HB3d.out).mono ?_); rintro o x3 ⟨rfl, h⟩; have HB4 : Hid (Below wr.heap.size wr x3) := Lib.hid (HB3d.out.trans (h.mono HB3d.out.size)); clear h)
              | (go_at_call 36; (with_reducible refine (CR4.out _ HB4.out).mono ?_); rintro o x4 ⟨rfl, h⟩; have HB5 : Hid (Below wr.heap.size wr x4) := Lib.hid (HB4.out.trans (h.mono HB4.out.size)); clear h)
              | (go_at_call 38; (with_reducible refine (CT2.out _).mono ?_); rintro o z ⟨rfl, hx⟩; rw [hx]; clear hx z))
            have HB6 : Hid (Below wr.heap.size wr x4) := Lib.hid HB5.out
            clear CR3 CR4 CT2 HB3d HB4 HB5
            have HBW : Hid (Below w1.heap.size w1 x4) := Lib.hid (HB.out.trans (HB6.out.mono HB.out.size))
            by_cases htt : t1 = t2
            · have e1 : (t1.toList == t2.toList) = true := by rw [htt]; exact textE_same _
              have HTE : Hid (topT A' = topT B') := Lib.hid (by rw [HTOP.out.1, HTOP.out.2, htt])
              clear htt
              go_upto_region 14 with fail
              have HBD : Hid (Below wr.heap.size wr x4.drew) := Lib.hid HB6.out.drew
              go_region_held3 (fun w' => Below wr.heap.size wr w') (first | exact HB7.out | exact HBD.out) (first
                | (go_at_call 27; (with_reducible refine (CE2.out _ HBD.out).mono ?_); rintro o x6 ⟨rfl, h⟩; have HB7 : Hid (Below wr.heap.size wr x6) := Lib.hid (HBD.out.trans (h.mono HBD.out.size)); clear h))
              have HB8 : Hid (Below wr.heap.size wr x6) := Lib.hid HB7.out
              have HBX : Hid (Below w1.heap.size w1 x6) := Lib.hid (HB.out.trans (HB8.out.mono HB.out.size))
              cases d2 with
              | false =>
                have HVN := Lib.hid (HST.out.2.1 HTE.out (of_decide_eq_false HDD.out.symm) x6 HB8.out)
                go_wp2_with fail
                exact ⟨⟨_, _, kk, pa, pb, ca, cb, rfl, rfl, HVN, HBX⟩, by have := HKK.out; show kk < k; omega⟩
              | true =>
                have HVN := Lib.hid (HST.out.2.2 HTE.out (of_decide_eq_true HDD.out.symm) x6 HB8.out)
                go_wp2_with fail
                exact ⟨⟨_, _, k - kk, pa.map (·.add kk), pb.map (·.add kk), ca - kk, cb - kk, rfl, rfl, HVN, HBX⟩, by have := HKK.out; show k - kk < k; omega⟩
            · have e1 : (t1.toList == t2.toList) = false := textE_ne htt
              have hpq := HST.out.1 (by rw [HTOP.out.1, HTOP.out.2]; exact htt)
              rw [HTOP.out.1, HTOP.out.2] at hpq
              obtain ⟨rfl, rfl⟩ := hpq
              clear htt
              have hx := HX.out x4 HBW.out
              have k0 : x4.cell? ⟨bp, 0, none⟩ = some (.string ⟨#[]⟩) := cellB hx rfl
              have k1 : x4.cell? ⟨bp, 1, none⟩ = some (.string ⟨#[]⟩) := cellB hx rfl
              have f0 : x4.frozen? ⟨bp, 0, none⟩ = false := frozB hx
              have f1 : x4.frozen? ⟨bp, 1, none⟩ = false := frozB hx
              have HX6 := Lib.hid (blk_set2 (x := .string p) (y := .string q) hx)
              clear hx
              go_wp2_with fail
              have m0 := cellB (k := 0) HX6.out rfl
              have m1 := cellB (k := 1) HX6.out rfl
              refine bodyPost_ret (v := .tuple #[.agg #[.string p, .string q], .int .i64 0]) (by simp [results, Tryz.results10, go_sem, m0, m1]) rfl ?_
              exact pair_end6 HF.out.1 HBW.out HF.out.2 rfl
end Go.Proofs.YtdbghgpohdijfaaGreatDoor
