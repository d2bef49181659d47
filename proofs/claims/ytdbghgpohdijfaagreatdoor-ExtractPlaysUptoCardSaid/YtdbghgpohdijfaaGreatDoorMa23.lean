/- Layer 4, walked: the climb: half, steps (by the closure's own contract), begin. -/
import Derived.Test.YtdbghgpohdijfaaGreatDoorMa0
import Derived.Test.YtdbghgpohdijfaaGreatDoorMa2
import Derived.Test.YtdbghgpohdijfaaGreatDoorRows
import Derived.BigQuiet
import Derived.Deep.Cut
import Derived.WalkMore
namespace Go.Proofs.YtdbghgpohdijfaaGreatDoor
open Go.RowKit Go.Scr
set_option linter.unusedVariables false

/-- where one stands: a climb in memory -/
def Climb (w : World) (g a l : Nat) : Prop := w.heap[g]? = some (.cells #[.int .i64 a, .int .i64 l] 90 (0, 0))
theorem Climb.c0 {w : World} {g a l : Nat} (h : Climb w g a l) : w.cell? ⟨g, 0, none⟩ = some (.int .i64 a) := by rw [cell_of_row w g 0 _ _ _ h]; rfl
theorem Climb.c1 {w : World} {g a l : Nat} (h : Climb w g a l) : w.cell? ⟨g, 1, none⟩ = some (.int .i64 l) := by rw [cell_of_row w g 1 _ _ _ h]; rfl
theorem Climb.k {w : World} {g a l : Nat} (h : Climb w g a l) (i : Nat) : w.frozen? ⟨g, i, none⟩ = false := frozen_of_row w g i _ _ h
theorem Climb.keep {w w2 : World} {g a l : Nat} (h : Climb w g a l) (h2 : w2.heap[g]? = w.heap[g]?) : Climb w2 g a l := h2.trans h
theorem Climb.set0 {w : World} {g a l : Nat} (h : Climb w g a l) (x : Nat) : Climb (w.setCell ⟨g, 0, none⟩ (.int .i64 x)) g x l := by
  have := blk_set h 0 (.int .i64 x)
  exact this
theorem Climb.set1 {w : World} {g a l : Nat} (h : Climb w g a l) (x : Nat) : Climb (w.setCell ⟨g, 1, none⟩ (.int .i64 x)) g a x := by
  have := blk_set h 1 (.int .i64 x)
  exact this
theorem grow_cell (w : World) (g i : Nat) (u : Value) : w.grownBy (w.setCell ⟨g, i, none⟩ u) (some g) := only_setCell (p := ⟨g, i, none⟩) (only_refl w (some g)) (Or.inl rfl) u
def climbAt (w : World) (g : Nat) : Nat := match w.cell? ⟨g, 0, none⟩ with | some v => (intOf v).toNat | none => 0
def climbLast (w : World) (g : Nat) : Nat := match w.cell? ⟨g, 1, none⟩ with | some v => (intOf v).toNat | none => 0
theorem Climb.at_ {w : World} {g a l : Nat} (h : Climb w g a l) : climbAt w g = a := by unfold climbAt; rw [h.c0]; simp [intOf]
theorem Climb.last {w : World} {g a l : Nat} (h : Climb w g a l) : climbLast w g = l := by unfold climbLast; rw [h.c1]; simp [intOf]
def skB (b : Bool) (x y : Nat) : Nat × Nat := if b then skipUp x y else (x, y)
theorem stepL_cons {x y : Nat} (hy : y ≠ 0) : stepL x y = isLeft x y :: stepL ((skB (isLeft x y) x y).1 / 2) ((skB (isLeft x y) x y).2 / 2) := by
  rw [stepL, dif_neg hy]
  unfold skB
  cases isLeft x y <;> simp
theorem skB_le (b : Bool) (x y : Nat) : (skB b x y).1 ≤ x ∧ (skB b x y).2 ≤ y := by
  unfold skB
  cases b
  · simp
  · simpa using skipUp_le x y
theorem drop_cons {α} {L : List α} {k : Nat} {b : α} {r : List α} (h : L.drop k = b :: r) : L[k]? = some b ∧ L.drop (k + 1) = r ∧ L.take (k + 1) = L.take k ++ [b] := by
  have h1 : L[k]? = some b := by
    have := congrArg (fun l => l[0]?) h
    simpa [List.getElem?_drop] using this
  refine ⟨h1, ?_, ?_⟩
  · have := congrArg (List.drop 1) h
    simpa [List.drop_drop, Nat.add_comm] using this
  · obtain ⟨hk, hb⟩ := List.getElem?_eq_some_iff.mp h1
    rw [List.take_succ_eq_append_getElem hk, hb]
theorem drop_nil {α} {L : List α} {k : Nat} (h : L.drop k = []) : L.take k = L := by
  have : L.length ≤ k := by simpa using h
  exact List.take_of_length_le this

set_option maxRecDepth 100000 in
set_option maxHeartbeats 400000 in
theorem half_any (g a l : Nat) (w : World) (h : Climb w g a l) (ha : a ≤ 1099511627776) (hl : l ≤ 1099511627776) :
    Calls Tryz.prog 94 #[.pointer (some ⟨g, 0, none⟩)] w fun e w' => e = .returned (.tuple #[]) ∧ Climb w' g (a / 2) (l / 2) ∧ w.grownBy w' (some g) := by
  have c0 := h.c0
  have c1 := h.c1
  have H := Lib.hid h
  obtain ⟨a2, ha2⟩ : ∃ a2, a2 = a / 2 := ⟨_, rfl⟩
  obtain ⟨l2, hl2⟩ : ∃ l2, l2 = l / 2 := ⟨_, rfl⟩
  have hz0 : (0 : Int) ≤ (a : Int) := Int.natCast_nonneg _
  have hz1 : (0 : Int) ≤ (l : Int) := Int.natCast_nonneg _
  have q0 : (a : Int).tdiv 2 = (a2 : Int) := by rw [Int.tdiv_eq_ediv_of_nonneg hz0]; omega
  have q1 : (l : Int).tdiv 2 = (l2 : Int) := by rw [Int.tdiv_eq_ediv_of_nonneg hz1]; omega
  have b0 : a2 ≤ 1099511627776 := by omega
  have b1 : l2 ≤ 1099511627776 := by omega
  have d1 : (w.setCell ⟨g, 0, none⟩ (.int .i64 (a2 : Int))).cell? ⟨g, 1, none⟩ = some (.int .i64 l) := (h.set0 a2).c1
  have k0 := h.k 0
  have k1 := (h.set0 a2).k 1
  rw [← ha2, ← hl2]
  clear h ha2 hl2 hz0 hz1
  go_enter Tryz.func94, Tryz.ntmps94
  go_wp2
  go_end0
  exact ⟨rfl, (H.out.set0 a2).set1 l2, only_trans (grow_cell _ _ _ _) (grow_cell _ _ _ _)⟩

set_option maxRecDepth 100000 in
set_option maxHeartbeats 1000000 in
theorem steps_pathlen (g B p0 : Nat) (I : List Bool → World → Prop) (hB : B ≤ g)
    (hfar : ∀ l w w', I l w → w.grownBy w' (some g) → I l w')
    (a l : Nat) (ha : a ≤ l) (hl : l ≤ 1099511627776) (w : World) (h : Climb w g a l) (hBw : B ≤ w.heap.size) (hI : I [] w)
    (hstep : ∀ (k : Nat) b w', (stepL a l)[k]? = some b → I ((stepL a l).take k) w' → Below B w w' → Calls Tryz.prog 93 #[.bool b, .pointer (some ⟨p0, 0, none⟩)] w' fun e w'' => e = .returned (.tuple #[]) ∧ I ((stepL a l).take k ++ [b]) w'' ∧ Below B w' w'' ∧ w''.heap[g]? = w'.heap[g]?) :
    Calls Tryz.prog 71 #[.pointer (some ⟨g, 0, none⟩), .func (.func 93) #[] #[.pointer (some ⟨p0, 0, none⟩)]] w fun e w' => e = .returned (.tuple #[]) ∧ I (stepL a l) w' ∧ Below B w w' := by
  obtain ⟨L, hL⟩ : ∃ L, L = stepL a l := ⟨_, rfl⟩
  rw [← hL] at hstep ⊢
  have HL := Lib.hid hL
  have HFAR := Lib.hid hfar
  have HSTEP := Lib.hid hstep
  have HI := Lib.hid hI
  have HC := Lib.hid h
  clear hL hfar hstep hI h
  go_enter Tryz.func71, Tryz.ntmps71
  go_wp2
  go_loopw [4] (fun v wr => ∃ k x y : Nat, x ≤ y ∧ y ≤ 1099511627776 ∧ Climb wr g x y ∧ Hid (L.drop k = stepL x y) ∧ I (L.take k) wr ∧ Below B w wr) (fun v wr => climbLast wr g)
  case atStart => exact ⟨0, a, l, ha, hl, HC.out, HL, HI.out, Below.refl _ _⟩
  case round =>
    clear HC HI HL ha hl
    obtain ⟨k, x, y, hxy, hy, hc, hdrop, hi, hbel⟩ := hrel
    have c0 := hc.c0
    have c1 := hc.c1
    have HC := Lib.hid hc
    have HI := Lib.hid hi
    have HBEL := Lib.hid hbel
    have HLAST := Lib.hid hc.last
    clear hc hi hbel
    by_cases hy0 : y = 0
    · have HT := Lib.hid (drop_nil (by rw [hdrop.out, hy0, stepL_zero]) : L.take k = L)
      have HI2 := Lib.hid (by have := HI.out; rw [HT.out] at this; exact this : I L wr)
      have hy1 : ¬ ((0 : Int) < (y : Int)) := by omega
      clear hy0 HI
      go_wp2
      go_end0
      exact ⟨rfl, HI2.out, HBEL.out⟩
    · obtain ⟨b, hb⟩ : ∃ b, b = isLeft x y := ⟨_, rfl⟩
      have hcons := hdrop.out
      rw [stepL_cons hy0, ← hb] at hcons
      obtain ⟨hk, hrest, htake⟩ := drop_cons hcons
      obtain ⟨m, hm⟩ : ∃ m, m = x % 2 := ⟨_, rfl⟩
      have hz0 : (0 : Int) ≤ (x : Int) := Int.natCast_nonneg _
      have q0 : (x : Int).tmod 2 = (m : Int) := by rw [Int.tmod_eq_emod_of_nonneg hz0]; omega
      have hy1 : (0 : Int) < (y : Int) := by omega
      have HK := Lib.hid hk
      have HREST := Lib.hid hrest
      have HTAKE := Lib.hid htake
      have HB := Lib.hid hb
      have HM := Lib.hid hm
      have HCALL := Lib.hid (HSTEP.out k b)
      have hx0 : b = true → x ≠ 0 := by
        intro h0 h1
        rw [hb, h1] at h0
        simp [isLeft] at h0
        omega
      clear hcons hk hrest htake hz0 hb hdrop hm
      rcases Nat.lt_or_ge m 1 with hm0 | hm1
      · have hm00 : m = 0 := by omega
        subst hm00
        clear hm0
        by_cases hxy2 : x = y
        · subst hxy2
          have hbt : b = true := by rw [HB.out]; simp [isLeft]
          have HX1 := Lib.hid (hx0 hbt)
          clear hx0
          subst hbt
          go_upto_region 1 with (go_step3)
          go_quiet (fail)
          have HC1 : Hid (Climb (wr.drewN nq) g x x) := HC.out
          have HI1 : Hid (I (L.take k) (wr.drewN nq)) := Lib.hid (HFAR.out _ _ _ HI.out (only_drewN (only_refl _ _) nq))
          have HBEL1 : Hid (Below B w (wr.drewN nq)) := below_drewN HBEL.out nq
          generalize wr.drewN nq = wx at HC1 HI1 HBEL1 ⊢
          clear c0 c1 HC HI HBEL
          go_wp2_with (first | go_step3 | (go_at_call 93; (with_reducible refine (HCALL.out wx HK.out HI1.out HBEL1.out).mono ?_; rintro e w2 ⟨rfl, hi2, hb2, hg2⟩; have HI2 := Lib.hid hi2; have HC2 := Lib.hid (HC1.out.keep hg2); have HBEL2 := Lib.hid (HBEL1.out.trans hb2); clear hi2 hb2 hg2)))
          go_loopw [] (fun wq => ∃ x2 y2 : Nat, Hid (x2 ≤ y2 ∧ y2 ≤ x ∧ x2 ≠ 0 ∧ skipUp x2 y2 = skipUp x x) ∧ y2 ≤ 1099511627776 ∧ x2 ≤ 1099511627776 ∧ Climb wq g x2 y2 ∧ I (L.take (k + 1)) wq ∧ Below B w wq) (fun wq => climbAt wq g)
          case atStart => exact ⟨x, x, Lib.hid ⟨hxy, Nat.le_refl _, HX1.out, rfl⟩, hy, by omega, HC2.out, by rw [HTAKE.out]; exact HI2.out, HBEL2.out⟩
          case round =>
            rename_i wq
            clear HC1 HI1 HC2 HI2 HBEL1 HBEL2
            obtain ⟨x2, y2, hinv, hy2, hx2, hc, hi, hbel⟩ := hrel
            have c0 := hc.c0
            have HC := Lib.hid hc
            have HI := Lib.hid hi
            have HBEL := Lib.hid hbel
            have HAT := Lib.hid hc.at_
            have HINV := Lib.hid hinv
            clear hc hi hbel hinv
            have hz0 : (0 : Int) ≤ (x2 : Int) := Int.natCast_nonneg _
            by_cases ho : x2 % 2 = 1
            · have q2 : (x2 : Int).tmod 2 = 1 := by rw [Int.tmod_eq_emod_of_nonneg hz0]; omega
              have HSK := Lib.hid (skipUp_odd y2 ho)
              have HREST2 := Lib.hid HREST.out
              clear ho hz0 q0
              go_wp2_with (go_at_call 94; with_reducible refine (half_any g x2 y2 _ HC.out hx2 hy2).mono ?_; rintro e w3 ⟨rfl, hc3, hg3⟩; have HC3 := Lib.hid hc3; have HG3 := Lib.hid hg3; clear hc3 hg3)
              have hsk := HINV.out.out.2.2.2
              rw [HSK.out] at hsk
              rw [Exit.noGoto_normal]
              go_wp2_with fail
              go_roundw
              case rel =>
                refine ⟨k + 1, x2 / 2, y2 / 2, ?_, ?_, HC3.out, ?_, HFAR.out _ _ _ HI.out HG3.out, below_only HBEL.out HG3.out (Nat.le_trans hBw HBEL.out.size) hB⟩
                · have := HINV.out.out.1; omega
                · omega
                · refine Lib.hid ?_
                  rw [HREST.out, skB, if_pos rfl, ← hsk]
              case measure =>
                rw [HC3.out.last, HLAST.out]
                have := HINV.out.out.2.1
                omega
            · have q2 : (x2 : Int).tmod 2 = 0 := by rw [Int.tmod_eq_emod_of_nonneg hz0]; omega
              have hne : ¬ ((x2 : Int) = 0) := by have := HINV.out.out.2.2.1; omega
              have HEV := Lib.hid ho
              clear ho hz0 q0
              go_wp2_with (go_at_call 94; with_reducible refine (half_any g x2 y2 _ HC.out hx2 hy2).mono ?_; rintro e w3 ⟨rfl, hc3, hg3⟩; have HC3 := Lib.hid hc3; have HG3 := Lib.hid hg3; clear hc3 hg3)
              have hev := HEV.out
              have hnz := HINV.out.out.2.2.1
              go_roundw
              case rel =>
                refine ⟨x2 / 2, y2 / 2, Lib.hid ⟨?_, ?_, ?_, ?_⟩, ?_, ?_, HC3.out, HFAR.out _ _ _ HI.out HG3.out, below_only HBEL.out HG3.out (Nat.le_trans hBw HBEL.out.size) hB⟩
                · have := HINV.out.out.1; omega
                · have := HINV.out.out.2.1; omega
                · omega
                · rw [← HINV.out.out.2.2.2, skipUp.eq_1 x2, if_pos ⟨by omega, hnz⟩]
                · omega
                · omega
              case measure =>
                rw [HC3.out.at_, HAT.out]
                omega

        · have hbt : b = false := by have := HM.out; rw [HB.out]; simp [isLeft, hxy2]; omega
          subst hbt
          have hxi : ((x : Int) == (y : Int)) = false := beq_eq_false_iff_ne.2 (by omega)
          clear hxy2 hx0
          go_upto_region 1 with (go_step3)
          go_quiet (fail)
          have HC1 : Hid (Climb (wr.drewN nq) g x y) := HC.out
          have HI1 : Hid (I (L.take k) (wr.drewN nq)) := Lib.hid (HFAR.out _ _ _ HI.out (only_drewN (only_refl _ _) nq))
          have HBEL1 : Hid (Below B w (wr.drewN nq)) := below_drewN HBEL.out nq
          generalize wr.drewN nq = wx at HC1 HI1 HBEL1 ⊢
          clear c0 c1 HC HI HBEL
          go_wp2_with (first | go_step3 | (go_at_call 93; (with_reducible refine (HCALL.out wx HK.out HI1.out HBEL1.out).mono ?_; rintro e w2 ⟨rfl, hi2, hb2, hg2⟩; have HI2 := Lib.hid hi2; have HC2 := Lib.hid (HC1.out.keep hg2); have HBEL2 := Lib.hid (HBEL1.out.trans hb2); clear hi2 hb2 hg2)))
          go_loopw [] (fun wq => Climb wq g x y ∧ I (L.take (k + 1)) wq ∧ Below B w wq) (fun wq => 0)
          case atStart => exact ⟨HC2.out, by rw [HTAKE.out]; exact HI2.out, HBEL2.out⟩
          case round =>
            rename_i wq
            clear HC1 HI1 HC2 HI2 HBEL1 HBEL2
            obtain ⟨hc, hi, hbel⟩ := hrel
            have HC := Lib.hid hc
            have HI := Lib.hid hi
            have HBEL := Lib.hid hbel
            have hx : x ≤ 1099511627776 := by omega
            clear hc hi hbel q0
            go_wp2_with (go_at_call 94; with_reducible refine (half_any g x y _ HC.out hx hy).mono ?_; rintro e w3 ⟨rfl, hc3, hg3⟩; have HC3 := Lib.hid hc3; have HG3 := Lib.hid hg3; clear hc3 hg3)
            rw [Exit.noGoto_normal]
            go_wp2_with fail
            go_roundw
            case rel =>
              refine ⟨k + 1, x / 2, y / 2, by omega, by omega, HC3.out, ?_, HFAR.out _ _ _ HI.out HG3.out, below_only HBEL.out HG3.out (Nat.le_trans hBw HBEL.out.size) hB⟩
              refine Lib.hid ?_
              rw [HREST.out]
              rfl
            case measure =>
              rw [HC3.out.last, HLAST.out]
              omega

      · have hm11 : m = 1 := by have := HM.out; omega
        subst hm11
        clear hm1
        have hbt : b = true := by rw [HB.out]; simp [isLeft, ← HM.out]
        have HX1 := Lib.hid (hx0 hbt)
        clear hx0
        subst hbt
        go_upto_region 1 with (go_step3)
        go_quiet (fail)
        have HC1 : Hid (Climb (wr.drewN nq) g x y) := HC.out
        have HI1 : Hid (I (L.take k) (wr.drewN nq)) := Lib.hid (HFAR.out _ _ _ HI.out (only_drewN (only_refl _ _) nq))
        have HBEL1 : Hid (Below B w (wr.drewN nq)) := below_drewN HBEL.out nq
        generalize wr.drewN nq = wx at HC1 HI1 HBEL1 ⊢
        clear c0 c1 HC HI HBEL
        go_wp2_with (first | go_step3 | (go_at_call 93; (with_reducible refine (HCALL.out wx HK.out HI1.out HBEL1.out).mono ?_; rintro e w2 ⟨rfl, hi2, hb2, hg2⟩; have HI2 := Lib.hid hi2; have HC2 := Lib.hid (HC1.out.keep hg2); have HBEL2 := Lib.hid (HBEL1.out.trans hb2); clear hi2 hb2 hg2)))
        go_loopw [] (fun wq => ∃ x2 y2 : Nat, Hid (x2 ≤ y2 ∧ y2 ≤ y ∧ x2 ≠ 0 ∧ skipUp x2 y2 = skipUp x y) ∧ y2 ≤ 1099511627776 ∧ x2 ≤ 1099511627776 ∧ Climb wq g x2 y2 ∧ I (L.take (k + 1)) wq ∧ Below B w wq) (fun wq => climbAt wq g)
        case atStart => exact ⟨x, y, Lib.hid ⟨hxy, Nat.le_refl _, HX1.out, rfl⟩, hy, by omega, HC2.out, by rw [HTAKE.out]; exact HI2.out, HBEL2.out⟩
        case round =>
          rename_i wq
          clear HC1 HI1 HC2 HI2 HBEL1 HBEL2
          obtain ⟨x2, y2, hinv, hy2, hx2, hc, hi, hbel⟩ := hrel
          have c0 := hc.c0
          have HC := Lib.hid hc
          have HI := Lib.hid hi
          have HBEL := Lib.hid hbel
          have HAT := Lib.hid hc.at_
          have HINV := Lib.hid hinv
          clear hc hi hbel hinv
          have hz0 : (0 : Int) ≤ (x2 : Int) := Int.natCast_nonneg _
          by_cases ho : x2 % 2 = 1
          · have q2 : (x2 : Int).tmod 2 = 1 := by rw [Int.tmod_eq_emod_of_nonneg hz0]; omega
            have HSK := Lib.hid (skipUp_odd y2 ho)
            have HREST2 := Lib.hid HREST.out
            clear ho hz0 q0
            go_wp2_with (go_at_call 94; with_reducible refine (half_any g x2 y2 _ HC.out hx2 hy2).mono ?_; rintro e w3 ⟨rfl, hc3, hg3⟩; have HC3 := Lib.hid hc3; have HG3 := Lib.hid hg3; clear hc3 hg3)
            have hsk := HINV.out.out.2.2.2
            rw [HSK.out] at hsk
            rw [Exit.noGoto_normal]
            go_wp2_with fail
            go_roundw
            case rel =>
              refine ⟨k + 1, x2 / 2, y2 / 2, ?_, ?_, HC3.out, ?_, HFAR.out _ _ _ HI.out HG3.out, below_only HBEL.out HG3.out (Nat.le_trans hBw HBEL.out.size) hB⟩
              · have := HINV.out.out.1; omega
              · omega
              · refine Lib.hid ?_
                rw [HREST.out, skB, if_pos rfl, ← hsk]
            case measure =>
              rw [HC3.out.last, HLAST.out]
              have := HINV.out.out.2.1
              omega
          · have q2 : (x2 : Int).tmod 2 = 0 := by rw [Int.tmod_eq_emod_of_nonneg hz0]; omega
            have hne : ¬ ((x2 : Int) = 0) := by have := HINV.out.out.2.2.1; omega
            have HEV := Lib.hid ho
            clear ho hz0 q0
            go_wp2_with (go_at_call 94; with_reducible refine (half_any g x2 y2 _ HC.out hx2 hy2).mono ?_; rintro e w3 ⟨rfl, hc3, hg3⟩; have HC3 := Lib.hid hc3; have HG3 := Lib.hid hg3; clear hc3 hg3)
            have hev := HEV.out
            have hnz := HINV.out.out.2.2.1
            go_roundw
            case rel =>
              refine ⟨x2 / 2, y2 / 2, Lib.hid ⟨?_, ?_, ?_, ?_⟩, ?_, ?_, HC3.out, HFAR.out _ _ _ HI.out HG3.out, below_only HBEL.out HG3.out (Nat.le_trans hBw HBEL.out.size) hB⟩
              · have := HINV.out.out.1; omega
              · have := HINV.out.out.2.1; omega
              · omega
              · rw [← HINV.out.out.2.2.2, skipUp.eq_1 x2, if_pos ⟨by omega, hnz⟩]
              · omega
              · omega
            case measure =>
              rw [HC3.out.at_, HAT.out]
              omega


set_option maxRecDepth 100000 in
set_option maxHeartbeats 1000000 in
theorem steps_prooflen (g B p0 : Nat) (I : List Bool → World → Prop) (hB : B ≤ g)
    (hfar : ∀ l w w', I l w → w.grownBy w' (some g) → I l w')
    (a l : Nat) (ha : a ≤ l) (hl : l ≤ 1099511627776) (w : World) (h : Climb w g a l) (hBw : B ≤ w.heap.size) (hI : I [] w)
    (hstep : ∀ (k : Nat) b w', (stepL a l)[k]? = some b → I ((stepL a l).take k) w' → Below B w w' → Calls Tryz.prog 103 #[.bool b, .pointer (some ⟨p0, 0, none⟩)] w' fun e w'' => e = .returned (.tuple #[]) ∧ I ((stepL a l).take k ++ [b]) w'' ∧ Below B w' w'' ∧ w''.heap[g]? = w'.heap[g]?) :
    Calls Tryz.prog 71 #[.pointer (some ⟨g, 0, none⟩), .func (.func 103) #[] #[.pointer (some ⟨p0, 0, none⟩)]] w fun e w' => e = .returned (.tuple #[]) ∧ I (stepL a l) w' ∧ Below B w w' := by
  obtain ⟨L, hL⟩ : ∃ L, L = stepL a l := ⟨_, rfl⟩
  rw [← hL] at hstep ⊢
  have HL := Lib.hid hL
  have HFAR := Lib.hid hfar
  have HSTEP := Lib.hid hstep
  have HI := Lib.hid hI
  have HC := Lib.hid h
  clear hL hfar hstep hI h
  go_enter Tryz.func71, Tryz.ntmps71
  go_wp2
  go_loopw [4] (fun v wr => ∃ k x y : Nat, x ≤ y ∧ y ≤ 1099511627776 ∧ Climb wr g x y ∧ Hid (L.drop k = stepL x y) ∧ I (L.take k) wr ∧ Below B w wr) (fun v wr => climbLast wr g)
  case atStart => exact ⟨0, a, l, ha, hl, HC.out, HL, HI.out, Below.refl _ _⟩
  case round =>
    clear HC HI HL ha hl
    obtain ⟨k, x, y, hxy, hy, hc, hdrop, hi, hbel⟩ := hrel
    have c0 := hc.c0
    have c1 := hc.c1
    have HC := Lib.hid hc
    have HI := Lib.hid hi
    have HBEL := Lib.hid hbel
    have HLAST := Lib.hid hc.last
    clear hc hi hbel
    by_cases hy0 : y = 0
    · have HT := Lib.hid (drop_nil (by rw [hdrop.out, hy0, stepL_zero]) : L.take k = L)
      have HI2 := Lib.hid (by have := HI.out; rw [HT.out] at this; exact this : I L wr)
      have hy1 : ¬ ((0 : Int) < (y : Int)) := by omega
      clear hy0 HI
      go_wp2
      go_end0
      exact ⟨rfl, HI2.out, HBEL.out⟩
    · obtain ⟨b, hb⟩ : ∃ b, b = isLeft x y := ⟨_, rfl⟩
      have hcons := hdrop.out
      rw [stepL_cons hy0, ← hb] at hcons
      obtain ⟨hk, hrest, htake⟩ := drop_cons hcons
      obtain ⟨m, hm⟩ : ∃ m, m = x % 2 := ⟨_, rfl⟩
      have hz0 : (0 : Int) ≤ (x : Int) := Int.natCast_nonneg _
      have q0 : (x : Int).tmod 2 = (m : Int) := by rw [Int.tmod_eq_emod_of_nonneg hz0]; omega
      have hy1 : (0 : Int) < (y : Int) := by omega
      have HK := Lib.hid hk
      have HREST := Lib.hid hrest
      have HTAKE := Lib.hid htake
      have HB := Lib.hid hb
      have HM := Lib.hid hm
      have HCALL := Lib.hid (HSTEP.out k b)
      have hx0 : b = true → x ≠ 0 := by
        intro h0 h1
        rw [hb, h1] at h0
        simp [isLeft] at h0
        omega
      clear hcons hk hrest htake hz0 hb hdrop hm
      rcases Nat.lt_or_ge m 1 with hm0 | hm1
      · have hm00 : m = 0 := by omega
        subst hm00
        clear hm0
        by_cases hxy2 : x = y
        · subst hxy2
          have hbt : b = true := by rw [HB.out]; simp [isLeft]
          have HX1 := Lib.hid (hx0 hbt)
          clear hx0
          subst hbt
          go_upto_region 1 with (go_step3)
          go_quiet (fail)
          have HC1 : Hid (Climb (wr.drewN nq) g x x) := HC.out
          have HI1 : Hid (I (L.take k) (wr.drewN nq)) := Lib.hid (HFAR.out _ _ _ HI.out (only_drewN (only_refl _ _) nq))
          have HBEL1 : Hid (Below B w (wr.drewN nq)) := below_drewN HBEL.out nq
          generalize wr.drewN nq = wx at HC1 HI1 HBEL1 ⊢
          clear c0 c1 HC HI HBEL
          go_wp2_with (first | go_step3 | (go_at_call 103; (with_reducible refine (HCALL.out wx HK.out HI1.out HBEL1.out).mono ?_; rintro e w2 ⟨rfl, hi2, hb2, hg2⟩; have HI2 := Lib.hid hi2; have HC2 := Lib.hid (HC1.out.keep hg2); have HBEL2 := Lib.hid (HBEL1.out.trans hb2); clear hi2 hb2 hg2)))
          go_loopw [] (fun wq => ∃ x2 y2 : Nat, Hid (x2 ≤ y2 ∧ y2 ≤ x ∧ x2 ≠ 0 ∧ skipUp x2 y2 = skipUp x x) ∧ y2 ≤ 1099511627776 ∧ x2 ≤ 1099511627776 ∧ Climb wq g x2 y2 ∧ I (L.take (k + 1)) wq ∧ Below B w wq) (fun wq => climbAt wq g)
          case atStart => exact ⟨x, x, Lib.hid ⟨hxy, Nat.le_refl _, HX1.out, rfl⟩, hy, by omega, HC2.out, by rw [HTAKE.out]; exact HI2.out, HBEL2.out⟩
          case round =>
            rename_i wq
            clear HC1 HI1 HC2 HI2 HBEL1 HBEL2
            obtain ⟨x2, y2, hinv, hy2, hx2, hc, hi, hbel⟩ := hrel
            have c0 := hc.c0
            have HC := Lib.hid hc
            have HI := Lib.hid hi
            have HBEL := Lib.hid hbel
            have HAT := Lib.hid hc.at_
            have HINV := Lib.hid hinv
            clear hc hi hbel hinv
            have hz0 : (0 : Int) ≤ (x2 : Int) := Int.natCast_nonneg _
            by_cases ho : x2 % 2 = 1
            · have q2 : (x2 : Int).tmod 2 = 1 := by rw [Int.tmod_eq_emod_of_nonneg hz0]; omega
              have HSK := Lib.hid (skipUp_odd y2 ho)
              have HREST2 := Lib.hid HREST.out
              clear ho hz0 q0
              go_wp2_with (go_at_call 94; with_reducible refine (half_any g x2 y2 _ HC.out hx2 hy2).mono ?_; rintro e w3 ⟨rfl, hc3, hg3⟩; have HC3 := Lib.hid hc3; have HG3 := Lib.hid hg3; clear hc3 hg3)
              have hsk := HINV.out.out.2.2.2
              rw [HSK.out] at hsk
              rw [Exit.noGoto_normal]
              go_wp2_with fail
              go_roundw
              case rel =>
                refine ⟨k + 1, x2 / 2, y2 / 2, ?_, ?_, HC3.out, ?_, HFAR.out _ _ _ HI.out HG3.out, below_only HBEL.out HG3.out (Nat.le_trans hBw HBEL.out.size) hB⟩
                · have := HINV.out.out.1; omega
                · omega
                · refine Lib.hid ?_
                  rw [HREST.out, skB, if_pos rfl, ← hsk]
              case measure =>
                rw [HC3.out.last, HLAST.out]
                have := HINV.out.out.2.1
                omega
            · have q2 : (x2 : Int).tmod 2 = 0 := by rw [Int.tmod_eq_emod_of_nonneg hz0]; omega
              have hne : ¬ ((x2 : Int) = 0) := by have := HINV.out.out.2.2.1; omega
              have HEV := Lib.hid ho
              clear ho hz0 q0
              go_wp2_with (go_at_call 94; with_reducible refine (half_any g x2 y2 _ HC.out hx2 hy2).mono ?_; rintro e w3 ⟨rfl, hc3, hg3⟩; have HC3 := Lib.hid hc3; have HG3 := Lib.hid hg3; clear hc3 hg3)
              have hev := HEV.out
              have hnz := HINV.out.out.2.2.1
              go_roundw
              case rel =>
                refine ⟨x2 / 2, y2 / 2, Lib.hid ⟨?_, ?_, ?_, ?_⟩, ?_, ?_, HC3.out, HFAR.out _ _ _ HI.out HG3.out, below_only HBEL.out HG3.out (Nat.le_trans hBw HBEL.out.size) hB⟩
                · have := HINV.out.out.1; omega
                · have := HINV.out.out.2.1; omega
                · omega
                · rw [← HINV.out.out.2.2.2, skipUp.eq_1 x2, if_pos ⟨by omega, hnz⟩]
                · omega
                · omega
              case measure =>
                rw [HC3.out.at_, HAT.out]
                omega

        · have hbt : b = false := by have := HM.out; rw [HB.out]; simp [isLeft, hxy2]; omega
          subst hbt
          have hxi : ((x : Int) == (y : Int)) = false := beq_eq_false_iff_ne.2 (by omega)
          clear hxy2 hx0
          go_upto_region 1 with (go_step3)
          go_quiet (fail)
          have HC1 : Hid (Climb (wr.drewN nq) g x y) := HC.out
          have HI1 : Hid (I (L.take k) (wr.drewN nq)) := Lib.hid (HFAR.out _ _ _ HI.out (only_drewN (only_refl _ _) nq))
          have HBEL1 : Hid (Below B w (wr.drewN nq)) := below_drewN HBEL.out nq
          generalize wr.drewN nq = wx at HC1 HI1 HBEL1 ⊢
          clear c0 c1 HC HI HBEL
          go_wp2_with (first | go_step3 | (go_at_call 103; (with_reducible refine (HCALL.out wx HK.out HI1.out HBEL1.out).mono ?_; rintro e w2 ⟨rfl, hi2, hb2, hg2⟩; have HI2 := Lib.hid hi2; have HC2 := Lib.hid (HC1.out.keep hg2); have HBEL2 := Lib.hid (HBEL1.out.trans hb2); clear hi2 hb2 hg2)))
          go_loopw [] (fun wq => Climb wq g x y ∧ I (L.take (k + 1)) wq ∧ Below B w wq) (fun wq => 0)
          case atStart => exact ⟨HC2.out, by rw [HTAKE.out]; exact HI2.out, HBEL2.out⟩
          case round =>
            rename_i wq
            clear HC1 HI1 HC2 HI2 HBEL1 HBEL2
            obtain ⟨hc, hi, hbel⟩ := hrel
            have HC := Lib.hid hc
            have HI := Lib.hid hi
            have HBEL := Lib.hid hbel
            have hx : x ≤ 1099511627776 := by omega
            clear hc hi hbel q0
            go_wp2_with (go_at_call 94; with_reducible refine (half_any g x y _ HC.out hx hy).mono ?_; rintro e w3 ⟨rfl, hc3, hg3⟩; have HC3 := Lib.hid hc3; have HG3 := Lib.hid hg3; clear hc3 hg3)
            rw [Exit.noGoto_normal]
            go_wp2_with fail
            go_roundw
            case rel =>
              refine ⟨k + 1, x / 2, y / 2, by omega, by omega, HC3.out, ?_, HFAR.out _ _ _ HI.out HG3.out, below_only HBEL.out HG3.out (Nat.le_trans hBw HBEL.out.size) hB⟩
              refine Lib.hid ?_
              rw [HREST.out]
              rfl
            case measure =>
              rw [HC3.out.last, HLAST.out]
              omega

      · have hm11 : m = 1 := by have := HM.out; omega
        subst hm11
        clear hm1
        have hbt : b = true := by rw [HB.out]; simp [isLeft, ← HM.out]
        have HX1 := Lib.hid (hx0 hbt)
        clear hx0
        subst hbt
        go_upto_region 1 with (go_step3)
        go_quiet (fail)
        have HC1 : Hid (Climb (wr.drewN nq) g x y) := HC.out
        have HI1 : Hid (I (L.take k) (wr.drewN nq)) := Lib.hid (HFAR.out _ _ _ HI.out (only_drewN (only_refl _ _) nq))
        have HBEL1 : Hid (Below B w (wr.drewN nq)) := below_drewN HBEL.out nq
        generalize wr.drewN nq = wx at HC1 HI1 HBEL1 ⊢
        clear c0 c1 HC HI HBEL
        go_wp2_with (first | go_step3 | (go_at_call 103; (with_reducible refine (HCALL.out wx HK.out HI1.out HBEL1.out).mono ?_; rintro e w2 ⟨rfl, hi2, hb2, hg2⟩; have HI2 := Lib.hid hi2; have HC2 := Lib.hid (HC1.out.keep hg2); have HBEL2 := Lib.hid (HBEL1.out.trans hb2); clear hi2 hb2 hg2)))
        go_loopw [] (fun wq => ∃ x2 y2 : Nat, Hid (x2 ≤ y2 ∧ y2 ≤ y ∧ x2 ≠ 0 ∧ skipUp x2 y2 = skipUp x y) ∧ y2 ≤ 1099511627776 ∧ x2 ≤ 1099511627776 ∧ Climb wq g x2 y2 ∧ I (L.take (k + 1)) wq ∧ Below B w wq) (fun wq => climbAt wq g)
        case atStart => exact ⟨x, y, Lib.hid ⟨hxy, Nat.le_refl _, HX1.out, rfl⟩, hy, by omega, HC2.out, by rw [HTAKE.out]; exact HI2.out, HBEL2.out⟩
        case round =>
          rename_i wq
          clear HC1 HI1 HC2 HI2 HBEL1 HBEL2
          obtain ⟨x2, y2, hinv, hy2, hx2, hc, hi, hbel⟩ := hrel
          have c0 := hc.c0
          have HC := Lib.hid hc
          have HI := Lib.hid hi
          have HBEL := Lib.hid hbel
          have HAT := Lib.hid hc.at_
          have HINV := Lib.hid hinv
          clear hc hi hbel hinv
          have hz0 : (0 : Int) ≤ (x2 : Int) := Int.natCast_nonneg _
          by_cases ho : x2 % 2 = 1
          · have q2 : (x2 : Int).tmod 2 = 1 := by rw [Int.tmod_eq_emod_of_nonneg hz0]; omega
            have HSK := Lib.hid (skipUp_odd y2 ho)
            have HREST2 := Lib.hid HREST.out
            clear ho hz0 q0
            go_wp2_with (go_at_call 94; with_reducible refine (half_any g x2 y2 _ HC.out hx2 hy2).mono ?_; rintro e w3 ⟨rfl, hc3, hg3⟩; have HC3 := Lib.hid hc3; have HG3 := Lib.hid hg3; clear hc3 hg3)
            have hsk := HINV.out.out.2.2.2
            rw [HSK.out] at hsk
            rw [Exit.noGoto_normal]
            go_wp2_with fail
            go_roundw
            case rel =>
              refine ⟨k + 1, x2 / 2, y2 / 2, ?_, ?_, HC3.out, ?_, HFAR.out _ _ _ HI.out HG3.out, below_only HBEL.out HG3.out (Nat.le_trans hBw HBEL.out.size) hB⟩
              · have := HINV.out.out.1; omega
              · omega
              · refine Lib.hid ?_
                rw [HREST.out, skB, if_pos rfl, ← hsk]
            case measure =>
              rw [HC3.out.last, HLAST.out]
              have := HINV.out.out.2.1
              omega
          · have q2 : (x2 : Int).tmod 2 = 0 := by rw [Int.tmod_eq_emod_of_nonneg hz0]; omega
            have hne : ¬ ((x2 : Int) = 0) := by have := HINV.out.out.2.2.1; omega
            have HEV := Lib.hid ho
            clear ho hz0 q0
            go_wp2_with (go_at_call 94; with_reducible refine (half_any g x2 y2 _ HC.out hx2 hy2).mono ?_; rintro e w3 ⟨rfl, hc3, hg3⟩; have HC3 := Lib.hid hc3; have HG3 := Lib.hid hg3; clear hc3 hg3)
            have hev := HEV.out
            have hnz := HINV.out.out.2.2.1
            go_roundw
            case rel =>
              refine ⟨x2 / 2, y2 / 2, Lib.hid ⟨?_, ?_, ?_, ?_⟩, ?_, ?_, HC3.out, HFAR.out _ _ _ HI.out HG3.out, below_only HBEL.out HG3.out (Nat.le_trans hBw HBEL.out.size) hB⟩
              · have := HINV.out.out.1; omega
              · have := HINV.out.out.2.1; omega
              · omega
              · rw [← HINV.out.out.2.2.2, skipUp.eq_1 x2, if_pos ⟨by omega, hnz⟩]
              · omega
              · omega
            case measure =>
              rw [HC3.out.at_, HAT.out]
              omega


set_option maxRecDepth 100000 in
set_option maxHeartbeats 1000000 in
theorem steps_rootof (g B p0 p1 : Nat) (I : List Bool → World → Prop) (hB : B ≤ g)
    (hfar : ∀ l w w', I l w → w.grownBy w' (some g) → I l w')
    (a l : Nat) (ha : a ≤ l) (hl : l ≤ 1099511627776) (w : World) (h : Climb w g a l) (hBw : B ≤ w.heap.size) (hI : I [] w)
    (hstep : ∀ (k : Nat) b w', (stepL a l)[k]? = some b → I ((stepL a l).take k) w' → Below B w w' → Calls Tryz.prog 72 #[.bool b, .pointer (some ⟨p0, 0, none⟩), .pointer (some ⟨p1, 0, none⟩)] w' fun e w'' => e = .returned (.tuple #[]) ∧ I ((stepL a l).take k ++ [b]) w'' ∧ Below B w' w'' ∧ w''.heap[g]? = w'.heap[g]?) :
    Calls Tryz.prog 71 #[.pointer (some ⟨g, 0, none⟩), .func (.func 72) #[] #[.pointer (some ⟨p0, 0, none⟩), .pointer (some ⟨p1, 0, none⟩)]] w fun e w' => e = .returned (.tuple #[]) ∧ I (stepL a l) w' ∧ Below B w w' := by
  obtain ⟨L, hL⟩ : ∃ L, L = stepL a l := ⟨_, rfl⟩
  rw [← hL] at hstep ⊢
  have HL := Lib.hid hL
  have HFAR := Lib.hid hfar
  have HSTEP := Lib.hid hstep
  have HI := Lib.hid hI
  have HC := Lib.hid h
  clear hL hfar hstep hI h
  go_enter Tryz.func71, Tryz.ntmps71
  go_wp2
  go_loopw [4] (fun v wr => ∃ k x y : Nat, x ≤ y ∧ y ≤ 1099511627776 ∧ Climb wr g x y ∧ Hid (L.drop k = stepL x y) ∧ I (L.take k) wr ∧ Below B w wr) (fun v wr => climbLast wr g)
  case atStart => exact ⟨0, a, l, ha, hl, HC.out, HL, HI.out, Below.refl _ _⟩
  case round =>
    clear HC HI HL ha hl
    obtain ⟨k, x, y, hxy, hy, hc, hdrop, hi, hbel⟩ := hrel
    have c0 := hc.c0
    have c1 := hc.c1
    have HC := Lib.hid hc
    have HI := Lib.hid hi
    have HBEL := Lib.hid hbel
    have HLAST := Lib.hid hc.last
    clear hc hi hbel
    by_cases hy0 : y = 0
    · have HT := Lib.hid (drop_nil (by rw [hdrop.out, hy0, stepL_zero]) : L.take k = L)
      have HI2 := Lib.hid (by have := HI.out; rw [HT.out] at this; exact this : I L wr)
      have hy1 : ¬ ((0 : Int) < (y : Int)) := by omega
      clear hy0 HI
      go_wp2
      go_end0
      exact ⟨rfl, HI2.out, HBEL.out⟩
    · obtain ⟨b, hb⟩ : ∃ b, b = isLeft x y := ⟨_, rfl⟩
      have hcons := hdrop.out
      rw [stepL_cons hy0, ← hb] at hcons
      obtain ⟨hk, hrest, htake⟩ := drop_cons hcons
      obtain ⟨m, hm⟩ : ∃ m, m = x % 2 := ⟨_, rfl⟩
      have hz0 : (0 : Int) ≤ (x : Int) := Int.natCast_nonneg _
      have q0 : (x : Int).tmod 2 = (m : Int) := by rw [Int.tmod_eq_emod_of_nonneg hz0]; omega
      have hy1 : (0 : Int) < (y : Int) := by omega
      have HK := Lib.hid hk
      have HREST := Lib.hid hrest
      have HTAKE := Lib.hid htake
      have HB := Lib.hid hb
      have HM := Lib.hid hm
      have HCALL := Lib.hid (HSTEP.out k b)
      have hx0 : b = true → x ≠ 0 := by
        intro h0 h1
        rw [hb, h1] at h0
        simp [isLeft] at h0
        omega
      clear hcons hk hrest htake hz0 hb hdrop hm
      rcases Nat.lt_or_ge m 1 with hm0 | hm1
      · have hm00 : m = 0 := by omega
        subst hm00
        clear hm0
        by_cases hxy2 : x = y
        · subst hxy2
          have hbt : b = true := by rw [HB.out]; simp [isLeft]
          have HX1 := Lib.hid (hx0 hbt)
          clear hx0
          subst hbt
          go_upto_region 1 with (go_step3)
          go_quiet (fail)
          have HC1 : Hid (Climb (wr.drewN nq) g x x) := HC.out
          have HI1 : Hid (I (L.take k) (wr.drewN nq)) := Lib.hid (HFAR.out _ _ _ HI.out (only_drewN (only_refl _ _) nq))
          have HBEL1 : Hid (Below B w (wr.drewN nq)) := below_drewN HBEL.out nq
          generalize wr.drewN nq = wx at HC1 HI1 HBEL1 ⊢
          clear c0 c1 HC HI HBEL
          go_wp2_with (first | go_step3 | (go_at_call 72; (with_reducible refine (HCALL.out wx HK.out HI1.out HBEL1.out).mono ?_; rintro e w2 ⟨rfl, hi2, hb2, hg2⟩; have HI2 := Lib.hid hi2; have HC2 := Lib.hid (HC1.out.keep hg2); have HBEL2 := Lib.hid (HBEL1.out.trans hb2); clear hi2 hb2 hg2)))
          go_loopw [] (fun wq => ∃ x2 y2 : Nat, Hid (x2 ≤ y2 ∧ y2 ≤ x ∧ x2 ≠ 0 ∧ skipUp x2 y2 = skipUp x x) ∧ y2 ≤ 1099511627776 ∧ x2 ≤ 1099511627776 ∧ Climb wq g x2 y2 ∧ I (L.take (k + 1)) wq ∧ Below B w wq) (fun wq => climbAt wq g)
          case atStart => exact ⟨x, x, Lib.hid ⟨hxy, Nat.le_refl _, HX1.out, rfl⟩, hy, by omega, HC2.out, by rw [HTAKE.out]; exact HI2.out, HBEL2.out⟩
          case round =>
            rename_i wq
            clear HC1 HI1 HC2 HI2 HBEL1 HBEL2
            obtain ⟨x2, y2, hinv, hy2, hx2, hc, hi, hbel⟩ := hrel
            have c0 := hc.c0
            have HC := Lib.hid hc
            have HI := Lib.hid hi
            have HBEL := Lib.hid hbel
            have HAT := Lib.hid hc.at_
            have HINV := Lib.hid hinv
            clear hc hi hbel hinv
            have hz0 : (0 : Int) ≤ (x2 : Int) := Int.natCast_nonneg _
            by_cases ho : x2 % 2 = 1
            · have q2 : (x2 : Int).tmod 2 = 1 := by rw [Int.tmod_eq_emod_of_nonneg hz0]; omega
              have HSK := Lib.hid (skipUp_odd y2 ho)
              have HREST2 := Lib.hid HREST.out
              clear ho hz0 q0
              go_wp2_with (go_at_call 94; with_reducible refine (half_any g x2 y2 _ HC.out hx2 hy2).mono ?_; rintro e w3 ⟨rfl, hc3, hg3⟩; have HC3 := Lib.hid hc3; have HG3 := Lib.hid hg3; clear hc3 hg3)
              have hsk := HINV.out.out.2.2.2
              rw [HSK.out] at hsk
              rw [Exit.noGoto_normal]
              go_wp2_with fail
              go_roundw
              case rel =>
                refine ⟨k + 1, x2 / 2, y2 / 2, ?_, ?_, HC3.out, ?_, HFAR.out _ _ _ HI.out HG3.out, below_only HBEL.out HG3.out (Nat.le_trans hBw HBEL.out.size) hB⟩
                · have := HINV.out.out.1; omega
                · omega
                · refine Lib.hid ?_
                  rw [HREST.out, skB, if_pos rfl, ← hsk]
              case measure =>
                rw [HC3.out.last, HLAST.out]
                have := HINV.out.out.2.1
                omega
            · have q2 : (x2 : Int).tmod 2 = 0 := by rw [Int.tmod_eq_emod_of_nonneg hz0]; omega
              have hne : ¬ ((x2 : Int) = 0) := by have := HINV.out.out.2.2.1; omega
              have HEV := Lib.hid ho
              clear ho hz0 q0
              go_wp2_with (go_at_call 94; with_reducible refine (half_any g x2 y2 _ HC.out hx2 hy2).mono ?_; rintro e w3 ⟨rfl, hc3, hg3⟩; have HC3 := Lib.hid hc3; have HG3 := Lib.hid hg3; clear hc3 hg3)
              have hev := HEV.out
              have hnz := HINV.out.out.2.2.1
              go_roundw
              case rel =>
                refine ⟨x2 / 2, y2 / 2, Lib.hid ⟨?_, ?_, ?_, ?_⟩, ?_, ?_, HC3.out, HFAR.out _ _ _ HI.out HG3.out, below_only HBEL.out HG3.out (Nat.le_trans hBw HBEL.out.size) hB⟩
                · have := HINV.out.out.1; omega
                · have := HINV.out.out.2.1; omega
                · omega
                · rw [← HINV.out.out.2.2.2, skipUp.eq_1 x2, if_pos ⟨by omega, hnz⟩]
                · omega
                · omega
              case measure =>
                rw [HC3.out.at_, HAT.out]
                omega

        · have hbt : b = false := by have := HM.out; rw [HB.out]; simp [isLeft, hxy2]; omega
          subst hbt
          have hxi : ((x : Int) == (y : Int)) = false := beq_eq_false_iff_ne.2 (by omega)
          clear hxy2 hx0
          go_upto_region 1 with (go_step3)
          go_quiet (fail)
          have HC1 : Hid (Climb (wr.drewN nq) g x y) := HC.out
          have HI1 : Hid (I (L.take k) (wr.drewN nq)) := Lib.hid (HFAR.out _ _ _ HI.out (only_drewN (only_refl _ _) nq))
          have HBEL1 : Hid (Below B w (wr.drewN nq)) := below_drewN HBEL.out nq
          generalize wr.drewN nq = wx at HC1 HI1 HBEL1 ⊢
          clear c0 c1 HC HI HBEL
          go_wp2_with (first | go_step3 | (go_at_call 72; (with_reducible refine (HCALL.out wx HK.out HI1.out HBEL1.out).mono ?_; rintro e w2 ⟨rfl, hi2, hb2, hg2⟩; have HI2 := Lib.hid hi2; have HC2 := Lib.hid (HC1.out.keep hg2); have HBEL2 := Lib.hid (HBEL1.out.trans hb2); clear hi2 hb2 hg2)))
          go_loopw [] (fun wq => Climb wq g x y ∧ I (L.take (k + 1)) wq ∧ Below B w wq) (fun wq => 0)
          case atStart => exact ⟨HC2.out, by rw [HTAKE.out]; exact HI2.out, HBEL2.out⟩
          case round =>
            rename_i wq
            clear HC1 HI1 HC2 HI2 HBEL1 HBEL2
            obtain ⟨hc, hi, hbel⟩ := hrel
            have HC := Lib.hid hc
            have HI := Lib.hid hi
            have HBEL := Lib.hid hbel
            have hx : x ≤ 1099511627776 := by omega
            clear hc hi hbel q0
            go_wp2_with (go_at_call 94; with_reducible refine (half_any g x y _ HC.out hx hy).mono ?_; rintro e w3 ⟨rfl, hc3, hg3⟩; have HC3 := Lib.hid hc3; have HG3 := Lib.hid hg3; clear hc3 hg3)
            rw [Exit.noGoto_normal]
            go_wp2_with fail
            go_roundw
            case rel =>
              refine ⟨k + 1, x / 2, y / 2, by omega, by omega, HC3.out, ?_, HFAR.out _ _ _ HI.out HG3.out, below_only HBEL.out HG3.out (Nat.le_trans hBw HBEL.out.size) hB⟩
              refine Lib.hid ?_
              rw [HREST.out]
              rfl
            case measure =>
              rw [HC3.out.last, HLAST.out]
              omega

      · have hm11 : m = 1 := by have := HM.out; omega
        subst hm11
        clear hm1
        have hbt : b = true := by rw [HB.out]; simp [isLeft, ← HM.out]
        have HX1 := Lib.hid (hx0 hbt)
        clear hx0
        subst hbt
        go_upto_region 1 with (go_step3)
        go_quiet (fail)
        have HC1 : Hid (Climb (wr.drewN nq) g x y) := HC.out
        have HI1 : Hid (I (L.take k) (wr.drewN nq)) := Lib.hid (HFAR.out _ _ _ HI.out (only_drewN (only_refl _ _) nq))
        have HBEL1 : Hid (Below B w (wr.drewN nq)) := below_drewN HBEL.out nq
        generalize wr.drewN nq = wx at HC1 HI1 HBEL1 ⊢
        clear c0 c1 HC HI HBEL
        go_wp2_with (first | go_step3 | (go_at_call 72; (with_reducible refine (HCALL.out wx HK.out HI1.out HBEL1.out).mono ?_; rintro e w2 ⟨rfl, hi2, hb2, hg2⟩; have HI2 := Lib.hid hi2; have HC2 := Lib.hid (HC1.out.keep hg2); have HBEL2 := Lib.hid (HBEL1.out.trans hb2); clear hi2 hb2 hg2)))
        go_loopw [] (fun wq => ∃ x2 y2 : Nat, Hid (x2 ≤ y2 ∧ y2 ≤ y ∧ x2 ≠ 0 ∧ skipUp x2 y2 = skipUp x y) ∧ y2 ≤ 1099511627776 ∧ x2 ≤ 1099511627776 ∧ Climb wq g x2 y2 ∧ I (L.take (k + 1)) wq ∧ Below B w wq) (fun wq => climbAt wq g)
        case atStart => exact ⟨x, y, Lib.hid ⟨hxy, Nat.le_refl _, HX1.out, rfl⟩, hy, by omega, HC2.out, by rw [HTAKE.out]; exact HI2.out, HBEL2.out⟩
        case round =>
          rename_i wq
          clear HC1 HI1 HC2 HI2 HBEL1 HBEL2
          obtain ⟨x2, y2, hinv, hy2, hx2, hc, hi, hbel⟩ := hrel
          have c0 := hc.c0
          have HC := Lib.hid hc
          have HI := Lib.hid hi
          have HBEL := Lib.hid hbel
          have HAT := Lib.hid hc.at_
          have HINV := Lib.hid hinv
          clear hc hi hbel hinv
          have hz0 : (0 : Int) ≤ (x2 : Int) := Int.natCast_nonneg _
          by_cases ho : x2 % 2 = 1
          · have q2 : (x2 : Int).tmod 2 = 1 := by rw [Int.tmod_eq_emod_of_nonneg hz0]; omega
            have HSK := Lib.hid (skipUp_odd y2 ho)
            have HREST2 := Lib.hid HREST.out
            clear ho hz0 q0
            go_wp2_with (go_at_call 94; with_reducible refine (half_any g x2 y2 _ HC.out hx2 hy2).mono ?_; rintro e w3 ⟨rfl, hc3, hg3⟩; have HC3 := Lib.hid hc3; have HG3 := Lib.hid hg3; clear hc3 hg3)
            have hsk := HINV.out.out.2.2.2
            rw [HSK.out] at hsk
            rw [Exit.noGoto_normal]
            go_wp2_with fail
            go_roundw
            case rel =>
              refine ⟨k + 1, x2 / 2, y2 / 2, ?_, ?_, HC3.out, ?_, HFAR.out _ _ _ HI.out HG3.out, below_only HBEL.out HG3.out (Nat.le_trans hBw HBEL.out.size) hB⟩
              · have := HINV.out.out.1; omega
              · omega
              · refine Lib.hid ?_
                rw [HREST.out, skB, if_pos rfl, ← hsk]
            case measure =>
              rw [HC3.out.last, HLAST.out]
              have := HINV.out.out.2.1
              omega
          · have q2 : (x2 : Int).tmod 2 = 0 := by rw [Int.tmod_eq_emod_of_nonneg hz0]; omega
            have hne : ¬ ((x2 : Int) = 0) := by have := HINV.out.out.2.2.1; omega
            have HEV := Lib.hid ho
            clear ho hz0 q0
            go_wp2_with (go_at_call 94; with_reducible refine (half_any g x2 y2 _ HC.out hx2 hy2).mono ?_; rintro e w3 ⟨rfl, hc3, hg3⟩; have HC3 := Lib.hid hc3; have HG3 := Lib.hid hg3; clear hc3 hg3)
            have hev := HEV.out
            have hnz := HINV.out.out.2.2.1
            go_roundw
            case rel =>
              refine ⟨x2 / 2, y2 / 2, Lib.hid ⟨?_, ?_, ?_, ?_⟩, ?_, ?_, HC3.out, HFAR.out _ _ _ HI.out HG3.out, below_only HBEL.out HG3.out (Nat.le_trans hBw HBEL.out.size) hB⟩
              · have := HINV.out.out.1; omega
              · have := HINV.out.out.2.1; omega
              · omega
              · rw [← HINV.out.out.2.2.2, skipUp.eq_1 x2, if_pos ⟨by omega, hnz⟩]
              · omega
              · omega
            case measure =>
              rw [HC3.out.at_, HAT.out]
              omega


set_option maxRecDepth 100000 in
set_option maxHeartbeats 1000000 in
theorem steps_rootsof (g B p0 p1 p2 : Nat) (I : List Bool → World → Prop) (hB : B ≤ g)
    (hfar : ∀ l w w', I l w → w.grownBy w' (some g) → I l w')
    (a l : Nat) (ha : a ≤ l) (hl : l ≤ 1099511627776) (w : World) (h : Climb w g a l) (hBw : B ≤ w.heap.size) (hI : I [] w)
    (hstep : ∀ (k : Nat) b w', (stepL a l)[k]? = some b → I ((stepL a l).take k) w' → Below B w w' → Calls Tryz.prog 90 #[.bool b, .pointer (some ⟨p0, 0, none⟩), .pointer (some ⟨p1, 0, none⟩), .pointer (some ⟨p2, 0, none⟩)] w' fun e w'' => e = .returned (.tuple #[]) ∧ I ((stepL a l).take k ++ [b]) w'' ∧ Below B w' w'' ∧ w''.heap[g]? = w'.heap[g]?) :
    Calls Tryz.prog 71 #[.pointer (some ⟨g, 0, none⟩), .func (.func 90) #[] #[.pointer (some ⟨p0, 0, none⟩), .pointer (some ⟨p1, 0, none⟩), .pointer (some ⟨p2, 0, none⟩)]] w fun e w' => e = .returned (.tuple #[]) ∧ I (stepL a l) w' ∧ Below B w w' := by
  obtain ⟨L, hL⟩ : ∃ L, L = stepL a l := ⟨_, rfl⟩
  rw [← hL] at hstep ⊢
  have HL := Lib.hid hL
  have HFAR := Lib.hid hfar
  have HSTEP := Lib.hid hstep
  have HI := Lib.hid hI
  have HC := Lib.hid h
  clear hL hfar hstep hI h
  go_enter Tryz.func71, Tryz.ntmps71
  go_wp2
  go_loopw [4] (fun v wr => ∃ k x y : Nat, x ≤ y ∧ y ≤ 1099511627776 ∧ Climb wr g x y ∧ Hid (L.drop k = stepL x y) ∧ I (L.take k) wr ∧ Below B w wr) (fun v wr => climbLast wr g)
  case atStart => exact ⟨0, a, l, ha, hl, HC.out, HL, HI.out, Below.refl _ _⟩
  case round =>
    clear HC HI HL ha hl
    obtain ⟨k, x, y, hxy, hy, hc, hdrop, hi, hbel⟩ := hrel
    have c0 := hc.c0
    have c1 := hc.c1
    have HC := Lib.hid hc
    have HI := Lib.hid hi
    have HBEL := Lib.hid hbel
    have HLAST := Lib.hid hc.last
    clear hc hi hbel
    by_cases hy0 : y = 0
    · have HT := Lib.hid (drop_nil (by rw [hdrop.out, hy0, stepL_zero]) : L.take k = L)
      have HI2 := Lib.hid (by have := HI.out; rw [HT.out] at this; exact this : I L wr)
      have hy1 : ¬ ((0 : Int) < (y : Int)) := by omega
      clear hy0 HI
      go_wp2
      go_end0
      exact ⟨rfl, HI2.out, HBEL.out⟩
    · obtain ⟨b, hb⟩ : ∃ b, b = isLeft x y := ⟨_, rfl⟩
      have hcons := hdrop.out
      rw [stepL_cons hy0, ← hb] at hcons
      obtain ⟨hk, hrest, htake⟩ := drop_cons hcons
      obtain ⟨m, hm⟩ : ∃ m, m = x % 2 := ⟨_, rfl⟩
      have hz0 : (0 : Int) ≤ (x : Int) := Int.natCast_nonneg _
      have q0 : (x : Int).tmod 2 = (m : Int) := by rw [Int.tmod_eq_emod_of_nonneg hz0]; omega
      have hy1 : (0 : Int) < (y : Int) := by omega
      have HK := Lib.hid hk
      have HREST := Lib.hid hrest
      have HTAKE := Lib.hid htake
      have HB := Lib.hid hb
      have HM := Lib.hid hm
      have HCALL := Lib.hid (HSTEP.out k b)
      have hx0 : b = true → x ≠ 0 := by
        intro h0 h1
        rw [hb, h1] at h0
        simp [isLeft] at h0
        omega
      clear hcons hk hrest htake hz0 hb hdrop hm
      rcases Nat.lt_or_ge m 1 with hm0 | hm1
      · have hm00 : m = 0 := by omega
        subst hm00
        clear hm0
        by_cases hxy2 : x = y
        · subst hxy2
          have hbt : b = true := by rw [HB.out]; simp [isLeft]
          have HX1 := Lib.hid (hx0 hbt)
          clear hx0
          subst hbt
          go_upto_region 1 with (go_step3)
          go_quiet (fail)
          have HC1 : Hid (Climb (wr.drewN nq) g x x) := HC.out
          have HI1 : Hid (I (L.take k) (wr.drewN nq)) := Lib.hid (HFAR.out _ _ _ HI.out (only_drewN (only_refl _ _) nq))
          have HBEL1 : Hid (Below B w (wr.drewN nq)) := below_drewN HBEL.out nq
          generalize wr.drewN nq = wx at HC1 HI1 HBEL1 ⊢
          clear c0 c1 HC HI HBEL
          go_wp2_with (first | go_step3 | (go_at_call 90; (with_reducible refine (HCALL.out wx HK.out HI1.out HBEL1.out).mono ?_; rintro e w2 ⟨rfl, hi2, hb2, hg2⟩; have HI2 := Lib.hid hi2; have HC2 := Lib.hid (HC1.out.keep hg2); have HBEL2 := Lib.hid (HBEL1.out.trans hb2); clear hi2 hb2 hg2)))
          go_loopw [] (fun wq => ∃ x2 y2 : Nat, Hid (x2 ≤ y2 ∧ y2 ≤ x ∧ x2 ≠ 0 ∧ skipUp x2 y2 = skipUp x x) ∧ y2 ≤ 1099511627776 ∧ x2 ≤ 1099511627776 ∧ Climb wq g x2 y2 ∧ I (L.take (k + 1)) wq ∧ Below B w wq) (fun wq => climbAt wq g)
          case atStart => exact ⟨x, x, Lib.hid ⟨hxy, Nat.le_refl _, HX1.out, rfl⟩, hy, by omega, HC2.out, by rw [HTAKE.out]; exact HI2.out, HBEL2.out⟩
          case round =>
            rename_i wq
            clear HC1 HI1 HC2 HI2 HBEL1 HBEL2
            obtain ⟨x2, y2, hinv, hy2, hx2, hc, hi, hbel⟩ := hrel
            have c0 := hc.c0
            have HC := Lib.hid hc
            have HI := Lib.hid hi
            have HBEL := Lib.hid hbel
            have HAT := Lib.hid hc.at_
            have HINV := Lib.hid hinv
            clear hc hi hbel hinv
            have hz0 : (0 : Int) ≤ (x2 : Int) := Int.natCast_nonneg _
            by_cases ho : x2 % 2 = 1
            · have q2 : (x2 : Int).tmod 2 = 1 := by rw [Int.tmod_eq_emod_of_nonneg hz0]; omega
              have HSK := Lib.hid (skipUp_odd y2 ho)
              have HREST2 := Lib.hid HREST.out
              clear ho hz0 q0
              go_wp2_with (go_at_call 94; with_reducible refine (half_any g x2 y2 _ HC.out hx2 hy2).mono ?_; rintro e w3 ⟨rfl, hc3, hg3⟩; have HC3 := Lib.hid hc3; have HG3 := Lib.hid hg3; clear hc3 hg3)
              have hsk := HINV.out.out.2.2.2
              rw [HSK.out] at hsk
              rw [Exit.noGoto_normal]
              go_wp2_with fail
              go_roundw
              case rel =>
                refine ⟨k + 1, x2 / 2, y2 / 2, ?_, ?_, HC3.out, ?_, HFAR.out _ _ _ HI.out HG3.out, below_only HBEL.out HG3.out (Nat.le_trans hBw HBEL.out.size) hB⟩
                · have := HINV.out.out.1; omega
                · omega
                · refine Lib.hid ?_
                  rw [HREST.out, skB, if_pos rfl, ← hsk]
              case measure =>
                rw [HC3.out.last, HLAST.out]
                have := HINV.out.out.2.1
                omega
            · have q2 : (x2 : Int).tmod 2 = 0 := by rw [Int.tmod_eq_emod_of_nonneg hz0]; omega
              have hne : ¬ ((x2 : Int) = 0) := by have := HINV.out.out.2.2.1; omega
              have HEV := Lib.hid ho
              clear ho hz0 q0
              go_wp2_with (go_at_call 94; with_reducible refine (half_any g x2 y2 _ HC.out hx2 hy2).mono ?_; rintro e w3 ⟨rfl, hc3, hg3⟩; have HC3 := Lib.hid hc3; have HG3 := Lib.hid hg3; clear hc3 hg3)
              have hev := HEV.out
              have hnz := HINV.out.out.2.2.1
              go_roundw
              case rel =>
                refine ⟨x2 / 2, y2 / 2, Lib.hid ⟨?_, ?_, ?_, ?_⟩, ?_, ?_, HC3.out, HFAR.out _ _ _ HI.out HG3.out, below_only HBEL.out HG3.out (Nat.le_trans hBw HBEL.out.size) hB⟩
                · have := HINV.out.out.1; omega
                · have := HINV.out.out.2.1; omega
                · omega
                · rw [← HINV.out.out.2.2.2, skipUp.eq_1 x2, if_pos ⟨by omega, hnz⟩]
                · omega
                · omega
              case measure =>
                rw [HC3.out.at_, HAT.out]
                omega

        · have hbt : b = false := by have := HM.out; rw [HB.out]; simp [isLeft, hxy2]; omega
          subst hbt
          have hxi : ((x : Int) == (y : Int)) = false := beq_eq_false_iff_ne.2 (by omega)
          clear hxy2 hx0
          go_upto_region 1 with (go_step3)
          go_quiet (fail)
          have HC1 : Hid (Climb (wr.drewN nq) g x y) := HC.out
          have HI1 : Hid (I (L.take k) (wr.drewN nq)) := Lib.hid (HFAR.out _ _ _ HI.out (only_drewN (only_refl _ _) nq))
          have HBEL1 : Hid (Below B w (wr.drewN nq)) := below_drewN HBEL.out nq
          generalize wr.drewN nq = wx at HC1 HI1 HBEL1 ⊢
          clear c0 c1 HC HI HBEL
          go_wp2_with (first | go_step3 | (go_at_call 90; (with_reducible refine (HCALL.out wx HK.out HI1.out HBEL1.out).mono ?_; rintro e w2 ⟨rfl, hi2, hb2, hg2⟩; have HI2 := Lib.hid hi2; have HC2 := Lib.hid (HC1.out.keep hg2); have HBEL2 := Lib.hid (HBEL1.out.trans hb2); clear hi2 hb2 hg2)))
          go_loopw [] (fun wq => Climb wq g x y ∧ I (L.take (k + 1)) wq ∧ Below B w wq) (fun wq => 0)
          case atStart => exact ⟨HC2.out, by rw [HTAKE.out]; exact HI2.out, HBEL2.out⟩
          case round =>
            rename_i wq
            clear HC1 HI1 HC2 HI2 HBEL1 HBEL2
            obtain ⟨hc, hi, hbel⟩ := hrel
            have HC := Lib.hid hc
            have HI := Lib.hid hi
            have HBEL := Lib.hid hbel
            have hx : x ≤ 1099511627776 := by omega
            clear hc hi hbel q0
            go_wp2_with (go_at_call 94; with_reducible refine (half_any g x y _ HC.out hx hy).mono ?_; rintro e w3 ⟨rfl, hc3, hg3⟩; have HC3 := Lib.hid hc3; have HG3 := Lib.hid hg3; clear hc3 hg3)
            rw [Exit.noGoto_normal]
            go_wp2_with fail
            go_roundw
            case rel =>
              refine ⟨k + 1, x / 2, y / 2, by omega, by omega, HC3.out, ?_, HFAR.out _ _ _ HI.out HG3.out, below_only HBEL.out HG3.out (Nat.le_trans hBw HBEL.out.size) hB⟩
              refine Lib.hid ?_
              rw [HREST.out]
              rfl
            case measure =>
              rw [HC3.out.last, HLAST.out]
              omega

      · have hm11 : m = 1 := by have := HM.out; omega
        subst hm11
        clear hm1
        have hbt : b = true := by rw [HB.out]; simp [isLeft, ← HM.out]
        have HX1 := Lib.hid (hx0 hbt)
        clear hx0
        subst hbt
        go_upto_region 1 with (go_step3)
        go_quiet (fail)
        have HC1 : Hid (Climb (wr.drewN nq) g x y) := HC.out
        have HI1 : Hid (I (L.take k) (wr.drewN nq)) := Lib.hid (HFAR.out _ _ _ HI.out (only_drewN (only_refl _ _) nq))
        have HBEL1 : Hid (Below B w (wr.drewN nq)) := below_drewN HBEL.out nq
        generalize wr.drewN nq = wx at HC1 HI1 HBEL1 ⊢
        clear c0 c1 HC HI HBEL
        go_wp2_with (first | go_step3 | (go_at_call 90; (with_reducible refine (HCALL.out wx HK.out HI1.out HBEL1.out).mono ?_; rintro e w2 ⟨rfl, hi2, hb2, hg2⟩; have HI2 := Lib.hid hi2; have HC2 := Lib.hid (HC1.out.keep hg2); have HBEL2 := Lib.hid (HBEL1.out.trans hb2); clear hi2 hb2 hg2)))
        go_loopw [] (fun wq => ∃ x2 y2 : Nat, Hid (x2 ≤ y2 ∧ y2 ≤ y ∧ x2 ≠ 0 ∧ skipUp x2 y2 = skipUp x y) ∧ y2 ≤ 1099511627776 ∧ x2 ≤ 1099511627776 ∧ Climb wq g x2 y2 ∧ I (L.take (k + 1)) wq ∧ Below B w wq) (fun wq => climbAt wq g)
        case atStart => exact ⟨x, y, Lib.hid ⟨hxy, Nat.le_refl _, HX1.out, rfl⟩, hy, by omega, HC2.out, by rw [HTAKE.out]; exact HI2.out, HBEL2.out⟩
        case round =>
          rename_i wq
          clear HC1 HI1 HC2 HI2 HBEL1 HBEL2
          obtain ⟨x2, y2, hinv, hy2, hx2, hc, hi, hbel⟩ := hrel
          have c0 := hc.c0
          have HC := Lib.hid hc
          have HI := Lib.hid hi
          have HBEL := Lib.hid hbel
          have HAT := Lib.hid hc.at_
          have HINV := Lib.hid hinv
          clear hc hi hbel hinv
          have hz0 : (0 : Int) ≤ (x2 : Int) := Int.natCast_nonneg _
          by_cases ho : x2 % 2 = 1
          · have q2 : (x2 : Int).tmod 2 = 1 := by rw [Int.tmod_eq_emod_of_nonneg hz0]; omega
            have HSK := Lib.hid (skipUp_odd y2 ho)
            have HREST2 := Lib.hid HREST.out
            clear ho hz0 q0
            go_wp2_with (go_at_call 94; with_reducible refine (half_any g x2 y2 _ HC.out hx2 hy2).mono ?_; rintro e w3 ⟨rfl, hc3, hg3⟩; have HC3 := Lib.hid hc3; have HG3 := Lib.hid hg3; clear hc3 hg3)
            have hsk := HINV.out.out.2.2.2
            rw [HSK.out] at hsk
            rw [Exit.noGoto_normal]
            go_wp2_with fail
            go_roundw
            case rel =>
              refine ⟨k + 1, x2 / 2, y2 / 2, ?_, ?_, HC3.out, ?_, HFAR.out _ _ _ HI.out HG3.out, below_only HBEL.out HG3.out (Nat.le_trans hBw HBEL.out.size) hB⟩
              · have := HINV.out.out.1; omega
              · omega
              · refine Lib.hid ?_
                rw [HREST.out, skB, if_pos rfl, ← hsk]
            case measure =>
              rw [HC3.out.last, HLAST.out]
              have := HINV.out.out.2.1
              omega
          · have q2 : (x2 : Int).tmod 2 = 0 := by rw [Int.tmod_eq_emod_of_nonneg hz0]; omega
            have hne : ¬ ((x2 : Int) = 0) := by have := HINV.out.out.2.2.1; omega
            have HEV := Lib.hid ho
            clear ho hz0 q0
            go_wp2_with (go_at_call 94; with_reducible refine (half_any g x2 y2 _ HC.out hx2 hy2).mono ?_; rintro e w3 ⟨rfl, hc3, hg3⟩; have HC3 := Lib.hid hc3; have HG3 := Lib.hid hg3; clear hc3 hg3)
            have hev := HEV.out
            have hnz := HINV.out.out.2.2.1
            go_roundw
            case rel =>
              refine ⟨x2 / 2, y2 / 2, Lib.hid ⟨?_, ?_, ?_, ?_⟩, ?_, ?_, HC3.out, HFAR.out _ _ _ HI.out HG3.out, below_only HBEL.out HG3.out (Nat.le_trans hBw HBEL.out.size) hB⟩
              · have := HINV.out.out.1; omega
              · have := HINV.out.out.2.1; omega
              · omega
              · rw [← HINV.out.out.2.2.2, skipUp.eq_1 x2, if_pos ⟨by omega, hnz⟩]
              · omega
              · omega
            case measure =>
              rw [HC3.out.at_, HAT.out]
              omega

end Go.Proofs.YtdbghgpohdijfaaGreatDoor
