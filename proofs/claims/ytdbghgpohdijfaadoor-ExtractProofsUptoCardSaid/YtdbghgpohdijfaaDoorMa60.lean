/- extract.Consistency where the leaves, or the proof, are refused: walked. -/
import Derived.Test.YtdbghgpohdijfaaDoorMa52
import Derived.Test.YtdbghgpohdijfaaDoorMa54
import Derived.Test.YtdbghgpohdijfaaDoorMa59
namespace Go.Proofs.YtdbghgpohdijfaaDoor
open Go.RowKit Go.Scr
set_option linter.unusedVariables false
set_option maxRecDepth 100000 in
set_option maxHeartbeats 4000000 in
theorem cons_arg {w : World} {f : Int} {old : ByteArray} {vl vp : Value} {L P : List ByteArray} (ht : Tabs w) (hvl : Txts w vl L) (hno : refusedE L ≠ 0) :
    Calls Tryd.prog 15 #[vl, .int .i64 f, .string old, vp] w (NoneP 1 w) := by
  obtain ⟨w1, hw1⟩ : ∃ x, x = w.alloc (.cells #[.string ⟨#[]⟩, .string ⟨#[]⟩] 27) := ⟨_, rfl⟩
  obtain ⟨x0, x1⟩ := one_blockE w #[.string ⟨#[]⟩, .string ⟨#[]⟩] 27
  rw [← hw1] at x0 x1
  obtain ⟨bp, hbp⟩ : ∃ x, x = w.heap.size := ⟨_, rfl⟩
  rw [← hbp] at x0
  obtain ⟨n, hn⟩ : ∃ n, n = L.length := ⟨_, rfl⟩
  have k0 : w1.cell? ⟨bp, 0, none⟩ = some (.string ⟨#[]⟩) := cellB x0 rfl
  have k1 : w1.cell? ⟨bp, 1, none⟩ = some (.string ⟨#[]⟩) := cellB x0 rfl
  have f0 : w1.frozen? ⟨bp, 0, none⟩ = false := frozB x0
  have f1 : w1.frozen? ⟨bp, 1, none⟩ = false := frozB x0
  have HXX := Lib.hid x0
  have HF : Hid (Below w.heap.size w w1 ∧ w.heap.size ≤ bp) := Lib.hid ⟨x1, by omega⟩
  have HW1 := Lib.hid hw1
  have HBP := Lib.hid hbp
  have CH : Hid (ok32 L = false → Calls Tryd.prog 62 #[vl] w1 fun o z => o = .returned (.bool false) ∧ z = w1) := Lib.hid (fun hok => by
    have := ehashes_any vl L w1 (hvl.below x1 (Nat.le_refl _))
    rwa [hok] at this)
  obtain ⟨pl, cl, rfl⟩ : ∃ p c, vl = .slice p n c := by obtain ⟨p, c, h, _⟩ := hvl; exact ⟨p, c, by rw [h, hn]⟩
  unfold refusedE at hno
  rw [← hn] at hno
  by_cases h4 : 4096 < n
  · have e2 : (4096 : Int) < (n : Int) := by omega
    clear ht hvl hno hw1 x0 x1 hbp hn CH h4
    go_enter Tryd.func15, Tryd.ntmps15
    go_upto_region 1 with fail
    rw [← HW1.out, ← HBP.out]
    go_wp2_with fail
    have hx6 := blk_set2 (x := .string ⟨#[]⟩) (y := .string ⟨#[]⟩) HXX.out
    have m0 := cellB (k := 0) hx6 rfl
    have m1 := cellB (k := 1) hx6 rfl
    refine bodyPost_ret (v := .tuple #[.agg #[.string ⟨#[]⟩, .string ⟨#[]⟩], .int .i64 1]) (by simp [results, Tryd.results15, go_sem, m0, m1]) rfl ?_
    exact none_end HF.out.1 (Below.refl _ _) HF.out.2 rfl
  · have e2 : ¬ (4096 : Int) < (n : Int) := by omega
    rw [if_neg h4] at hno
    have hok : ok32 L = false := by
      cases h : ok32 L with
      | false => rfl
      | true => rw [h] at hno; exact absurd rfl hno
    have CH2 := Lib.hid (CH.out hok)
    clear ht hvl hno hw1 x0 x1 hbp hn CH h4 hok
    go_enter Tryd.func15, Tryd.ntmps15
    go_upto_region 1 with fail
    rw [← HW1.out, ← HBP.out]
    go_wp2_with (go_at_call 62; (with_reducible refine CH2.out.mono ?_); rintro o z ⟨rfl, hx⟩; rw [hx]; clear hx z)
    have hx6 := blk_set2 (x := .string ⟨#[]⟩) (y := .string ⟨#[]⟩) HXX.out
    have m0 := cellB (k := 0) hx6 rfl
    have m1 := cellB (k := 1) hx6 rfl
    refine bodyPost_ret (v := .tuple #[.agg #[.string ⟨#[]⟩, .string ⟨#[]⟩], .int .i64 1]) (by simp [results, Tryd.results15, go_sem, m0, m1]) rfl ?_
    exact none_end HF.out.1 (Below.refl _ _) HF.out.2 rfl
set_option maxRecDepth 100000 in
set_option maxHeartbeats 4000000 in
theorem cons_proof {w : World} {f : Int} {old : ByteArray} {vl vp : Value} {L P : List ByteArray} (ht : Tabs w) (hvl : Txts w vl L) (hvp : Txts w vp P) (hl4 : L.length ≤ 4096) (h32 : ∀ s ∈ L, s.size = 32) (hlp : P.length ≤ 1048576)
    (h : consS f L.length old (rootR L) P ≠ 0) :
    Calls Tryd.prog 15 #[vl, .int .i64 f, .string old, vp] w (NoneP 61 w) := by
  obtain ⟨w1, hw1⟩ : ∃ x, x = w.alloc (.cells #[.string ⟨#[]⟩, .string ⟨#[]⟩] 27) := ⟨_, rfl⟩
  obtain ⟨x0, x1⟩ := one_blockE w #[.string ⟨#[]⟩, .string ⟨#[]⟩] 27
  rw [← hw1] at x0 x1
  obtain ⟨bp, hbp⟩ : ∃ x, x = w.heap.size := ⟨_, rfl⟩
  rw [← hbp] at x0
  obtain ⟨n, hn⟩ : ∃ n, n = L.length := ⟨_, rfl⟩
  have hok : ok32 L = true := all32_ofE h32
  have CH : Hid (∀ w', Below w1.heap.size w1 w' → Calls Tryd.prog 62 #[vl] w' fun o z => o = .returned (.bool true) ∧ z = w') := Lib.hid (fun w' hb => by
    have := ehashes_any vl L w' ((hvl.below x1 (Nat.le_refl _)).below hb (Nat.le_refl _))
    rwa [hok] at this)
  obtain ⟨r, hr⟩ : ∃ r, r = rootR L := ⟨_, rfl⟩
  obtain ⟨e, he⟩ : ∃ r, r = consS f L.length old (rootR L) P := ⟨_, rfl⟩
  have CR : Hid (∀ w', Below w1.heap.size w1 w' → Calls Tryd.prog 63 #[vl] w' fun o z => o = .returned (.string r) ∧ Below w'.heap.size w' z) := Lib.hid (fun w' hb => by
    have := eroot_any _ _ w' ((ht.below x1).below hb) ((hvl.below x1 (Nat.le_refl _)).below hb (Nat.le_refl _))
    rwa [rootT_R h32 hl4, ← hr] at this)
  have CC : Hid (∀ w', Below w1.heap.size w1 w' → Calls Tryd.prog 17 #[.int .i64 f, .int .i64 (n : Int), .string old, .string r, vp] w' fun o z => o = .returned (.int .i64 e) ∧ Below w'.heap.size w' z) := Lib.hid (fun w' hb => by
    have := consistency_any f (L.length : Int) old (rootR L) vp P w' ((ht.below x1).below hb) ((hvp.below x1 (Nat.le_refl _)).below hb (Nat.le_refl _)) hlp
    rwa [← he, ← hn, ← hr] at this)
  obtain ⟨pl, cl, rfl⟩ : ∃ p c, vl = .slice p n c := by obtain ⟨p, c, h, _⟩ := hvl; exact ⟨p, c, by rw [h, hn]⟩
  have HX : Hid (∀ w', Below w1.heap.size w1 w' → w'.heap[bp]? = some (.cells #[.string ⟨#[]⟩, .string ⟨#[]⟩] 27 (0, 0))) := Lib.hid (fun w' hb => blk_below x0 hb (blk_lt x0))
  have HF : Hid (Below w.heap.size w w1 ∧ w.heap.size ≤ bp) := Lib.hid ⟨x1, by omega⟩
  have HW1 := Lib.hid hw1
  have HBP := Lib.hid hbp
  obtain ⟨pp, cp, rfl, _⟩ := hvp
  obtain ⟨np, hnp⟩ : ∃ x, x = P.length := ⟨_, rfl⟩
  rw [← hnp] at CC ⊢
  rw [← he] at h
  have e2 : ¬ (4096 : Int) < (n : Int) := by omega
  have t1 : (e == 0) = false := beq_eq_false_iff_ne.2 h
  have t2 : (e != 0) = true := bne_iff_ne.2 h
  clear ht hl4 h32 hlp hw1 x0 x1 hbp h hn hnp hok hr he hvl
  go_enter Tryd.func15, Tryd.ntmps15
  go_upto_region 1 with fail
  rw [← HW1.out, ← HBP.out]
  go_wp2_with (first
    | (go_at_call 62; (with_reducible refine (CH.out _ (Below.refl _ _)).mono ?_); rintro o z ⟨rfl, hx⟩; rw [hx]; clear hx z)
    | (go_at_call 63; (with_reducible refine (CR.out _ (Below.refl _ _)).mono ?_); rintro o x1 ⟨rfl, h⟩; have HB1 : Hid (Below w1.heap.size w1 x1) := Lib.hid h; clear h CR)
    | (go_at_call 17; (with_reducible refine (CC.out _ HB1.out).mono ?_); rintro o x2 ⟨rfl, h⟩; have HB2 : Hid (Below w1.heap.size w1 x2) := Lib.hid (HB1.out.trans (h.mono HB1.out.size)); have hx := HX.out _ HB2.out; have HXX := Lib.hid hx; have k0 : x2.cell? ⟨bp, 0, none⟩ = some (.string ⟨#[]⟩) := cellB hx rfl; have k1 : x2.cell? ⟨bp, 1, none⟩ = some (.string ⟨#[]⟩) := cellB hx rfl; have f0 : x2.frozen? ⟨bp, 0, none⟩ = false := frozB hx; have f1 : x2.frozen? ⟨bp, 1, none⟩ = false := frozB hx; clear h hx))
  have hx6 := blk_set2 (x := .string ⟨#[]⟩) (y := .string ⟨#[]⟩) HXX.out
  have m0 := cellB (k := 0) hx6 rfl
  have m1 := cellB (k := 1) hx6 rfl
  refine bodyPost_ret (v := .tuple #[.agg #[.string ⟨#[]⟩, .string ⟨#[]⟩], .int .i64 61]) (by simp [results, Tryd.results15, go_sem, m0, m1]) rfl ?_
  exact none_end HF.out.1 HB2.out HF.out.2 rfl
end Go.Proofs.YtdbghgpohdijfaaDoor
/- Law 6: ExtractProofs, walked (printed by gen_ez3.py). -/
namespace Go.Proofs.YtdbghgpohdijfaaDoor
open Go.RowKit Go.Scr
set_option linter.unusedVariables false
theorem refused_ok {L : List ByteArray} (h : refusedE L = 0) : L.length ≤ 4096 ∧ ∀ s ∈ L, s.size = 32 := by
  unfold refusedE at h
  by_cases a1 : 4096 < L.length
  · rw [if_pos a1] at h; exact absurd h (by decide)
  · rw [if_neg a1] at h
    by_cases a2 : ok32 L = false
    · rw [if_pos a2] at h; exact absurd h (by decide)
    · have a3 : ok32 L = true := by simpa using a2
      exact ⟨by omega, fun s hs => by unfold ok32 at a3; rw [List.all_eq_true] at a3; simpa using a3 s hs⟩
theorem refused_zero {L : List ByteArray} (h1 : L.length ≤ 4096) (h2 : ∀ s ∈ L, s.size = 32) : refusedE L = 0 := by
  unfold refusedE
  rw [if_neg (by omega), if_neg (by rw [show ok32 L = true from all32_ofE h2]; decide)]
set_option maxRecDepth 100000 in
set_option maxHeartbeats 8000000 in
theorem eq_arg {W : World} {f : Int} {old : ByteArray} {v0 v3 : Value} {L P : List ByteArray} (ht : Tabs W) (hL : Txts W v0 L) (hP : Txts W v3 P) (hp : P.length ≤ 1048576) (h : refusedE L ≠ 0) :
    Calls Tryd.prog 4 #[v0, .int .i64 f, .string old, v3] W fun o w' => o = .returned (.bool true) ∧ Below W.heap.size W w' := by
  have CA := Lib.hid (awake_any ht)
  have CLv : Hid (∀ w, Below W.heap.size W w → Calls Tryd.prog 15 #[v0, .int .i64 f, .string old, v3] w (AnsP 1 w)) := Lib.hid (fun w hb => by
    exact (cons_arg (P := P) (ht.below hb) (hL.below hb (Nat.le_refl _)) h).mono fun e w' h => ans_none (by decide) h)
  obtain ⟨n, hn⟩ : ∃ n, n = L.length := ⟨_, rfl⟩
  obtain ⟨np, hnp⟩ : ∃ n, n = P.length := ⟨_, rfl⟩
  obtain ⟨rA, hrA⟩ : ∃ r, r = rootT L := ⟨_, rfl⟩
  obtain ⟨eA, heA⟩ : ∃ r, r = refusedE L := ⟨_, rfl⟩
  obtain ⟨ec, hec⟩ : ∃ r, r = consS f L.length old rA P := ⟨_, rfl⟩
  have CR1 : Hid (∀ w', Below W.heap.size W w' → Calls Tryd.prog 16 #[v0] w' fun o z => o = .returned (.tuple #[.string rA, .int .i64 eA]) ∧ Below w'.heap.size w' z) := Lib.hid (fun w' hb => by rw [hrA, heA]; exact Root_any v0 L w' (ht.below hb) (hL.below hb (Nat.le_refl _)))
  have CC : Hid (∀ w', Below W.heap.size W w' → Calls Tryd.prog 17 #[.int .i64 f, .int .i64 (n : Int), .string old, .string rA, v3] w' fun o z => o = .returned (.int .i64 ec) ∧ Below w'.heap.size w' z) := Lib.hid (fun w' hb => by
    have := consistency_any f (L.length : Int) old rA v3 P w' (ht.below hb) (hP.below hb (Nat.le_refl _)) hp
    rwa [← hec, ← hn] at this)
  have CU : Hid (∀ w' x y, Below W.heap.size W w' → UnP x y → Calls Tryd.prog 14 #[.agg #[.string x, .string y]] w' fun o z => o = .returned (.bool true) ∧ Below w'.heap.size w' z) := Lib.hid (fun w' x y hb h => unlike_yes (ht.below hb) h.1 h.2)
  obtain ⟨pa, ca, rfl⟩ : ∃ p c, v0 = .slice p n c := by obtain ⟨p, c, h, _⟩ := hL; exact ⟨p, c, by rw [h, hn]⟩
  obtain ⟨pb, cb, rfl⟩ : ∃ p c, v3 = .slice p np c := by obtain ⟨p, c, h, _⟩ := hP; exact ⟨p, c, by rw [h, hnp]⟩
  have t1 : (eA == 0) = false := by rw [heA]; exact beq_eq_false_iff_ne.2 h
  have t2 : (eA != 0) = true := by rw [heA]; exact bne_iff_ne.2 h
  clear h
  clear ht hL hP hp hn hnp hrA heA hec
  go_enter Tryd.func4, Tryd.ntmps4
  go_upto_region 3 with (first
    | (go_at_call 10; (with_reducible refine CA.out.mono ?_); rintro o w0 ⟨rfl, h⟩; have HX := Lib.hid h; clear h)
    | (go_at_call 15; (with_reducible refine (CLv.out _ HX.out).mono ?_); rintro o w3 ⟨x, y, rfl, hun, h⟩; have HUN := Lib.hid hun; replace HX := Lib.hid (HX.out.trans (h.mono HX.out.size)); clear h hun))
  obtain ⟨w4, hw4⟩ : ∃ z, z = w3.alloc (.cells #[.string x, .string y] 27) := ⟨_, rfl⟩
  obtain ⟨b1, hb1⟩ : ∃ z, z = w3.heap.size := ⟨_, rfl⟩
  have hx4 : w4.heap[b1]? = some (.cells #[.string x, .string y] 27 (0, 0)) := by rw [hw4, hb1]; exact heap_alloc_new w3 _
  have HB4 : Hid (∀ w', Below w4.heap.size w4 w' → w'.cell? ⟨b1, 0, none⟩ = some (.string x) ∧ w'.cell? ⟨b1, 1, none⟩ = some (.string y)) := Lib.hid (fun w' hb => by
    have := blk_below hx4 hb (blk_lt hx4)
    exact ⟨cellB this rfl, cellB this rfl⟩)
  have HX4 : Hid (Below W.heap.size W w4) := Lib.hid (by rw [hw4]; exact HX.out.alloc HX.out.size _)
  have HY : Hid (Below w4.heap.size w4 w4) := Lib.hid (Below.refl _ _)
  rw [← hw4, ← hb1]
  clear hw4 hb1 hx4 HX CA CLv
  go_wp2_with (go_at_call 16; (with_reducible refine (CR1.out _ (HX4.out.trans (HY.out.mono HX4.out.size))).mono ?_); rintro o w5 ⟨rfl, h⟩; replace HY := Lib.hid (HY.out.trans (h.mono HY.out.size)); clear h CR1)
  go_ret
  exact ⟨rfl, HX4.out.trans (HY.out.mono HX4.out.size)⟩
set_option maxRecDepth 100000 in
set_option maxHeartbeats 8000000 in
theorem eq_no {W : World} {f : Int} {old : ByteArray} {v0 v3 : Value} {L P : List ByteArray} (ht : Tabs W) (hL : Txts W v0 L) (hP : Txts W v3 P) (hp : P.length ≤ 1048576) (h : refusedE L = 0 ∧ consS f L.length old (rootR L) P ≠ 0) :
    Calls Tryd.prog 4 #[v0, .int .i64 f, .string old, v3] W fun o w' => o = .returned (.bool true) ∧ Below W.heap.size W w' := by
  have CA := Lib.hid (awake_any ht)
  have CLv : Hid (∀ w, Below W.heap.size W w → Calls Tryd.prog 15 #[v0, .int .i64 f, .string old, v3] w (AnsP 61 w)) := Lib.hid (fun w hb => by
    exact (cons_proof (ht.below hb) (hL.below hb (Nat.le_refl _)) (hP.below hb (Nat.le_refl _)) (refused_ok h.1).1 (refused_ok h.1).2 hp h.2).mono fun e w' h => ans_none (by decide) h)
  obtain ⟨n, hn⟩ : ∃ n, n = L.length := ⟨_, rfl⟩
  obtain ⟨np, hnp⟩ : ∃ n, n = P.length := ⟨_, rfl⟩
  obtain ⟨rA, hrA⟩ : ∃ r, r = rootT L := ⟨_, rfl⟩
  obtain ⟨eA, heA⟩ : ∃ r, r = refusedE L := ⟨_, rfl⟩
  obtain ⟨ec, hec⟩ : ∃ r, r = consS f L.length old rA P := ⟨_, rfl⟩
  have CR1 : Hid (∀ w', Below W.heap.size W w' → Calls Tryd.prog 16 #[v0] w' fun o z => o = .returned (.tuple #[.string rA, .int .i64 eA]) ∧ Below w'.heap.size w' z) := Lib.hid (fun w' hb => by rw [hrA, heA]; exact Root_any v0 L w' (ht.below hb) (hL.below hb (Nat.le_refl _)))
  have CC : Hid (∀ w', Below W.heap.size W w' → Calls Tryd.prog 17 #[.int .i64 f, .int .i64 (n : Int), .string old, .string rA, v3] w' fun o z => o = .returned (.int .i64 ec) ∧ Below w'.heap.size w' z) := Lib.hid (fun w' hb => by
    have := consistency_any f (L.length : Int) old rA v3 P w' (ht.below hb) (hP.below hb (Nat.le_refl _)) hp
    rwa [← hec, ← hn] at this)
  have CU : Hid (∀ w' x y, Below W.heap.size W w' → UnP x y → Calls Tryd.prog 14 #[.agg #[.string x, .string y]] w' fun o z => o = .returned (.bool true) ∧ Below w'.heap.size w' z) := Lib.hid (fun w' x y hb h => unlike_yes (ht.below hb) h.1 h.2)
  obtain ⟨pa, ca, rfl⟩ : ∃ p c, v0 = .slice p n c := by obtain ⟨p, c, h, _⟩ := hL; exact ⟨p, c, by rw [h, hn]⟩
  obtain ⟨pb, cb, rfl⟩ : ∃ p c, v3 = .slice p np c := by obtain ⟨p, c, h, _⟩ := hP; exact ⟨p, c, by rw [h, hnp]⟩
  have hz : eA = 0 := heA.trans h.1
  obtain ⟨r4, r32⟩ := refused_ok h.1
  have hrr : rA = rootR L := by rw [hrA]; exact rootT_R r32 r4
  have t1 : (ec == 0) = false := by rw [hec, hrr]; exact beq_eq_false_iff_ne.2 h.2
  have t2 : (ec != 0) = true := by rw [hec, hrr]; exact bne_iff_ne.2 h.2
  have HZ : Hid (eA = 0) := Lib.hid hz
  clear h hz hrr r4 r32
  clear ht hL hP hp hn hnp hrA heA hec
  go_enter Tryd.func4, Tryd.ntmps4
  go_upto_region 3 with (first
    | (go_at_call 10; (with_reducible refine CA.out.mono ?_); rintro o w0 ⟨rfl, h⟩; have HX := Lib.hid h; clear h)
    | (go_at_call 15; (with_reducible refine (CLv.out _ HX.out).mono ?_); rintro o w3 ⟨x, y, rfl, hun, h⟩; have HUN := Lib.hid hun; replace HX := Lib.hid (HX.out.trans (h.mono HX.out.size)); clear h hun))
  obtain ⟨w4, hw4⟩ : ∃ z, z = w3.alloc (.cells #[.string x, .string y] 27) := ⟨_, rfl⟩
  obtain ⟨b1, hb1⟩ : ∃ z, z = w3.heap.size := ⟨_, rfl⟩
  have hx4 : w4.heap[b1]? = some (.cells #[.string x, .string y] 27 (0, 0)) := by rw [hw4, hb1]; exact heap_alloc_new w3 _
  have HB4 : Hid (∀ w', Below w4.heap.size w4 w' → w'.cell? ⟨b1, 0, none⟩ = some (.string x) ∧ w'.cell? ⟨b1, 1, none⟩ = some (.string y)) := Lib.hid (fun w' hb => by
    have := blk_below hx4 hb (blk_lt hx4)
    exact ⟨cellB this rfl, cellB this rfl⟩)
  have HX4 : Hid (Below W.heap.size W w4) := Lib.hid (by rw [hw4]; exact HX.out.alloc HX.out.size _)
  have HY : Hid (Below w4.heap.size w4 w4) := Lib.hid (Below.refl _ _)
  rw [← hw4, ← hb1]
  clear hw4 hb1 hx4 HX CA CLv
  obtain rfl := HZ.out
  go_wp2_with (first
    | (go_at_call 16; (with_reducible refine (CR1.out _ (HX4.out.trans (HY.out.mono HX4.out.size))).mono ?_); rintro o w5 ⟨rfl, h⟩; replace HY := Lib.hid (HY.out.trans (h.mono HY.out.size)); clear h CR1)
    | (go_at_call 17; (with_reducible refine (CC.out _ (HX4.out.trans (HY.out.mono HX4.out.size))).mono ?_); rintro o w6 ⟨rfl, h⟩; replace HY := Lib.hid (HY.out.trans (h.mono HY.out.size)); clear h CC))
  go_ret
  exact ⟨rfl, HX4.out.trans (HY.out.mono HX4.out.size)⟩
set_option maxRecDepth 100000 in
set_option maxHeartbeats 8000000 in
theorem eq_none {W : World} {m : Nat} {old : ByteArray} {v0 v3 : Value} {L P : List ByteArray} (ht : Tabs W) (hL : Txts W v0 L) (hP : Txts W v3 P) (hp : P.length ≤ 1048576) (h : refusedE L = 0 ∧ consS (m : Int) L.length old (rootR L) P = 0 ∧ old = rootR (L.take m)) :
    Calls Tryd.prog 4 #[v0, .int .i64 (m : Int), .string old, v3] W fun o w' => o = .returned (.bool true) ∧ Below W.heap.size W w' := by
  have CA := Lib.hid (awake_any ht)
  have CLv : Hid (∀ w, Below W.heap.size W w → Calls Tryd.prog 15 #[v0, .int .i64 (m : Int), .string old, v3] w (AnsP 60 w)) := Lib.hid (fun w hb => by
    have h9 := consS_ok h.2.1
    obtain ⟨m', hme, hm1, hmn, _⟩ := h9
    obtain rfl : m = m' := by exact_mod_cast hme
    exact (cons_none (ht.below hb) (hL.below hb (Nat.le_refl _)) (hP.below hb (Nat.le_refl _)) (refused_ok h.1).1 (refused_ok h.1).2 hp hmn h.2.1 h.2.2).mono fun e w' h => ans_none (by decide) h)
  obtain ⟨n, hn⟩ : ∃ n, n = L.length := ⟨_, rfl⟩
  obtain ⟨np, hnp⟩ : ∃ n, n = P.length := ⟨_, rfl⟩
  obtain ⟨rA, hrA⟩ : ∃ r, r = rootT L := ⟨_, rfl⟩
  obtain ⟨eA, heA⟩ : ∃ r, r = refusedE L := ⟨_, rfl⟩
  obtain ⟨ec, hec⟩ : ∃ r, r = consS (m : Int) L.length old rA P := ⟨_, rfl⟩
  have CR1 : Hid (∀ w', Below W.heap.size W w' → Calls Tryd.prog 16 #[v0] w' fun o z => o = .returned (.tuple #[.string rA, .int .i64 eA]) ∧ Below w'.heap.size w' z) := Lib.hid (fun w' hb => by rw [hrA, heA]; exact Root_any v0 L w' (ht.below hb) (hL.below hb (Nat.le_refl _)))
  have CC : Hid (∀ w', Below W.heap.size W w' → Calls Tryd.prog 17 #[.int .i64 (m : Int), .int .i64 (n : Int), .string old, .string rA, v3] w' fun o z => o = .returned (.int .i64 ec) ∧ Below w'.heap.size w' z) := Lib.hid (fun w' hb => by
    have := consistency_any (m : Int) (L.length : Int) old rA v3 P w' (ht.below hb) (hP.below hb (Nat.le_refl _)) hp
    rwa [← hec, ← hn] at this)
  have CU : Hid (∀ w' x y, Below W.heap.size W w' → UnP x y → Calls Tryd.prog 14 #[.agg #[.string x, .string y]] w' fun o z => o = .returned (.bool true) ∧ Below w'.heap.size w' z) := Lib.hid (fun w' x y hb h => unlike_yes (ht.below hb) h.1 h.2)
  obtain ⟨pa, ca, rfl⟩ : ∃ p c, v0 = .slice p n c := by obtain ⟨p, c, h, _⟩ := hL; exact ⟨p, c, by rw [h, hn]⟩
  obtain ⟨pb, cb, rfl⟩ : ∃ p c, v3 = .slice p np c := by obtain ⟨p, c, h, _⟩ := hP; exact ⟨p, c, by rw [h, hnp]⟩
  have hz : eA = 0 := heA.trans h.1
  obtain ⟨r4, r32⟩ := refused_ok h.1
  have hrr : rA = rootR L := by rw [hrA]; exact rootT_R r32 r4
  have hcz : ec = 0 := by rw [hec, hrr]; exact h.2.1
  have HZ : Hid (eA = 0 ∧ ec = 0) := Lib.hid ⟨hz, hcz⟩
  obtain ⟨m', hme, _, hmn, _⟩ := consS_ok h.2.1
  obtain rfl : m = m' := by exact_mod_cast hme
  have hz2 : refusedE (L.take m) = 0 := refused_zero (by rw [List.length_take]; omega) (fun s hs => r32 s (List.mem_of_mem_take hs))
  obtain ⟨rB, hrB⟩ : ∃ r, r = rootR (L.take m) := ⟨_, rfl⟩
  have CR2 : Hid (∀ w', Below W.heap.size W w' → Calls Tryd.prog 16 #[.slice pa m ca] w' fun o z => o = .returned (.tuple #[.string rB, .int .i64 0]) ∧ Below w'.heap.size w' z) := Lib.hid (fun w' hb => by
    have := Root_any _ _ w' (ht.below hb) ((hL.below hb (Nat.le_refl _)).cutC (k := m) (by omega))
    rwa [hz2, rootT_R (fun s hs => r32 s (List.mem_of_mem_take hs)) (by rw [List.length_take]; omega), ← hrB] at this)
  have hncl : n ≤ ca := by
    obtain ⟨p, c, h, h2, _⟩ := hL
    injection h with e1 e2 e3
    omega
  have e3 : (0 : Int) ≤ (m : Int) := by omega
  have e4 : (m : Int) ≤ (ca : Int) := by omega
  have t1 : (rB.toList == old.toList) = true := by rw [hrB, h.2.2]; simp
  clear h hz hcz hrr r4 r32 hz2 hrB hncl hme hmn
  clear ht hL hP hp hn hnp hrA heA hec
  go_enter Tryd.func4, Tryd.ntmps4
  go_upto_region 3 with (first
    | (go_at_call 10; (with_reducible refine CA.out.mono ?_); rintro o w0 ⟨rfl, h⟩; have HX := Lib.hid h; clear h)
    | (go_at_call 15; (with_reducible refine (CLv.out _ HX.out).mono ?_); rintro o w3 ⟨x, y, rfl, hun, h⟩; have HUN := Lib.hid hun; replace HX := Lib.hid (HX.out.trans (h.mono HX.out.size)); clear h hun))
  obtain ⟨w4, hw4⟩ : ∃ z, z = w3.alloc (.cells #[.string x, .string y] 27) := ⟨_, rfl⟩
  obtain ⟨b1, hb1⟩ : ∃ z, z = w3.heap.size := ⟨_, rfl⟩
  have hx4 : w4.heap[b1]? = some (.cells #[.string x, .string y] 27 (0, 0)) := by rw [hw4, hb1]; exact heap_alloc_new w3 _
  have HB4 : Hid (∀ w', Below w4.heap.size w4 w' → w'.cell? ⟨b1, 0, none⟩ = some (.string x) ∧ w'.cell? ⟨b1, 1, none⟩ = some (.string y)) := Lib.hid (fun w' hb => by
    have := blk_below hx4 hb (blk_lt hx4)
    exact ⟨cellB this rfl, cellB this rfl⟩)
  have HX4 : Hid (Below W.heap.size W w4) := Lib.hid (by rw [hw4]; exact HX.out.alloc HX.out.size _)
  have HY : Hid (Below w4.heap.size w4 w4) := Lib.hid (Below.refl _ _)
  rw [← hw4, ← hb1]
  clear hw4 hb1 hx4 HX CA CLv
  obtain ⟨rfl, rfl⟩ := HZ.out
  go_wp2_with (first
    | (go_at_call 16; (with_reducible refine (CR1.out _ (HX4.out.trans (HY.out.mono HX4.out.size))).mono ?_); rintro o w5 ⟨rfl, h⟩; replace HY := Lib.hid (HY.out.trans (h.mono HY.out.size)); clear h CR1)
    | (go_at_call 17; (with_reducible refine (CC.out _ (HX4.out.trans (HY.out.mono HX4.out.size))).mono ?_); rintro o w6 ⟨rfl, h⟩; replace HY := Lib.hid (HY.out.trans (h.mono HY.out.size)); clear h CC)
    | (go_at_call 16; (with_reducible refine (CR2.out _ (HX4.out.trans (HY.out.mono HX4.out.size))).mono ?_); rintro o w7 ⟨rfl, h⟩; replace HY := Lib.hid (HY.out.trans (h.mono HY.out.size)); clear h CR2))
  go_ret
  exact ⟨rfl, HX4.out.trans (HY.out.mono HX4.out.size)⟩
set_option maxRecDepth 100000 in
set_option maxHeartbeats 8000000 in
theorem eq_pair {W : World} {m : Nat} {old : ByteArray} {v0 v3 : Value} {L P : List ByteArray} (ht : Tabs W) (hL : Txts W v0 L) (hP : Txts W v3 P) (hp : P.length ≤ 1048576) (h : refusedE L = 0 ∧ consS (m : Int) L.length old (rootR L) P = 0 ∧ old ≠ rootR (L.take m)) :
    Calls Tryd.prog 4 #[v0, .int .i64 (m : Int), .string old, v3] W fun o w' => o = .returned (.bool true) ∧ Below W.heap.size W w' := by
  have CA := Lib.hid (awake_any ht)
  have CLv : Hid (∀ w, Below W.heap.size W w → Calls Tryd.prog 15 #[v0, .int .i64 (m : Int), .string old, v3] w (AnsP 0 w)) := Lib.hid (fun w hb => by
    have h9 := consS_ok h.2.1
    obtain ⟨m', hme, hm1, hmn, _⟩ := h9
    obtain rfl : m = m' := by exact_mod_cast hme
    exact (cons_pair (ht.below hb) (hL.below hb (Nat.le_refl _)) (hP.below hb (Nat.le_refl _)) (refused_ok h.1).1 (refused_ok h.1).2 hp hm1 hmn h.2.1 h.2.2).mono fun e w' h => ans_pair h)
  obtain ⟨n, hn⟩ : ∃ n, n = L.length := ⟨_, rfl⟩
  obtain ⟨np, hnp⟩ : ∃ n, n = P.length := ⟨_, rfl⟩
  obtain ⟨rA, hrA⟩ : ∃ r, r = rootT L := ⟨_, rfl⟩
  obtain ⟨eA, heA⟩ : ∃ r, r = refusedE L := ⟨_, rfl⟩
  obtain ⟨ec, hec⟩ : ∃ r, r = consS (m : Int) L.length old rA P := ⟨_, rfl⟩
  have CR1 : Hid (∀ w', Below W.heap.size W w' → Calls Tryd.prog 16 #[v0] w' fun o z => o = .returned (.tuple #[.string rA, .int .i64 eA]) ∧ Below w'.heap.size w' z) := Lib.hid (fun w' hb => by rw [hrA, heA]; exact Root_any v0 L w' (ht.below hb) (hL.below hb (Nat.le_refl _)))
  have CC : Hid (∀ w', Below W.heap.size W w' → Calls Tryd.prog 17 #[.int .i64 (m : Int), .int .i64 (n : Int), .string old, .string rA, v3] w' fun o z => o = .returned (.int .i64 ec) ∧ Below w'.heap.size w' z) := Lib.hid (fun w' hb => by
    have := consistency_any (m : Int) (L.length : Int) old rA v3 P w' (ht.below hb) (hP.below hb (Nat.le_refl _)) hp
    rwa [← hec, ← hn] at this)
  have CU : Hid (∀ w' x y, Below W.heap.size W w' → UnP x y → Calls Tryd.prog 14 #[.agg #[.string x, .string y]] w' fun o z => o = .returned (.bool true) ∧ Below w'.heap.size w' z) := Lib.hid (fun w' x y hb h => unlike_yes (ht.below hb) h.1 h.2)
  obtain ⟨pa, ca, rfl⟩ : ∃ p c, v0 = .slice p n c := by obtain ⟨p, c, h, _⟩ := hL; exact ⟨p, c, by rw [h, hn]⟩
  obtain ⟨pb, cb, rfl⟩ : ∃ p c, v3 = .slice p np c := by obtain ⟨p, c, h, _⟩ := hP; exact ⟨p, c, by rw [h, hnp]⟩
  have hz : eA = 0 := heA.trans h.1
  obtain ⟨r4, r32⟩ := refused_ok h.1
  have hrr : rA = rootR L := by rw [hrA]; exact rootT_R r32 r4
  have hcz : ec = 0 := by rw [hec, hrr]; exact h.2.1
  have HZ : Hid (eA = 0 ∧ ec = 0) := Lib.hid ⟨hz, hcz⟩
  obtain ⟨m', hme, _, hmn, _⟩ := consS_ok h.2.1
  obtain rfl : m = m' := by exact_mod_cast hme
  have hz2 : refusedE (L.take m) = 0 := refused_zero (by rw [List.length_take]; omega) (fun s hs => r32 s (List.mem_of_mem_take hs))
  obtain ⟨rB, hrB⟩ : ∃ r, r = rootR (L.take m) := ⟨_, rfl⟩
  have CR2 : Hid (∀ w', Below W.heap.size W w' → Calls Tryd.prog 16 #[.slice pa m ca] w' fun o z => o = .returned (.tuple #[.string rB, .int .i64 0]) ∧ Below w'.heap.size w' z) := Lib.hid (fun w' hb => by
    have := Root_any _ _ w' (ht.below hb) ((hL.below hb (Nat.le_refl _)).cutC (k := m) (by omega))
    rwa [hz2, rootT_R (fun s hs => r32 s (List.mem_of_mem_take hs)) (by rw [List.length_take]; omega), ← hrB] at this)
  have hncl : n ≤ ca := by
    obtain ⟨p, c, h, h2, _⟩ := hL
    injection h with e1 e2 e3
    omega
  have e3 : (0 : Int) ≤ (m : Int) := by omega
  have e4 : (m : Int) ≤ (ca : Int) := by omega
  have t1 : (rB.toList == old.toList) = false := textQ_ne (by rw [hrB]; exact fun h9 => h.2.2 h9.symm)
  clear h hz hcz hrr r4 r32 hz2 hrB hncl hme hmn
  clear ht hL hP hp hn hnp hrA heA hec
  go_enter Tryd.func4, Tryd.ntmps4
  go_upto_region 3 with (first
    | (go_at_call 10; (with_reducible refine CA.out.mono ?_); rintro o w0 ⟨rfl, h⟩; have HX := Lib.hid h; clear h)
    | (go_at_call 15; (with_reducible refine (CLv.out _ HX.out).mono ?_); rintro o w3 ⟨x, y, rfl, hun, h⟩; have HUN := Lib.hid hun; replace HX := Lib.hid (HX.out.trans (h.mono HX.out.size)); clear h hun))
  obtain ⟨w4, hw4⟩ : ∃ z, z = w3.alloc (.cells #[.string x, .string y] 27) := ⟨_, rfl⟩
  obtain ⟨b1, hb1⟩ : ∃ z, z = w3.heap.size := ⟨_, rfl⟩
  have hx4 : w4.heap[b1]? = some (.cells #[.string x, .string y] 27 (0, 0)) := by rw [hw4, hb1]; exact heap_alloc_new w3 _
  have HB4 : Hid (∀ w', Below w4.heap.size w4 w' → w'.cell? ⟨b1, 0, none⟩ = some (.string x) ∧ w'.cell? ⟨b1, 1, none⟩ = some (.string y)) := Lib.hid (fun w' hb => by
    have := blk_below hx4 hb (blk_lt hx4)
    exact ⟨cellB this rfl, cellB this rfl⟩)
  have HX4 : Hid (Below W.heap.size W w4) := Lib.hid (by rw [hw4]; exact HX.out.alloc HX.out.size _)
  have HY : Hid (Below w4.heap.size w4 w4) := Lib.hid (Below.refl _ _)
  rw [← hw4, ← hb1]
  clear hw4 hb1 hx4 HX CA CLv
  obtain ⟨rfl, rfl⟩ := HZ.out
  go_upto_region 13 with (first
    | (go_at_call 16; (with_reducible refine (CR1.out _ (HX4.out.trans (HY.out.mono HX4.out.size))).mono ?_); rintro o w5 ⟨rfl, h⟩; replace HY := Lib.hid (HY.out.trans (h.mono HY.out.size)); clear h CR1)
    | (go_at_call 17; (with_reducible refine (CC.out _ (HX4.out.trans (HY.out.mono HX4.out.size))).mono ?_); rintro o w6 ⟨rfl, h⟩; replace HY := Lib.hid (HY.out.trans (h.mono HY.out.size)); clear h CC)
    | (go_at_call 16; (with_reducible refine (CR2.out _ (HX4.out.trans (HY.out.mono HX4.out.size))).mono ?_); rintro o w7 ⟨rfl, h⟩; replace HY := Lib.hid (HY.out.trans (h.mono HY.out.size)); clear h CR2))
  obtain ⟨k0, k1⟩ := HB4.out _ HY.out
  have CU2 := Lib.hid (CU.out w7 x y (HX4.out.trans (HY.out.mono HX4.out.size)) (HUN.out (by first | rfl | trivial)))
  go_wp2_with (go_at_call 14; (with_reducible refine CU2.out.mono ?_); rintro o w8 ⟨rfl, h⟩; replace HY := Lib.hid (HY.out.trans (h.mono HY.out.size)); clear h)
  go_ret
  exact ⟨rfl, HX4.out.trans (HY.out.mono HX4.out.size)⟩
theorem extractproofs_any {W : World} {f : Int} {old : ByteArray} {v0 v3 : Value} {L P : List ByteArray} (ht : Tabs W) (hL : Txts W v0 L) (hP : Txts W v3 P) (hp : P.length ≤ 1048576) :
    Calls Tryd.prog 4 #[v0, .int .i64 f, .string old, v3] W fun o w' => o = .returned (.bool true) ∧ Below W.heap.size W w' := by
  by_cases h1 : refusedE L = 0
  · by_cases h2 : consS f L.length old (rootR L) P = 0
    · obtain ⟨m, rfl, _⟩ := consS_ok h2
      by_cases h3 : old = rootR (L.take m)
      · exact eq_none ht hL hP hp ⟨h1, h2, h3⟩
      · exact eq_pair ht hL hP hp ⟨h1, h2, h3⟩
    · exact eq_no ht hL hP hp ⟨h1, h2⟩
  · exact eq_arg ht hL hP hp h1
end Go.Proofs.YtdbghgpohdijfaaDoor
