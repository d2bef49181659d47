/- The document's Inclusion, walked. -/
import Derived.Test.YtdbghgpohdijfaaGreatDoorMa46
import Derived.Test.YtdbghgpohdijfaaGreatDoorMa47
import Derived.Test.YtdbghgpohdijfaaGreatDoorMa34
namespace Go.Proofs.YtdbghgpohdijfaaGreatDoor
open Go.RowKit Go.Scr
set_option linter.unusedVariables false
theorem rev_flags (A : List (Nat × Nat × Bool)) : A.reverse.map (fun x => x.2.2) = (A.map (fun x => x.2.2)).reverse := List.map_reverse
set_option maxRecDepth 100000 in
set_option maxHeartbeats 4000000 in
theorem inclusion6_any {w : World} {s i : Int} {root leaf other : ByteArray} {vp vq : Value} {P Q : List ByteArray} {p q : ByteArray} {c : Int} (hvp : Txts w vp P) (hvq : Txts w vq Q) (hlp : P.length ≤ 1048576) (hlq : Q.length ≤ 1048576) (hS : InS s i root leaf P other Q p q c) :
    Calls Tryz.prog 7 #[.int .i64 s, .int .i64 i, .string root, .string leaf, vp, .string other, vq] w (Rt p q c w) := by
  obtain ⟨w1, hw1⟩ : ∃ x, x = w.alloc (.cells #[.string ⟨#[]⟩, .string ⟨#[]⟩] 26) := ⟨_, rfl⟩
  obtain ⟨x0, x1⟩ := one_blockE w #[.string ⟨#[]⟩, .string ⟨#[]⟩] 26
  rw [← hw1] at x0 x1
  obtain ⟨bp, hbp⟩ : ∃ x, x = w.heap.size := ⟨_, rfl⟩
  rw [← hbp] at x0
  obtain ⟨e1, he1⟩ : ∃ e, e = inclS s i leaf P root := ⟨_, rfl⟩
  obtain ⟨e2, he2⟩ : ∃ e, e = inclS s i other Q root := ⟨_, rfl⟩
  obtain ⟨d, hd⟩ : ∃ d, d = decide (P = Q) := ⟨_, rfl⟩
  have HTX : Hid (∀ w', Below w1.heap.size w1 w' → Txts w' vp P ∧ Txts w' vq Q) := Lib.hid (fun w' hb => ⟨(hvp.below x1 (Nat.le_refl _)).below hb (Nat.le_refl _), (hvq.below x1 (Nat.le_refl _)).below hb (Nat.le_refl _)⟩)
  have CI1 : Hid (∀ w', Below w1.heap.size w1 w' → Calls Tryz.prog 26 #[.int .i64 s, .int .i64 i, .string leaf, vp, .string root] w' fun o z => o = .returned (.int .i64 e1) ∧ Below w'.heap.size w' z) := Lib.hid (fun w' hb => by
    rw [he1]; exact inclusion4_any s i leaf vp P root w' (HTX.out w' hb).1 hlp)
  have CI2 : Hid (∀ w', Below w1.heap.size w1 w' → Calls Tryz.prog 26 #[.int .i64 s, .int .i64 i, .string other, vq, .string root] w' fun o z => o = .returned (.int .i64 e2) ∧ Below w'.heap.size w' z) := Lib.hid (fun w' hb => by
    rw [he2]; exact inclusion4_any s i other vq Q root w' (HTX.out w' hb).2 hlq)
  have CE : Hid (∀ w', Below w1.heap.size w1 w' → Calls Tryz.prog 27 #[vp, vq] w' fun o z => o = .returned (.bool d) ∧ Below w'.heap.size w' z) := Lib.hid (fun w' hb => by
    rw [hd]
    exact sameE_any _ _ _ _ w' (HTX.out w' hb).1 (HTX.out w' hb).2 hlp hlq)
  have HX : Hid (∀ w', Below w1.heap.size w1 w' → w'.heap[bp]? = some (.cells #[.string ⟨#[]⟩, .string ⟨#[]⟩] 26 (0, 0))) := Lib.hid (fun w' hb => blk_below x0 hb (blk_lt x0))
  have HF : Hid (Below w.heap.size w w1 ∧ w.heap.size ≤ bp) := Lib.hid ⟨x1, by omega⟩
  have HW1 := Lib.hid hw1
  have HBP := Lib.hid hbp
  have HB0 : Hid (Below w1.heap.size w1 w1) := Lib.hid (Below.refl _ _)
  obtain ⟨T, hT⟩ : ∃ T, T = (decide (e1 ≠ 0) || decide (e2 ≠ 0)) := ⟨_, rfl⟩
  obtain ⟨T2, hT2⟩ : ∃ T, T = (d && (leaf.toList == other.toList)) := ⟨_, rfl⟩
  have HT := Lib.hid hT
  have HT2 := Lib.hid hT2
  have HN1 : Hid (T = true → p = ⟨#[]⟩ ∧ q = ⟨#[]⟩ ∧ c = 61) := Lib.hid (fun h => by
    rw [hT, Bool.or_eq_true, decide_eq_true_eq, decide_eq_true_eq, he1, he2] at h
    unfold InS at hS
    rw [if_pos h] at hS
    exact hS)
  have hd2 : T2 = true ↔ leaf = other ∧ P = Q := by
    rw [hT2, hd, Bool.and_eq_true, decide_eq_true_eq]
    constructor
    · rintro ⟨h1, h2⟩
      refine ⟨?_, h1⟩
      refine Classical.byContradiction fun h => ?_
      rw [textE_ne h] at h2
      cases h2
    · rintro ⟨rfl, h⟩
      exact ⟨h, textE_same _⟩
  have HN2 : Hid (T = false → T2 = true → p = ⟨#[]⟩ ∧ q = ⟨#[]⟩ ∧ c = 60) := Lib.hid (fun h h2 => by
    rw [hT, Bool.or_eq_false_iff, decide_eq_false_iff_not, decide_eq_false_iff_not, he1, he2] at h
    unfold InS at hS
    rw [if_neg (by rintro (x | x); exact h.1 x; exact h.2 x), if_pos (hd2.1 h2)] at hS
    exact hS)
  have HY : Hid (T = false → T2 = false → c = 0 ∧ ∃ n m : Nat, s = n ∧ i = m ∧ m < n ∧ n ≤ 1099511627776 ∧ leaf.size = 32 ∧ other.size = 32 ∧ (∀ p ∈ P, p.size = 32) ∧ (∀ p ∈ Q, p.size = 32) ∧ P.length = wayN n m ∧ Q.length = wayN n m ∧ hiR (textsF ((dn n m).zip P) leaf) (textsF ((dn n m).zip Q) other) = some (p, q)) := Lib.hid (fun h h2 => by
    rw [hT, Bool.or_eq_false_iff, decide_eq_false_iff_not, decide_eq_false_iff_not, he1, he2] at h
    unfold InS at hS
    rw [if_neg (by rintro (x | x); exact h.1 x; exact h.2 x), if_neg (fun x => by rw [hd2.2 x] at h2; cases h2)] at hS
    obtain ⟨n, m, rfl, rfl, h3, h4, h5, h6, h7, _⟩ := inclS_ok (Classical.byContradiction h.1)
    obtain ⟨n', m', hn', hm', _, _, g5, g6, g7, _⟩ := inclS_ok (Classical.byContradiction h.2)
    obtain rfl : n = n' := by omega
    obtain rfl : m = m' := by omega
    have h8 := hS.1
    rw [Int.toNat_natCast, Int.toNat_natCast] at h8
    exact ⟨hS.2, n, m, rfl, rfl, h3, h4, h5, g5, h6, g6, h7, g7, h8⟩)
  have HLQ : Hid (P.length ≤ 1048576 ∧ Q.length ≤ 1048576) := Lib.hid ⟨hlp, hlq⟩
  obtain ⟨np, pp, cp, rfl⟩ : ∃ n p c, vp = .slice p n c := by obtain ⟨p, c, h, _⟩ := hvp; exact ⟨_, p, c, h⟩
  obtain ⟨nq, pq, cq, rfl⟩ : ∃ n p c, vq = .slice p n c := by obtain ⟨p, c, h, _⟩ := hvq; exact ⟨_, p, c, h⟩
  clear hvp hvq hlp hlq hS hw1 hbp x0 x1 he1 he2 hd hT hT2 hd2
  go_enter Tryz.func7, Tryz.ntmps7
  go_upto_region 1 with fail
  rw [← HW1.out, ← HBP.out]
  go_upto_region 3 with (first
    | (go_at_call 26; (with_reducible refine (CI1.out _ HB0.out).mono ?_); rintro o y1 ⟨rfl, h⟩; have HB1 : Hid (Below w1.heap.size w1 y1) := Lib.hid h; clear h)
    | (go_at_call 26; (with_reducible refine (CI2.out _ HB1.out).mono ?_); rintro o y2 ⟨rfl, h⟩; have HB2 : Hid (Below w1.heap.size w1 y2) := Lib.hid (HB1.out.trans (h.mono HB1.out.size)); clear h))
  go_cut [37] from 32 to 38 (fun u wx => u = .bool T ∧ wx = y2)
  case first =>
    by_cases h1 : e1 = 0
    · by_cases h2 : e2 = 0
      · have HTT : Hid (T = false) := Lib.hid (by rw [HT.out, h1, h2]; rfl)
        have q1 : (e1 == 0) = true := beq_iff_eq.2 h1
        have q2 : (e2 == 0) = true := beq_iff_eq.2 h2
        subst h1
        subst h2
        go_wp2_with fail
        go_meet
        exact ⟨by rw [HTT.out], rfl⟩
      · have HTT : Hid (T = true) := Lib.hid (by rw [HT.out]; simp [h2])
        have q2 : (e2 == 0) = false := beq_eq_false_iff_ne.2 h2
        subst h1
        go_wp2_with fail
        go_meet
        exact ⟨by rw [HTT.out]; first | done | rfl | (show Value.bool (!(e2 == 0)) = _; rw [q2]; rfl), rfl⟩
    · have HTT : Hid (T = true) := Lib.hid (by rw [HT.out]; simp [h1])
      have q1 : (e1 == 0) = false := beq_eq_false_iff_ne.2 h1
      go_wp2_with fail
      go_meet
      exact ⟨by rw [HTT.out], rfl⟩
  case rest =>
    obtain ⟨rfl, hwx⟩ := hcut
    obtain rfl := hwx.symm
    cases T with
    | true =>
      obtain ⟨rfl, rfl, rfl⟩ := HN1.out rfl
      have hx := HX.out y2 HB2.out
      have k0 : y2.cell? ⟨bp, 0, none⟩ = some (.string ⟨#[]⟩) := cellB hx rfl
      have k1 : y2.cell? ⟨bp, 1, none⟩ = some (.string ⟨#[]⟩) := cellB hx rfl
      have f0 : y2.frozen? ⟨bp, 0, none⟩ = false := frozB hx
      have f1 : y2.frozen? ⟨bp, 1, none⟩ = false := frozB hx
      have HX6 := Lib.hid (blk_set2 (x := .string ⟨#[]⟩) (y := .string ⟨#[]⟩) hx)
      clear hx
      go_wp2_with fail
      have m0 := cellB (k := 0) HX6.out rfl
      have m1 := cellB (k := 1) HX6.out rfl
      refine bodyPost_ret (v := .tuple #[.agg #[.string ⟨#[]⟩, .string ⟨#[]⟩], .int .i64 61]) (by simp [results, Tryz.results7, go_sem, m0, m1]) rfl ?_
      exact pair_end6 HF.out.1 HB2.out HF.out.2 rfl
    | false =>
      have HN3 := Lib.hid (HN2.out rfl)
      have HY2 := Lib.hid (HY.out rfl)
      clear HN1 HN2 HY HT CI1 CI2
      go_upto_region 6 with (go_at_call 27; (with_reducible refine (CE.out _ HB2.out).mono ?_); rintro o y3 ⟨rfl, h⟩; have HB3 : Hid (Below w1.heap.size w1 y3) := Lib.hid (HB2.out.trans (h.mono HB2.out.size)); clear h)
      go_cut [47] from 42 to 48 (fun u wx => u = .bool T2 ∧ wx = y3)
      case first =>
        cases d with
        | false =>
          have HTT : Hid (T2 = false) := Lib.hid (by rw [HT2.out]; rfl)
          go_wp2_with fail
          go_meet
          exact ⟨by rw [HTT.out], rfl⟩
        | true =>
          have HTT : Hid (T2 = (leaf.toList == other.toList)) := Lib.hid (by rw [HT2.out]; rfl)
          go_wp2_with fail
          go_meet
          exact ⟨by rw [HTT.out], rfl⟩
      case rest =>
        obtain ⟨rfl, hwx⟩ := hcut
        obtain rfl := hwx.symm
        cases T2 with
        | true =>
          obtain ⟨rfl, rfl, rfl⟩ := HN3.out rfl
          have hx := HX.out y3 HB3.out
          have k0 : y3.cell? ⟨bp, 0, none⟩ = some (.string ⟨#[]⟩) := cellB hx rfl
          have k1 : y3.cell? ⟨bp, 1, none⟩ = some (.string ⟨#[]⟩) := cellB hx rfl
          have f0 : y3.frozen? ⟨bp, 0, none⟩ = false := frozB hx
          have f1 : y3.frozen? ⟨bp, 1, none⟩ = false := frozB hx
          have HX6 := Lib.hid (blk_set2 (x := .string ⟨#[]⟩) (y := .string ⟨#[]⟩) hx)
          clear hx
          go_wp2_with fail
          have m0 := cellB (k := 0) HX6.out rfl
          have m1 := cellB (k := 1) HX6.out rfl
          refine bodyPost_ret (v := .tuple #[.agg #[.string ⟨#[]⟩, .string ⟨#[]⟩], .int .i64 60]) (by simp [results, Tryz.results7, go_sem, m0, m1]) rfl ?_
          exact pair_end6 HF.out.1 HB3.out HF.out.2 rfl
        | false =>
          obtain ⟨rfl, n, m, rfl, rfl, hmn, hn40, hlf, hot, hP, hQ, hPl, hQl, hhi⟩ := HY2.out rfl
          obtain ⟨S, hSd⟩ : ∃ S, S = (spD m (m + 1) 0 n).reverse := ⟨_, rfl⟩
          have hfl : S.map (fun x => x.2.2) = dn n m := by
            have := spD_dn n 0 m hmn
            rw [Nat.zero_add, Nat.zero_add] at this
            rw [hSd, rev_flags, this]
          have hSl : S.length = P.length := by rw [hPl]; have := congrArg List.length hfl; rwa [List.length_map] at this
          have hSq : S.length = Q.length := by rw [hSl, hPl, hQl]
          have hDl : (spD m (m + 1) 0 n).length = S.length := by rw [hSd, List.length_reverse]
          have hlq := HLQ.out
          have CS : Hid (∀ w', Calls Tryz.prog 28 #[.int .i64 (n : Int), .agg #[.int .i64 (m : Int), .int .i64 ((m : Int) + 1)]] w' fun o z => ∃ v', o = .returned v' ∧ S6I w' z v' S.length S) := Lib.hid (fun w' => by
            have := steps6_any n m (m + 1) w' hn40 (by omega) (by omega) (by omega)
            rwa [hDl, ← hSd] at this)
          have CT1 : Hid (∀ (v : Value) w', Below w1.heap.size w1 w' → Held w' 62 3 v S.length (s6V S) → Calls Tryz.prog 30 #[v, .string leaf, .slice pp np cp] w' fun o z => ∃ v', o = .returned v' ∧ LfI w' z v' S.length (textsF ((dn n m).zip P) leaf)) := Lib.hid (fun v w' hb hv => by
            have := texts6_any leaf S P v _ w' hv (HTX.out w' hb).1 hSl hP hlf (by omega)
            rwa [hfl] at this)
          have CT2 : Hid (∀ (v : Value) w', Below w1.heap.size w1 w' → Held w' 62 3 v S.length (s6V S) → Calls Tryz.prog 30 #[v, .string other, .slice pq nq cq] w' fun o z => ∃ v', o = .returned v' ∧ LfI w' z v' S.length (textsF ((dn n m).zip Q) other)) := Lib.hid (fun v w' hb hv => by
            have := texts6_any other S Q v _ w' hv (HTX.out w' hb).2 hSq hQ hot (by omega)
            rwa [hfl] at this)
          have hz1 : (textsF ((dn n m).zip P) leaf).length = S.length := by rw [textsF_len, List.length_zip, ← hfl, List.length_map, ← hSl, Nat.min_self]
          have hz2 : (textsF ((dn n m).zip Q) other).length = S.length := by rw [textsF_len, List.length_zip, ← hfl, List.length_map, ← hSq, Nat.min_self]
          have CH : Hid (∀ (va vb : Value) w', Held w' 9 1 va S.length ((textsF ((dn n m).zip P) leaf).map Value.string) → Held w' 9 1 vb S.length ((textsF ((dn n m).zip Q) other).map Value.string) → Calls Tryz.prog 29 #[va, vb] w' fun o z => o = .returned (.tuple #[.agg #[.string p, .string q], .int .i64 0]) ∧ Below w'.heap.size w' z) := Lib.hid (fun va vb w' ha hb => by
            have := highest6_any va vb _ _ w' (held_txtsE ha (by omega)) (held_txtsE hb (by omega)) (by rw [hz1, hz2]) (by omega)
            rwa [hhi] at this)
          have hm1 : m + 1 ≤ 1099511627776 := by omega
          clear hmn hn40 hlf hot hP hQ hPl hQl hhi hfl hSl hSq hDl hz1 hz2 hlq HTX HLQ CE HN3 HY2 hSd
          go_wp2_with (first
            | (go_at_call 28; (with_reducible refine (CS.out _).mono ?_); rintro o y4 ⟨v4, rfl, h⟩; have HB4 : Hid (Below w1.heap.size w1 y4) := Lib.hid (HB3.out.trans (h.b.mono HB3.out.size)); have HH4 := Lib.hid h.h; clear h)
            | (go_at_call 30; (with_reducible refine (CT1.out _ _ HB4.out HH4.out).mono ?_); rintro o y5 ⟨v5, rfl, h⟩; have HB5 : Hid (Below w1.heap.size w1 y5) := Lib.hid (HB4.out.trans (h.b.mono HB4.out.size)); have HH5 := Lib.hid (HH4.out.below h.b); have HL5 := Lib.hid h.h; clear h)
            | (go_at_call 30; (with_reducible refine (CT2.out _ _ HB5.out HH5.out).mono ?_); rintro o y6 ⟨v6, rfl, h⟩; have HB6 : Hid (Below w1.heap.size w1 y6) := Lib.hid (HB5.out.trans (h.b.mono HB5.out.size)); have HL6 := Lib.hid (HL5.out.below h.b); have HM6 := Lib.hid h.h; clear h)
            | (go_at_call 29; (with_reducible refine (CH.out _ _ _ HL6.out HM6.out).mono ?_); rintro o y7 ⟨rfl, h⟩; have HB7 : Hid (Below w1.heap.size w1 y7) := Lib.hid (HB6.out.trans (h.mono HB6.out.size)); have hx := HX.out _ HB7.out; have k0 : y7.cell? ⟨bp, 0, none⟩ = some (.string ⟨#[]⟩) := cellB hx rfl; have k1 : y7.cell? ⟨bp, 1, none⟩ = some (.string ⟨#[]⟩) := cellB hx rfl; have f0 : y7.frozen? ⟨bp, 0, none⟩ = false := frozB hx; have f1 : y7.frozen? ⟨bp, 1, none⟩ = false := frozB hx; have HX6 := Lib.hid (blk_set2 (x := .string p) (y := .string q) hx); clear h hx))
          have m0 := cellB (k := 0) HX6.out rfl
          have m1 := cellB (k := 1) HX6.out rfl
          refine bodyPost_ret (v := .tuple #[.agg #[.string p, .string q], .int .i64 0]) (by simp [results, Tryz.results7, go_sem, m0, m1]) rfl ?_
          exact pair_end6 HF.out.1 HB7.out HF.out.2 rfl
end Go.Proofs.YtdbghgpohdijfaaGreatDoor
