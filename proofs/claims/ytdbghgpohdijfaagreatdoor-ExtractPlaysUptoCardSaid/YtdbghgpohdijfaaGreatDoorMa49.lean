/- The document's Consistency, walked (printed by gen_eve.py). -/
import Derived.Test.YtdbghgpohdijfaaGreatDoorMa48
import Derived.Test.YtdbghgpohdijfaaGreatDoorMa3
namespace Go.Proofs.YtdbghgpohdijfaaGreatDoor
open Go.RowKit Go.Scr
set_option linter.unusedVariables false
/-- a part of a list of texts, by its cells -/
theorem txts_mid6 {w : World} {p p' : Option Addr} {n c b i k c' : Nat} {L : List ByteArray} (h : Txts w (.slice p n c) L) (hb : b ≤ i) (hi : i ≤ n) (hk : k = i - b) (hc : k ≤ c') (hc2 : c' ≤ c) (hp : b < i → p' = p.map (·.add b)) : Txts w (.slice p' k c') ((L.drop b).take k) := by
  obtain ⟨q, d, he, h1, h2, h3⟩ := h
  injection he with e1 e2 e3
  subst e1 e3
  have hl : ((L.drop b).take k).length = k := by rw [List.length_take, List.length_drop]; omega
  refine ⟨p', c', by rw [hl], by omega, by omega, fun j s hs => ?_⟩
  have hj : j < k := by rw [← hl]; exact (List.getElem?_eq_some_iff.mp hs).1
  rw [List.getElem?_take_of_lt hj, List.getElem?_drop] at hs
  obtain ⟨a, ha, hcell⟩ := h3 _ s hs
  subst ha
  exact ⟨a.add b, hp (by omega), by rw [Addr.add_add]; exact hcell⟩
/-- l[b:i]: where it lies is one name -/
theorem slice_mid6 {p : Option Addr} {n c b i : Nat} (hb : b ≤ i) (hi : i ≤ c) : ∃ p' : Option Addr, (∀ w, (Instr.sliceAt 22 (.slice p n c) (some (.int .i64 (b : Int))) (some (.int .i64 (i : Int))) none).run Tryz.prog w = .ok (.slice p' (i - b) (c - b)) w) ∧ (b < i → p' = p.map (·.add b)) := by
  refine ⟨if c = b then p else p.map (·.add b), fun w => ?_, fun h => if_neg (by omega)⟩
  have he : Tryz.prog.elem 22 = 9 := by kernel_rfl
  have hu : Tryz.prog.underlying 22 = some (.slice (Tryz.prog.elem 22)) := by rw [he]; exact Tryz.underlying22
  obtain ⟨k, hi0, hz, hsi, hbi⟩ := info_parts info_strT
  rw [run_sliceAt_slice w 22 _ _ _ _ hu, run_slice_lh w 22 p n c hu .i64 .i64 _ _ (by omega) (by omega) (by omega), he]
  simp [sizeOf, typeInfo, hi0, hsi, Result.andThen, sliced]
/-- l[k:] -/
theorem slice_from6 {p : Option Addr} {n c : Nat} (hn : 1 ≤ n) (hc : n ≤ c) : ∃ p' : Option Addr, (∀ w, (Instr.sliceAt 22 (.slice p n c) (some (.int .i64 1)) none none).run Tryz.prog w = .ok (.slice p' (n - 1) (c - 1)) w) ∧ (1 < n → p' = p.map (·.add 1)) := by
  refine ⟨if c = 1 then p else p.map (·.add 1), fun w => ?_, fun h => if_neg (by omega)⟩
  have he : Tryz.prog.elem 22 = 9 := by kernel_rfl
  have hu : Tryz.prog.underlying 22 = some (.slice (Tryz.prog.elem 22)) := by rw [he]; exact Tryz.underlying22
  obtain ⟨k, hi0, hz, hsi, hbi⟩ := info_parts info_strT
  rw [run_sliceAt_slice w 22 _ _ _ _ hu, run_slice_l w 22 p n c hu .i64 _ (by omega) (by omega), he]
  simp [sizeOf, typeInfo, hi0, hsi, Result.andThen, sliced]
theorem spD_lt (x y : Nat) (s : Nat) : ∀ (b e : Nat), e - b = s → b ≤ e → ∀ z ∈ spD x y b e, z.1 < z.2.1 := by
  induction s using Nat.strongRecOn with
  | ind s ih =>
    intro b e hs hbe z hz
    by_cases h : (b = x ∧ e = y) ∨ e - b ≤ 1
    · rw [spD_end h] at hz; exact nomatch hz
    · have hsp := spl_lt (show 2 ≤ e - b by omega)
      by_cases h2 : b + spl (e - b) ≤ x
      · rw [spD_right h h2] at hz
        rcases List.mem_cons.mp hz with rfl | hz
        · show b < b + spl (e - b); omega
        · exact ih (e - (b + spl (e - b))) (by omega) _ _ rfl (by omega) z hz
      · rw [spD_left h h2] at hz
        rcases List.mem_cons.mp hz with rfl | hz
        · show b + spl (e - b) < e; omega
        · exact ih (b + spl (e - b) - b) (by omega) _ _ rfl (by omega) z hz
theorem fl_len6 (n : Nat) : ∀ m, (fl m n).length ≤ n := by
  induction n using Nat.strongRecOn with
  | ind n ih =>
    intro m
    rw [fl]
    split
    · exact Nat.zero_le _
    · have hs := spl_lt (show 2 ≤ n by omega)
      split
      · have := ih (spl n) hs.2.1 m
        rw [List.length_append, List.length_singleton]; omega
      · have := ih (n - spl n) (by omega) (m - spl n)
        rw [List.length_append, List.length_singleton]; omega
theorem fl_pos6 {m n : Nat} (h1 : 1 ≤ m) (h : m < n) : 0 < (fl m n).length := by
  rw [fl, dif_neg (by omega)]
  split <;> (rw [List.length_append, List.length_singleton]; omega)
theorem Addr.add_zero6 (a : Addr) : a.add 0 = a := rfl
theorem set_other6 {w : World} {bp bf : Nat} (h : bp ≠ bf) (a b : Value) {x y : Value} (hc : w.cell? ⟨bf, 0, none⟩ = some x ∧ w.cell? ⟨bf, 1, none⟩ = some y) :
    ((w.setCell ⟨bp, 0, none⟩ a).setCell ⟨bp, 1, none⟩ b).cell? ⟨bf, 0, none⟩ = some x ∧ ((w.setCell ⟨bp, 0, none⟩ a).setCell ⟨bp, 1, none⟩ b).cell? ⟨bf, 1, none⟩ = some y := by
  have he : ((w.setCell ⟨bp, 0, none⟩ a).setCell ⟨bp, 1, none⟩ b).heap[bf]? = w.heap[bf]? := by
    rw [Below.heap_setCell _ ⟨bp, 1, none⟩ _ bf (fun e => h e.symm), Below.heap_setCell _ ⟨bp, 0, none⟩ _ bf (fun e => h e.symm)]
  exact ⟨(World.cell?_of_block he).trans hc.1, (World.cell?_of_block he).trans hc.2⟩
/-- what stands where the document's walk of a proof has its answer -/
structure Cn6 (L P : List ByteArray) (m : Nat) (old : ByteArray) (p q : ByteArray) : Prop where
  m1 : 1 ≤ m
  mn : m < L.length
  hi : hiR (textsF ((fl m L.length).zip (restL (wh m L.length true) P)) (seedL (wh m L.length true) old P)) (textsF ((fl m L.length).zip (restL (wh m L.length true) (proofR m L true))) (seedL (wh m L.length true) (rootR (L.take m)) (proofR m L true))) = some (p, q)
  tc : TwoC m L.length (seedL (wh m L.length true) old P) (seedL (wh m L.length true) (rootR (L.take m)) (proofR m L true)) (restL (wh m L.length true) P) (restL (wh m L.length true) (proofR m L true))
  pl : P.length = toldN m L.length true
theorem cos_cases {L P : List ByteArray} {f : Int} {old : ByteArray} {p q : ByteArray} {c : Int} (hS : CoS L f old P p q c) (hr : refusedE L = 0) (he : consS f L.length old (rootR L) P = 0) :
    ∃ m : Nat, f = m ∧ 1 ≤ m ∧ m ≤ L.length ∧ (old = rootR (L.take m) → NoS 60 p q c) ∧ (old ≠ rootR (L.take m) → c = 0 ∧ Cn6 L P m old p q) := by
  obtain ⟨h4, h32⟩ := not_refused hr
  obtain ⟨m, rfl, h1, hm, _, _, _, hpl, _⟩ := consS_ok he
  unfold CoS at hS
  rw [if_neg (by simp [hr]), if_neg (by simp [he]), Int.toNat_natCast] at hS
  refine ⟨m, rfl, h1, hm, fun ho => ?_, fun ho => ?_⟩
  · rw [if_pos ho] at hS
    exact hS
  · rw [if_neg ho] at hS
    have tc := cons_ways h32 h4 h1 hm he ho
    exact ⟨hS.2, h1, tc.mn, hS.1, tc, hpl⟩
set_option maxRecDepth 100000 in
set_option maxHeartbeats 4000000 in
theorem consistency6_any {w : World} {f : Int} {old : ByteArray} {vl vp : Value} {L P : List ByteArray} {p q : ByteArray} {c : Int} (hvl : Txts w vl L) (hvp : Txts w vp P) (hll : L.length ≤ 1048576) (hlp : P.length ≤ 1048576) (hS : CoS L f old P p q c) :
    Calls Tryz.prog 12 #[vl, .int .i64 f, .string old, vp] w (Rt p q c w) := by
  obtain ⟨w1, hw1⟩ : ∃ x, x = w.alloc (.cells #[.string ⟨#[]⟩, .string ⟨#[]⟩] 26) := ⟨_, rfl⟩
  obtain ⟨x0, x1⟩ := one_blockE w #[.string ⟨#[]⟩, .string ⟨#[]⟩] 26
  rw [← hw1] at x0 x1
  obtain ⟨bp, hbp⟩ : ∃ x, x = w.heap.size := ⟨_, rfl⟩
  rw [← hbp] at x0
  obtain ⟨X, hX⟩ : ∃ X, X = (all32 L && decide (L.length ≤ 4096)) := ⟨_, rfl⟩
  have HTX : Hid (∀ w', Below w1.heap.size w1 w' → Txts w' vl L ∧ Txts w' vp P) := Lib.hid (fun w' hb => ⟨(hvl.below x1 (Nat.le_refl _)).below hb (Nat.le_refl _), (hvp.below x1 (Nat.le_refl _)).below hb (Nat.le_refl _)⟩)
  have CH1 : Hid (∀ w', Below w1.heap.size w1 w' → Calls Tryz.prog 35 #[vl] w' fun o z => o = .returned (.bool X) ∧ z = w') := Lib.hid (fun w' hb => by rw [hX]; exact hashes6_any vl L w' (HTX.out w' hb).1)
  obtain ⟨R, hR⟩ : ∃ r, r = rootT L := ⟨_, rfl⟩
  have CRL : Hid (∀ w', Below w1.heap.size w1 w' → Calls Tryz.prog 36 #[vl] w' fun o z => o = .returned (.string R) ∧ Below w'.heap.size w' z) := Lib.hid (fun w' hb => by rw [hR]; exact root6_any _ _ w' (HTX.out w' hb).1)
  obtain ⟨e, he⟩ : ∃ e, e = consS f L.length old R P := ⟨_, rfl⟩
  obtain ⟨n, hn⟩ : ∃ n, n = L.length := ⟨_, rfl⟩
  have CCS : Hid (∀ w', Below w1.heap.size w1 w' → Calls Tryz.prog 41 #[.int .i64 f, .int .i64 (n : Int), .string old, .string R, vp] w' fun o z => o = .returned (.int .i64 e) ∧ Below w'.heap.size w' z) := Lib.hid (fun w' hb => by
    rw [he, ← hn]; exact consistency4_any f n old R vp P w' (HTX.out w' hb).2 hlp)
  have HX : Hid (∀ w', Below w1.heap.size w1 w' → w'.heap[bp]? = some (.cells #[.string ⟨#[]⟩, .string ⟨#[]⟩] 26 (0, 0))) := Lib.hid (fun w' hb => blk_below x0 hb (blk_lt x0))
  have HF : Hid (Below w.heap.size w w1 ∧ w.heap.size ≤ bp ∧ bp < w1.heap.size) := Lib.hid ⟨x1, by omega, blk_lt x0⟩
  have HW1 := Lib.hid hw1
  have HBP := Lib.hid hbp
  have HB0 : Hid (Below w1.heap.size w1 w1) := Lib.hid (Below.refl _ _)
  obtain ⟨pl, cl, rfl, hncl⟩ : ∃ p c, vl = .slice p n c ∧ n ≤ c := by obtain ⟨p, c, h, h1, _⟩ := hvl; exact ⟨p, c, by rw [h, hn], by omega⟩
  obtain ⟨np, hnp⟩ : ∃ n, n = P.length := ⟨_, rfl⟩
  obtain ⟨pp, cp, rfl, hncp⟩ : ∃ p c, vp = .slice p np c ∧ np ≤ c := by obtain ⟨p, c, h, h1, _⟩ := hvp; exact ⟨p, c, by rw [h, hnp], by omega⟩
  have HXR : Hid ((X = true ↔ refusedE L = 0) ∧ (X = true → R = rootR L ∧ n ≤ 4096)) := Lib.hid (by
    have h1 : X = true ↔ refusedE L = 0 := by
      rw [hX, Bool.and_eq_true, decide_eq_true_eq]
      unfold refusedE
      rw [show all32 L = ok32 L from rfl]
      constructor
      · rintro ⟨h1, h2⟩
        rw [if_neg (by omega), if_neg (by rw [h1]; decide)]
      · intro h
        split at h
        · omega
        · split at h
          · omega
          · rename_i h1 h2
            exact ⟨by simpa using h2, by omega⟩
    refine ⟨h1, fun h => ?_⟩
    obtain ⟨h4, h32⟩ := not_refused (h1.1 h)
    exact ⟨by rw [hR]; exact rootT_R h32 h4, by omega⟩)
  have HE : Hid (e = consS f L.length old R P ∧ L.length = n ∧ P.length = np ∧ n ≤ cl ∧ np ≤ cp ∧ P.length ≤ 1048576) := Lib.hid ⟨he, hn.symm, hnp.symm, hncl, hncp, hlp⟩
  have hnb : n ≤ 1048576 := by omega
  have HSS := Lib.hid hS
  clear hvl hvp hll hlp hS hw1 hbp x0 x1 hX hR he hn hnp hncl hncp
  go_enter Tryz.func12, Tryz.ntmps12
  go_upto_region 1 with fail
  rw [← HW1.out, ← HBP.out]
  cases X with
  | false =>
    have hno : p = ⟨#[]⟩ ∧ q = ⟨#[]⟩ ∧ c = 1 := by
      have h := HSS.out
      have hre : refusedE L ≠ 0 := fun h => by have := HXR.out.1.2 h; cases this
      unfold CoS at h
      rw [if_pos hre] at h
      exact h
    obtain ⟨rfl, rfl, rfl⟩ := hno
    go_upto_region 2 with (go_at_call 35; (with_reducible refine (CH1.out _ HB0.out).mono ?_); rintro o z ⟨rfl, hz⟩; rw [hz]; clear hz z)
    have hx := HX.out w1 HB0.out
    have k0 : w1.cell? ⟨bp, 0, none⟩ = some (.string ⟨#[]⟩) := cellB hx rfl
    have k1 : w1.cell? ⟨bp, 1, none⟩ = some (.string ⟨#[]⟩) := cellB hx rfl
    have f0 : w1.frozen? ⟨bp, 0, none⟩ = false := frozB hx
    have f1 : w1.frozen? ⟨bp, 1, none⟩ = false := frozB hx
    have HX6 := Lib.hid (blk_set2 (x := .string ⟨#[]⟩) (y := .string ⟨#[]⟩) hx)
    clear hx
    go_wp2_with fail
    have m0 := cellB (k := 0) HX6.out rfl
    have m1 := cellB (k := 1) HX6.out rfl
    refine bodyPost_ret (v := .tuple #[.agg #[.string ⟨#[]⟩, .string ⟨#[]⟩], .int .i64 1]) (by simp [results, Tryz.results12, go_sem, m0, m1]) rfl ?_
    exact pair_end6 HF.out.1 HB0.out HF.out.2.1 rfl
  | true =>
    have HRE : Hid (refusedE L = 0 ∧ R = rootR L) := Lib.hid ⟨HXR.out.1.1 rfl, (HXR.out.2 rfl).1⟩
    have hn4 : n ≤ 4096 := (HXR.out.2 rfl).2
    go_upto_region 5 with (first
      | (go_at_call 35; (with_reducible refine (CH1.out _ HB0.out).mono ?_); rintro o z ⟨rfl, hz⟩; rw [hz]; clear hz z)
      | (go_at_call 36; (with_reducible refine (CRL.out _ HB0.out).mono ?_); rintro o y1 ⟨rfl, h⟩; have HB1 : Hid (Below w1.heap.size w1 y1) := Lib.hid h; clear h)
      | (go_at_call 41; (with_reducible refine (CCS.out _ HB1.out).mono ?_); rintro o y2 ⟨rfl, h⟩; have HB2 : Hid (Below w1.heap.size w1 y2) := Lib.hid (HB1.out.trans (h.mono HB1.out.size)); clear h))
    have hre := HRE.out.1
    have hRR := HRE.out.2
    by_cases he0 : e = 0
    case neg =>
      have hno : p = ⟨#[]⟩ ∧ q = ⟨#[]⟩ ∧ c = 61 := by
        have h := HSS.out
        unfold CoS at h
        rw [if_neg (by simp [hre]), if_pos (by rw [← hRR, ← HE.out.1]; exact he0)] at h
        exact h
      obtain ⟨rfl, rfl, rfl⟩ := hno
      have q1 : (e == 0) = false := beq_eq_false_iff_ne.2 he0
      clear HSS hre hRR
      have hx := HX.out y2 HB2.out
      have k0 : y2.cell? ⟨bp, 0, none⟩ = some (.string ⟨#[]⟩) := cellB hx rfl
      have k1 : y2.cell? ⟨bp, 1, none⟩ = some (.string ⟨#[]⟩) := cellB hx rfl
      have f0 : y2.frozen? ⟨bp, 0, none⟩ = false := frozB hx
      have f1 : y2.frozen? ⟨bp, 1, none⟩ = false := frozB hx
      have HX6 := Lib.hid (blk_set2 (x := .string ⟨#[]⟩) (y := .string ⟨#[]⟩) hx)
      clear hx
      go_wp2_with fail
      have m0 := cellB (k := 0) HX6.out rfl
      have m1 := cellB (k := 1) HX6.out rfl
      refine bodyPost_ret (v := .tuple #[.agg #[.string ⟨#[]⟩, .string ⟨#[]⟩], .int .i64 61]) (by simp [results, Tryz.results12, go_sem, m0, m1]) rfl ?_
      exact pair_end6 HF.out.1 HB2.out HF.out.2.1 rfl
    obtain ⟨m, rfl, h1m, hmn, hno60, hyes⟩ := cos_cases HSS.out hre (by rw [← hRR, ← HE.out.1]; exact he0)
    subst he0
    obtain ⟨O, hO⟩ : ∃ O, O = rootR (L.take m) := ⟨_, rfl⟩
    obtain ⟨h4L, h32L⟩ := not_refused hre
    have hLn := HE.out.2.1
    have hcl := HE.out.2.2.2.1
    have CRO : Hid (∀ w', Below w1.heap.size w1 w' → Calls Tryz.prog 36 #[.slice pl m cl] w' fun o z => o = .returned (.string O) ∧ Below w'.heap.size w' z) := Lib.hid (fun w' hb => by
      have := root6_any _ _ w' ((HTX.out w' hb).1.cutC (k := m) (by omega))
      rwa [rootT_R (fun s hs => h32L s (List.mem_of_mem_take hs)) (by rw [List.length_take]; omega), ← hO] at this)
    rw [← hO] at hno60 hyes
    have hmc : (m : Int) ≤ (cl : Int) := by omega
    have hm0 : (0 : Int) ≤ (m : Int) := by omega
    have hmw : IntKind.i64.wrap (m : Int) = (m : Int) := IntWalk.i64_in _ (by omega)
    have HL4 : Hid (L.length ≤ 4096 ∧ (∀ s ∈ L, s.size = 32)) := Lib.hid ⟨h4L, h32L⟩
    by_cases hoo : old = O
    · obtain ⟨rfl, rfl, rfl⟩ := hno60 hoo
      have e1 : (old.toList == O.toList) = true := by rw [hoo]; exact textE_same _
      clear hyes hoo hO HSS hre hRR HXR CRL CCS CH1 h4L h32L hLn hcl h1m hmn
      go_upto_region 8 with (go_at_call 36; (with_reducible refine (CRO.out _ HB2.out).mono ?_); rintro o y3 ⟨rfl, h⟩; have HB3 : Hid (Below w1.heap.size w1 y3) := Lib.hid (HB2.out.trans (h.mono HB2.out.size)); clear h)
      have hx := HX.out y3 HB3.out
      have k0 : y3.cell? ⟨bp, 0, none⟩ = some (.string ⟨#[]⟩) := cellB hx rfl
      have k1 : y3.cell? ⟨bp, 1, none⟩ = some (.string ⟨#[]⟩) := cellB hx rfl
      have f0 : y3.frozen? ⟨bp, 0, none⟩ = false := frozB hx
      have f1 : y3.frozen? ⟨bp, 1, none⟩ = false := frozB hx
      have HX6 := Lib.hid (blk_set2 (x := .string ⟨#[]⟩) (y := .string ⟨#[]⟩) hx)
      clear hx
      go_wp2_with fail
      have m0 := cellB (k := 0) HX6.out rfl
      have m1 := cellB (k := 1) HX6.out rfl
      refine bodyPost_ret (v := .tuple #[.agg #[.string ⟨#[]⟩, .string ⟨#[]⟩], .int .i64 60]) (by simp [results, Tryz.results12, go_sem, m0, m1]) rfl ?_
      exact pair_end6 HF.out.1 HB3.out HF.out.2.1 rfl
    · obtain ⟨rfl, hc6⟩ := hyes hoo
      have e1 : (old.toList == O.toList) = false := textE_ne hoo
      have HC6 := Lib.hid hc6
      have h1m' : 1 ≤ m := h1m
      have hmb : m ≤ 4096 := by omega
      clear hno60 hyes hO hoo HSS hre hRR HXR CRL CCS CH1 h4L h32L hLn hcl h1m hmn hc6
      go_upto_region 9 with (go_at_call 36; (with_reducible refine (CRO.out _ HB2.out).mono ?_); rintro o y3 ⟨rfl, h⟩; have HB3 : Hid (Below w1.heap.size w1 y3) := Lib.hid (HB2.out.trans (h.mono HB2.out.size)); clear h)
      clear CRO HB1 HB2
      go_wp2_with fail
      go_loopw [12] (fun u wr => ∃ (k t : Nat), u = .int .i64 (k : Int) ∧ k = 2 ^ t ∧ k ≤ m ∧ Hid (k ∣ m) ∧ wr = y3) (fun u _ => m - (intOf u).toNat)
      case atStart => exact ⟨1, 0, rfl, rfl, h1m', Lib.hid (Nat.one_dvd _), rfl⟩
      case round =>
        obtain ⟨k, t, rfl, hkt, hkm, HD, hwr⟩ := hrel
        obtain rfl := hwr.symm
        have hkpos : 0 < k := by rw [hkt]; exact Nat.pos_of_ne_zero (by simp)
        have hkb : k ≤ 4096 := by omega
        have hk20 : ¬ 2 * (k : Int) = 0 := by omega
        have hz0 : (0 : Int) ≤ (m : Int) := Int.natCast_nonneg _
        by_cases hdv : 2 * k ∣ m
        · have q0 : (m : Int).tmod (2 * (k : Int)) = 0 := by rw [Int.tmod_eq_emod_of_nonneg hz0]; have h := Nat.mod_eq_zero_of_dvd hdv; exact_mod_cast h
          have HN : Hid (2 * k = 2 ^ (t + 1) ∧ 2 * k ≤ m ∧ 2 * k ∣ m ∧ 0 < k) := Lib.hid ⟨by rw [hkt, Nat.pow_succ]; omega, Nat.le_of_dvd (by omega) hdv, hdv, hkpos⟩
          clear hdv hkt
          go_wp2_with fail
          have hn := HN.out
          exact ⟨⟨2 * k, t + 1, by go_num, hn.1, hn.2.1, Lib.hid hn.2.2.1, by first | rfl | trivial⟩, by show m - (2 * (k : Int)).toNat < m - (k : Int).toNat; omega⟩
        · obtain ⟨rm, hrm⟩ : ∃ r, r = m % (2 * k) := ⟨_, rfl⟩
          have hrm0 : rm ≠ 0 := fun h => hdv (Nat.dvd_of_mod_eq_zero (by rw [← hrm]; exact h))
          have q0 : (m : Int).tmod (2 * (k : Int)) = (rm : Int) := by rw [Int.tmod_eq_emod_of_nonneg hz0, hrm]; push_cast; rfl
          have q1 : ((rm : Int) == 0) = false := by rw [beq_eq_false_iff_ne]; omega
          have q2 : ¬ (rm : Int) = 0 := by omega
          have HN : Hid (k = 2 ^ t ∧ k ∣ m ∧ ¬ 2 * k ∣ m) := Lib.hid ⟨hkt, HD.out, hdv⟩
          clear hdv hkt HD hrm hrm0
          go_upto_region 12 with fail
          clear q0 q1 q2 hkb hk20 hz0
          obtain ⟨hk2t, hkd, hknd⟩ := HN.out
          have hLn := HE.out.2.1
          have hmn : m < n := by have := HC6.out.mn; omega
          obtain ⟨cd1, cd2, cd3, cd4⟩ := cons_doc L k t m hk2t h1m' (by omega) hkd hknd
          rw [hLn] at cd1 cd2 cd3 cd4
          obtain ⟨mk, hmk⟩ : ∃ x, x = m - k := ⟨_, rfl⟩
          have hmki : (m : Int) - (k : Int) = (mk : Int) := by omega
          rw [← hmk] at cd1 cd2 cd3
          obtain ⟨S, hSd⟩ : ∃ S, S = (spD mk m 0 n).reverse := ⟨_, rfl⟩
          obtain ⟨W, hW⟩ : ∃ W, W = wh m n true := ⟨_, rfl⟩
          have hfl : S.map (fun x => x.2.2) = fl m n := by rw [hSd, rev_flags, cd1]
          have hrs : S.map (spR L) = restL W (proofR m L true) := by rw [hSd, List.map_reverse, cd2, hW]
          obtain ⟨ns, hns⟩ : ∃ n, n = S.length := ⟨_, rfl⟩
          have htc := HC6.out.tc
          have hhi := HC6.out.hi
          rw [hLn, ← hW] at htc hhi
          have hfn : (fl m n).length = ns := by rw [hns, ← hfl, List.length_map]
          have hns4 : ns ≤ 4096 := by rw [← hfn]; exact Nat.le_trans (fl_len6 n m) hn4
          have HSP : Hid (∀ (j : Nat) (x : Nat × Nat × Bool), S[j]? = some x → x.1 < x.2.1 ∧ x.2.1 ≤ n) := Lib.hid (fun j x hx => by
            have hmem : x ∈ spD mk m 0 n := by have := List.mem_of_getElem? hx; rw [hSd] at this; exact List.mem_reverse.1 this
            exact ⟨spD_lt mk m n 0 n (by omega) (by omega) x hmem, (spD_in mk m n 0 n (by omega) (by omega) x hmem).2.2⟩)
          have CS : Hid (∀ w', Calls Tryz.prog 28 #[.int .i64 (n : Int), .agg #[.int .i64 (mk : Int), .int .i64 (m : Int)]] w' fun o z => ∃ v', o = .returned v' ∧ S6I w' z v' ns S) := Lib.hid (fun w' => by
            have hdl : (spD mk m 0 n).length = ns := by rw [hns, hSd, List.length_reverse]
            have := steps6_any n mk m w' (by omega) (by omega) (by omega) (by omega)
            rwa [hdl, ← hSd] at this)
          have CRS : Hid (∀ (b e : Nat) (w' : World) (p' : Option Addr), b < e → e ≤ n → p' = pl.map (·.add b) → Below w1.heap.size w1 w' → Calls Tryz.prog 36 #[.slice p' (e - b) (cl - b)] w' fun o z => o = .returned (.string (rootR ((L.drop b).take (e - b)))) ∧ Below w'.heap.size w' z) := Lib.hid (fun b e w' p' hbe hen hp hb => by
            have hcl := HE.out.2.2.2.1
            have h4 := HL4.out.1
            have := root6_any _ _ w' (txts_mid6 (p' := p') (b := b) (i := e) (k := e - b) (c' := cl - b) (HTX.out w' hb).1 (Nat.le_of_lt hbe) hen rfl (by omega) (by omega) (fun _ => hp))
            rwa [rootT_R (fun s hs => HL4.out.2 s (List.mem_of_mem_drop (List.mem_of_mem_take hs))) (by rw [List.length_take, List.length_drop]; omega)] at this)
          obtain ⟨st, hst⟩ : ∃ s, s = seedL W old P := ⟨_, rfl⟩
          obtain ⟨s2, hs2⟩ : ∃ s, s = rootR ((L.drop mk).take (m - mk)) := ⟨_, rfl⟩
          have hs2W : s2 = seedL W (rootR (L.take m)) (proofR m L true) := by rw [hs2, cd3, hW]
          rw [← hst, ← hs2W, ← hrs] at hhi
          rw [← hst, ← hs2W, ← hrs] at htc
          have CT1 : Hid (∀ (v vb : Value) w', Txts w' vb (restL W P) → Held w' 62 3 v ns (s6V S) → Calls Tryz.prog 30 #[v, .string st, vb] w' fun o z => ∃ v', o = .returned v' ∧ LfI w' z v' ns (textsF ((fl m n).zip (restL W P)) st)) := Lib.hid (fun v vb w' hb hv => by
            have := texts6_any st S (restL W P) v vb w' (by rw [← hns]; exact hv) hb (by rw [← hns, ← hfn]; exact htc.dp) htc.p htc.f (by omega)
            rwa [hfl, ← hns] at this)
          have CT2 : Hid (∀ (v vb : Value) w', Txts w' vb (S.map (spR L)) → Held w' 62 3 v ns (s6V S) → Calls Tryz.prog 30 #[v, .string s2, vb] w' fun o z => ∃ v', o = .returned v' ∧ LfI w' z v' ns (textsF ((fl m n).zip (S.map (spR L))) s2)) := Lib.hid (fun v vb w' hb hv => by
            have := texts6_any s2 S (S.map (spR L)) v vb w' (by rw [← hns]; exact hv) hb (by rw [List.length_map]) htc.r htc.o (by omega)
            rwa [hfl, ← hns] at this)
          have hz1 : (textsF ((fl m n).zip (restL W P)) st).length = ns := by rw [textsF_len, List.length_zip, hfn, ← htc.dp, hfn, Nat.min_self]
          have hz2 : (textsF ((fl m n).zip (S.map (spR L))) s2).length = ns := by rw [textsF_len, List.length_zip, hfn, List.length_map, ← hns, Nat.min_self]
          have CHI : Hid (∀ (va vb : Value) w', Held w' 9 1 va ns ((textsF ((fl m n).zip (restL W P)) st).map Value.string) → Held w' 9 1 vb ns ((textsF ((fl m n).zip (S.map (spR L))) s2).map Value.string) → Calls Tryz.prog 29 #[va, vb] w' fun o z => o = .returned (.tuple #[.agg #[.string p, .string q], .int .i64 0]) ∧ Below w'.heap.size w' z) := Lib.hid (fun va vb w' ha hb => by
            have := highest6_any va vb _ _ w' (held_txtsE ha (by omega)) (held_txtsE hb (by omega)) (by rw [hz1, hz2]) (by omega)
            rwa [hhi] at this)
          have HW : Hid (W = decide (k = m) ∧ st = seedL W old P ∧ mk < m ∧ m < n ∧ S.length = ns ∧ s2 = rootR ((L.drop mk).take (m - mk)) ∧ n ≤ cl ∧ (W = false → 2 ≤ np)) := Lib.hid ⟨by rw [hW, cd4], hst, by omega, hmn, hns.symm, hs2, HE.out.2.2.2.1, fun h => by
            have h1 := HE.out.2.2.1
            have h2 := htc.dp
            have h3 := HC6.out.pl
            rw [hLn] at h3
            unfold toldN at h3
            rw [← hW, h] at h3
            have h4 : 0 < (fl m n).length := fl_pos6 h1m' hmn
            simp at h3
            omega⟩
          have hnsb : ns ≤ 4096 := hns4
          have hmkb : mk ≤ 4096 := by omega
          obtain ⟨y4, hy4⟩ : ∃ z, z = y3.alloc (.cells #[.int .i64 (mk : Int), .int .i64 (m : Int)] 54) := ⟨_, rfl⟩
          obtain ⟨b0, b1⟩ := one_blockE y3 #[.int .i64 (mk : Int), .int .i64 (m : Int)] 54
          rw [← hy4] at b0 b1
          obtain ⟨bf, hbf⟩ : ∃ z, z = y3.heap.size := ⟨_, rfl⟩
          rw [← hbf] at b0
          have HFB : Hid (∀ w', Below y4.heap.size y4 w' → w'.cell? ⟨bf, 0, none⟩ = some (.int .i64 (mk : Int)) ∧ w'.cell? ⟨bf, 1, none⟩ = some (.int .i64 (m : Int))) := Lib.hid (fun w' hb => by
            have := blk_below b0 hb (blk_lt b0)
            exact ⟨cellB this rfl, cellB this rfl⟩)
          have HB4 : Hid (Below w1.heap.size w1 y4) := Lib.hid (HB3.out.trans (b1.mono HB3.out.size))
          have HBF : Hid (bp ≠ bf) := Lib.hid (by have := HF.out; have := HB3.out.size; omega)
          have HY4 := Lib.hid hy4
          have HBFF := Lib.hid hbf
          have z0 : y4.cell? ⟨bf, 0, none⟩ = some (.int .i64 (mk : Int)) := (HFB.out y4 (Below.refl _ _)).1
          have z1 : y4.cell? ⟨bf, 1, none⟩ = some (.int .i64 (m : Int)) := (HFB.out y4 (Below.refl _ _)).2
          clear hk2t hkd hknd hLn hmn cd1 cd2 cd3 cd4 hmk hSd hW hfl hrs hns htc hhi hfn hns4 hst hs2 hs2W hz1 hz2 hy4 b0 b1 hbf
          go_upto_region 13 with fail
          rw [← HY4.out, ← HBFF.out]
          have HS5A : Hid (∀ (b e : Nat) (w' : World), True) := Lib.hid (fun _ _ _ => trivial)
          cases W with
          | true =>
            have hkm : k = m := of_decide_eq_true HW.out.1.symm
            have hst : st = old := HW.out.2.1
            have e3 : ((k : Int) == (m : Int)) = true := beq_iff_eq.2 (by omega)
            have e4 : (k : Int) = (m : Int) := by omega
            subst hst
            have HVB : Hid (∀ w', Below w1.heap.size w1 w' → Txts w' (.slice pp np cp) (restL true P)) := Lib.hid (fun w' hb => (HTX.out w' hb).2)
            clear hkm
            go_upto_region 19 with (go_at_call 28; (with_reducible refine (CS.out _).mono ?_); rintro o y5 ⟨v5, rfl, h⟩; obtain ⟨p5, c5, rfl, _⟩ := h.h.cells; have HI5 := Lib.hid h; clear h)
            clear e3 e4
            have HB5 : Hid (Below w1.heap.size w1 y5) := Lib.hid (HB4.out.trans (HI5.out.b.mono HB4.out.size))
            have HFB5 : Hid (∀ w', Below y5.heap.size y5 w' → w'.cell? ⟨bf, 0, none⟩ = some (.int .i64 (mk : Int)) ∧ w'.cell? ⟨bf, 1, none⟩ = some (.int .i64 (m : Int))) := Lib.hid (fun w' hb => HFB.out w' (HI5.out.b.trans (hb.mono HI5.out.b.size)))
            obtain ⟨B, hB⟩ : ∃ B, B = S.map (spR L) := ⟨_, rfl⟩
            rw [← hB] at CT2 CHI
            have HBS : Hid (B.length = ns ∧ ∀ j x, S[j]? = some x → B[j]? = some (spR L x)) := Lib.hid ⟨by rw [hB, List.length_map, HW.out.2.2.2.2.1], fun j x hx => by rw [hB, List.getElem?_map, hx]; rfl⟩
            clear hB CS
            have HO0 : Hid (LfI y5 y5 (.slice none 0 0) 0 (B.take 0)) := Lib.hid ⟨Below.refl _ _, ⟨rfl, .inl ⟨rfl, rfl⟩⟩, (fun g hg => nomatch hg)⟩
            go_wp2_with fail
            go_loopw [17, 18] (fun u i wr => ∃ (j : Nat) (qa : Option Addr) (d : Nat), i = .int .i64 (j : Int) ∧ u = .slice qa j d ∧ j ≤ ns ∧ Hid (LfI y5 wr (.slice qa j d) j (B.take j))) (fun _ i _ => ns - (intOf i).toNat)
            case atStart => exact ⟨0, none, 0, rfl, rfl, Nat.zero_le _, HO0⟩
            case round =>
              clear HO0
              obtain ⟨j, qa, d, rfl, rfl, hj, HI⟩ := hrel
              by_cases hlt : j < ns
              · have hji : (j : Int) < (ns : Int) := by omega
                have hj0 : (0 : Int) ≤ (j : Int) := by omega
                obtain ⟨⟨x1, x2, fb⟩, hs⟩ : ∃ s, S[j]? = some s := ⟨S[j]'(by have := HW.out.2.2.2.2.1; omega), List.getElem?_eq_getElem _⟩
                obtain ⟨hx12, hx2n⟩ := HSP.out j _ hs
                have hx12 : x1 < x2 := hx12
                have hx2n : x2 ≤ n := hx2n
                obtain ⟨rr, hrr⟩ : ∃ r, r = rootR ((L.drop x1).take (x2 - x1)) := ⟨_, rfl⟩
                have HBJ : Hid (B.take (j + 1) = B.take j ++ [rr]) := Lib.hid (by rw [List.take_add_one, HBS.out.2 j _ hs, hrr]; rfl)
                obtain ⟨g, hpg, hcell⟩ := held_cellP HI5.out.h (by omega)
                subst hpg
                obtain ⟨a0, a1, a2⟩ := s6V_get hs
                have hc0 := hcell _ _ a0
                have hc1 := hcell _ _ a1
                have HCS : Hid (∀ w', Below y5.heap.size y5 w' → w'.cell? ⟨g, j * 3, none⟩ = some (.int .i64 (x1 : Int)) ∧ w'.cell? ⟨g, j * 3 + 1, none⟩ = some (.int .i64 (x2 : Int))) := Lib.hid (fun w' hb => ⟨(hb.cell (block_lt_of_cell hc0)).trans hc0, (hb.cell (block_lt_of_cell hc1)).trans hc1⟩)
                have hcl := HW.out.2.2.2.2.2.2.1
                obtain ⟨p8, hsl8, hp8⟩ := slice_mid6 (p := pl) (n := n) (c := cl) (b := x1) (i := x2) (by omega) (by omega)
                have CRJ : Hid (∀ w', Below w1.heap.size w1 w' → Calls Tryz.prog 36 #[.slice p8 (x2 - x1) (cl - x1)] w' fun o z => o = .returned (.string rr) ∧ Below w'.heap.size w' z) := Lib.hid (fun w' hb => by rw [hrr]; exact CRS.out x1 x2 w' p8 hx12 hx2n (hp8 hx12) hb)
                have HONE : Hid (∀ u ∈ [Value.string rr], u.oneCell' = true) := Lib.hid (fun u hu => by rw [List.mem_singleton.1 hu]; rfl)
                have hl1 : (j + 1) * 16 ≤ 140737488355328 := by omega
                have hl2 : j + 1 ≤ 140737488355328 := by omega
                have HBW : Hid (Below w1.heap.size w1 wr) := Lib.hid (HB5.out.trans (HI.out.b.mono HB5.out.size))
                have HBD : Hid (Below w1.heap.size w1 wr.drew) := Lib.hid HBW.out.drew
                have HBD0 : Hid (Below wr.heap.size wr wr.drew) := Lib.hid (Below.refl _ _).drew
                have HS0 := Lib.hid (HCS.out wr.drew HI.out.b.drew)
                have HLT := Lib.hid hlt
                clear hlt hs hx12 hx2n hrr hcell a0 a1 a2 hc0 hc1 hcl hp8 hj
                go_upto_region 23 with fail
                refine wp_region_held_drew (S := fun w' => w'.cell? ⟨g, j * 3, none⟩ = some (.int .i64 (x1 : Int)) ∧ w'.cell? ⟨g, j * 3 + 1, none⟩ = some (.int .i64 (x2 : Int))) (by kernel_rfl) (by first | exact HSC.out | exact HSB.out _ | exact HSA.out | exact HS0.out) (fun hHeld => ?_)
                refine wpAnyH_take (i := 0) (oi := ⟨_, _, _, _, _, _⟩) (v := ?_) rfl (by kernel_rfl) (by kernel_rfl) (by kernel_rfl) (fun _ _ _ h => h) (Or.inl ⟨by rfl, ?_⟩) hHeld ?_
                rotate_left
                · ((intro w hSw; (try dsimp only at hSw); go_simp) <;> with_reducible rfl)
                try simp only [Act.put, List.setIfInBounds_toArray, List.set_cons_zero, List.set_cons_succ]
                refine wpAnyH_take (i := 1) (oi := ⟨_, _, _, _, _, _⟩) (v := ?_) rfl (by kernel_rfl) (by kernel_rfl) (by kernel_rfl) (fun _ _ _ h => h) (Or.inl ⟨by rfl, ?_⟩) hHeld ?_
                rotate_left
                · ((intro w hSw; (try dsimp only at hSw); go_simp) <;> with_reducible rfl)
                try simp only [Act.put, List.setIfInBounds_toArray, List.set_cons_zero, List.set_cons_succ]
                refine wpAnyH_take (i := 2) (oi := ⟨_, _, _, _, _, _⟩) (v := ?_) rfl (by kernel_rfl) (by kernel_rfl) (by kernel_rfl) (fun _ _ _ h => h) (Or.inl ⟨by rfl, ?_⟩) hHeld ?_
                rotate_left
                · ((intro w hSw; (try dsimp only at hSw); go_simp) <;> with_reducible rfl)
                try simp only [Act.put, List.setIfInBounds_toArray, List.set_cons_zero, List.set_cons_succ]
                refine wpAnyH_take (i := 3) (oi := ⟨_, _, _, _, _, _⟩) (v := ?_) rfl (by kernel_rfl) (by kernel_rfl) (by kernel_rfl) (fun _ _ _ h => h) (Or.inl ⟨by rfl, ?_⟩) hHeld ?_
                rotate_left
                · ((intro w hSw; (try dsimp only at hSw); go_simp) <;> with_reducible rfl)
                try simp only [Act.put, List.setIfInBounds_toArray, List.set_cons_zero, List.set_cons_succ]
                refine wpAnyH_take (i := 4) (oi := ⟨_, _, _, _, _, _⟩) (v := ?_) rfl (by kernel_rfl) (by kernel_rfl) (by kernel_rfl) (fun _ _ _ h => h) (Or.inl ⟨by rfl, ?_⟩) hHeld ?_
                rotate_left
                · ((intro w hSw; (try dsimp only at hSw); go_simp) <;> with_reducible rfl)
                try simp only [Act.put, List.setIfInBounds_toArray, List.set_cons_zero, List.set_cons_succ]
                refine wpAnyH_take (i := 5) (oi := ⟨_, _, _, _, _, _⟩) (v := ?_) rfl (by kernel_rfl) (by kernel_rfl) (by kernel_rfl) (fun _ _ _ h => h) (Or.inl ⟨by rfl, ?_⟩) hHeld ?_
                rotate_left
                · ((intro w hSw; (try dsimp only at hSw); go_simp) <;> with_reducible rfl)
                try simp only [Act.put, List.setIfInBounds_toArray, List.set_cons_zero, List.set_cons_succ]
                refine wpAnyH_take (i := 6) (oi := ⟨_, _, _, _, _, _⟩) (v := ?_) rfl (by kernel_rfl) (by kernel_rfl) (by kernel_rfl) (fun _ _ _ h => h) (Or.inl ⟨by rfl, ?_⟩) hHeld ?_
                rotate_left
                · ((intro w hSw; (try dsimp only at hSw); go_simp) <;> with_reducible rfl)
                try simp only [Act.put, List.setIfInBounds_toArray, List.set_cons_zero, List.set_cons_succ]
                refine wpAnyH_take (i := 7) (oi := ⟨_, _, _, _, _, _⟩) (v := ?_) rfl (by kernel_rfl) (by kernel_rfl) (by kernel_rfl) (fun _ _ _ h => h) (Or.inl ⟨by rfl, ?_⟩) hHeld ?_
                rotate_left
                · ((intro w hSw; (try dsimp only at hSw); go_simp) <;> with_reducible rfl)
                try simp only [Act.put, List.setIfInBounds_toArray, List.set_cons_zero, List.set_cons_succ]
                refine wpAnyH_take (i := 8) (oi := ⟨_, _, _, _, _, _⟩) (v := ?_) rfl (by kernel_rfl) (by kernel_rfl) (by kernel_rfl) (fun _ _ _ h => h) (Or.inl ⟨by rfl, ?_⟩) hHeld ?_
                rotate_left
                · ((intro w hSw; (try dsimp only at hSw); go_simp) <;> with_reducible rfl)
                try simp only [Act.put, List.setIfInBounds_toArray, List.set_cons_zero, List.set_cons_succ]
                refine wpAnyH_take (i := 9) (oi := ⟨_, _, _, _, _, _⟩) (v := ?_) rfl (by kernel_rfl) (by kernel_rfl) (by kernel_rfl) (fun _ _ _ h => h) (Or.inl ⟨by rfl, ?_⟩) hHeld ?_
                rotate_left
                · ((intro w hSw; (try dsimp only at hSw); go_simp) <;> with_reducible rfl)
                try simp only [Act.put, List.setIfInBounds_toArray, List.set_cons_zero, List.set_cons_succ]
                refine wpAnyH_take (i := 10) (oi := ⟨_, _, _, _, _, _⟩) (v := ?_) rfl (by kernel_rfl) (by kernel_rfl) (by kernel_rfl) (fun _ _ _ h => h) (Or.inl ⟨by rfl, ?_⟩) hHeld ?_
                rotate_left
                · ((intro w hSw; (try dsimp only at hSw); go_simp) <;> with_reducible rfl)
                try simp only [Act.put, List.setIfInBounds_toArray, List.set_cons_zero, List.set_cons_succ]
                refine wpAnyH_take (i := 11) (oi := ⟨_, _, _, _, _, _⟩) (v := ?_) rfl (by kernel_rfl) (by kernel_rfl) (by kernel_rfl) (fun _ _ _ h => h) (Or.inl ⟨by rfl, ?_⟩) hHeld ?_
                rotate_left
                · ((intro w hSw; (try dsimp only at hSw); go_simp) <;> with_reducible rfl)
                try simp only [Act.put, List.setIfInBounds_toArray, List.set_cons_zero, List.set_cons_succ]
                refine wpAnyH_take (i := 12) (oi := ⟨_, _, _, _, _, _⟩) (v := ?_) rfl (by kernel_rfl) (by kernel_rfl) (by kernel_rfl) (fun _ _ _ h => h) (Or.inl ⟨by rfl, ?_⟩) hHeld ?_
                rotate_left
                · ((intro w hSw; (try dsimp only at hSw); go_simp) <;> with_reducible rfl)
                try simp only [Act.put, List.setIfInBounds_toArray, List.set_cons_zero, List.set_cons_succ]
                refine wpAnyH_take (i := 13) (oi := ⟨_, _, _, _, _, _⟩) (v := ?_) rfl (by kernel_rfl) (by kernel_rfl) (by kernel_rfl) (fun _ _ _ h => h) (Or.inl ⟨by rfl, ?_⟩) hHeld ?_
                rotate_left
                · ((intro w hSw; (try dsimp only at hSw); go_simp) <;> with_reducible rfl)
                try simp only [Act.put, List.setIfInBounds_toArray, List.set_cons_zero, List.set_cons_succ]
                refine wpAnyH_take (i := 14) (oi := ⟨_, _, _, _, _, _⟩) (v := ?_) rfl (by kernel_rfl) (by kernel_rfl) (by kernel_rfl) (fun _ _ _ h => h) (Or.inl ⟨by rfl, ?_⟩) hHeld ?_
                rotate_left
                · ((intro w hSw; (try dsimp only at hSw); go_simp) <;> with_reducible rfl)
                try simp only [Act.put, List.setIfInBounds_toArray, List.set_cons_zero, List.set_cons_succ]
                refine wpAnyH_ready (rs := [15]) (by kernel_rfl) (by simp) ?_
                refine AllReadyH.cons (o := ⟨_, _, _, _, _, _⟩) rfl (fun K hK => ?_) ?_
                rotate_left
                · exact AllReadyH.nil
                go_simp
                go_at_call 36; ((with_reducible refine (CRJ.out _ HBD.out).mono ?_); rintro o y6 ⟨rfl, h⟩; have HB6 : Hid (Below wr.heap.size wr y6) := Lib.hid (HBD0.out.trans (h.mono HBD0.out.size)); have HI6 := Lib.hid (HI.out.below HB6.out); have HSA := Lib.hid (HCS.out y6 HI6.out.b); have HSB : Hid (∀ o, _) := Lib.hid (fun o => HCS.out (y6.alloc o) (HI6.out.b.alloc HI6.out.b.size o)); have HHD2 : Hid (∀ o, Held (y6.alloc o) 9 1 (.slice qa j d) j ((B.take j).map Value.string)) := Lib.hid (fun o => HI6.out.h.below ((Below.refl _ _).alloc (Nat.le_refl _) _)); clear h)
                refine hK.out _ _ (by first | exact HSC.out | exact HSB.out _ | exact HSA.out | exact HS0.out) (fun hHeld => ?_)
                clear hK K
                try simp only [Act.put, List.setIfInBounds_toArray, List.set_cons_zero, List.set_cons_succ]
                refine wpAnyH_ready (rs := [16]) (by kernel_rfl) (by simp) ?_
                refine AllReadyH.cons (o := ⟨_, _, _, _, _, _⟩) rfl (fun K hK => ?_) ?_
                rotate_left
                · exact AllReadyH.nil
                go_simp
                skip
                refine hK.out _ _ (by first | exact HSC.out | exact HSB.out _ | exact HSA.out | exact HS0.out) (fun hHeld => ?_)
                clear hK K
                try simp only [Act.put, List.setIfInBounds_toArray, List.set_cons_zero, List.set_cons_succ]
                refine wpAnyH_ready (rs := [17]) (by kernel_rfl) (by simp) ?_
                refine AllReadyH.cons (o := ⟨_, _, _, _, _, _⟩) rfl (fun K hK => ?_) ?_
                rotate_left
                · exact AllReadyH.nil
                refine step_grew (v := .slice qa j d) rfl (.tmp 74) (.tmp 90) rfl Tryz.underlying22 (.string ⟨#[]⟩) 1 info_strT rfl (by decide) [.string rr] 1 ⟨y6.heap.size, 0, none⟩ rfl rfl (HHD2.out _) rfl (by decide) cells_alloc HONE.out hl1 hl2 ?_
                intro v7 w7 hg7
                obtain ⟨p7, c7, rfl, _⟩ := hg7.held.cells
                have HI7 := Lib.hid (HI6.out.push hg7)
                have HSC := Lib.hid (HCS.out w7 HI7.out.b)
                clear hg7
                refine hK.out _ _ (by first | exact HSC.out | exact HSB.out _ | exact HSA.out | exact HS0.out) (fun hHeld => ?_)
                clear hK K
                try simp only [Act.put, List.setIfInBounds_toArray, List.set_cons_zero, List.set_cons_succ]
                refine wpAnyH_take (i := 18) (oi := ⟨_, _, _, _, _, _⟩) (v := ?_) rfl (by kernel_rfl) (by kernel_rfl) (by kernel_rfl) (fun _ _ _ h => h) (Or.inl ⟨by rfl, ?_⟩) hHeld ?_
                rotate_left
                · ((intro w hSw; (try dsimp only at hSw); go_simp) <;> with_reducible rfl)
                try simp only [Act.put, List.setIfInBounds_toArray, List.set_cons_zero, List.set_cons_succ]
                refine wpAnyH_done (by kernel_rfl) ?_ _
                go_wp2_with fail
                first
                  | exact ⟨⟨j + 1, p7, c7, congrArg (Value.int .i64) (by omega), rfl, by have := HLT.out; omega, Lib.hid (by rw [HBJ.out]; exact HI7.out)⟩, by have := HLT.out; show ns - ((j : Int) + 1).toNat < ns - (j : Int).toNat; omega⟩
                  | exact ⟨⟨j + 1, by omega, p7, c7, ⟨rfl, rfl, rfl⟩, by have := HLT.out; omega, Lib.hid (by rw [HBJ.out]; exact HI7.out)⟩, by have := HLT.out; show ns - ((j : Int) + 1).toNat < ns - (j : Int).toNat; omega⟩
              · obtain rfl : j = ns := by omega
                have hji : ¬ (j : Int) < (j : Int) := by omega
                have HTK : Hid (B.take j = B) := Lib.hid (List.take_of_length_le (by have := HBS.out.1; omega))
                rw [HTK.out] at HI
                obtain ⟨p8, hsl8, hp8⟩ := slice_mid6 (p := pl) (n := n) (c := cl) (b := mk) (i := m) (by have := HW.out; omega) (by have := HW.out; omega)
                have CRM : Hid (∀ w', Below w1.heap.size w1 w' → Calls Tryz.prog 36 #[.slice p8 (m - mk) (cl - mk)] w' fun o z => o = .returned (.string s2) ∧ Below w'.heap.size w' z) := Lib.hid (fun w' hb => by rw [HW.out.2.2.2.2.2.1]; exact CRS.out mk m w' p8 HW.out.2.2.1 (Nat.le_of_lt HW.out.2.2.2.1) (hp8 HW.out.2.2.1) hb)
                have HIQ : Hid (Below y5.heap.size y5 wr.drew) := Lib.hid HI.out.b.drew
                have HBQ : Hid (Below w1.heap.size w1 wr.drew) := Lib.hid (HB5.out.trans (HIQ.out.mono HB5.out.size))
                have HHS : Hid (Held wr.drew 62 3 (.slice p5 j c5) j (s6V S)) := Lib.hid (HI5.out.h.below HIQ.out)
                have HTO : Hid (∀ w', Below wr.drew.heap.size wr.drew w' → Txts w' (.slice qa j d) B) := Lib.hid (fun w' hb => held_txtsE ((HI.out.h.below (Below.refl _ _).drew).below hb) (by have := HBS.out.1; omega))
                have HS0 := Lib.hid (HFB5.out wr.drew HIQ.out)
                clear hlt hp8 hj HTK HBS CRS
                go_upto_region 24 with fail
                refine wp_region_held_drew (S := fun w' => w'.cell? ⟨bf, 0, none⟩ = some (.int .i64 (mk : Int)) ∧ w'.cell? ⟨bf, 1, none⟩ = some (.int .i64 (m : Int))) (by kernel_rfl) (by first | exact HSF.out | exact HSE.out | exact HSD.out | exact HSC.out | exact HSB.out | exact HSA.out | exact HS0.out) (fun hHeld => ?_)
                refine wpAnyH_take (i := 0) (oi := ⟨_, _, _, _, _, _⟩) (v := ?_) rfl (by kernel_rfl) (by kernel_rfl) (by kernel_rfl) (fun _ _ _ h => h) (Or.inl ⟨by rfl, ?_⟩) hHeld ?_
                rotate_left
                · ((intro w hSw; (try dsimp only at hSw); go_simp) <;> with_reducible rfl)
                try simp only [Act.put, List.setIfInBounds_toArray, List.set_cons_zero, List.set_cons_succ]
                refine wpAnyH_take (i := 1) (oi := ⟨_, _, _, _, _, _⟩) (v := ?_) rfl (by kernel_rfl) (by kernel_rfl) (by kernel_rfl) (fun _ _ _ h => h) (Or.inl ⟨by rfl, ?_⟩) hHeld ?_
                rotate_left
                · ((intro w hSw; (try dsimp only at hSw); go_simp) <;> with_reducible rfl)
                try simp only [Act.put, List.setIfInBounds_toArray, List.set_cons_zero, List.set_cons_succ]
                refine wpAnyH_take (i := 2) (oi := ⟨_, _, _, _, _, _⟩) (v := ?_) rfl (by kernel_rfl) (by kernel_rfl) (by kernel_rfl) (fun _ _ _ h => h) (Or.inl ⟨by rfl, ?_⟩) hHeld ?_
                rotate_left
                · ((intro w hSw; (try dsimp only at hSw); go_simp) <;> with_reducible rfl)
                try simp only [Act.put, List.setIfInBounds_toArray, List.set_cons_zero, List.set_cons_succ]
                refine wpAnyH_take (i := 4) (oi := ⟨_, _, _, _, _, _⟩) (v := ?_) rfl (by kernel_rfl) (by kernel_rfl) (by kernel_rfl) (fun _ _ _ h => h) (Or.inl ⟨by rfl, ?_⟩) hHeld ?_
                rotate_left
                · ((intro w hSw; (try dsimp only at hSw); go_simp) <;> with_reducible rfl)
                try simp only [Act.put, List.setIfInBounds_toArray, List.set_cons_zero, List.set_cons_succ]
                refine wpAnyH_take (i := 5) (oi := ⟨_, _, _, _, _, _⟩) (v := ?_) rfl (by kernel_rfl) (by kernel_rfl) (by kernel_rfl) (fun _ _ _ h => h) (Or.inl ⟨by rfl, ?_⟩) hHeld ?_
                rotate_left
                · ((intro w hSw; (try dsimp only at hSw); go_simp) <;> with_reducible rfl)
                try simp only [Act.put, List.setIfInBounds_toArray, List.set_cons_zero, List.set_cons_succ]
                refine wpAnyH_take (i := 6) (oi := ⟨_, _, _, _, _, _⟩) (v := ?_) rfl (by kernel_rfl) (by kernel_rfl) (by kernel_rfl) (fun _ _ _ h => h) (Or.inl ⟨by rfl, ?_⟩) hHeld ?_
                rotate_left
                · ((intro w hSw; (try dsimp only at hSw); go_simp) <;> with_reducible rfl)
                try simp only [Act.put, List.setIfInBounds_toArray, List.set_cons_zero, List.set_cons_succ]
                refine wpAnyH_take (i := 7) (oi := ⟨_, _, _, _, _, _⟩) (v := ?_) rfl (by kernel_rfl) (by kernel_rfl) (by kernel_rfl) (fun _ _ _ h => h) (Or.inl ⟨by rfl, ?_⟩) hHeld ?_
                rotate_left
                · ((intro w hSw; (try dsimp only at hSw); go_simp) <;> with_reducible rfl)
                try simp only [Act.put, List.setIfInBounds_toArray, List.set_cons_zero, List.set_cons_succ]
                refine wpAnyH_take (i := 8) (oi := ⟨_, _, _, _, _, _⟩) (v := ?_) rfl (by kernel_rfl) (by kernel_rfl) (by kernel_rfl) (fun _ _ _ h => h) (Or.inl ⟨by rfl, ?_⟩) hHeld ?_
                rotate_left
                · ((intro w hSw; (try dsimp only at hSw); go_simp) <;> with_reducible rfl)
                try simp only [Act.put, List.setIfInBounds_toArray, List.set_cons_zero, List.set_cons_succ]
                refine wpAnyH_take (i := 9) (oi := ⟨_, _, _, _, _, _⟩) (v := ?_) rfl (by kernel_rfl) (by kernel_rfl) (by kernel_rfl) (fun _ _ _ h => h) (Or.inl ⟨by rfl, ?_⟩) hHeld ?_
                rotate_left
                · ((intro w hSw; (try dsimp only at hSw); go_simp) <;> with_reducible rfl)
                try simp only [Act.put, List.setIfInBounds_toArray, List.set_cons_zero, List.set_cons_succ]
                refine wpAnyH_take (i := 10) (oi := ⟨_, _, _, _, _, _⟩) (v := ?_) rfl (by kernel_rfl) (by kernel_rfl) (by kernel_rfl) (fun _ _ _ h => h) (Or.inl ⟨by rfl, ?_⟩) hHeld ?_
                rotate_left
                · ((intro w hSw; (try dsimp only at hSw); go_simp) <;> with_reducible rfl)
                try simp only [Act.put, List.setIfInBounds_toArray, List.set_cons_zero, List.set_cons_succ]
                refine wpAnyH_take (i := 12) (oi := ⟨_, _, _, _, _, _⟩) (v := ?_) rfl (by kernel_rfl) (by kernel_rfl) (by kernel_rfl) (fun _ _ _ h => h) (Or.inl ⟨by rfl, ?_⟩) hHeld ?_
                rotate_left
                · ((intro w hSw; (try dsimp only at hSw); go_simp) <;> with_reducible rfl)
                try simp only [Act.put, List.setIfInBounds_toArray, List.set_cons_zero, List.set_cons_succ]
                refine wpAnyH_ready (rs := [3]) (by kernel_rfl) (by simp) ?_
                refine AllReadyH.cons (o := ⟨_, _, _, _, _, _⟩) rfl (fun K hK => ?_) ?_
                rotate_left
                · exact AllReadyH.nil
                go_simp
                go_at_call 30; ((with_reducible refine (CT1.out _ _ _ (HVB.out _ HBQ.out) HHS.out).mono ?_); rintro o z1 ⟨u1, rfl, h⟩; have HZ1 : Hid (Below y5.heap.size y5 z1) := Lib.hid (HIQ.out.trans (h.b.mono HIQ.out.size)); have HU1 := Lib.hid h.h; have HY1 := Lib.hid h.b; have HSA := Lib.hid (HFB5.out z1 HZ1.out); clear h)
                refine hK.out _ _ (by first | exact HSF.out | exact HSE.out | exact HSD.out | exact HSC.out | exact HSB.out | exact HSA.out | exact HS0.out) (fun hHeld => ?_)
                clear hK K
                try simp only [Act.put, List.setIfInBounds_toArray, List.set_cons_zero, List.set_cons_succ]
                refine wpAnyH_ready (rs := [11]) (by kernel_rfl) (by simp) ?_
                refine AllReadyH.cons (o := ⟨_, _, _, _, _, _⟩) rfl (fun K hK => ?_) ?_
                rotate_left
                · exact AllReadyH.nil
                go_simp
                go_at_call 36; ((with_reducible refine (CRM.out _ (HB5.out.trans (HZ1.out.mono HB5.out.size))).mono ?_); rintro o z2 ⟨rfl, h⟩; have HZ2 : Hid (Below y5.heap.size y5 z2) := Lib.hid (HZ1.out.trans (h.mono HZ1.out.size)); have HU2 := Lib.hid (HU1.out.below h); have HSB := Lib.hid (HFB5.out z2 HZ2.out); have HHS2 := Lib.hid (HI5.out.h.below HZ2.out); have HTO2 := Lib.hid (HTO.out z2 (HY1.out.trans (h.mono HY1.out.size))); clear h)
                refine hK.out _ _ (by first | exact HSF.out | exact HSE.out | exact HSD.out | exact HSC.out | exact HSB.out | exact HSA.out | exact HS0.out) (fun hHeld => ?_)
                clear hK K
                try simp only [Act.put, List.setIfInBounds_toArray, List.set_cons_zero, List.set_cons_succ]
                refine wpAnyH_ready (rs := [13]) (by kernel_rfl) (by simp) ?_
                refine AllReadyH.cons (o := ⟨_, _, _, _, _, _⟩) rfl (fun K hK => ?_) ?_
                rotate_left
                · exact AllReadyH.nil
                go_simp
                go_at_call 30; ((with_reducible refine (CT2.out _ _ _ HTO2.out HHS2.out).mono ?_); rintro o z3 ⟨u3, rfl, h⟩; have HZ3 : Hid (Below y5.heap.size y5 z3) := Lib.hid (HZ2.out.trans (h.b.mono HZ2.out.size)); have HU3 := Lib.hid (HU2.out.below h.b); have HM3 := Lib.hid h.h; have HSC := Lib.hid (HFB5.out z3 HZ3.out); clear h)
                refine hK.out _ _ (by first | exact HSF.out | exact HSE.out | exact HSD.out | exact HSC.out | exact HSB.out | exact HSA.out | exact HS0.out) (fun hHeld => ?_)
                clear hK K
                try simp only [Act.put, List.setIfInBounds_toArray, List.set_cons_zero, List.set_cons_succ]
                refine wpAnyH_ready (rs := [14]) (by kernel_rfl) (by simp) ?_
                refine AllReadyH.cons (o := ⟨_, _, _, _, _, _⟩) rfl (fun K hK => ?_) ?_
                rotate_left
                · exact AllReadyH.nil
                go_simp
                go_at_call 29; ((with_reducible refine (CHI.out _ _ _ HU3.out HM3.out).mono ?_); rintro o z4 ⟨rfl, h⟩; have HZ4 : Hid (Below y5.heap.size y5 z4) := Lib.hid (HZ3.out.trans (h.mono HZ3.out.size)); have HSD := Lib.hid (HFB5.out z4 HZ4.out); have hx := HX.out _ (HB5.out.trans (HZ4.out.mono HB5.out.size)); have k0 : z4.cell? ⟨bp, 0, none⟩ = some (.string ⟨#[]⟩) := cellB hx rfl; have k1 : z4.cell? ⟨bp, 1, none⟩ = some (.string ⟨#[]⟩) := cellB hx rfl; have f0 : z4.frozen? ⟨bp, 0, none⟩ = false := frozB hx; have f1 : z4.frozen? ⟨bp, 1, none⟩ = false := frozB hx; have HX6 := Lib.hid (blk_set2 (x := .string p) (y := .string q) hx); have HSE := Lib.hid (set_other6 HBF.out (.string p) (.string q) HSD.out); clear h hx)
                refine hK.out _ _ (by first | exact HSF.out | exact HSE.out | exact HSD.out | exact HSC.out | exact HSB.out | exact HSA.out | exact HS0.out) (fun hHeld => ?_)
                clear hK K
                try simp only [Act.put, List.setIfInBounds_toArray, List.set_cons_zero, List.set_cons_succ]
                refine wpAnyH_take (i := 15) (oi := ⟨_, _, _, _, _, _⟩) (v := ?_) rfl (by kernel_rfl) (by kernel_rfl) (by kernel_rfl) (fun _ _ _ h => h) (Or.inl ⟨by rfl, ?_⟩) hHeld ?_
                rotate_left
                · ((intro w hSw; (try dsimp only at hSw); go_simp) <;> with_reducible rfl)
                try simp only [Act.put, List.setIfInBounds_toArray, List.set_cons_zero, List.set_cons_succ]
                refine wpAnyH_take (i := 16) (oi := ⟨_, _, _, _, _, _⟩) (v := ?_) rfl (by kernel_rfl) (by kernel_rfl) (by kernel_rfl) (fun _ _ _ h => h) (Or.inl ⟨by rfl, ?_⟩) hHeld ?_
                rotate_left
                · ((intro w hSw; (try dsimp only at hSw); go_simp) <;> with_reducible rfl)
                try simp only [Act.put, List.setIfInBounds_toArray, List.set_cons_zero, List.set_cons_succ]
                refine wpAnyH_ready (rs := [17]) (by kernel_rfl) (by simp) ?_
                refine AllReadyH.cons (o := ⟨_, _, _, _, _, _⟩) rfl (fun K hK => ?_) ?_
                rotate_left
                · exact AllReadyH.nil
                go_simp
                skip
                refine hK.out _ _ (by first | exact HSF.out | exact HSE.out | exact HSD.out | exact HSC.out | exact HSB.out | exact HSA.out | exact HS0.out) (fun hHeld => ?_)
                clear hK K
                try simp only [Act.put, List.setIfInBounds_toArray, List.set_cons_zero, List.set_cons_succ]
                refine wpAnyH_take (i := 18) (oi := ⟨_, _, _, _, _, _⟩) (v := ?_) rfl (by kernel_rfl) (by kernel_rfl) (by kernel_rfl) (fun _ _ _ h => h) (Or.inl ⟨by rfl, ?_⟩) hHeld ?_
                rotate_left
                · ((intro w hSw; (try dsimp only at hSw); go_simp) <;> with_reducible rfl)
                try simp only [Act.put, List.setIfInBounds_toArray, List.set_cons_zero, List.set_cons_succ]
                refine wpAnyH_done (by kernel_rfl) ?_ _
                go_wp2_with fail
                have m0 := cellB (k := 0) HX6.out rfl
                have m1 := cellB (k := 1) HX6.out rfl
                refine bodyPost_ret (v := .tuple #[.agg #[.string p, .string q], .int .i64 0]) (by simp [results, Tryz.results12, go_sem, m0, m1]) rfl ?_
                exact pair_end6 HF.out.1 (HB5.out.trans (HZ4.out.mono HB5.out.size)) HF.out.2.1 rfl
          | false =>
            have hkm : k ≠ m := of_decide_eq_false HW.out.1.symm
            have hnp : 2 ≤ np := HW.out.2.2.2.2.2.2.2 rfl
            have e3 : ((k : Int) == (m : Int)) = false := beq_eq_false_iff_ne.2 (by omega)
            have e4 : ¬ (k : Int) = (m : Int) := by omega
            obtain ⟨s0, hs0⟩ : ∃ s, P[0]? = some s := ⟨P[0]'(by have := HE.out.2.2.1; omega), List.getElem?_eq_getElem _⟩
            have hst : st = s0 := by
              have h : st = P.headD old := HW.out.2.1
              rw [h]
              cases P with
              | nil => simp at hs0
              | cons x r => simpa using hs0
            subst hst
            obtain ⟨p0, hpp⟩ : ∃ a, pp = some a := by
              obtain ⟨_, _, h, _, _, h3⟩ := (HTX.out w1 HB0.out).2
              injection h with h _ _
              obtain ⟨a, ha, _⟩ := h3 0 _ hs0
              exact ⟨a, by rw [h, ha]⟩
            subst hpp
            have HC0 : Hid (∀ w', Below w1.heap.size w1 w' → w'.cell? p0 = some (.string st)) := Lib.hid (fun w' hb => by
              obtain ⟨_, _, h, _, _, h3⟩ := (HTX.out w' hb).2
              injection h with h _ _
              obtain ⟨a, ha, hc⟩ := h3 0 _ hs0
              rw [ha] at h
              injection h with h
              rw [h, ← Addr.add_zero6 a]
              exact hc)
            obtain ⟨p1, hsl1, hp1⟩ := slice_from6 (p := some p0) (n := np) (c := cp) (by omega) HE.out.2.2.2.2.1
            have HVB : Hid (∀ w', Below w1.heap.size w1 w' → Txts w' (.slice p1 (np - 1) (cp - 1)) (restL false P)) := Lib.hid (fun w' hb => by
              have h := (HTX.out w' hb).2.rightC (k := 1) (by omega)
              rw [hp1 (by omega)]
              exact h)
            have hnp0 : (0 : Int) < (np : Int) := by omega
            clear hkm hnp hs0 hp1
            go_upto_region 17 with (go_at_call 28; (with_reducible refine (CS.out _).mono ?_); rintro o y5 ⟨v5, rfl, h⟩; obtain ⟨p5, c5, rfl, _⟩ := h.h.cells; have HI5 := Lib.hid h; have hc0 := HC0.out _ (HB4.out.trans (h.b.mono HB4.out.size)); clear h)
            go_upto_region 19 with fail
            clear e3 e4 hsl1 hnp0
            have HB5 : Hid (Below w1.heap.size w1 y5) := Lib.hid (HB4.out.trans (HI5.out.b.mono HB4.out.size))
            have HFB5 : Hid (∀ w', Below y5.heap.size y5 w' → w'.cell? ⟨bf, 0, none⟩ = some (.int .i64 (mk : Int)) ∧ w'.cell? ⟨bf, 1, none⟩ = some (.int .i64 (m : Int))) := Lib.hid (fun w' hb => HFB.out w' (HI5.out.b.trans (hb.mono HI5.out.b.size)))
            obtain ⟨B, hB⟩ : ∃ B, B = S.map (spR L) := ⟨_, rfl⟩
            rw [← hB] at CT2 CHI
            have HBS : Hid (B.length = ns ∧ ∀ j x, S[j]? = some x → B[j]? = some (spR L x)) := Lib.hid ⟨by rw [hB, List.length_map, HW.out.2.2.2.2.1], fun j x hx => by rw [hB, List.getElem?_map, hx]; rfl⟩
            clear hB CS
            have HO0 : Hid (LfI y5 y5 (.slice none 0 0) 0 (B.take 0)) := Lib.hid ⟨Below.refl _ _, ⟨rfl, .inl ⟨rfl, rfl⟩⟩, (fun g hg => nomatch hg)⟩
            go_wp2_with fail
            go_loopw [17, 18] (fun u i wr => ∃ (j : Nat) (qa : Option Addr) (d : Nat), i = .int .i64 (j : Int) ∧ u = .slice qa j d ∧ j ≤ ns ∧ Hid (LfI y5 wr (.slice qa j d) j (B.take j))) (fun _ i _ => ns - (intOf i).toNat)
            case atStart => exact ⟨0, none, 0, rfl, rfl, Nat.zero_le _, HO0⟩
            case round =>
              clear HO0
              obtain ⟨j, qa, d, rfl, rfl, hj, HI⟩ := hrel
              by_cases hlt : j < ns
              · have hji : (j : Int) < (ns : Int) := by omega
                have hj0 : (0 : Int) ≤ (j : Int) := by omega
                obtain ⟨⟨x1, x2, fb⟩, hs⟩ : ∃ s, S[j]? = some s := ⟨S[j]'(by have := HW.out.2.2.2.2.1; omega), List.getElem?_eq_getElem _⟩
                obtain ⟨hx12, hx2n⟩ := HSP.out j _ hs
                have hx12 : x1 < x2 := hx12
                have hx2n : x2 ≤ n := hx2n
                obtain ⟨rr, hrr⟩ : ∃ r, r = rootR ((L.drop x1).take (x2 - x1)) := ⟨_, rfl⟩
                have HBJ : Hid (B.take (j + 1) = B.take j ++ [rr]) := Lib.hid (by rw [List.take_add_one, HBS.out.2 j _ hs, hrr]; rfl)
                obtain ⟨g, hpg, hcell⟩ := held_cellP HI5.out.h (by omega)
                subst hpg
                obtain ⟨a0, a1, a2⟩ := s6V_get hs
                have hc0 := hcell _ _ a0
                have hc1 := hcell _ _ a1
                have HCS : Hid (∀ w', Below y5.heap.size y5 w' → w'.cell? ⟨g, j * 3, none⟩ = some (.int .i64 (x1 : Int)) ∧ w'.cell? ⟨g, j * 3 + 1, none⟩ = some (.int .i64 (x2 : Int))) := Lib.hid (fun w' hb => ⟨(hb.cell (block_lt_of_cell hc0)).trans hc0, (hb.cell (block_lt_of_cell hc1)).trans hc1⟩)
                have hcl := HW.out.2.2.2.2.2.2.1
                obtain ⟨p8, hsl8, hp8⟩ := slice_mid6 (p := pl) (n := n) (c := cl) (b := x1) (i := x2) (by omega) (by omega)
                have CRJ : Hid (∀ w', Below w1.heap.size w1 w' → Calls Tryz.prog 36 #[.slice p8 (x2 - x1) (cl - x1)] w' fun o z => o = .returned (.string rr) ∧ Below w'.heap.size w' z) := Lib.hid (fun w' hb => by rw [hrr]; exact CRS.out x1 x2 w' p8 hx12 hx2n (hp8 hx12) hb)
                have HONE : Hid (∀ u ∈ [Value.string rr], u.oneCell' = true) := Lib.hid (fun u hu => by rw [List.mem_singleton.1 hu]; rfl)
                have hl1 : (j + 1) * 16 ≤ 140737488355328 := by omega
                have hl2 : j + 1 ≤ 140737488355328 := by omega
                have HBW : Hid (Below w1.heap.size w1 wr) := Lib.hid (HB5.out.trans (HI.out.b.mono HB5.out.size))
                have HBD : Hid (Below w1.heap.size w1 wr.drew) := Lib.hid HBW.out.drew
                have HBD0 : Hid (Below wr.heap.size wr wr.drew) := Lib.hid (Below.refl _ _).drew
                have HS0 := Lib.hid (HCS.out wr.drew HI.out.b.drew)
                have HLT := Lib.hid hlt
                clear hlt hs hx12 hx2n hrr hcell a0 a1 a2 hc0 hc1 hcl hp8 hj
                go_upto_region 23 with fail
                refine wp_region_held_drew (S := fun w' => w'.cell? ⟨g, j * 3, none⟩ = some (.int .i64 (x1 : Int)) ∧ w'.cell? ⟨g, j * 3 + 1, none⟩ = some (.int .i64 (x2 : Int))) (by kernel_rfl) (by first | exact HSC.out | exact HSB.out _ | exact HSA.out | exact HS0.out) (fun hHeld => ?_)
                refine wpAnyH_take (i := 0) (oi := ⟨_, _, _, _, _, _⟩) (v := ?_) rfl (by kernel_rfl) (by kernel_rfl) (by kernel_rfl) (fun _ _ _ h => h) (Or.inl ⟨by rfl, ?_⟩) hHeld ?_
                rotate_left
                · ((intro w hSw; (try dsimp only at hSw); go_simp) <;> with_reducible rfl)
                try simp only [Act.put, List.setIfInBounds_toArray, List.set_cons_zero, List.set_cons_succ]
                refine wpAnyH_take (i := 1) (oi := ⟨_, _, _, _, _, _⟩) (v := ?_) rfl (by kernel_rfl) (by kernel_rfl) (by kernel_rfl) (fun _ _ _ h => h) (Or.inl ⟨by rfl, ?_⟩) hHeld ?_
                rotate_left
                · ((intro w hSw; (try dsimp only at hSw); go_simp) <;> with_reducible rfl)
                try simp only [Act.put, List.setIfInBounds_toArray, List.set_cons_zero, List.set_cons_succ]
                refine wpAnyH_take (i := 2) (oi := ⟨_, _, _, _, _, _⟩) (v := ?_) rfl (by kernel_rfl) (by kernel_rfl) (by kernel_rfl) (fun _ _ _ h => h) (Or.inl ⟨by rfl, ?_⟩) hHeld ?_
                rotate_left
                · ((intro w hSw; (try dsimp only at hSw); go_simp) <;> with_reducible rfl)
                try simp only [Act.put, List.setIfInBounds_toArray, List.set_cons_zero, List.set_cons_succ]
                refine wpAnyH_take (i := 3) (oi := ⟨_, _, _, _, _, _⟩) (v := ?_) rfl (by kernel_rfl) (by kernel_rfl) (by kernel_rfl) (fun _ _ _ h => h) (Or.inl ⟨by rfl, ?_⟩) hHeld ?_
                rotate_left
                · ((intro w hSw; (try dsimp only at hSw); go_simp) <;> with_reducible rfl)
                try simp only [Act.put, List.setIfInBounds_toArray, List.set_cons_zero, List.set_cons_succ]
                refine wpAnyH_take (i := 4) (oi := ⟨_, _, _, _, _, _⟩) (v := ?_) rfl (by kernel_rfl) (by kernel_rfl) (by kernel_rfl) (fun _ _ _ h => h) (Or.inl ⟨by rfl, ?_⟩) hHeld ?_
                rotate_left
                · ((intro w hSw; (try dsimp only at hSw); go_simp) <;> with_reducible rfl)
                try simp only [Act.put, List.setIfInBounds_toArray, List.set_cons_zero, List.set_cons_succ]
                refine wpAnyH_take (i := 5) (oi := ⟨_, _, _, _, _, _⟩) (v := ?_) rfl (by kernel_rfl) (by kernel_rfl) (by kernel_rfl) (fun _ _ _ h => h) (Or.inl ⟨by rfl, ?_⟩) hHeld ?_
                rotate_left
                · ((intro w hSw; (try dsimp only at hSw); go_simp) <;> with_reducible rfl)
                try simp only [Act.put, List.setIfInBounds_toArray, List.set_cons_zero, List.set_cons_succ]
                refine wpAnyH_take (i := 6) (oi := ⟨_, _, _, _, _, _⟩) (v := ?_) rfl (by kernel_rfl) (by kernel_rfl) (by kernel_rfl) (fun _ _ _ h => h) (Or.inl ⟨by rfl, ?_⟩) hHeld ?_
                rotate_left
                · ((intro w hSw; (try dsimp only at hSw); go_simp) <;> with_reducible rfl)
                try simp only [Act.put, List.setIfInBounds_toArray, List.set_cons_zero, List.set_cons_succ]
                refine wpAnyH_take (i := 7) (oi := ⟨_, _, _, _, _, _⟩) (v := ?_) rfl (by kernel_rfl) (by kernel_rfl) (by kernel_rfl) (fun _ _ _ h => h) (Or.inl ⟨by rfl, ?_⟩) hHeld ?_
                rotate_left
                · ((intro w hSw; (try dsimp only at hSw); go_simp) <;> with_reducible rfl)
                try simp only [Act.put, List.setIfInBounds_toArray, List.set_cons_zero, List.set_cons_succ]
                refine wpAnyH_take (i := 8) (oi := ⟨_, _, _, _, _, _⟩) (v := ?_) rfl (by kernel_rfl) (by kernel_rfl) (by kernel_rfl) (fun _ _ _ h => h) (Or.inl ⟨by rfl, ?_⟩) hHeld ?_
                rotate_left
                · ((intro w hSw; (try dsimp only at hSw); go_simp) <;> with_reducible rfl)
                try simp only [Act.put, List.setIfInBounds_toArray, List.set_cons_zero, List.set_cons_succ]
                refine wpAnyH_take (i := 9) (oi := ⟨_, _, _, _, _, _⟩) (v := ?_) rfl (by kernel_rfl) (by kernel_rfl) (by kernel_rfl) (fun _ _ _ h => h) (Or.inl ⟨by rfl, ?_⟩) hHeld ?_
                rotate_left
                · ((intro w hSw; (try dsimp only at hSw); go_simp) <;> with_reducible rfl)
                try simp only [Act.put, List.setIfInBounds_toArray, List.set_cons_zero, List.set_cons_succ]
                refine wpAnyH_take (i := 10) (oi := ⟨_, _, _, _, _, _⟩) (v := ?_) rfl (by kernel_rfl) (by kernel_rfl) (by kernel_rfl) (fun _ _ _ h => h) (Or.inl ⟨by rfl, ?_⟩) hHeld ?_
                rotate_left
                · ((intro w hSw; (try dsimp only at hSw); go_simp) <;> with_reducible rfl)
                try simp only [Act.put, List.setIfInBounds_toArray, List.set_cons_zero, List.set_cons_succ]
                refine wpAnyH_take (i := 11) (oi := ⟨_, _, _, _, _, _⟩) (v := ?_) rfl (by kernel_rfl) (by kernel_rfl) (by kernel_rfl) (fun _ _ _ h => h) (Or.inl ⟨by rfl, ?_⟩) hHeld ?_
                rotate_left
                · ((intro w hSw; (try dsimp only at hSw); go_simp) <;> with_reducible rfl)
                try simp only [Act.put, List.setIfInBounds_toArray, List.set_cons_zero, List.set_cons_succ]
                refine wpAnyH_take (i := 12) (oi := ⟨_, _, _, _, _, _⟩) (v := ?_) rfl (by kernel_rfl) (by kernel_rfl) (by kernel_rfl) (fun _ _ _ h => h) (Or.inl ⟨by rfl, ?_⟩) hHeld ?_
                rotate_left
                · ((intro w hSw; (try dsimp only at hSw); go_simp) <;> with_reducible rfl)
                try simp only [Act.put, List.setIfInBounds_toArray, List.set_cons_zero, List.set_cons_succ]
                refine wpAnyH_take (i := 13) (oi := ⟨_, _, _, _, _, _⟩) (v := ?_) rfl (by kernel_rfl) (by kernel_rfl) (by kernel_rfl) (fun _ _ _ h => h) (Or.inl ⟨by rfl, ?_⟩) hHeld ?_
                rotate_left
                · ((intro w hSw; (try dsimp only at hSw); go_simp) <;> with_reducible rfl)
                try simp only [Act.put, List.setIfInBounds_toArray, List.set_cons_zero, List.set_cons_succ]
                refine wpAnyH_take (i := 14) (oi := ⟨_, _, _, _, _, _⟩) (v := ?_) rfl (by kernel_rfl) (by kernel_rfl) (by kernel_rfl) (fun _ _ _ h => h) (Or.inl ⟨by rfl, ?_⟩) hHeld ?_
                rotate_left
                · ((intro w hSw; (try dsimp only at hSw); go_simp) <;> with_reducible rfl)
                try simp only [Act.put, List.setIfInBounds_toArray, List.set_cons_zero, List.set_cons_succ]
                refine wpAnyH_ready (rs := [15]) (by kernel_rfl) (by simp) ?_
                refine AllReadyH.cons (o := ⟨_, _, _, _, _, _⟩) rfl (fun K hK => ?_) ?_
                rotate_left
                · exact AllReadyH.nil
                go_simp
                go_at_call 36; ((with_reducible refine (CRJ.out _ HBD.out).mono ?_); rintro o y6 ⟨rfl, h⟩; have HB6 : Hid (Below wr.heap.size wr y6) := Lib.hid (HBD0.out.trans (h.mono HBD0.out.size)); have HI6 := Lib.hid (HI.out.below HB6.out); have HSA := Lib.hid (HCS.out y6 HI6.out.b); have HSB : Hid (∀ o, _) := Lib.hid (fun o => HCS.out (y6.alloc o) (HI6.out.b.alloc HI6.out.b.size o)); have HHD2 : Hid (∀ o, Held (y6.alloc o) 9 1 (.slice qa j d) j ((B.take j).map Value.string)) := Lib.hid (fun o => HI6.out.h.below ((Below.refl _ _).alloc (Nat.le_refl _) _)); clear h)
                refine hK.out _ _ (by first | exact HSC.out | exact HSB.out _ | exact HSA.out | exact HS0.out) (fun hHeld => ?_)
                clear hK K
                try simp only [Act.put, List.setIfInBounds_toArray, List.set_cons_zero, List.set_cons_succ]
                refine wpAnyH_ready (rs := [16]) (by kernel_rfl) (by simp) ?_
                refine AllReadyH.cons (o := ⟨_, _, _, _, _, _⟩) rfl (fun K hK => ?_) ?_
                rotate_left
                · exact AllReadyH.nil
                go_simp
                skip
                refine hK.out _ _ (by first | exact HSC.out | exact HSB.out _ | exact HSA.out | exact HS0.out) (fun hHeld => ?_)
                clear hK K
                try simp only [Act.put, List.setIfInBounds_toArray, List.set_cons_zero, List.set_cons_succ]
                refine wpAnyH_ready (rs := [17]) (by kernel_rfl) (by simp) ?_
                refine AllReadyH.cons (o := ⟨_, _, _, _, _, _⟩) rfl (fun K hK => ?_) ?_
                rotate_left
                · exact AllReadyH.nil
                refine step_grew (v := .slice qa j d) rfl (.tmp 74) (.tmp 90) rfl Tryz.underlying22 (.string ⟨#[]⟩) 1 info_strT rfl (by decide) [.string rr] 1 ⟨y6.heap.size, 0, none⟩ rfl rfl (HHD2.out _) rfl (by decide) cells_alloc HONE.out hl1 hl2 ?_
                intro v7 w7 hg7
                obtain ⟨p7, c7, rfl, _⟩ := hg7.held.cells
                have HI7 := Lib.hid (HI6.out.push hg7)
                have HSC := Lib.hid (HCS.out w7 HI7.out.b)
                clear hg7
                refine hK.out _ _ (by first | exact HSC.out | exact HSB.out _ | exact HSA.out | exact HS0.out) (fun hHeld => ?_)
                clear hK K
                try simp only [Act.put, List.setIfInBounds_toArray, List.set_cons_zero, List.set_cons_succ]
                refine wpAnyH_take (i := 18) (oi := ⟨_, _, _, _, _, _⟩) (v := ?_) rfl (by kernel_rfl) (by kernel_rfl) (by kernel_rfl) (fun _ _ _ h => h) (Or.inl ⟨by rfl, ?_⟩) hHeld ?_
                rotate_left
                · ((intro w hSw; (try dsimp only at hSw); go_simp) <;> with_reducible rfl)
                try simp only [Act.put, List.setIfInBounds_toArray, List.set_cons_zero, List.set_cons_succ]
                refine wpAnyH_done (by kernel_rfl) ?_ _
                go_wp2_with fail
                first
                  | exact ⟨⟨j + 1, p7, c7, congrArg (Value.int .i64) (by omega), rfl, by have := HLT.out; omega, Lib.hid (by rw [HBJ.out]; exact HI7.out)⟩, by have := HLT.out; show ns - ((j : Int) + 1).toNat < ns - (j : Int).toNat; omega⟩
                  | exact ⟨⟨j + 1, by omega, p7, c7, ⟨rfl, rfl, rfl⟩, by have := HLT.out; omega, Lib.hid (by rw [HBJ.out]; exact HI7.out)⟩, by have := HLT.out; show ns - ((j : Int) + 1).toNat < ns - (j : Int).toNat; omega⟩
              · obtain rfl : j = ns := by omega
                have hji : ¬ (j : Int) < (j : Int) := by omega
                have HTK : Hid (B.take j = B) := Lib.hid (List.take_of_length_le (by have := HBS.out.1; omega))
                rw [HTK.out] at HI
                obtain ⟨p8, hsl8, hp8⟩ := slice_mid6 (p := pl) (n := n) (c := cl) (b := mk) (i := m) (by have := HW.out; omega) (by have := HW.out; omega)
                have CRM : Hid (∀ w', Below w1.heap.size w1 w' → Calls Tryz.prog 36 #[.slice p8 (m - mk) (cl - mk)] w' fun o z => o = .returned (.string s2) ∧ Below w'.heap.size w' z) := Lib.hid (fun w' hb => by rw [HW.out.2.2.2.2.2.1]; exact CRS.out mk m w' p8 HW.out.2.2.1 (Nat.le_of_lt HW.out.2.2.2.1) (hp8 HW.out.2.2.1) hb)
                have HIQ : Hid (Below y5.heap.size y5 wr.drew) := Lib.hid HI.out.b.drew
                have HBQ : Hid (Below w1.heap.size w1 wr.drew) := Lib.hid (HB5.out.trans (HIQ.out.mono HB5.out.size))
                have HHS : Hid (Held wr.drew 62 3 (.slice p5 j c5) j (s6V S)) := Lib.hid (HI5.out.h.below HIQ.out)
                have HTO : Hid (∀ w', Below wr.drew.heap.size wr.drew w' → Txts w' (.slice qa j d) B) := Lib.hid (fun w' hb => held_txtsE ((HI.out.h.below (Below.refl _ _).drew).below hb) (by have := HBS.out.1; omega))
                have HS0 := Lib.hid (HFB5.out wr.drew HIQ.out)
                clear hlt hp8 hj HTK HBS CRS
                go_upto_region 24 with fail
                refine wp_region_held_drew (S := fun w' => w'.cell? ⟨bf, 0, none⟩ = some (.int .i64 (mk : Int)) ∧ w'.cell? ⟨bf, 1, none⟩ = some (.int .i64 (m : Int))) (by kernel_rfl) (by first | exact HSF.out | exact HSE.out | exact HSD.out | exact HSC.out | exact HSB.out | exact HSA.out | exact HS0.out) (fun hHeld => ?_)
                refine wpAnyH_take (i := 0) (oi := ⟨_, _, _, _, _, _⟩) (v := ?_) rfl (by kernel_rfl) (by kernel_rfl) (by kernel_rfl) (fun _ _ _ h => h) (Or.inl ⟨by rfl, ?_⟩) hHeld ?_
                rotate_left
                · ((intro w hSw; (try dsimp only at hSw); go_simp) <;> with_reducible rfl)
                try simp only [Act.put, List.setIfInBounds_toArray, List.set_cons_zero, List.set_cons_succ]
                refine wpAnyH_take (i := 1) (oi := ⟨_, _, _, _, _, _⟩) (v := ?_) rfl (by kernel_rfl) (by kernel_rfl) (by kernel_rfl) (fun _ _ _ h => h) (Or.inl ⟨by rfl, ?_⟩) hHeld ?_
                rotate_left
                · ((intro w hSw; (try dsimp only at hSw); go_simp) <;> with_reducible rfl)
                try simp only [Act.put, List.setIfInBounds_toArray, List.set_cons_zero, List.set_cons_succ]
                refine wpAnyH_take (i := 2) (oi := ⟨_, _, _, _, _, _⟩) (v := ?_) rfl (by kernel_rfl) (by kernel_rfl) (by kernel_rfl) (fun _ _ _ h => h) (Or.inl ⟨by rfl, ?_⟩) hHeld ?_
                rotate_left
                · ((intro w hSw; (try dsimp only at hSw); go_simp) <;> with_reducible rfl)
                try simp only [Act.put, List.setIfInBounds_toArray, List.set_cons_zero, List.set_cons_succ]
                refine wpAnyH_take (i := 4) (oi := ⟨_, _, _, _, _, _⟩) (v := ?_) rfl (by kernel_rfl) (by kernel_rfl) (by kernel_rfl) (fun _ _ _ h => h) (Or.inl ⟨by rfl, ?_⟩) hHeld ?_
                rotate_left
                · ((intro w hSw; (try dsimp only at hSw); go_simp) <;> with_reducible rfl)
                try simp only [Act.put, List.setIfInBounds_toArray, List.set_cons_zero, List.set_cons_succ]
                refine wpAnyH_take (i := 5) (oi := ⟨_, _, _, _, _, _⟩) (v := ?_) rfl (by kernel_rfl) (by kernel_rfl) (by kernel_rfl) (fun _ _ _ h => h) (Or.inl ⟨by rfl, ?_⟩) hHeld ?_
                rotate_left
                · ((intro w hSw; (try dsimp only at hSw); go_simp) <;> with_reducible rfl)
                try simp only [Act.put, List.setIfInBounds_toArray, List.set_cons_zero, List.set_cons_succ]
                refine wpAnyH_take (i := 6) (oi := ⟨_, _, _, _, _, _⟩) (v := ?_) rfl (by kernel_rfl) (by kernel_rfl) (by kernel_rfl) (fun _ _ _ h => h) (Or.inl ⟨by rfl, ?_⟩) hHeld ?_
                rotate_left
                · ((intro w hSw; (try dsimp only at hSw); go_simp) <;> with_reducible rfl)
                try simp only [Act.put, List.setIfInBounds_toArray, List.set_cons_zero, List.set_cons_succ]
                refine wpAnyH_take (i := 7) (oi := ⟨_, _, _, _, _, _⟩) (v := ?_) rfl (by kernel_rfl) (by kernel_rfl) (by kernel_rfl) (fun _ _ _ h => h) (Or.inl ⟨by rfl, ?_⟩) hHeld ?_
                rotate_left
                · ((intro w hSw; (try dsimp only at hSw); go_simp) <;> with_reducible rfl)
                try simp only [Act.put, List.setIfInBounds_toArray, List.set_cons_zero, List.set_cons_succ]
                refine wpAnyH_take (i := 8) (oi := ⟨_, _, _, _, _, _⟩) (v := ?_) rfl (by kernel_rfl) (by kernel_rfl) (by kernel_rfl) (fun _ _ _ h => h) (Or.inl ⟨by rfl, ?_⟩) hHeld ?_
                rotate_left
                · ((intro w hSw; (try dsimp only at hSw); go_simp) <;> with_reducible rfl)
                try simp only [Act.put, List.setIfInBounds_toArray, List.set_cons_zero, List.set_cons_succ]
                refine wpAnyH_take (i := 9) (oi := ⟨_, _, _, _, _, _⟩) (v := ?_) rfl (by kernel_rfl) (by kernel_rfl) (by kernel_rfl) (fun _ _ _ h => h) (Or.inl ⟨by rfl, ?_⟩) hHeld ?_
                rotate_left
                · ((intro w hSw; (try dsimp only at hSw); go_simp) <;> with_reducible rfl)
                try simp only [Act.put, List.setIfInBounds_toArray, List.set_cons_zero, List.set_cons_succ]
                refine wpAnyH_take (i := 10) (oi := ⟨_, _, _, _, _, _⟩) (v := ?_) rfl (by kernel_rfl) (by kernel_rfl) (by kernel_rfl) (fun _ _ _ h => h) (Or.inl ⟨by rfl, ?_⟩) hHeld ?_
                rotate_left
                · ((intro w hSw; (try dsimp only at hSw); go_simp) <;> with_reducible rfl)
                try simp only [Act.put, List.setIfInBounds_toArray, List.set_cons_zero, List.set_cons_succ]
                refine wpAnyH_take (i := 12) (oi := ⟨_, _, _, _, _, _⟩) (v := ?_) rfl (by kernel_rfl) (by kernel_rfl) (by kernel_rfl) (fun _ _ _ h => h) (Or.inl ⟨by rfl, ?_⟩) hHeld ?_
                rotate_left
                · ((intro w hSw; (try dsimp only at hSw); go_simp) <;> with_reducible rfl)
                try simp only [Act.put, List.setIfInBounds_toArray, List.set_cons_zero, List.set_cons_succ]
                refine wpAnyH_ready (rs := [3]) (by kernel_rfl) (by simp) ?_
                refine AllReadyH.cons (o := ⟨_, _, _, _, _, _⟩) rfl (fun K hK => ?_) ?_
                rotate_left
                · exact AllReadyH.nil
                go_simp
                go_at_call 30; ((with_reducible refine (CT1.out _ _ _ (HVB.out _ HBQ.out) HHS.out).mono ?_); rintro o z1 ⟨u1, rfl, h⟩; have HZ1 : Hid (Below y5.heap.size y5 z1) := Lib.hid (HIQ.out.trans (h.b.mono HIQ.out.size)); have HU1 := Lib.hid h.h; have HY1 := Lib.hid h.b; have HSA := Lib.hid (HFB5.out z1 HZ1.out); clear h)
                refine hK.out _ _ (by first | exact HSF.out | exact HSE.out | exact HSD.out | exact HSC.out | exact HSB.out | exact HSA.out | exact HS0.out) (fun hHeld => ?_)
                clear hK K
                try simp only [Act.put, List.setIfInBounds_toArray, List.set_cons_zero, List.set_cons_succ]
                refine wpAnyH_ready (rs := [11]) (by kernel_rfl) (by simp) ?_
                refine AllReadyH.cons (o := ⟨_, _, _, _, _, _⟩) rfl (fun K hK => ?_) ?_
                rotate_left
                · exact AllReadyH.nil
                go_simp
                go_at_call 36; ((with_reducible refine (CRM.out _ (HB5.out.trans (HZ1.out.mono HB5.out.size))).mono ?_); rintro o z2 ⟨rfl, h⟩; have HZ2 : Hid (Below y5.heap.size y5 z2) := Lib.hid (HZ1.out.trans (h.mono HZ1.out.size)); have HU2 := Lib.hid (HU1.out.below h); have HSB := Lib.hid (HFB5.out z2 HZ2.out); have HHS2 := Lib.hid (HI5.out.h.below HZ2.out); have HTO2 := Lib.hid (HTO.out z2 (HY1.out.trans (h.mono HY1.out.size))); clear h)
                refine hK.out _ _ (by first | exact HSF.out | exact HSE.out | exact HSD.out | exact HSC.out | exact HSB.out | exact HSA.out | exact HS0.out) (fun hHeld => ?_)
                clear hK K
                try simp only [Act.put, List.setIfInBounds_toArray, List.set_cons_zero, List.set_cons_succ]
                refine wpAnyH_ready (rs := [13]) (by kernel_rfl) (by simp) ?_
                refine AllReadyH.cons (o := ⟨_, _, _, _, _, _⟩) rfl (fun K hK => ?_) ?_
                rotate_left
                · exact AllReadyH.nil
                go_simp
                go_at_call 30; ((with_reducible refine (CT2.out _ _ _ HTO2.out HHS2.out).mono ?_); rintro o z3 ⟨u3, rfl, h⟩; have HZ3 : Hid (Below y5.heap.size y5 z3) := Lib.hid (HZ2.out.trans (h.b.mono HZ2.out.size)); have HU3 := Lib.hid (HU2.out.below h.b); have HM3 := Lib.hid h.h; have HSC := Lib.hid (HFB5.out z3 HZ3.out); clear h)
                refine hK.out _ _ (by first | exact HSF.out | exact HSE.out | exact HSD.out | exact HSC.out | exact HSB.out | exact HSA.out | exact HS0.out) (fun hHeld => ?_)
                clear hK K
                try simp only [Act.put, List.setIfInBounds_toArray, List.set_cons_zero, List.set_cons_succ]
                refine wpAnyH_ready (rs := [14]) (by kernel_rfl) (by simp) ?_
                refine AllReadyH.cons (o := ⟨_, _, _, _, _, _⟩) rfl (fun K hK => ?_) ?_
                rotate_left
                · exact AllReadyH.nil
                go_simp
                go_at_call 29; ((with_reducible refine (CHI.out _ _ _ HU3.out HM3.out).mono ?_); rintro o z4 ⟨rfl, h⟩; have HZ4 : Hid (Below y5.heap.size y5 z4) := Lib.hid (HZ3.out.trans (h.mono HZ3.out.size)); have HSD := Lib.hid (HFB5.out z4 HZ4.out); have hx := HX.out _ (HB5.out.trans (HZ4.out.mono HB5.out.size)); have k0 : z4.cell? ⟨bp, 0, none⟩ = some (.string ⟨#[]⟩) := cellB hx rfl; have k1 : z4.cell? ⟨bp, 1, none⟩ = some (.string ⟨#[]⟩) := cellB hx rfl; have f0 : z4.frozen? ⟨bp, 0, none⟩ = false := frozB hx; have f1 : z4.frozen? ⟨bp, 1, none⟩ = false := frozB hx; have HX6 := Lib.hid (blk_set2 (x := .string p) (y := .string q) hx); have HSE := Lib.hid (set_other6 HBF.out (.string p) (.string q) HSD.out); clear h hx)
                refine hK.out _ _ (by first | exact HSF.out | exact HSE.out | exact HSD.out | exact HSC.out | exact HSB.out | exact HSA.out | exact HS0.out) (fun hHeld => ?_)
                clear hK K
                try simp only [Act.put, List.setIfInBounds_toArray, List.set_cons_zero, List.set_cons_succ]
                refine wpAnyH_take (i := 15) (oi := ⟨_, _, _, _, _, _⟩) (v := ?_) rfl (by kernel_rfl) (by kernel_rfl) (by kernel_rfl) (fun _ _ _ h => h) (Or.inl ⟨by rfl, ?_⟩) hHeld ?_
                rotate_left
                · ((intro w hSw; (try dsimp only at hSw); go_simp) <;> with_reducible rfl)
                try simp only [Act.put, List.setIfInBounds_toArray, List.set_cons_zero, List.set_cons_succ]
                refine wpAnyH_take (i := 16) (oi := ⟨_, _, _, _, _, _⟩) (v := ?_) rfl (by kernel_rfl) (by kernel_rfl) (by kernel_rfl) (fun _ _ _ h => h) (Or.inl ⟨by rfl, ?_⟩) hHeld ?_
                rotate_left
                · ((intro w hSw; (try dsimp only at hSw); go_simp) <;> with_reducible rfl)
                try simp only [Act.put, List.setIfInBounds_toArray, List.set_cons_zero, List.set_cons_succ]
                refine wpAnyH_ready (rs := [17]) (by kernel_rfl) (by simp) ?_
                refine AllReadyH.cons (o := ⟨_, _, _, _, _, _⟩) rfl (fun K hK => ?_) ?_
                rotate_left
                · exact AllReadyH.nil
                go_simp
                skip
                refine hK.out _ _ (by first | exact HSF.out | exact HSE.out | exact HSD.out | exact HSC.out | exact HSB.out | exact HSA.out | exact HS0.out) (fun hHeld => ?_)
                clear hK K
                try simp only [Act.put, List.setIfInBounds_toArray, List.set_cons_zero, List.set_cons_succ]
                refine wpAnyH_take (i := 18) (oi := ⟨_, _, _, _, _, _⟩) (v := ?_) rfl (by kernel_rfl) (by kernel_rfl) (by kernel_rfl) (fun _ _ _ h => h) (Or.inl ⟨by rfl, ?_⟩) hHeld ?_
                rotate_left
                · ((intro w hSw; (try dsimp only at hSw); go_simp) <;> with_reducible rfl)
                try simp only [Act.put, List.setIfInBounds_toArray, List.set_cons_zero, List.set_cons_succ]
                refine wpAnyH_done (by kernel_rfl) ?_ _
                go_wp2_with fail
                have m0 := cellB (k := 0) HX6.out rfl
                have m1 := cellB (k := 1) HX6.out rfl
                refine bodyPost_ret (v := .tuple #[.agg #[.string p, .string q], .int .i64 0]) (by simp [results, Tryz.results12, go_sem, m0, m1]) rfl ?_
                exact pair_end6 HF.out.1 (HB5.out.trans (HZ4.out.mono HB5.out.size)) HF.out.2.1 rfl
end Go.Proofs.YtdbghgpohdijfaaGreatDoor
