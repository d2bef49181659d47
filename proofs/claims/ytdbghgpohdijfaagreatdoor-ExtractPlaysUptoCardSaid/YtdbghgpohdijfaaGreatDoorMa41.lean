/- extract.Inclusion, Consistency with a pair: which (printed by gen_ew1.py). -/
import Derived.Test.YtdbghgpohdijfaaGreatDoorMa40
namespace Go.Proofs.YtdbghgpohdijfaaGreatDoor
open Go.RowKit Go.Scr Go.ChangeMaps Go.MapKept
set_option linter.unusedVariables false
set_option maxRecDepth 100000 in
set_option maxHeartbeats 4000000 in
theorem incl_pairQ {w : World} {s i : Int} {root leaf other : ByteArray} {vp vq : Value} {P Q : List ByteArray} (ht : Tabs w) (hvp : Txts w vp P) (hvq : Txts w vq Q) (hlp : P.length ≤ 1048576) (hlq : Q.length ≤ 1048576)
    (h1 : inclS s i leaf P root = 0) (h2 : inclS s i other Q root = 0) (hne : leaf ≠ other ∨ P ≠ Q) :
    Calls Tryz.prog 6 #[.int .i64 s, .int .i64 i, .string root, .string leaf, vp, .string other, vq] w (PairQ (fun p q => hiR (textsF ((dn s.toNat i.toNat).zip P) leaf) (textsF ((dn s.toNat i.toNat).zip Q) other) = some (p, q)) w) := by
  obtain ⟨w1, hw1⟩ : ∃ x, x = w.alloc (.cells #[.string ⟨#[]⟩, .string ⟨#[]⟩] 26) := ⟨_, rfl⟩
  obtain ⟨x0, x1⟩ := one_blockE w #[.string ⟨#[]⟩, .string ⟨#[]⟩] 26
  rw [← hw1] at x0 x1
  obtain ⟨bp, hbp⟩ : ∃ x, x = w.heap.size := ⟨_, rfl⟩
  rw [← hbp] at x0
  have CI1 : Hid (∀ w', Below w1.heap.size w1 w' → Calls Tryz.prog 19 #[.int .i64 s, .int .i64 i, .string leaf, vp, .string root] w' fun o z => o = .returned (.int .i64 0) ∧ Below w'.heap.size w' z) := Lib.hid (fun w' hb => by
    have := inclusion_any s i leaf vp P root w' ((ht.below x1).below hb) ((hvp.below x1 (Nat.le_refl _)).below hb (Nat.le_refl _)) hlp
    rwa [h1] at this)
  have CI2 : Hid (∀ w', Below w1.heap.size w1 w' → Calls Tryz.prog 19 #[.int .i64 s, .int .i64 i, .string other, vq, .string root] w' fun o z => o = .returned (.int .i64 0) ∧ Below w'.heap.size w' z) := Lib.hid (fun w' hb => by
    have := inclusion_any s i other vq Q root w' ((ht.below x1).below hb) ((hvq.below x1 (Nat.le_refl _)).below hb (Nat.le_refl _)) hlq
    rwa [h2] at this)
  have CE : Hid (P ≠ Q → ∀ w', Below w1.heap.size w1 w' → Calls Tryz.prog 20 #[vp, vq] w' fun o z => o = .returned (.bool false) ∧ Below w'.heap.size w' z) := Lib.hid (fun hPQ w' hb => by
    have := sameQ_any vp vq P Q w' ((hvp.below x1 (Nat.le_refl _)).below hb (Nat.le_refl _)) ((hvq.below x1 (Nat.le_refl _)).below hb (Nat.le_refl _)) hlp hlq
    rwa [show decide (P = Q) = false from decide_eq_false hPQ] at this)
  obtain ⟨n, m, rfl, rfl, hmn, hn40, hl32, hp32, hpl, hpc⟩ := inclS_ok h1
  obtain ⟨n', m', e1, e2, _, _, ho32, hq32, hql, hqc⟩ := inclS_ok h2
  obtain rfl : n = n' := by exact_mod_cast e1
  obtain rfl : m = m' := by exact_mod_cast e2
  rw [Int.toNat_natCast, Int.toNat_natCast]
  obtain ⟨l, hl⟩ : ∃ l, l = n - 1 := ⟨_, rfl⟩
  have hli : (n : Int) - 1 = (l : Int) := by omega
  have hD : stepL m l = dn n m := by rw [hl]; exact stepL_dn n m hmn
  have hDl : (dn n m).length = P.length := hpl.symm
  have hDq : (dn n m).length = Q.length := hql.symm
  have HTW : Hid (TwoW (textsF ((dn n m).zip P) leaf) (textsF ((dn n m).zip Q) other)) := Lib.hid (two_ways hDl hDq hp32 hq32 hl32 ho32 hlp (by
    rw [← climbF_end _ _ _ hDl hp32 hl32, ← climbF_end _ _ _ hDq hq32 ho32, hpc, hqc]) hne)
  have CC : ∀ (L : List ByteArray) (v : Value), Txts w v L → L.length ≤ 1048576 → (dn n m).length = L.length → Hid (∀ w', Below w1.heap.size w1 w' → Calls Tryz.prog 22 #[.int .i64 (m : Int), .int .i64 (l : Int), v] w' fun o z => ∃ v', o = .returned v' ∧ StI w' z v' L.length ((dn n m).zip L)) := fun L v hv hL hd => Lib.hid (fun w' hb => by
    have := climb_any m l L v w' (by omega) (by omega) ((hv.below x1 (Nat.le_refl _)).below hb (Nat.le_refl _)) hL
    rwa [flagsC_all (by rw [hD]; exact hd), hD] at this)
  have CT : ∀ (L : List ByteArray) (r : ByteArray), L.length ≤ 1048576 → (dn n m).length = L.length → (∀ p ∈ L, p.size = 32) → r.size = 32 → Hid (∀ w' v', Below w1.heap.size w1 w' → Held w' 73 2 v' L.length (stV ((dn n m).zip L)) → Calls Tryz.prog 21 #[.string r, v'] w' fun o z => ∃ v'', o = .returned v'' ∧ LfI w' z v'' L.length (textsF ((dn n m).zip L) r)) := fun L r hL hd h32 hr => Lib.hid (fun w' v' hb hh => by
    have hz : ((dn n m).zip L).length = L.length := by rw [List.length_zip]; omega
    have := texts_any r ((dn n m).zip L) v' w' ((ht.below x1).below hb) (by rw [hz]; exact hh) (fun x hx => h32 _ (List.of_mem_zip (a := x.1) (b := x.2) hx).2) hr (by rw [hz]; exact hL)
    rwa [hz] at this)
  have CC1 := CC P vp hvp hlp hDl
  have CC2 := CC Q vq hvq hlq hDq
  have CT1 := CT P leaf hlp hDl hp32 hl32
  have CT2 := CT Q other hlq hDq hq32 ho32
  obtain ⟨F1, hF1⟩ : ∃ F, F = (dn n m).zip P := ⟨_, rfl⟩
  obtain ⟨F2, hF2⟩ : ∃ F, F = (dn n m).zip Q := ⟨_, rfl⟩
  rw [← hF1] at CC1 CT1 HTW ⊢
  rw [← hF2] at CC2 CT2 HTW ⊢
  obtain ⟨TA, hTA⟩ : ∃ F, F = textsF F1 leaf := ⟨_, rfl⟩
  obtain ⟨TB, hTB⟩ : ∃ F, F = textsF F2 other := ⟨_, rfl⟩
  have hla : TA.length = P.length := by rw [hTA, hF1, textsF_len, List.length_zip]; omega
  have hlb : TB.length = Q.length := by rw [hTB, hF2, textsF_len, List.length_zip]; omega
  rw [← hTA] at CT1 HTW ⊢
  rw [← hTB] at CT2 HTW ⊢
  have HLN : Hid (TA.length = P.length ∧ TB.length = Q.length) := Lib.hid ⟨hla, hlb⟩
  have HX : Hid (∀ w', Below w1.heap.size w1 w' → w'.heap[bp]? = some (.cells #[.string ⟨#[]⟩, .string ⟨#[]⟩] 26 (0, 0))) := Lib.hid (fun w' hb => blk_below x0 hb (blk_lt x0))
  have HF : Hid (Below w.heap.size w w1 ∧ w.heap.size ≤ bp) := Lib.hid ⟨x1, by omega⟩
  have HW1 := Lib.hid hw1
  have HBP := Lib.hid hbp
  have HNE : Hid (leaf ≠ other ∨ P ≠ Q) := Lib.hid hne
  obtain ⟨pp, cp, rfl, _⟩ := hvp
  obtain ⟨pq, cq, rfl, _⟩ := hvq
  obtain ⟨np, hnp⟩ : ∃ x, x = P.length := ⟨_, rfl⟩
  have hnq : Q.length = np := by omega
  rw [hnq] at CI2 CE CC2 CT2 HLN ⊢
  rw [← hnp] at CI1 CE CC1 CT1 HLN ⊢
  clear ht hlp hlq hw1 x0 x1 hbp h1 h2 hne e1 e2 hl hD hDl hDq hpl hpc hql hqc hl32 ho32 hp32 hq32 CC CT hF1 hF2 hTA hTB hla hlb hnp hnq hmn
  have hn1 : n ≤ 1099511627776 := hn40
  go_enter Tryz.func6, Tryz.ntmps6
  go_upto_block 0 with fail
  rw [← HW1.out, ← HBP.out]
  go_cut [] from 18 to 45 (fun wx => Hid (Below w1.heap.size w1 wx))
  case first =>
    by_cases hlo : leaf = other
    · subst hlo
      have e1 : (leaf.toList == leaf.toList) = true := by simp
      have CE2 := Lib.hid (CE.out (HNE.out.resolve_left (fun h => h rfl)))
      go_wp2_with (first
        | (go_at_call 19; (with_reducible refine (CI1.out _ (Below.refl _ _)).mono ?_); rintro o x1 ⟨rfl, h⟩; have HB1 : Hid (Below w1.heap.size w1 x1) := Lib.hid h; clear h CI1)
        | (go_at_call 19; (with_reducible refine (CI2.out _ HB1.out).mono ?_); rintro o x2 ⟨rfl, h⟩; have HB2 : Hid (Below w1.heap.size w1 x2) := Lib.hid (HB1.out.trans (h.mono HB1.out.size)); clear h)
        | (go_at_call 20; (with_reducible refine (CE2.out _ HB2.out).mono ?_); rintro o x3 ⟨rfl, h⟩; have HB3 : Hid (Below w1.heap.size w1 x3) := Lib.hid (HB2.out.trans (h.mono HB2.out.size)); clear h))
      go_meet
      exact HB3
    · have e1 : (leaf.toList == other.toList) = false := textQ_ne hlo
      clear hlo
      go_wp2_with (first
        | (go_at_call 19; (with_reducible refine (CI1.out _ (Below.refl _ _)).mono ?_); rintro o x1 ⟨rfl, h⟩; have HB1 : Hid (Below w1.heap.size w1 x1) := Lib.hid h; clear h CI1)
        | (go_at_call 19; (with_reducible refine (CI2.out _ HB1.out).mono ?_); rintro o x2 ⟨rfl, h⟩; have HB2 : Hid (Below w1.heap.size w1 x2) := Lib.hid (HB1.out.trans (h.mono HB1.out.size)); clear h))
      go_meet
      exact HB2
  case rest =>
    have HBX := Lib.hid hcut.out
    clear hcut CI1 CI2 CE
    go_upto_region 6 with (first
      | (go_at_call 22; (with_reducible refine (CC1.out _ HBX.out).mono ?_); rintro o z1 ⟨v1, rfl, h⟩; have HS1 := Lib.hid h; have HBZ1 : Hid (Below w1.heap.size w1 z1) := Lib.hid (HBX.out.trans (h.b.mono HBX.out.size)); clear h)
      | (go_at_call 21; (with_reducible refine (CT1.out z1 v1 HBZ1.out HS1.out.h).mono ?_); rintro o z2 ⟨_, rfl, h⟩; obtain ⟨pA, cA, rfl, _⟩ := h.h.cells; have HA2 := Lib.hid h; have HBZ2 : Hid (Below w1.heap.size w1 z2) := Lib.hid (HBZ1.out.trans (h.b.mono HBZ1.out.size)); clear h))
    obtain ⟨z3, hz3⟩ : ∃ x, x = z2.alloc (.cells #[(.slice pA np cA)] 22) := ⟨_, rfl⟩
    obtain ⟨ba, hba⟩ : ∃ x, x = z2.heap.size := ⟨_, rfl⟩
    obtain ⟨y0, y1⟩ := one_blockE z2 #[(.slice pA np cA)] 22
    rw [← hz3] at y0 y1 ⊢
    rw [← hba] at y0 ⊢
    have HA3 := Lib.hid (HA2.out.below y1)
    have HY0 := Lib.hid y0
    have HBZ3 : Hid (Below w1.heap.size w1 z3) := Lib.hid (HBZ2.out.trans (y1.mono HBZ2.out.size))
    clear hz3 hba y0 y1 HA2 HBZ2 HS1 HBZ1
    go_upto_region 7 with (first
      | (go_at_call 22; (with_reducible refine (CC2.out _ HBZ3.out).mono ?_); rintro o z4 ⟨v2, rfl, h⟩; have HS4 := Lib.hid h; have HBZ4 : Hid (Below w1.heap.size w1 z4) := Lib.hid (HBZ3.out.trans (h.b.mono HBZ3.out.size)); clear h)
      | (go_at_call 21; (with_reducible refine (CT2.out z4 v2 HBZ4.out HS4.out.h).mono ?_); rintro o z5 ⟨_, rfl, h⟩; obtain ⟨pB, cB, rfl, _⟩ := h.h.cells; have HA5 := Lib.hid h; have HBZ5 : Hid (Below w1.heap.size w1 z5) := Lib.hid (HBZ4.out.trans (h.b.mono HBZ4.out.size)); have H35 : Hid (Below z3.heap.size z3 z5) := Lib.hid (HS4.out.b.trans (h.b.mono HS4.out.b.size)); clear h))
    obtain ⟨z6, hz6⟩ : ∃ x, x = z5.alloc (.cells #[(.slice pB np cB)] 22) := ⟨_, rfl⟩
    obtain ⟨bb, hbb⟩ : ∃ x, x = z5.heap.size := ⟨_, rfl⟩
    obtain ⟨y0, y1⟩ := one_blockE z5 #[(.slice pB np cB)] 22
    rw [← hz6] at y0 y1 ⊢
    rw [← hbb] at y0 ⊢
    have HB6 := Lib.hid (HA5.out.below y1)
    have HBZ6 : Hid (Below w1.heap.size w1 z6) := Lib.hid (HBZ5.out.trans (y1.mono HBZ5.out.size))
    have H36 : Hid (Below z3.heap.size z3 z6) := Lib.hid (H35.out.trans (y1.mono H35.out.size))
    have HA6 := Lib.hid (HA3.out.below H36.out)
    have HY6 := Lib.hid (blk_below HY0.out H36.out (blk_lt HY0.out))
    have HY1 := Lib.hid y0
    clear hz6 hbb y0 y1 HA5 HBZ5 H35 HA3 HBZ4 HS4 HY0
    have CG := Lib.hid (caughtIq_any (fun p q => hiR TA TB = some (p, q)) ba bb z6 (Lib.hid (fun w' hb => closIq_any (va := (.slice pA np cA)) (vb := (.slice pB np cB)) (A := TA) (B := TB) (cellB (blk_below HY6.out hb (blk_lt HY6.out)) rfl) (cellB (blk_below HY1.out hb (blk_lt HY1.out)) rfl)
      (by have := (HA6.out.below hb).h; rw [HLN.out.1]; exact this) (by have := (HB6.out.below hb).h; rw [HLN.out.2]; exact this) HTW.out)))
    have hmf : ∀ (fn : Fn) (first cap : Array Value) (w : World), (Instr.makeFunc fn first cap).run Tryz.prog w = .ok (.func fn first cap) w := fun _ _ _ _ => rfl
    have HXP := Lib.hid (HX.out z6 HBZ6.out)
    have HBC : Hid (Below w.heap.size w z6) := Lib.hid (HF.out.1.trans (HBZ6.out.mono HF.out.1.size))
    have HBPW : Hid (w.heap.size ≤ bp) := Lib.hid HF.out.2
    go_wp2_with (go_at_call 23; (with_reducible refine CG.out.mono ?_); rintro o z ⟨p, q, rfl, hpq, hb⟩; have HZ := Lib.hid (And.intro hpq hb); have hxz := blk_below HXP.out hb (blk_lt HXP.out); have HXZ := Lib.hid hxz; have k0 : z.cell? ⟨bp, 0, none⟩ = some (.string ⟨#[]⟩) := cellB hxz rfl; have k1 : z.cell? ⟨bp, 1, none⟩ = some (.string ⟨#[]⟩) := cellB hxz rfl; have f0 : z.frozen? ⟨bp, 0, none⟩ = false := frozB hxz; have f1 : z.frozen? ⟨bp, 1, none⟩ = false := frozB hxz; clear hpq hb hxz)
    have hx6 := blk_set2 (x := .string p) (y := .string q) HXZ.out
    have m0 := cellB (k := 0) hx6 rfl
    have m1 := cellB (k := 1) hx6 rfl
    refine bodyPost_ret (v := .tuple #[.agg #[.string p, .string q], .int .i64 0]) (by simp [results, Tryz.results6, go_sem, m0, m1]) rfl ?_
    have hb2 := HBC.out.trans (HZ.out.2.mono HBC.out.size)
    exact ⟨p, q, rfl, HZ.out.1, (hb2.setCell (p := ⟨bp, 0, none⟩) HBPW.out _).setCell (p := ⟨bp, 1, none⟩) HBPW.out _⟩
set_option maxRecDepth 100000 in
set_option maxHeartbeats 8000000 in
theorem cons_pairQ {w : World} {f : Nat} {old : ByteArray} {vl vp : Value} {L P : List ByteArray} (ht : Tabs w) (hvl : Txts w vl L) (hvp : Txts w vp P) (hl4 : L.length ≤ 4096) (h32 : ∀ s ∈ L, s.size = 32) (hlp : P.length ≤ 1048576) (hf1 : 1 ≤ f) (hfl : f ≤ L.length)
    (h : consS f L.length old (rootR L) P = 0) (ho : old ≠ rootR (L.take f)) :
    Calls Tryz.prog 11 #[vl, .int .i64 (f : Int), .string old, vp] w (PairQ (fun p q => hiR (textsF ((fl f L.length).zip (restL (wh f L.length true) P)) (seedL (wh f L.length true) old P)) (textsF ((fl f L.length).zip (restL (wh f L.length true) (proofR f L true))) (seedL (wh f L.length true) (rootR (L.take f)) (proofR f L true))) = some (p, q)) w) := by
  obtain ⟨pr1, pr2, _⟩ := proof_okE h32 hf1 hfl hl4
  have TC := cons_ways h32 hl4 hf1 hfl h ho
  have hstrip := strip_fl L.length f hf1 TC.mn
  obtain ⟨w1, hw1⟩ : ∃ x, x = w.alloc (.cells #[.string ⟨#[]⟩, .string ⟨#[]⟩] 26) := ⟨_, rfl⟩
  obtain ⟨x0, x1⟩ := one_blockE w #[.string ⟨#[]⟩, .string ⟨#[]⟩] 26
  rw [← hw1] at x0 x1
  obtain ⟨bp, hbp⟩ : ∃ x, x = w.heap.size := ⟨_, rfl⟩
  rw [← hbp] at x0
  obtain ⟨n, hn⟩ : ∃ n, n = L.length := ⟨_, rfl⟩
  have hok : ok32 L = true := all32_ofE h32
  have CH : Hid (∀ w', Below w1.heap.size w1 w' → Calls Tryz.prog 31 #[vl] w' fun o z => o = .returned (.bool true) ∧ z = w') := Lib.hid (fun w' hb => by
    have := ehashes_any vl L w' ((hvl.below x1 (Nat.le_refl _)).below hb (Nat.le_refl _))
    rwa [hok] at this)
  obtain ⟨r, hr⟩ : ∃ r, r = rootR L := ⟨_, rfl⟩
  obtain ⟨own0, hown⟩ : ∃ r, r = rootR (L.take f) := ⟨_, rfl⟩
  have CR : Hid (∀ w', Below w1.heap.size w1 w' → Calls Tryz.prog 32 #[vl] w' fun o z => o = .returned (.string r) ∧ Below w'.heap.size w' z) := Lib.hid (fun w' hb => by
    have := eroot_any _ _ w' ((ht.below x1).below hb) ((hvl.below x1 (Nat.le_refl _)).below hb (Nat.le_refl _))
    rwa [rootT_R h32 hl4, ← hr] at this)
  have CC : Hid (∀ w', Below w1.heap.size w1 w' → Calls Tryz.prog 39 #[.int .i64 (f : Int), .int .i64 (n : Int), .string old, .string r, vp] w' fun o z => o = .returned (.int .i64 0) ∧ Below w'.heap.size w' z) := Lib.hid (fun w' hb => by
    have := consistency_any (f : Int) (L.length : Int) old (rootR L) vp P w' ((ht.below x1).below hb) ((hvp.below x1 (Nat.le_refl _)).below hb (Nat.le_refl _)) hlp
    rwa [h, ← hn, ← hr] at this)
  obtain ⟨pl, cl, rfl⟩ : ∃ p c, vl = .slice p n c := by obtain ⟨p, c, h, _⟩ := hvl; exact ⟨p, c, by rw [h, hn]⟩
  have hncl : n ≤ cl := by
    obtain ⟨p, c, h, h2, _⟩ := hvl
    injection h with e1 e2 e3
    omega
  have CR2 : Hid (∀ w', Below w1.heap.size w1 w' → Calls Tryz.prog 32 #[.slice pl f cl] w' fun o z => o = .returned (.string own0) ∧ Below w'.heap.size w' z) := Lib.hid (fun w' hb => by
    have := eroot_any _ _ w' ((ht.below x1).below hb) (((hvl.below x1 (Nat.le_refl _)).below hb (Nat.le_refl _)).cutC (k := f) (by omega))
    rwa [rootT_R (fun s hs => h32 s (List.mem_of_mem_take hs)) (by rw [List.length_take]; omega), ← hown] at this)
  have HX : Hid (∀ w', Below w1.heap.size w1 w' → w'.heap[bp]? = some (.cells #[.string ⟨#[]⟩, .string ⟨#[]⟩] 26 (0, 0))) := Lib.hid (fun w' hb => blk_below x0 hb (blk_lt x0))
  have HF : Hid (Below w.heap.size w w1 ∧ w.heap.size ≤ bp) := Lib.hid ⟨x1, by omega⟩
  have HW1 := Lib.hid hw1
  have HBP := Lib.hid hbp
  obtain ⟨R, hR⟩ : ∃ R, R = proofR f L true := ⟨_, rfl⟩
  obtain ⟨nr, hnr⟩ : ∃ x, x = R.length := ⟨_, rfl⟩
  have CP : Hid (∀ w', Below w1.heap.size w1 w' → Calls Tryz.prog 18 #[.slice pl n cl, .int .i64 (f : Int)] w' fun o z => ∃ p d, o = .returned (.tuple #[.slice p nr d, .int .i64 0]) ∧ Txts z (.slice p nr d) R ∧ Below w'.heap.size w' z) := Lib.hid (fun w' hb => by
    refine (Proof_any _ L (f : Int) w' ((ht.below x1).below hb) ((hvl.below x1 (Nat.le_refl _)).below hb (Nat.le_refl _))).mono ?_
    rintro e z ⟨x, rfl, ho2, hbe⟩
    rw [pr2, ← hR, ← hnr] at ho2
    obtain ⟨p, d, rfl, _⟩ := (held_of_owns ho2).cells
    have hrl : R.length ≤ 4194304 := by rw [hR]; exact Nat.le_trans (proofR_len true hf1 hfl) (by omega)
    exact ⟨p, d, by rw [pr1], held_txtsE (held_of_owns ho2) hrl, hbe⟩)
  have hone : wh f L.length true = false → 1 ≤ P.length ∧ 1 ≤ R.length := by
    intro hw
    obtain ⟨m', e1, _, _, _, _, _, hpl, _⟩ := consS_ok h
    obtain rfl : f = m' := by exact_mod_cast e1
    obtain ⟨m2, e2, _, _, _, _, _, hql, _⟩ := consS_ok (proof_okE h32 hf1 hfl hl4).2.2
    obtain rfl : f = m2 := by exact_mod_cast e2
    unfold toldN at hpl hql
    rw [hw] at hpl hql
    rw [hR]
    simp at hpl hql
    omega
  rw [← hown, ← hR, ← hn] at TC ⊢
  rw [← hn] at hone
  obtain ⟨X, hX⟩ : ∃ x, x = (strip (f - 1) (L.length - 1)).1 := ⟨_, rfl⟩
  obtain ⟨Y, hY⟩ : ∃ x, x = (strip (f - 1) (L.length - 1)).2 := ⟨_, rfl⟩
  rw [← hX, ← hY, ← hn] at hstrip
  obtain ⟨b, hb⟩ : ∃ b, b = wh f n true := ⟨_, rfl⟩
  rw [← hb] at TC hstrip hone ⊢
  obtain ⟨D, hD⟩ : ∃ b, b = fl f n := ⟨_, rfl⟩
  have hDD := hstrip.1
  rw [← hD] at hDD ⊢
  obtain ⟨fr, hfr⟩ : ∃ x, x = seedL b old P := ⟨_, rfl⟩
  obtain ⟨ow, how⟩ : ∃ x, x = seedL b own0 R := ⟨_, rfl⟩
  obtain ⟨P1, hP1⟩ : ∃ x, x = restL b P := ⟨_, rfl⟩
  obtain ⟨R1, hR1⟩ : ∃ x, x = restL b R := ⟨_, rfl⟩
  rw [← hfr, ← how, ← hP1, ← hR1] at TC ⊢
  obtain ⟨k, hk⟩ : ∃ x, x = P1.length := ⟨_, rfl⟩
  have tdp := TC.dp
  have tdr := TC.dr
  have tp := TC.p
  have tr := TC.r
  have tf := TC.f
  have to_ := TC.o
  have te := TC.e
  have tne := TC.ne
  rw [← hD] at tdp tdr te
  have hkr : R1.length = k := by omega
  have hkp : P1.length ≤ P.length := by rw [hP1]; unfold restL; split; exact Nat.le_refl _; rw [List.length_drop]; omega
  have hXf : X ≤ f - 1 ∧ Y ≤ L.length - 1 := by rw [hX, hY]; exact strip_le _ _
  have HTW : Hid (TwoW (textsF (D.zip P1) fr) (textsF (D.zip R1) ow)) := Lib.hid (two_ways tdp tdr tp tr tf to_ (by omega) te tne)
  have CC' : ∀ (M : List ByteArray), M.length ≤ 1048576 → D.length = M.length → Hid (∀ w' v, Below w1.heap.size w1 w' → Txts w' v M → Calls Tryz.prog 22 #[.int .i64 (X : Int), .int .i64 (Y : Int), v] w' fun o z => ∃ v', o = .returned v' ∧ StI w' z v' M.length (D.zip M)) := fun M hM hd => Lib.hid (fun w' v hb hv => by
    have := climb_any X Y M v w' (by omega) (by omega) hv hM
    rwa [flagsC_all (by rw [hDD]; exact hd), hDD] at this)
  have CT : ∀ (M : List ByteArray) (r : ByteArray), M.length ≤ 1048576 → D.length = M.length → (∀ p ∈ M, p.size = 32) → r.size = 32 → Hid (∀ w' v', Below w1.heap.size w1 w' → Held w' 73 2 v' M.length (stV (D.zip M)) → Calls Tryz.prog 21 #[.string r, v'] w' fun o z => ∃ v'', o = .returned v'' ∧ LfI w' z v'' M.length (textsF (D.zip M) r)) := fun M r hM hd h32 hr => Lib.hid (fun w' v' hb hh => by
    have hz : (D.zip M).length = M.length := by rw [List.length_zip]; omega
    have := texts_any r (D.zip M) v' w' ((ht.below x1).below hb) (by rw [hz]; exact hh) (fun x hx => h32 _ (List.of_mem_zip (a := x.1) (b := x.2) hx).2) hr (by rw [hz]; exact hM)
    rwa [hz] at this)
  have CC1 := CC' P1 (by omega) tdp
  have CC2 := CC' R1 (by omega) tdr
  have CT1 := CT P1 fr (by omega) tdp tp tf
  have CT2 := CT R1 ow (by omega) tdr tr to_
  rw [← hk] at CC1 CT1
  rw [hkr] at CC2 CT2
  obtain ⟨F1, hF1⟩ : ∃ F, F = D.zip P1 := ⟨_, rfl⟩
  obtain ⟨F2, hF2⟩ : ∃ F, F = D.zip R1 := ⟨_, rfl⟩
  rw [← hF1] at CC1 CT1 HTW ⊢
  rw [← hF2] at CC2 CT2 HTW ⊢
  obtain ⟨TA, hTA⟩ : ∃ F, F = textsF F1 fr := ⟨_, rfl⟩
  obtain ⟨TB, hTB⟩ : ∃ F, F = textsF F2 ow := ⟨_, rfl⟩
  have hla : TA.length = k := by rw [hTA, hF1, textsF_len, List.length_zip]; omega
  have hlb : TB.length = k := by rw [hTB, hF2, textsF_len, List.length_zip]; omega
  rw [← hTA] at CT1 HTW ⊢
  rw [← hTB] at CT2 HTW ⊢
  have HLN : Hid (TA.length = k ∧ TB.length = k) := Lib.hid ⟨hla, hlb⟩
  have HST : Hid (X = (strip (f - 1) (n - 1)).1 ∧ Y = (strip (f - 1) (n - 1)).2 ∧ f ≤ 4096 ∧ n ≤ 4096 ∧ 1 ≤ f ∧ f ≤ n) := Lib.hid ⟨by rw [hn]; exact hX, by rw [hn]; exact hY, by omega, by omega, hf1, by omega⟩
  have HTX : Hid (∀ w', Below w1.heap.size w1 w' → Txts w' vp P) := Lib.hid (fun w' hb => (hvp.below x1 (Nat.le_refl _)).below hb (Nat.le_refl _))
  have HBB : Hid ((X == 0) = b) := Lib.hid hstrip.2
  have HSD : Hid (fr = seedL b old P ∧ ow = seedL b own0 R ∧ P1 = restL b P ∧ R1 = restL b R ∧ k = P1.length ∧ k = R1.length ∧ nr = R.length ∧ (b = false → 1 ≤ P.length ∧ 1 ≤ R.length)) := Lib.hid ⟨hfr, how, hP1, hR1, hk, hkr.symm, hnr, hone⟩
  have hlpn : Hid (P.length ≤ 1048576) := Lib.hid hlp
  obtain ⟨pp, cp, rfl⟩ : ∃ p c, vp = .slice p P.length c := by obtain ⟨p, c, h, _⟩ := hvp; exact ⟨p, c, h⟩
  obtain ⟨np, hnp⟩ : ∃ x, x = P.length := ⟨_, rfl⟩
  rw [← hnp] at CC HTX ⊢
  have HNP := Lib.hid hnp
  rw [← hown] at ho
  have e1 : (old.toList == own0.toList) = false := textQ_ne ho
  have e2 : ¬ (4096 : Int) < (n : Int) := by omega
  have e3 : (0 : Int) ≤ (f : Int) := by omega
  have e4 : (f : Int) ≤ (cl : Int) := by omega
  have hfb : f ≤ 4096 := by omega
  have hnb : n ≤ 4096 := by omega
  obtain ⟨f1, hf1'⟩ : ∃ x, x = f - 1 := ⟨_, rfl⟩
  obtain ⟨n1, hn1'⟩ : ∃ x, x = n - 1 := ⟨_, rfl⟩
  have e5 : (f : Int) - 1 = (f1 : Int) := by omega
  have e6 : (n : Int) - 1 = (n1 : Int) := by omega
  rw [← hf1', ← hn1'] at HST
  clear ht hl4 h32 hlp hf1 hfl hw1 x0 x1 hbp h ho hn hnp hok hr hvl hvp hncl hown hR hnr hstrip hX hY hb hD hDD hfr how hP1 hR1 hk tdp tdr tp tr tf to_ te tne hkr hkp hXf CC' CT hF1 hF2 hTA hTB hla hlb TC pr1 pr2 hf1' hn1' hone
  go_enter Tryz.func11, Tryz.ntmps11
  go_upto_region 1 with fail
  rw [← HW1.out, ← HBP.out]
  go_upto_block 0 with (first
    | (go_at_call 31; (with_reducible refine (CH.out _ (Below.refl _ _)).mono ?_); rintro o z ⟨rfl, hx⟩; rw [hx]; clear hx z)
    | (go_at_call 32; (with_reducible refine (CR.out _ (Below.refl _ _)).mono ?_); rintro o x1 ⟨rfl, h⟩; have HB1 : Hid (Below w1.heap.size w1 x1) := Lib.hid h; clear h CR)
    | (go_at_call 39; (with_reducible refine (CC.out _ HB1.out).mono ?_); rintro o x2 ⟨rfl, h⟩; have HB2 : Hid (Below w1.heap.size w1 x2) := Lib.hid (HB1.out.trans (h.mono HB1.out.size)); clear h)
    | (go_at_call 32; (with_reducible refine (CR2.out _ HB2.out).mono ?_); rintro o x3 ⟨rfl, h⟩; have HB3 : Hid (Below w1.heap.size w1 x3) := Lib.hid (HB2.out.trans (h.mono HB2.out.size)); clear h)
    | (go_at_call 18; (with_reducible refine (CP.out _ HB3.out).mono ?_); rintro o x4 ⟨qp, qd, rfl, htx, h⟩; have HTR4 := Lib.hid htx; have HB4 : Hid (Below w1.heap.size w1 x4) := Lib.hid (HB3.out.trans (h.mono HB3.out.size)); clear h htx))
  go_cut [12, 13] from 55 to 61 (fun p q wx => p = .int .i64 (X : Int) ∧ q = .int .i64 (Y : Int) ∧ wx = x4)
  case first =>
    go_wp2_with fail
    go_loopw [12, 13] (fun p q wq => ∃ x2 y2 : Nat, p = .int .i64 (x2 : Int) ∧ q = .int .i64 (y2 : Int) ∧ wq = x4 ∧ Hid (x2 ≤ 4096 ∧ y2 ≤ 4096 ∧ strip x2 y2 = strip f1 n1)) (fun p _ _ => (intOf p).toNat)
    case atStart => exact ⟨f1, n1, rfl, rfl, rfl, Lib.hid ⟨by omega, by omega, rfl⟩⟩
    case round =>
      obtain ⟨x2, y2, rfl, rfl, rfl, HK⟩ := hrel
      have hz0 : (0 : Int) ≤ (x2 : Int) := Int.natCast_nonneg _
      have hz1 : (0 : Int) ≤ (y2 : Int) := Int.natCast_nonneg _
      obtain ⟨x3, hx3⟩ : ∃ z, z = x2 / 2 := ⟨_, rfl⟩
      obtain ⟨y3, hy3⟩ : ∃ z, z = y2 / 2 := ⟨_, rfl⟩
      have q1 : (x2 : Int).tdiv 2 = (x3 : Int) := by rw [Int.tdiv_eq_ediv_of_nonneg hz0]; omega
      have q2 : (y2 : Int).tdiv 2 = (y3 : Int) := by rw [Int.tdiv_eq_ediv_of_nonneg hz1]; omega
      have hb2 : x2 ≤ 4096 ∧ y2 ≤ 4096 := ⟨HK.out.1, HK.out.2.1⟩
      rcases Nat.mod_two_eq_zero_or_one x2 with he | ho
      · have q0 : (x2 : Int).tmod 2 = 0 := by rw [Int.tmod_eq_emod_of_nonneg hz0]; omega
        have HE : Hid (X = x2 ∧ Y = y2) := Lib.hid (by
          have h1 := HK.out.2.2
          rw [strip_even _ (by omega)] at h1
          have h2 := HST.out
          rw [← h1] at h2
          exact ⟨h2.1, h2.2.1⟩)
        go_wp2_with fail
        go_meet
        exact ⟨by rw [HE.out.1], by rw [HE.out.2], rfl⟩
      · have q0 : (x2 : Int).tmod 2 = 1 := by rw [Int.tmod_eq_emod_of_nonneg hz0]; omega
        have HK2 : Hid (x3 ≤ 4096 ∧ y3 ≤ 4096 ∧ strip x3 y3 = strip f1 n1) := Lib.hid ⟨by omega, by omega, by
          rw [← HK.out.2.2, strip_odd y2 ho, hx3, hy3]⟩
        go_wp2_with fail
        exact ⟨⟨x3, y3, congrArg (Value.int .i64) (by omega), congrArg (Value.int .i64) (by omega), trivial, HK2⟩, by show ((x2 : Int) / 2).toNat < (x2 : Int).toNat; omega⟩
  case rest =>
    obtain ⟨rfl, rfl, hww⟩ := hcut
    subst hww
    go_upto_if 68 with (go_at_call 32; (with_reducible refine (CR2.out _ HB4.out).mono ?_); rintro o x5 ⟨rfl, h⟩; have HB5 : Hid (Below w1.heap.size w1 x5) := Lib.hid (HB4.out.trans (h.mono HB4.out.size)); have HTR5 := Lib.hid (HTR4.out.below h (Nat.le_refl _)); clear h)
    have HTP5 : Hid (Txts x5 (.slice pp np cp) P) := Lib.hid (HTX.out x5 HB5.out)
    have HTPd : Hid (∀ w', Below x5.heap.size x5 w' → Txts w' (.slice pp np cp) P ∧ Txts w' (.slice qp nr qd) R) := Lib.hid (fun w' hb => ⟨HTP5.out.below hb (Nat.le_refl _), HTR5.out.below hb (Nat.le_refl _)⟩)
    have hXb : X ≤ 4096 := by
      have h1 := HST.out
      have h2 := strip_le f1 n1
      rw [← h1.1] at h2
      omega
    go_cut [3, 10, 14, 15] from 67 to 78 (fun u1 u2 u3 u4 wx => ∃ p1 c1 p2 c2, u1 = .slice p1 k c1 ∧ u2 = .slice p2 k c2 ∧ u3 = .string fr ∧ u4 = .string ow ∧ Hid (Below w1.heap.size w1 wx ∧ Txts wx (.slice p1 k c1) P1 ∧ Txts wx (.slice p2 k c2) R1))
    case first =>
      have hsd := HSD.out
      cases b with
      | true =>
        have hX0 : X = 0 := by simpa using HBB.out
        have hnk : np = k := by rw [HNP.out, hsd.2.2.2.2.1, hsd.2.2.1]; rfl
        have hrk : nr = k := by rw [hsd.2.2.2.2.2.2.1, hsd.2.2.2.2.2.1, hsd.2.2.2.1]; rfl
        have e7 : ((X : Int) == 0) = true := by rw [hX0]; rfl
        have HFIN : Hid (np = k ∧ nr = k ∧ fr = old ∧ ow = own0 ∧ P1 = P ∧ R1 = R) := Lib.hid ⟨hnk, hrk, hsd.1, hsd.2.1, hsd.2.2.1, hsd.2.2.2.1⟩
        subst hX0
        clear hsd hnk hrk
        go_wp2_with fail
        go_meet
        obtain ⟨rfl, rfl, h3, h4, h5, h6⟩ := HFIN.out
        exact ⟨pp, cp, qp, qd, rfl, by rw [HFIN.out.2.1], by rw [h3], by rw [h4], Lib.hid ⟨HB5.out, by rw [h5]; exact HTP5.out, by rw [h6, ← HFIN.out.2.1]; exact HTR5.out⟩⟩
      | false =>
        have hX0 : X ≠ 0 := by
          intro h0
          have := HBB.out
          rw [h0] at this
          cases this
        have e7 : ((X : Int) == 0) = false := by rw [beq_eq_false_iff_ne]; omega
        have e8 : ((X : Int) != 0) = true := by rw [bne_iff_ne]; omega
        have e9 : ¬ (X : Int) = 0 := by omega
        obtain ⟨ho1, ho2⟩ := hsd.2.2.2.2.2.2.2 rfl
        obtain ⟨s0, hs0⟩ : ∃ x, P[0]? = some x := ⟨P[0]'(by omega), List.getElem?_eq_getElem _⟩
        obtain ⟨r0, hr0⟩ : ∃ x, R[0]? = some x := ⟨R[0]'(by omega), List.getElem?_eq_getElem _⟩
        have hfs : fr = s0 := by
          rw [hsd.1]
          cases P with
          | nil => simp at hs0
          | cons x r => simpa [seedL] using hs0
        have hos : ow = r0 := by
          rw [hsd.2.1]
          cases R with
          | nil => simp at hr0
          | cons x r => simpa [seedL] using hr0
        have hP1 : P1 = P.drop 1 := hsd.2.2.1
        have hR1 : R1 = R.drop 1 := hsd.2.2.2.1
        have hnk : np - 1 = k := by rw [HNP.out, hsd.2.2.2.2.1, hP1, List.length_drop]
        have hrk : nr - 1 = k := by rw [hsd.2.2.2.2.2.2.1, hsd.2.2.2.2.2.1, hR1, List.length_drop]
        obtain ⟨pa, rfl, hpc⟩ := txts_cellE HTP5.out hs0
        obtain ⟨qa, rfl, hqc⟩ := txts_cellE HTR5.out hr0
        have c0 := hpc x5 (Below.refl _ _)
        have c1 := hqc x5 (Below.refl _ _)
        have hadd : ∀ a : Addr, a.add 0 = a := fun a => by unfold Addr.add; split <;> simp_all
        rw [hadd] at c0 c1
        have hnp1 : 1 ≤ np := by have := HNP.out; omega
        have hnr1 : 1 ≤ nr := by have := hsd.2.2.2.2.2.2.1; omega
        obtain ⟨hcp1, hcq1⟩ : np ≤ cp ∧ nr ≤ qd := by
          obtain ⟨_, _, e, h2, _⟩ := HTP5.out
          obtain ⟨_, _, e', h2', _⟩ := HTR5.out
          injection e with e1 e2 e3
          injection e' with e1' e2' e3'
          omega
        obtain ⟨A1, hA1, hA2⟩ := tail_if (a := pa) hnp1 hcp1
        obtain ⟨A2, hB1, hB2⟩ := tail_if (a := qa) hnr1 hcq1
        have HFIN : Hid (np - 1 = k ∧ nr - 1 = k ∧ fr = s0 ∧ ow = r0 ∧ Txts x5 (.slice (some A1) k (cp - 1)) P1 ∧ Txts x5 (.slice (some A2) k (qd - 1)) R1) := Lib.hid ⟨hnk, hrk, hfs, hos, by rw [← hnk, hP1]; exact tail_txts HTP5.out hnp1 hA2, by rw [← hrk, hR1]; exact tail_txts HTR5.out hnr1 hB2⟩
        have g0 : (0 : Int) < (np : Int) := by omega
        have g1 : (0 : Int) < (nr : Int) := by omega
        have g2 : (1 : Int) ≤ (np : Int) := by omega
        have g3 : (1 : Int) ≤ (nr : Int) := by omega
        have g4 : (np : Int) ≤ (cp : Int) := by omega
        have g5 : (nr : Int) ≤ (qd : Int) := by omega
        clear hsd ho1 ho2 hs0 hr0 hfs hos hP1 hR1 hnk hrk hpc hqc hadd hA2 hB2
        go_upto_region 14 with fail
        go_quiet (fail)
        obtain ⟨x6, hx6⟩ : ∃ x, x = x5.drewN nq := ⟨_, rfl⟩
        have HB6 : Hid (Below x5.heap.size x5 x6) := Lib.hid (by rw [hx6]; exact below_drewN (Below.refl _ _) nq)
        have c1' : x6.cell? ⟨qa.block, qa.off, qa.spot⟩ = some (.string r0) := by rw [hx6]; exact c1
        have c1'' : x6.cell? qa = some (.string r0) := c1'
        rw [← hx6]
        clear hx6 c0 c1 c1' hA1
        go_wp2_with fail
        go_quiet (fail)
        go_wp2_with fail
        go_meet
        obtain ⟨h1, h2, h3, h4, h5, h6⟩ := HFIN.out
        have hb7 : Below x5.heap.size x5 (x6.drewN nq) := below_drewN HB6.out nq
        exact ⟨some A1, cp - 1, some A2, qd - 1, by rw [h1], by rw [h2], by rw [h3], by rw [h4], Lib.hid ⟨HB5.out.trans (hb7.mono HB5.out.size), h5.below hb7 (Nat.le_refl _), h6.below hb7 (Nat.le_refl _)⟩⟩
    case rest =>
      obtain ⟨p1, c1, p2, c2, rfl, rfl, rfl, rfl, HQ⟩ := hcut
      have HBX : Hid (Below w1.heap.size w1 wc) := Lib.hid HQ.out.1
      have HTP := Lib.hid HQ.out.2.1
      have HTR := Lib.hid HQ.out.2.2
      clear HQ CP CR2 CC CH HTP5 HTPd HB5 HTR5
      go_upto_region 17 with (first
        | (go_at_call 22; (with_reducible refine (CC1.out _ _ HBX.out HTP.out).mono ?_); rintro o z1 ⟨v1, rfl, h⟩; have HS1 := Lib.hid h; have HBZ1 : Hid (Below w1.heap.size w1 z1) := Lib.hid (HBX.out.trans (h.b.mono HBX.out.size)); clear h)
        | (go_at_call 21; (with_reducible refine (CT1.out z1 v1 HBZ1.out HS1.out.h).mono ?_); rintro o z2 ⟨_, rfl, h⟩; obtain ⟨pA, cA, rfl, _⟩ := h.h.cells; have HA2 := Lib.hid h; have HBZ2 : Hid (Below w1.heap.size w1 z2) := Lib.hid (HBZ1.out.trans (h.b.mono HBZ1.out.size)); clear h))
      obtain ⟨z3, hz3⟩ : ∃ x, x = z2.alloc (.cells #[(.slice pA k cA)] 22) := ⟨_, rfl⟩
      obtain ⟨ba, hba⟩ : ∃ x, x = z2.heap.size := ⟨_, rfl⟩
      obtain ⟨y0, y1⟩ := one_blockE z2 #[(.slice pA k cA)] 22
      rw [← hz3] at y0 y1 ⊢
      rw [← hba] at y0 ⊢
      have HA3 := Lib.hid (HA2.out.below y1)
      have HY0 := Lib.hid y0
      have HBZ3 : Hid (Below w1.heap.size w1 z3) := Lib.hid (HBZ2.out.trans (y1.mono HBZ2.out.size))
      have H3 : Hid (Below wc.heap.size wc z3) := Lib.hid ((HS1.out.b.trans (HA2.out.b.mono HS1.out.b.size)).trans (y1.mono (HS1.out.b.trans (HA2.out.b.mono HS1.out.b.size)).size))
      clear hz3 hba y0 y1 HA2 HBZ2 HS1 HBZ1
      go_upto_region 18 with (first
        | (go_at_call 22; (with_reducible refine (CC2.out _ _ HBZ3.out (HTR.out.below H3.out (Nat.le_refl _))).mono ?_); rintro o z4 ⟨v2, rfl, h⟩; have HS4 := Lib.hid h; have HBZ4 : Hid (Below w1.heap.size w1 z4) := Lib.hid (HBZ3.out.trans (h.b.mono HBZ3.out.size)); clear h)
        | (go_at_call 21; (with_reducible refine (CT2.out z4 v2 HBZ4.out HS4.out.h).mono ?_); rintro o z5 ⟨_, rfl, h⟩; obtain ⟨pB, cB, rfl, _⟩ := h.h.cells; have HA5 := Lib.hid h; have HBZ5 : Hid (Below w1.heap.size w1 z5) := Lib.hid (HBZ4.out.trans (h.b.mono HBZ4.out.size)); have H35 : Hid (Below z3.heap.size z3 z5) := Lib.hid (HS4.out.b.trans (h.b.mono HS4.out.b.size)); clear h))
      obtain ⟨z6, hz6⟩ : ∃ x, x = z5.alloc (.cells #[(.slice pB k cB)] 22) := ⟨_, rfl⟩
      obtain ⟨bb, hbb⟩ : ∃ x, x = z5.heap.size := ⟨_, rfl⟩
      obtain ⟨y0, y1⟩ := one_blockE z5 #[(.slice pB k cB)] 22
      rw [← hz6] at y0 y1 ⊢
      rw [← hbb] at y0 ⊢
      have HB6 := Lib.hid (HA5.out.below y1)
      have HBZ6 : Hid (Below w1.heap.size w1 z6) := Lib.hid (HBZ5.out.trans (y1.mono HBZ5.out.size))
      have H36 : Hid (Below z3.heap.size z3 z6) := Lib.hid (H35.out.trans (y1.mono H35.out.size))
      have HA6 := Lib.hid (HA3.out.below H36.out)
      have HY6 := Lib.hid (blk_below HY0.out H36.out (blk_lt HY0.out))
      have HY1 := Lib.hid y0
      clear hz6 hbb y0 y1 HA5 HBZ5 H35 HA3 HBZ4 HS4 HY0
      have CG := Lib.hid (caughtCq_any (fun p q => hiR TA TB = some (p, q)) ba bb z6 (Lib.hid (fun w' hb => closCq_any (va := (.slice pA k cA)) (vb := (.slice pB k cB)) (A := TA) (B := TB) (cellB (blk_below HY6.out hb (blk_lt HY6.out)) rfl) (cellB (blk_below HY1.out hb (blk_lt HY1.out)) rfl)
        (by have := (HA6.out.below hb).h; rw [HLN.out.1]; exact this) (by have := (HB6.out.below hb).h; rw [HLN.out.2]; exact this) HTW.out)))
      have hmf : ∀ (fn : Fn) (first cap : Array Value) (w : World), (Instr.makeFunc fn first cap).run Tryz.prog w = .ok (.func fn first cap) w := fun _ _ _ _ => rfl
      have HXP := Lib.hid (HX.out z6 HBZ6.out)
      have HBC : Hid (Below w.heap.size w z6) := Lib.hid (HF.out.1.trans (HBZ6.out.mono HF.out.1.size))
      have HBPW : Hid (w.heap.size ≤ bp) := Lib.hid HF.out.2
      go_wp2_with (go_at_call 23; (with_reducible refine CG.out.mono ?_); rintro o z ⟨p, q, rfl, hpq, hb⟩; have HZ := Lib.hid (And.intro hpq hb); have hxz := blk_below HXP.out hb (blk_lt HXP.out); have HXZ := Lib.hid hxz; have k0 : z.cell? ⟨bp, 0, none⟩ = some (.string ⟨#[]⟩) := cellB hxz rfl; have k1 : z.cell? ⟨bp, 1, none⟩ = some (.string ⟨#[]⟩) := cellB hxz rfl; have f0 : z.frozen? ⟨bp, 0, none⟩ = false := frozB hxz; have f1 : z.frozen? ⟨bp, 1, none⟩ = false := frozB hxz; clear hpq hb hxz)
      have hx6 := blk_set2 (x := .string p) (y := .string q) HXZ.out
      have m0 := cellB (k := 0) hx6 rfl
      have m1 := cellB (k := 1) hx6 rfl
      refine bodyPost_ret (v := .tuple #[.agg #[.string p, .string q], .int .i64 0]) (by simp [results, Tryz.results11, go_sem, m0, m1]) rfl ?_
      have hb2 := HBC.out.trans (HZ.out.2.mono HBC.out.size)
      exact ⟨p, q, rfl, HZ.out.1, (hb2.setCell (p := ⟨bp, 0, none⟩) HBPW.out _).setCell (p := ⟨bp, 1, none⟩) HBPW.out _⟩
end Go.Proofs.YtdbghgpohdijfaaGreatDoor
