/- extract.Inclusion where a pair is found: walked. -/
import Derived.Test.YtdbghgpohdijfaaGreatDoorMa37
import Derived.Test.YtdbghgpohdijfaaGreatDoorMa33
namespace Go.Proofs.YtdbghgpohdijfaaGreatDoor
open Go.RowKit Go.Scr Go.ChangeMaps Go.MapKept
set_option linter.unusedVariables false
theorem inclS_ok {s i : Int} {leaf root : ByteArray} {L : List ByteArray} (h : inclS s i leaf L root = 0) :
    ∃ n m : Nat, s = n ∧ i = m ∧ m < n ∧ n ≤ 1099511627776 ∧ leaf.size = 32 ∧ (∀ p ∈ L, p.size = 32) ∧ L.length = wayN n m ∧ climbF nodeS (dn n m) L leaf = root := by
  unfold inclS at h
  have h1 : rootOfE s i leaf L = 0 := by
    by_cases h1 : rootOfE s i leaf L = 0
    · exact h1
    · rw [if_pos h1] at h; exact h
  rw [h1, if_neg (by simp)] at h
  have h2 : rootOfS s i leaf L = root := by
    by_cases h2 : root.size ≠ 32
    · rw [if_pos h2] at h; cases h
    · rw [if_neg h2] at h
      by_cases h3 : rootOfS s i leaf L = root
      · exact h3
      · rw [if_pos h3] at h; cases h
  have h3 := h1
  unfold rootOfE at h3
  have h4 : pathLenE s i = 0 := by
    by_cases h4 : pathLenE s i = 0
    · exact h4
    · rw [if_pos h4] at h3; exact h3
  rw [h4, if_neg (by simp)] at h3
  have h5 : leaf.size = 32 ∧ all32 L = true := by
    by_cases h5 : leaf.size ≠ 32 ∨ all32 L = false
    · rw [if_pos h5] at h3; cases h3
    · constructor
      · exact Classical.byContradiction fun h6 => h5 (.inl h6)
      · cases hh : all32 L with
        | true => rfl
        | false => exact absurd (.inr hh) h5
  rw [if_neg (by simp [h5.1, h5.2])] at h3
  have h6 : (L.length : Int) = pathLenS s i := by
    by_cases h6 : (L.length : Int) = pathLenS s i
    · exact h6
    · rw [if_pos h6] at h3; cases h3
  unfold pathLenE at h4
  have h7 : ¬ (s < 1 ∨ 1099511627776 < s) := by intro h0; rw [if_pos h0] at h4; cases h4
  rw [if_neg h7] at h4
  have h8 : ¬ (i < 0 ∨ s ≤ i) := by intro h0; rw [if_pos h0] at h4; cases h4
  have hmn : i.toNat < s.toNat := by omega
  have hn : s.toNat ≤ 1099511627776 := by omega
  have hs : s = (s.toNat : Int) := by omega
  have hi : i = (i.toNat : Int) := by omega
  refine ⟨s.toNat, i.toNat, hs, hi, hmn, hn, h5.1, fun p hp => by have := h5.2; unfold all32 at this; rw [List.all_eq_true] at this; simpa using this p hp, ?_, ?_⟩
  · have h9 := (pathLenS_ok hmn hn).1
    rw [← hs, ← hi] at h9
    rw [h9] at h6
    exact_mod_cast h6
  · rw [← h2]
    unfold rootOfS
    rw [h1, if_pos rfl]
theorem held_same {w : World} {T n m : Nat} {v : Value} {xs : List Value} (h : Held w T 1 v n xs) (e : n = m) : Held w T 1 v m xs := e ▸ h
set_option maxRecDepth 100000 in
set_option maxHeartbeats 4000000 in
theorem incl_pair {w : World} {s i : Int} {root leaf other : ByteArray} {vp vq : Value} {P Q : List ByteArray} (ht : Tabs w) (hvp : Txts w vp P) (hvq : Txts w vq Q) (hlp : P.length ≤ 1048576) (hlq : Q.length ≤ 1048576)
    (h1 : inclS s i leaf P root = 0) (h2 : inclS s i other Q root = 0) (hne : leaf ≠ other ∨ P ≠ Q) :
    Calls Tryz.prog 6 #[.int .i64 s, .int .i64 i, .string root, .string leaf, vp, .string other, vq] w (PairP w) := by
  obtain ⟨w1, hw1⟩ : ∃ x, x = w.alloc (.cells #[.string ⟨#[]⟩, .string ⟨#[]⟩] 26) := ⟨_, rfl⟩
  obtain ⟨x0, x1⟩ := one_blockE w #[.string ⟨#[]⟩, .string ⟨#[]⟩] 26
  rw [← hw1] at x0 x1
  obtain ⟨bp, hbp⟩ : ∃ x, x = w.heap.size := ⟨_, rfl⟩
  rw [← hbp] at x0
  have CI1 : Hid (∀ w', Below w1.heap.size w1 w' → Calls Tryz.prog 19 #[.int .i64 s, .int .i64 i, .string leaf, vp, .string root] w' fun o z => o = .returned (.int .i64 0) ∧ Below w'.heap.size w' z) := Lib.hid (fun w' hb => by
    have := inclusion_any s i leaf vp P root w' ((ht.below x1).below hb) ((hvp.below x1 (Nat.le_refl _)).below hb (Nat.le_refl _)) hlp
    rwa [h1] at this)
  have CI2 : Hid (∀ w', Below w1.heap.size w1 w' → Calls Tryz.prog 19 #[.int .i64 s, .int .i64 i, .string other, vq, .string root] w' fun o z => o = .returned (.int .i64 0) ∧ Below w'.heap.size w' z) := Lib.hid (fun w' hb => by
    have := inclusion_any s i other vq Q root w' ((ht.below x1).below hb) ((hvq.below x1 (Nat.le_refl _)).below hb (Nat.le_refl _)) hlq
    rwa [h2] at this)
  have CE : Hid (P ≠ Q → ∀ w', Below w1.heap.size w1 w' → Calls Tryz.prog 20 #[vp, vq] w' fun o z => o = .returned (.bool false) ∧ Below w'.heap.size w' z) := Lib.hid (fun hPQ w' hb => by
    have := sameQ_any vp vq P Q w' ((hvp.below x1 (Nat.le_refl _)).below hb (Nat.le_refl _)) ((hvq.below x1 (Nat.le_refl _)).below hb (Nat.le_refl _)) hlp hlq
    rwa [show decide (P = Q) = false from decide_eq_false hPQ] at this)
  obtain ⟨n, m, rfl, rfl, hmn, hn40, hl32, hp32, hpl, hpc⟩ := inclS_ok h1
  obtain ⟨n', m', e1, e2, _, _, ho32, hq32, hql, hqc⟩ := inclS_ok h2
  obtain rfl : n = n' := by exact_mod_cast e1
  obtain rfl : m = m' := by exact_mod_cast e2
  obtain ⟨l, hl⟩ : ∃ l, l = n - 1 := ⟨_, rfl⟩
  have hli : (n : Int) - 1 = (l : Int) := by omega
  have hD : stepL m l = dn n m := by rw [hl]; exact stepL_dn n m hmn
  have hDl : (dn n m).length = P.length := hpl.symm
  have hDq : (dn n m).length = Q.length := hql.symm
  have HTW : Hid (TwoW (textsF ((dn n m).zip P) leaf) (textsF ((dn n m).zip Q) other)) := Lib.hid (two_ways hDl hDq hp32 hq32 hl32 ho32 hlp (by
    rw [← climbF_end _ _ _ hDl hp32 hl32, ← climbF_end _ _ _ hDq hq32 ho32, hpc, hqc]) hne)
  have CC : ∀ (L : List ByteArray) (v : Value), Txts w v L → L.length ≤ 1048576 → (dn n m).length = L.length → Hid (∀ w', Below w1.heap.size w1 w' → Calls Tryz.prog 22 #[.int .i64 (m : Int), .int .i64 (l : Int), v] w' fun o z => ∃ v', o = .returned v' ∧ StI w' z v' L.length ((dn n m).zip L)) := fun L v hv hL hd => Lib.hid (fun w' hb => by
    have := climb_any m l L v w' (by omega) (by omega) ((hv.below x1 (Nat.le_refl _)).below hb (Nat.le_refl _)) hL
    rwa [flagsC_all (by rw [hD]; exact hd), hD] at this)
  have CT : ∀ (L : List ByteArray) (r : ByteArray), L.length ≤ 1048576 → (dn n m).length = L.length → (∀ p ∈ L, p.size = 32) → r.size = 32 → Hid (∀ w' v', Below w1.heap.size w1 w' → Held w' 73 2 v' L.length (stV ((dn n m).zip L)) → Calls Tryz.prog 21 #[.string r, v'] w' fun o z => ∃ v'', o = .returned v'' ∧ LfI w' z v'' L.length (textsF ((dn n m).zip L) r)) := fun L r hL hd h32 hr => Lib.hid (fun w' v' hb hh => by
    have hz : ((dn n m).zip L).length = L.length := by rw [List.length_zip]; omega
    have := texts_any r ((dn n m).zip L) v' w' ((ht.below x1).below hb) (by rw [hz]; exact hh) (fun x hx => h32 _ (List.of_mem_zip (a := x.1) (b := x.2) hx).2) hr (by rw [hz]; exact hL)
    rwa [hz] at this)
  have CC1 := CC P vp hvp hlp hDl
  have CC2 := CC Q vq hvq hlq hDq
  have CT1 := CT P leaf hlp hDl hp32 hl32
  have CT2 := CT Q other hlq hDq hq32 ho32
  obtain ⟨F1, hF1⟩ : ∃ F, F = (dn n m).zip P := ⟨_, rfl⟩
  obtain ⟨F2, hF2⟩ : ∃ F, F = (dn n m).zip Q := ⟨_, rfl⟩
  rw [← hF1] at CC1 CT1 HTW
  rw [← hF2] at CC2 CT2 HTW
  obtain ⟨TA, hTA⟩ : ∃ F, F = textsF F1 leaf := ⟨_, rfl⟩
  obtain ⟨TB, hTB⟩ : ∃ F, F = textsF F2 other := ⟨_, rfl⟩
  have hla : TA.length = P.length := by rw [hTA, hF1, textsF_len, List.length_zip]; omega
  have hlb : TB.length = Q.length := by rw [hTB, hF2, textsF_len, List.length_zip]; omega
  rw [← hTA] at CT1 HTW
  rw [← hTB] at CT2 HTW
  have HLN : Hid (TA.length = P.length ∧ TB.length = Q.length) := Lib.hid ⟨hla, hlb⟩
  have HX : Hid (∀ w', Below w1.heap.size w1 w' → w'.heap[bp]? = some (.cells #[.string ⟨#[]⟩, .string ⟨#[]⟩] 26 (0, 0))) := Lib.hid (fun w' hb => blk_below x0 hb (blk_lt x0))
  have HF : Hid (Below w.heap.size w w1 ∧ w.heap.size ≤ bp) := Lib.hid ⟨x1, by omega⟩
  have HW1 := Lib.hid hw1
  have HBP := Lib.hid hbp
  have HNE : Hid (leaf ≠ other ∨ P ≠ Q) := Lib.hid hne
  obtain ⟨pp, cp, rfl, _⟩ := hvp
  obtain ⟨pq, cq, rfl, _⟩ := hvq
  obtain ⟨np, hnp⟩ : ∃ x, x = P.length := ⟨_, rfl⟩
  have hnq : Q.length = np := by omega
  rw [hnq] at CI2 CE CC2 CT2 HLN ⊢
  rw [← hnp] at CI1 CE CC1 CT1 HLN ⊢
  clear ht hlp hlq hw1 x0 x1 hbp h1 h2 hne e1 e2 hl hD hDl hDq hpl hpc hql hqc hl32 ho32 hp32 hq32 CC CT hF1 hF2 hTA hTB hla hlb hnp hnq hmn
  have hn1 : n ≤ 1099511627776 := hn40
  go_enter Tryz.func6, Tryz.ntmps6
  go_upto_block 0 with fail
  rw [← HW1.out, ← HBP.out]
  go_cut [] from 18 to 45 (fun wx => Hid (Below w1.heap.size w1 wx))
  case first =>
    by_cases hlo : leaf = other
    · subst hlo
      have e1 : (leaf.toList == leaf.toList) = true := by simp
      have CE2 := Lib.hid (CE.out (HNE.out.resolve_left (fun h => h rfl)))
      go_wp2_with (first
        | (go_at_call 19; (with_reducible refine (CI1.out _ (Below.refl _ _)).mono ?_); rintro o x1 ⟨rfl, h⟩; have HB1 : Hid (Below w1.heap.size w1 x1) := Lib.hid h; clear h CI1)
        | (go_at_call 19; (with_reducible refine (CI2.out _ HB1.out).mono ?_); rintro o x2 ⟨rfl, h⟩; have HB2 : Hid (Below w1.heap.size w1 x2) := Lib.hid (HB1.out.trans (h.mono HB1.out.size)); clear h)
        | (go_at_call 20; (with_reducible refine (CE2.out _ HB2.out).mono ?_); rintro o x3 ⟨rfl, h⟩; have HB3 : Hid (Below w1.heap.size w1 x3) := Lib.hid (HB2.out.trans (h.mono HB2.out.size)); clear h))
      go_meet
      exact HB3
    · have e1 : (leaf.toList == other.toList) = false := textQ_ne hlo
      clear hlo
      go_wp2_with (first
        | (go_at_call 19; (with_reducible refine (CI1.out _ (Below.refl _ _)).mono ?_); rintro o x1 ⟨rfl, h⟩; have HB1 : Hid (Below w1.heap.size w1 x1) := Lib.hid h; clear h CI1)
        | (go_at_call 19; (with_reducible refine (CI2.out _ HB1.out).mono ?_); rintro o x2 ⟨rfl, h⟩; have HB2 : Hid (Below w1.heap.size w1 x2) := Lib.hid (HB1.out.trans (h.mono HB1.out.size)); clear h))
      go_meet
      exact HB2
  case rest =>
    have HBX := Lib.hid hcut.out
    clear hcut CI1 CI2 CE
    go_upto_region 6 with (first
      | (go_at_call 22; (with_reducible refine (CC1.out _ HBX.out).mono ?_); rintro o z1 ⟨v1, rfl, h⟩; have HS1 := Lib.hid h; have HBZ1 : Hid (Below w1.heap.size w1 z1) := Lib.hid (HBX.out.trans (h.b.mono HBX.out.size)); clear h)
      | (go_at_call 21; (with_reducible refine (CT1.out z1 v1 HBZ1.out HS1.out.h).mono ?_); rintro o z2 ⟨_, rfl, h⟩; obtain ⟨pA, cA, rfl, _⟩ := h.h.cells; have HA2 := Lib.hid h; have HBZ2 : Hid (Below w1.heap.size w1 z2) := Lib.hid (HBZ1.out.trans (h.b.mono HBZ1.out.size)); clear h))
    obtain ⟨z3, hz3⟩ : ∃ x, x = z2.alloc (.cells #[(.slice pA np cA)] 22) := ⟨_, rfl⟩
    obtain ⟨ba, hba⟩ : ∃ x, x = z2.heap.size := ⟨_, rfl⟩
    obtain ⟨y0, y1⟩ := one_blockE z2 #[(.slice pA np cA)] 22
    rw [← hz3] at y0 y1 ⊢
    rw [← hba] at y0 ⊢
    have HA3 := Lib.hid (HA2.out.below y1)
    have HY0 := Lib.hid y0
    have HBZ3 : Hid (Below w1.heap.size w1 z3) := Lib.hid (HBZ2.out.trans (y1.mono HBZ2.out.size))
    clear hz3 hba y0 y1 HA2 HBZ2 HS1 HBZ1
    go_upto_region 7 with (first
      | (go_at_call 22; (with_reducible refine (CC2.out _ HBZ3.out).mono ?_); rintro o z4 ⟨v2, rfl, h⟩; have HS4 := Lib.hid h; have HBZ4 : Hid (Below w1.heap.size w1 z4) := Lib.hid (HBZ3.out.trans (h.b.mono HBZ3.out.size)); clear h)
      | (go_at_call 21; (with_reducible refine (CT2.out z4 v2 HBZ4.out HS4.out.h).mono ?_); rintro o z5 ⟨_, rfl, h⟩; obtain ⟨pB, cB, rfl, _⟩ := h.h.cells; have HA5 := Lib.hid h; have HBZ5 : Hid (Below w1.heap.size w1 z5) := Lib.hid (HBZ4.out.trans (h.b.mono HBZ4.out.size)); have H35 : Hid (Below z3.heap.size z3 z5) := Lib.hid (HS4.out.b.trans (h.b.mono HS4.out.b.size)); clear h))
    obtain ⟨z6, hz6⟩ : ∃ x, x = z5.alloc (.cells #[(.slice pB np cB)] 22) := ⟨_, rfl⟩
    obtain ⟨bb, hbb⟩ : ∃ x, x = z5.heap.size := ⟨_, rfl⟩
    obtain ⟨y0, y1⟩ := one_blockE z5 #[(.slice pB np cB)] 22
    rw [← hz6] at y0 y1 ⊢
    rw [← hbb] at y0 ⊢
    have HB6 := Lib.hid (HA5.out.below y1)
    have HBZ6 : Hid (Below w1.heap.size w1 z6) := Lib.hid (HBZ5.out.trans (y1.mono HBZ5.out.size))
    have H36 : Hid (Below z3.heap.size z3 z6) := Lib.hid (H35.out.trans (y1.mono H35.out.size))
    have HA6 := Lib.hid (HA3.out.below H36.out)
    have HY6 := Lib.hid (blk_below HY0.out H36.out (blk_lt HY0.out))
    have HY1 := Lib.hid y0
    clear hz6 hbb y0 y1 HA5 HBZ5 H35 HA3 HBZ4 HS4 HY0
    have CG := Lib.hid (caughtI_any ba bb z6 (Lib.hid (fun w' hb => closI_any (va := (.slice pA np cA)) (vb := (.slice pB np cB)) (A := TA) (B := TB) (cellB (blk_below HY6.out hb (blk_lt HY6.out)) rfl) (cellB (blk_below HY1.out hb (blk_lt HY1.out)) rfl)
      (by have := (HA6.out.below hb).h; rw [HLN.out.1]; exact this) (by have := (HB6.out.below hb).h; rw [HLN.out.2]; exact this) HTW.out)))
    have hmf : ∀ (fn : Fn) (first cap : Array Value) (w : World), (Instr.makeFunc fn first cap).run Tryz.prog w = .ok (.func fn first cap) w := fun _ _ _ _ => rfl
    have HXP := Lib.hid (HX.out z6 HBZ6.out)
    have HBC : Hid (Below w.heap.size w z6) := Lib.hid (HF.out.1.trans (HBZ6.out.mono HF.out.1.size))
    have HBPW : Hid (w.heap.size ≤ bp) := Lib.hid HF.out.2
    go_wp2_with (go_at_call 23; (with_reducible refine CG.out.mono ?_); rintro o z ⟨p, q, rfl, hpq, hsh, hb⟩; have HZ := Lib.hid (And.intro hpq (And.intro hsh hb)); have hxz := blk_below HXP.out hb (blk_lt HXP.out); have HXZ := Lib.hid hxz; have k0 : z.cell? ⟨bp, 0, none⟩ = some (.string ⟨#[]⟩) := cellB hxz rfl; have k1 : z.cell? ⟨bp, 1, none⟩ = some (.string ⟨#[]⟩) := cellB hxz rfl; have f0 : z.frozen? ⟨bp, 0, none⟩ = false := frozB hxz; have f1 : z.frozen? ⟨bp, 1, none⟩ = false := frozB hxz; clear hpq hsh hb hxz)
    have hx6 := blk_set2 (x := .string p) (y := .string q) HXZ.out
    have m0 := cellB (k := 0) hx6 rfl
    have m1 := cellB (k := 1) hx6 rfl
    refine bodyPost_ret (v := .tuple #[.agg #[.string p, .string q], .int .i64 0]) (by simp [results, Tryz.results6, go_sem, m0, m1]) rfl ?_
    have hb2 := HBC.out.trans (HZ.out.2.2.mono HBC.out.size)
    exact ⟨p, q, rfl, HZ.out.1, HZ.out.2.1, (hb2.setCell (p := ⟨bp, 0, none⟩) HBPW.out _).setCell (p := ⟨bp, 1, none⟩) HBPW.out _⟩
end Go.Proofs.YtdbghgpohdijfaaGreatDoor
