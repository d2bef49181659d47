/- extract.Inclusion where a pair is found: walked. -/
import Derived.Test.YtdbghgpohdijfaaDoorMa57
import Derived.Test.YtdbghgpohdijfaaDoorMa52
import Derived.Test.YtdbghgpohdijfaaDoorMa54
import Derived.BigQuiet
import Derived.LoopTactic
import Derived.Deep.CutBlock
namespace Go.Proofs.YtdbghgpohdijfaaDoor
open Go.RowKit Go.Scr Go.ChangeMaps Go.MapKept
set_option linter.unusedVariables false
theorem inclS_ok {s i : Int} {leaf root : ByteArray} {L : List ByteArray} (h : inclS s i leaf L root = 0) :
    ∃ n m : Nat, s = n ∧ i = m ∧ m < n ∧ n ≤ 1099511627776 ∧ leaf.size = 32 ∧ (∀ p ∈ L, p.size = 32) ∧ L.length = wayN n m ∧ climbF nodeS (dn n m) L leaf = root := by
  unfold inclS at h
  have h1 : rootOfE s i leaf L = 0 := by
    by_cases h1 : rootOfE s i leaf L = 0
    · exact h1
    · rw [if_pos h1] at h; exact h
  rw [h1, if_neg (by simp)] at h
  have h2 : rootOfS s i leaf L = root := by
    by_cases h2 : root.size ≠ 32
    · rw [if_pos h2] at h; cases h
    · rw [if_neg h2] at h
      by_cases h3 : rootOfS s i leaf L = root
      · exact h3
      · rw [if_pos h3] at h; cases h
  have h3 := h1
  unfold rootOfE at h3
  have h4 : pathLenE s i = 0 := by
    by_cases h4 : pathLenE s i = 0
    · exact h4
    · rw [if_pos h4] at h3; exact h3
  rw [h4, if_neg (by simp)] at h3
  have h5 : leaf.size = 32 ∧ all32 L = true := by
    by_cases h5 : leaf.size ≠ 32 ∨ all32 L = false
    · rw [if_pos h5] at h3; cases h3
    · constructor
      · exact Classical.byContradiction fun h6 => h5 (.inl h6)
      · cases hh : all32 L with
        | true => rfl
        | false => exact absurd (.inr hh) h5
  rw [if_neg (by simp [h5.1, h5.2])] at h3
  have h6 : (L.length : Int) = pathLenS s i := by
    by_cases h6 : (L.length : Int) = pathLenS s i
    · exact h6
    · rw [if_pos h6] at h3; cases h3
  unfold pathLenE at h4
  have h7 : ¬ (s < 1 ∨ 1099511627776 < s) := by intro h0; rw [if_pos h0] at h4; cases h4
  rw [if_neg h7] at h4
  have h8 : ¬ (i < 0 ∨ s ≤ i) := by intro h0; rw [if_pos h0] at h4; cases h4
  have hmn : i.toNat < s.toNat := by omega
  have hn : s.toNat ≤ 1099511627776 := by omega
  have hs : s = (s.toNat : Int) := by omega
  have hi : i = (i.toNat : Int) := by omega
  refine ⟨s.toNat, i.toNat, hs, hi, hmn, hn, h5.1, fun p hp => by have := h5.2; unfold all32 at this; rw [List.all_eq_true] at this; simpa using this p hp, ?_, ?_⟩
  · have h9 := (pathLenS_ok hmn hn).1
    rw [← hs, ← hi] at h9
    rw [h9] at h6
    exact_mod_cast h6
  · rw [← h2]
    unfold rootOfS
    rw [h1, if_pos rfl]
theorem held_same {w : World} {T n m : Nat} {v : Value} {xs : List Value} (h : Held w T 1 v n xs) (e : n = m) : Held w T 1 v m xs := e ▸ h
set_option maxRecDepth 100000 in
set_option maxHeartbeats 4000000 in
theorem incl_pair {w : World} {s i : Int} {root leaf other : ByteArray} {vp vq : Value} {P Q : List ByteArray} (ht : Tabs w) (hvp : Txts w vp P) (hvq : Txts w vq Q) (hlp : P.length ≤ 1048576) (hlq : Q.length ≤ 1048576)
    (h1 : inclS s i leaf P root = 0) (h2 : inclS s i other Q root = 0) (hne : leaf ≠ other ∨ P ≠ Q) :
    Calls Tryd.prog 12 #[.int .i64 s, .int .i64 i, .string root, .string leaf, vp, .string other, vq] w (PairP w) := by
  obtain ⟨w1, hw1⟩ : ∃ x, x = w.alloc (.cells #[.string ⟨#[]⟩, .string ⟨#[]⟩] 27) := ⟨_, rfl⟩
  obtain ⟨x0, x1⟩ := one_blockE w #[.string ⟨#[]⟩, .string ⟨#[]⟩] 27
  rw [← hw1] at x0 x1
  obtain ⟨bp, hbp⟩ : ∃ x, x = w.heap.size := ⟨_, rfl⟩
  rw [← hbp] at x0
  have CI1 : Hid (∀ w', Below w1.heap.size w1 w' → Calls Tryd.prog 11 #[.int .i64 s, .int .i64 i, .string leaf, vp, .string root] w' fun o z => o = .returned (.int .i64 0) ∧ Below w'.heap.size w' z) := Lib.hid (fun w' hb => by
    have := inclusion_any s i leaf vp P root w' ((ht.below x1).below hb) ((hvp.below x1 (Nat.le_refl _)).below hb (Nat.le_refl _)) hlp
    rwa [h1] at this)
  have CI2 : Hid (∀ w', Below w1.heap.size w1 w' → Calls Tryd.prog 11 #[.int .i64 s, .int .i64 i, .string other, vq, .string root] w' fun o z => o = .returned (.int .i64 0) ∧ Below w'.heap.size w' z) := Lib.hid (fun w' hb => by
    have := inclusion_any s i other vq Q root w' ((ht.below x1).below hb) ((hvq.below x1 (Nat.le_refl _)).below hb (Nat.le_refl _)) hlq
    rwa [h2] at this)
  have CE : Hid (P ≠ Q → ∀ w', Below w1.heap.size w1 w' → Calls Tryd.prog 55 #[vp, vq] w' fun o z => o = .returned (.bool false) ∧ Below w'.heap.size w' z) := Lib.hid (fun hPQ w' hb => by
    have := sameQ_any vp vq P Q w' ((hvp.below x1 (Nat.le_refl _)).below hb (Nat.le_refl _)) ((hvq.below x1 (Nat.le_refl _)).below hb (Nat.le_refl _)) hlp hlq
    rwa [show decide (P = Q) = false from decide_eq_false hPQ] at this)
  obtain ⟨n, m, rfl, rfl, hmn, hn40, hl32, hp32, hpl, hpc⟩ := inclS_ok h1
  obtain ⟨n', m', e1, e2, _, _, ho32, hq32, hql, hqc⟩ := inclS_ok h2
  obtain rfl : n = n' := by exact_mod_cast e1
  obtain rfl : m = m' := by exact_mod_cast e2
  obtain ⟨l, hl⟩ : ∃ l, l = n - 1 := ⟨_, rfl⟩
  have hli : (n : Int) - 1 = (l : Int) := by omega
  have hD : stepL m l = dn n m := by rw [hl]; exact stepL_dn n m hmn
  have hDl : (dn n m).length = P.length := hpl.symm
  have hDq : (dn n m).length = Q.length := hql.symm
  have HTW : Hid (TwoW (textsF ((dn n m).zip P) leaf) (textsF ((dn n m).zip Q) other)) := Lib.hid (two_ways hDl hDq hp32 hq32 hl32 ho32 hlp (by
    rw [← climbF_end _ _ _ hDl hp32 hl32, ← climbF_end _ _ _ hDq hq32 ho32, hpc, hqc]) hne)
  have CC : ∀ (L : List ByteArray) (v : Value), Txts w v L → L.length ≤ 1048576 → (dn n m).length = L.length → Hid (∀ w', Below w1.heap.size w1 w' → Calls Tryd.prog 57 #[.int .i64 (m : Int), .int .i64 (l : Int), v] w' fun o z => ∃ v', o = .returned v' ∧ StI w' z v' L.length ((dn n m).zip L)) := fun L v hv hL hd => Lib.hid (fun w' hb => by
    have := climb_any m l L v w' (by omega) (by omega) ((hv.below x1 (Nat.le_refl _)).below hb (Nat.le_refl _)) hL
    rwa [flagsC_all (by rw [hD]; exact hd), hD] at this)
  have CT : ∀ (L : List ByteArray) (r : ByteArray), L.length ≤ 1048576 → (dn n m).length = L.length → (∀ p ∈ L, p.size = 32) → r.size = 32 → Hid (∀ w' v', Below w1.heap.size w1 w' → Held w' 149 2 v' L.length (stV ((dn n m).zip L)) → Calls Tryd.prog 56 #[.string r, v'] w' fun o z => ∃ v'', o = .returned v'' ∧ LfI w' z v'' L.length (textsF ((dn n m).zip L) r)) := fun L r hL hd h32 hr => Lib.hid (fun w' v' hb hh => by
    have hz : ((dn n m).zip L).length = L.length := by rw [List.length_zip]; omega
    have := texts_any r ((dn n m).zip L) v' w' ((ht.below x1).below hb) (by rw [hz]; exact hh) (fun x hx => h32 _ (List.of_mem_zip (a := x.1) (b := x.2) hx).2) hr (by rw [hz]; exact hL)
    rwa [hz] at this)
  have CC1 := CC P vp hvp hlp hDl
  have CC2 := CC Q vq hvq hlq hDq
  have CT1 := CT P leaf hlp hDl hp32 hl32
  have CT2 := CT Q other hlq hDq hq32 ho32
  obtain ⟨F1, hF1⟩ : ∃ F, F = (dn n m).zip P := ⟨_, rfl⟩
  obtain ⟨F2, hF2⟩ : ∃ F, F = (dn n m).zip Q := ⟨_, rfl⟩
  rw [← hF1] at CC1 CT1 HTW
  rw [← hF2] at CC2 CT2 HTW
  obtain ⟨TA, hTA⟩ : ∃ F, F = textsF F1 leaf := ⟨_, rfl⟩
  obtain ⟨TB, hTB⟩ : ∃ F, F = textsF F2 other := ⟨_, rfl⟩
  have hla : TA.length = P.length := by rw [hTA, hF1, textsF_len, List.length_zip]; omega
  have hlb : TB.length = Q.length := by rw [hTB, hF2, textsF_len, List.length_zip]; omega
  rw [← hTA] at CT1 HTW
  rw [← hTB] at CT2 HTW
  have HLN : Hid (TA.length = P.length ∧ TB.length = Q.length) := Lib.hid ⟨hla, hlb⟩
  have HX : Hid (∀ w', Below w1.heap.size w1 w' → w'.heap[bp]? = some (.cells #[.string ⟨#[]⟩, .string ⟨#[]⟩] 27 (0, 0))) := Lib.hid (fun w' hb => blk_below x0 hb (blk_lt x0))
  have HF : Hid (Below w.heap.size w w1 ∧ w.heap.size ≤ bp) := Lib.hid ⟨x1, by omega⟩
  have HW1 := Lib.hid hw1
  have HBP := Lib.hid hbp
  have HNE : Hid (leaf ≠ other ∨ P ≠ Q) := Lib.hid hne
  obtain ⟨pp, cp, rfl, _⟩ := hvp
  obtain ⟨pq, cq, rfl, _⟩ := hvq
  obtain ⟨np, hnp⟩ : ∃ x, x = P.length := ⟨_, rfl⟩
  have hnq : Q.length = np := by omega
  rw [hnq] at CI2 CE CC2 CT2 HLN ⊢
  rw [← hnp] at CI1 CE CC1 CT1 HLN ⊢
  clear ht hlp hlq hw1 x0 x1 hbp h1 h2 hne e1 e2 hl hD hDl hDq hpl hpc hql hqc hl32 ho32 hp32 hq32 CC CT hF1 hF2 hTA hTB hla hlb hnp hnq hmn
  have hn1 : n ≤ 1099511627776 := hn40
  go_enter Tryd.func12, Tryd.ntmps12
  go_upto_block 0 with fail
  rw [← HW1.out, ← HBP.out]
  go_cut [] from 18 to 45 (fun wx => Hid (Below w1.heap.size w1 wx))
  case first =>
    by_cases hlo : leaf = other
    · subst hlo
      have e1 : (leaf.toList == leaf.toList) = true := by simp
      have CE2 := Lib.hid (CE.out (HNE.out.resolve_left (fun h => h rfl)))
      go_wp2_with (first
        | (go_at_call 11; (with_reducible refine (CI1.out _ (Below.refl _ _)).mono ?_); rintro o x1 ⟨rfl, h⟩; have HB1 : Hid (Below w1.heap.size w1 x1) := Lib.hid h; clear h CI1)
        | (go_at_call 11; (with_reducible refine (CI2.out _ HB1.out).mono ?_); rintro o x2 ⟨rfl, h⟩; have HB2 : Hid (Below w1.heap.size w1 x2) := Lib.hid (HB1.out.trans (h.mono HB1.out.size)); clear h)
        | (go_at_call 55; (with_reducible refine (CE2.out _ HB2.out).mono ?_); rintro o x3 ⟨rfl, h⟩; have HB3 : Hid (Below w1.heap.size w1 x3) := Lib.hid (HB2.out.trans (h.mono HB2.out.size)); clear h))
      go_meet
      exact HB3
    · have e1 : (leaf.toList == other.toList) = false := textQ_ne hlo
      clear hlo
      go_wp2_with (first
        | (go_at_call 11; (with_reducible refine (CI1.out _ (Below.refl _ _)).mono ?_); rintro o x1 ⟨rfl, h⟩; have HB1 : Hid (Below w1.heap.size w1 x1) := Lib.hid h; clear h CI1)
        | (go_at_call 11; (with_reducible refine (CI2.out _ HB1.out).mono ?_); rintro o x2 ⟨rfl, h⟩; have HB2 : Hid (Below w1.heap.size w1 x2) := Lib.hid (HB1.out.trans (h.mono HB1.out.size)); clear h))
      go_meet
      exact HB2
  case rest =>
    have HBX := Lib.hid hcut.out
    clear hcut CI1 CI2 CE
    go_upto_region 6 with (first
      | (go_at_call 57; (with_reducible refine (CC1.out _ HBX.out).mono ?_); rintro o z1 ⟨v1, rfl, h⟩; have HS1 := Lib.hid h; have HBZ1 : Hid (Below w1.heap.size w1 z1) := Lib.hid (HBX.out.trans (h.b.mono HBX.out.size)); clear h)
      | (go_at_call 56; (with_reducible refine (CT1.out z1 v1 HBZ1.out HS1.out.h).mono ?_); rintro o z2 ⟨_, rfl, h⟩; obtain ⟨pA, cA, rfl, _⟩ := h.h.cells; have HA2 := Lib.hid h; have HBZ2 : Hid (Below w1.heap.size w1 z2) := Lib.hid (HBZ1.out.trans (h.b.mono HBZ1.out.size)); clear h))
    obtain ⟨z3, hz3⟩ : ∃ x, x = z2.alloc (.cells #[(.slice pA np cA)] 22) := ⟨_, rfl⟩
    obtain ⟨ba, hba⟩ : ∃ x, x = z2.heap.size := ⟨_, rfl⟩
    obtain ⟨y0, y1⟩ := one_blockE z2 #[(.slice pA np cA)] 22
    rw [← hz3] at y0 y1 ⊢
    rw [← hba] at y0 ⊢
    have HA3 := Lib.hid (HA2.out.below y1)
    have HY0 := Lib.hid y0
    have HBZ3 : Hid (Below w1.heap.size w1 z3) := Lib.hid (HBZ2.out.trans (y1.mono HBZ2.out.size))
    clear hz3 hba y0 y1 HA2 HBZ2 HS1 HBZ1
    go_upto_region 7 with (first
      | (go_at_call 57; (with_reducible refine (CC2.out _ HBZ3.out).mono ?_); rintro o z4 ⟨v2, rfl, h⟩; have HS4 := Lib.hid h; have HBZ4 : Hid (Below w1.heap.size w1 z4) := Lib.hid (HBZ3.out.trans (h.b.mono HBZ3.out.size)); clear h)
      | (go_at_call 56; (with_reducible refine (CT2.out z4 v2 HBZ4.out HS4.out.h).mono ?_); rintro o z5 ⟨_, rfl, h⟩; obtain ⟨pB, cB, rfl, _⟩ := h.h.cells; have HA5 := Lib.hid h; have HBZ5 : Hid (Below w1.heap.size w1 z5) := Lib.hid (HBZ4.out.trans (h.b.mono HBZ4.out.size)); have H35 : Hid (Below z3.heap.size z3 z5) := Lib.hid (HS4.out.b.trans (h.b.mono HS4.out.b.size)); clear h))
    obtain ⟨z6, hz6⟩ : ∃ x, x = z5.alloc (.cells #[(.slice pB np cB)] 22) := ⟨_, rfl⟩
    obtain ⟨bb, hbb⟩ : ∃ x, x = z5.heap.size := ⟨_, rfl⟩
    obtain ⟨y0, y1⟩ := one_blockE z5 #[(.slice pB np cB)] 22
    rw [← hz6] at y0 y1 ⊢
    rw [← hbb] at y0 ⊢
    have HB6 := Lib.hid (HA5.out.below y1)
    have HBZ6 : Hid (Below w1.heap.size w1 z6) := Lib.hid (HBZ5.out.trans (y1.mono HBZ5.out.size))
    have H36 : Hid (Below z3.heap.size z3 z6) := Lib.hid (H35.out.trans (y1.mono H35.out.size))
    have HA6 := Lib.hid (HA3.out.below H36.out)
    have HY6 := Lib.hid (blk_below HY0.out H36.out (blk_lt HY0.out))
    have HY1 := Lib.hid y0
    clear hz6 hbb y0 y1 HA5 HBZ5 H35 HA3 HBZ4 HS4 HY0
    have CG := Lib.hid (caughtI_any ba bb z6 (Lib.hid (fun w' hb => closI_any (va := (.slice pA np cA)) (vb := (.slice pB np cB)) (A := TA) (B := TB) (cellB (blk_below HY6.out hb (blk_lt HY6.out)) rfl) (cellB (blk_below HY1.out hb (blk_lt HY1.out)) rfl)
      (by have := (HA6.out.below hb).h; rw [HLN.out.1]; exact this) (by have := (HB6.out.below hb).h; rw [HLN.out.2]; exact this) HTW.out)))
    have hmf : ∀ (fn : Fn) (first cap : Array Value) (w : World), (Instr.makeFunc fn first cap).run Tryd.prog w = .ok (.func fn first cap) w := fun _ _ _ _ => rfl
    have HXP := Lib.hid (HX.out z6 HBZ6.out)
    have HBC : Hid (Below w.heap.size w z6) := Lib.hid (HF.out.1.trans (HBZ6.out.mono HF.out.1.size))
    have HBPW : Hid (w.heap.size ≤ bp) := Lib.hid HF.out.2
    go_wp2_with (go_at_call 58; (with_reducible refine CG.out.mono ?_); rintro o z ⟨p, q, rfl, hpq, hsh, hb⟩; have HZ := Lib.hid (And.intro hpq (And.intro hsh hb)); have hxz := blk_below HXP.out hb (blk_lt HXP.out); have HXZ := Lib.hid hxz; have k0 : z.cell? ⟨bp, 0, none⟩ = some (.string ⟨#[]⟩) := cellB hxz rfl; have k1 : z.cell? ⟨bp, 1, none⟩ = some (.string ⟨#[]⟩) := cellB hxz rfl; have f0 : z.frozen? ⟨bp, 0, none⟩ = false := frozB hxz; have f1 : z.frozen? ⟨bp, 1, none⟩ = false := frozB hxz; clear hpq hsh hb hxz)
    have hx6 := blk_set2 (x := .string p) (y := .string q) HXZ.out
    have m0 := cellB (k := 0) hx6 rfl
    have m1 := cellB (k := 1) hx6 rfl
    refine bodyPost_ret (v := .tuple #[.agg #[.string p, .string q], .int .i64 0]) (by simp [results, Tryd.results12, go_sem, m0, m1]) rfl ?_
    have hb2 := HBC.out.trans (HZ.out.2.2.mono HBC.out.size)
    exact ⟨p, q, rfl, HZ.out.1, HZ.out.2.1, (hb2.setCell (p := ⟨bp, 0, none⟩) HBPW.out _).setCell (p := ⟨bp, 1, none⟩) HBPW.out _⟩
end Go.Proofs.YtdbghgpohdijfaaDoor
/- scrivenerlaw6: the same lists? -/
namespace Go.Proofs.YtdbghgpohdijfaaDoor
open Go.RowKit Go.Scr
set_option linter.unusedVariables false
theorem textA_ne {a b : ByteArray} (h : a ≠ b) : (a.toList == b.toList) = false := by
  refine beq_eq_false_iff_ne.2 fun h2 => h ?_
  rw [ByteArray.toList_eq, ByteArray.toList_eq] at h2
  exact ByteArray.ext (Array.toList_inj.mp h2)
theorem textA_same (a : ByteArray) : (a.toList == a.toList) = true := beq_self_eq_true _
set_option maxRecDepth 100000 in
set_option maxHeartbeats 1000000 in
theorem sameA_any (v v2 : Value) (L M : List ByteArray) (w : World) (hv : Txts w v L) (hv2 : Txts w v2 M) (hl : L.length ≤ 1048576) (hl2 : M.length ≤ 1048576) :
    Calls Tryd.prog 13 #[v, v2] w fun e w' => e = .returned (.bool (decide (L = M))) ∧ Below w.heap.size w w' := by
  obtain ⟨p, c, rfl, hv1, hv2', hv3⟩ := hv
  obtain ⟨p2, c2, rfl, hw1, hw2', hw3⟩ := hv2
  obtain ⟨n, hn⟩ : ∃ n, n = L.length := ⟨_, rfl⟩
  obtain ⟨m, hm⟩ : ∃ m, m = M.length := ⟨_, rfl⟩
  rw [← hn] at hv1 hl ⊢
  rw [← hm] at hw1 hl2 ⊢
  have HNL := Lib.hid hn
  have HML := Lib.hid hm
  have HP := Lib.hid hv3
  have HP2 := Lib.hid hw3
  clear hn hm hv1 hv2' hv3 hw1 hw2' hw3
  by_cases hnm : n = m
  · have HNM := Lib.hid hnm
    have e0 : ((n : Int) == (m : Int)) = true := beq_iff_eq.2 (by omega)
    clear hnm
    go_enter Tryd.func13, Tryd.ntmps13
    go_wp2
    go_loopw [5] (fun q wr => ∃ i : Nat, i ≤ n ∧ q = .int .i64 i ∧ Hid (∀ j, j < i → L[j]? = M[j]?) ∧ Below w.heap.size w wr) (fun q _ => n - (intOf q).toNat)
    case atStart => exact ⟨0, by omega, rfl, Lib.hid (fun j h => absurd h (by omega)), Below.refl _ _⟩
    case round =>
      obtain ⟨i, hi, rfl, hinv, hbel⟩ := hrel
      have HBEL := Lib.hid hbel
      have HINV := Lib.hid hinv.out
      clear hbel hinv
      by_cases hlt : i < n
      · have hl8 : (i : Int) < (n : Int) := by omega
        have him : (i : Int) < (m : Int) := by have := HNM.out; omega
        obtain ⟨s, hs⟩ : ∃ s, L[i]? = some s := ⟨L[i]'(by rw [← HNL.out]; exact hlt), List.getElem?_eq_getElem _⟩
        obtain ⟨t, ht⟩ : ∃ s, M[i]? = some s := ⟨M[i]'(by rw [← HML.out, ← HNM.out]; exact hlt), List.getElem?_eq_getElem _⟩
        obtain ⟨a, rfl, hc⟩ := HP.out i s hs
        obtain ⟨b, rfl, hd⟩ := HP2.out i t ht
        have hcell1 : wr.cell? (a.add i) = some (.string s) := (HBEL.out.cell (block_lt_of_cell hc)).trans hc
        have hcell2 : wr.cell? (b.add i) = some (.string t) := (HBEL.out.cell (block_lt_of_cell hd)).trans hd
        have HS := Lib.hid hs
        have HT := Lib.hid ht
        clear hs ht hc hd
        by_cases hst : s = t
        · have e1 : (s.toList == t.toList) = true := by rw [hst]; exact textA_same _
          have HST := Lib.hid hst
          clear hst
          go_upto_region 6 with fail
          go_quiet (fail)
          have HBEL2 : Hid (Below w.heap.size w (wr.drewN nq)) := below_drewN HBEL.out nq
          generalize wr.drewN nq = wx at *
          go_wp2_with fail
          refine ⟨⟨i + 1, by omega, rfl, Lib.hid (fun j hj => ?_), HBEL2.out⟩, (by show n - ((i : Int) + 1).toNat < n - (i : Int).toNat; omega)⟩
          rcases Nat.lt_or_ge j i with h1 | h1
          · exact HINV.out j h1
          · have : j = i := by omega
            subst this
            rw [HS.out, HT.out, HST.out]
        · have e1 : (s.toList == t.toList) = false := textA_ne hst
          have HST := Lib.hid hst
          clear hst
          go_upto_region 6 with fail
          go_quiet (fail)
          have HBEL2 : Hid (Below w.heap.size w (wr.drewN nq)) := below_drewN HBEL.out nq
          generalize wr.drewN nq = wx at *
          go_wp2_with fail
          go_ret
          have hd : decide (L = M) = false := decide_eq_false (by
            intro he
            have h1 := HS.out
            rw [he, HT.out] at h1
            exact HST.out (Option.some.inj h1).symm)
          exact ⟨by rw [hd]; rfl, HBEL2.out⟩
      · have hl8 : ¬ ((i : Int) < (n : Int)) := by omega
        go_wp2_with fail
        go_ret
        have hd : decide (L = M) = true := decide_eq_true (by
          refine List.ext_getElem? fun j => ?_
          rcases Nat.lt_or_ge j i with h1 | h1
          · exact HINV.out j h1
          · rw [List.getElem?_eq_none (by have := HNL.out; omega), List.getElem?_eq_none (by have := HML.out; have := HNM.out; omega)])
        exact ⟨by rw [hd]; rfl, HBEL.out⟩
  · have e0 : ((n : Int) == (m : Int)) = false := beq_eq_false_iff_ne.2 (by omega)
    have e1 : decide (L = M) = false := decide_eq_false (by intro h; apply hnm; rw [HNL.out, HML.out, h])
    rw [e1]
    clear hnm e1
    go_enter Tryd.func13, Tryd.ntmps13
    go_wp2
    go_ret
    exact ⟨rfl, Below.refl _ _⟩
end Go.Proofs.YtdbghgpohdijfaaDoor
/- Law 6: ExtractPaths, walked (printed by gen_ey6.py). -/
namespace Go.Proofs.YtdbghgpohdijfaaDoor
open Go.RowKit Go.Scr
set_option linter.unusedVariables false
set_option maxRecDepth 100000 in
set_option maxHeartbeats 8000000 in
theorem ep_no {W : World} {s i : Int} {root leaf other : ByteArray} {v4 v6 : Value} {P Q : List ByteArray} (ht : Tabs W) (hP : Txts W v4 P) (hQ : Txts W v6 Q) (hp : P.length ≤ 1048576) (hq : Q.length ≤ 1048576) (h : inclS s i leaf P root ≠ 0 ∨ inclS s i other Q root ≠ 0) :
    Calls Tryd.prog 3 #[.int .i64 s, .int .i64 i, .string root, .string leaf, v4, .string other, v6] W fun o w' => o = .returned (.bool true) ∧ Below W.heap.size W w' := by
  have CA := Lib.hid (awake_any ht)
  have CLv : Hid (∀ w, Below W.heap.size W w → Calls Tryd.prog 12 #[.int .i64 s, .int .i64 i, .string root, .string leaf, v4, .string other, v6] w (AnsP 61 w)) := Lib.hid (fun w hb => by
    exact (incl_proof (ht.below hb) (hP.below hb (Nat.le_refl _)) (hQ.below hb (Nat.le_refl _)) hp hq h).mono fun e w' h => ans_none (by decide) h)
  obtain ⟨e1, he1⟩ : ∃ e, e = inclS s i leaf P root := ⟨_, rfl⟩
  obtain ⟨e2, he2⟩ : ∃ e, e = inclS s i other Q root := ⟨_, rfl⟩
  have CI1 : Hid (∀ w', Below W.heap.size W w' → Calls Tryd.prog 11 #[.int .i64 s, .int .i64 i, .string leaf, v4, .string root] w' fun o z => o = .returned (.int .i64 e1) ∧ Below w'.heap.size w' z) := Lib.hid (fun w' hb => by
    rw [he1]
    exact inclusion_any s i leaf v4 P root w' (ht.below hb) (hP.below hb (Nat.le_refl _)) hp)
  have CI2 : Hid (∀ w', Below W.heap.size W w' → Calls Tryd.prog 11 #[.int .i64 s, .int .i64 i, .string other, v6, .string root] w' fun o z => o = .returned (.int .i64 e2) ∧ Below w'.heap.size w' z) := Lib.hid (fun w' hb => by
    rw [he2]
    exact inclusion_any s i other v6 Q root w' (ht.below hb) (hQ.below hb (Nat.le_refl _)) hq)
  have CU : Hid (∀ w' x y, Below W.heap.size W w' → UnP x y → Calls Tryd.prog 14 #[.agg #[.string x, .string y]] w' fun o z => o = .returned (.bool true) ∧ Below w'.heap.size w' z) := Lib.hid (fun w' x y hb h => unlike_yes (ht.below hb) h.1 h.2)
  have HE : Hid (e1 ≠ 0 ∨ e2 ≠ 0) := Lib.hid (by rw [he1, he2]; exact h)
  clear h
  obtain ⟨n, hn⟩ : ∃ n, n = P.length := ⟨_, rfl⟩
  obtain ⟨m, hm⟩ : ∃ n, n = Q.length := ⟨_, rfl⟩
  obtain ⟨pa, ca, rfl⟩ : ∃ p c, v4 = .slice p n c := by obtain ⟨p, c, h, _⟩ := hP; exact ⟨p, c, by rw [h, hn]⟩
  obtain ⟨pb, cb, rfl⟩ : ∃ p c, v6 = .slice p m c := by obtain ⟨p, c, h, _⟩ := hQ; exact ⟨p, c, by rw [h, hm]⟩
  clear ht hP hQ hp hq hn hm he1 he2
  go_enter Tryd.func3, Tryd.ntmps3
  go_upto_region 5 with (first
    | (go_at_call 10; (with_reducible refine CA.out.mono ?_); rintro o w0 ⟨rfl, h⟩; have HX := Lib.hid h; clear h)
    | (go_at_call 11; (with_reducible refine (CI1.out _ HX.out).mono ?_); rintro o w1 ⟨rfl, h⟩; replace HX := Lib.hid (HX.out.trans (h.mono HX.out.size)); clear h CI1)
    | (go_at_call 11; (with_reducible refine (CI2.out _ HX.out).mono ?_); rintro o w2 ⟨rfl, h⟩; replace HX := Lib.hid (HX.out.trans (h.mono HX.out.size)); clear h CI2)
    | (go_at_call 12; (with_reducible refine (CLv.out _ HX.out).mono ?_); rintro o w3 ⟨x, y, rfl, hun, h⟩; have HUN := Lib.hid hun; replace HX := Lib.hid (HX.out.trans (h.mono HX.out.size)); clear h hun))
  obtain ⟨w4, hw4⟩ : ∃ z, z = w3.alloc (.cells #[.string x, .string y] 27) := ⟨_, rfl⟩
  obtain ⟨b1, hb1⟩ : ∃ z, z = w3.heap.size := ⟨_, rfl⟩
  have hx4 : w4.heap[b1]? = some (.cells #[.string x, .string y] 27 (0, 0)) := by rw [hw4, hb1]; exact heap_alloc_new w3 _
  have k0 : w4.cell? ⟨b1, 0, none⟩ = some (.string x) := cellB hx4 rfl
  have k1 : w4.cell? ⟨b1, 1, none⟩ = some (.string y) := cellB hx4 rfl
  have HX4 : Hid (Below W.heap.size W w4) := Lib.hid (by rw [hw4]; exact HX.out.alloc HX.out.size _)
  rw [← hw4, ← hb1]
  clear hw4 hb1 hx4 HX CA CLv
  by_cases h1 : e1 = 0
  · subst h1
    have h2 := HE.out.resolve_left (fun h => h rfl)
    have t1 : (e2 == 0) = false := beq_eq_false_iff_ne.2 h2
    have t2 : (e2 != 0) = true := bne_iff_ne.2 h2
    clear h2
    go_wp2_with fail
    go_ret
    exact ⟨rfl, HX4.out⟩
  · have t1 : (e1 == 0) = false := beq_eq_false_iff_ne.2 h1
    have t2 : (e1 != 0) = true := bne_iff_ne.2 h1
    clear h1
    go_wp2_with fail
    go_ret
    exact ⟨rfl, HX4.out⟩
set_option maxRecDepth 100000 in
set_option maxHeartbeats 8000000 in
theorem ep_none {W : World} {s i : Int} {root leaf other : ByteArray} {v4 v6 : Value} {P Q : List ByteArray} (ht : Tabs W) (hP : Txts W v4 P) (hQ : Txts W v6 Q) (hp : P.length ≤ 1048576) (hq : Q.length ≤ 1048576) (h : inclS s i leaf P root = 0 ∧ inclS s i other Q root = 0 ∧ leaf = other ∧ P = Q) :
    Calls Tryd.prog 3 #[.int .i64 s, .int .i64 i, .string root, .string leaf, v4, .string other, v6] W fun o w' => o = .returned (.bool true) ∧ Below W.heap.size W w' := by
  have CA := Lib.hid (awake_any ht)
  have CLv : Hid (∀ w, Below W.heap.size W w → Calls Tryd.prog 12 #[.int .i64 s, .int .i64 i, .string root, .string leaf, v4, .string other, v6] w (AnsP 60 w)) := Lib.hid (fun w hb => by
    obtain ⟨h1, h2, h3, h4⟩ := h
    subst h3 h4
    exact (incl_none (ht.below hb) (hP.below hb (Nat.le_refl _)) (hQ.below hb (Nat.le_refl _)) hp h1).mono fun e w' h => ans_none (by decide) h)
  obtain ⟨e1, he1⟩ : ∃ e, e = inclS s i leaf P root := ⟨_, rfl⟩
  obtain ⟨e2, he2⟩ : ∃ e, e = inclS s i other Q root := ⟨_, rfl⟩
  have CI1 : Hid (∀ w', Below W.heap.size W w' → Calls Tryd.prog 11 #[.int .i64 s, .int .i64 i, .string leaf, v4, .string root] w' fun o z => o = .returned (.int .i64 e1) ∧ Below w'.heap.size w' z) := Lib.hid (fun w' hb => by
    rw [he1]
    exact inclusion_any s i leaf v4 P root w' (ht.below hb) (hP.below hb (Nat.le_refl _)) hp)
  have CI2 : Hid (∀ w', Below W.heap.size W w' → Calls Tryd.prog 11 #[.int .i64 s, .int .i64 i, .string other, v6, .string root] w' fun o z => o = .returned (.int .i64 e2) ∧ Below w'.heap.size w' z) := Lib.hid (fun w' hb => by
    rw [he2]
    exact inclusion_any s i other v6 Q root w' (ht.below hb) (hQ.below hb (Nat.le_refl _)) hq)
  have CU : Hid (∀ w' x y, Below W.heap.size W w' → UnP x y → Calls Tryd.prog 14 #[.agg #[.string x, .string y]] w' fun o z => o = .returned (.bool true) ∧ Below w'.heap.size w' z) := Lib.hid (fun w' x y hb h => unlike_yes (ht.below hb) h.1 h.2)
  have hz1 : e1 = 0 := he1.trans h.1
  have hz2 : e2 = 0 := he2.trans h.2.1
  have hlo : leaf = other := h.2.2.1
  have hPQ : P = Q := h.2.2.2
  have CLK : Hid (∀ w', Below W.heap.size W w' → Calls Tryd.prog 13 #[v4, v6] w' fun o z => o = .returned (.bool true) ∧ Below w'.heap.size w' z) := Lib.hid (fun w' hb => by
    have := sameA_any v4 v6 P Q w' (hP.below hb (Nat.le_refl _)) (hQ.below hb (Nat.le_refl _)) hp hq
    rwa [show decide (P = Q) = true from decide_eq_true hPQ] at this)
  have HZ : Hid (e1 = 0 ∧ e2 = 0 ∧ leaf = other) := Lib.hid ⟨hz1, hz2, hlo⟩
  clear h hPQ hz1 hz2 hlo
  obtain ⟨n, hn⟩ : ∃ n, n = P.length := ⟨_, rfl⟩
  obtain ⟨m, hm⟩ : ∃ n, n = Q.length := ⟨_, rfl⟩
  obtain ⟨pa, ca, rfl⟩ : ∃ p c, v4 = .slice p n c := by obtain ⟨p, c, h, _⟩ := hP; exact ⟨p, c, by rw [h, hn]⟩
  obtain ⟨pb, cb, rfl⟩ : ∃ p c, v6 = .slice p m c := by obtain ⟨p, c, h, _⟩ := hQ; exact ⟨p, c, by rw [h, hm]⟩
  clear ht hP hQ hp hq hn hm he1 he2
  go_enter Tryd.func3, Tryd.ntmps3
  go_upto_region 5 with (first
    | (go_at_call 10; (with_reducible refine CA.out.mono ?_); rintro o w0 ⟨rfl, h⟩; have HX := Lib.hid h; clear h)
    | (go_at_call 11; (with_reducible refine (CI1.out _ HX.out).mono ?_); rintro o w1 ⟨rfl, h⟩; replace HX := Lib.hid (HX.out.trans (h.mono HX.out.size)); clear h CI1)
    | (go_at_call 11; (with_reducible refine (CI2.out _ HX.out).mono ?_); rintro o w2 ⟨rfl, h⟩; replace HX := Lib.hid (HX.out.trans (h.mono HX.out.size)); clear h CI2)
    | (go_at_call 12; (with_reducible refine (CLv.out _ HX.out).mono ?_); rintro o w3 ⟨x, y, rfl, hun, h⟩; have HUN := Lib.hid hun; replace HX := Lib.hid (HX.out.trans (h.mono HX.out.size)); clear h hun))
  obtain ⟨w4, hw4⟩ : ∃ z, z = w3.alloc (.cells #[.string x, .string y] 27) := ⟨_, rfl⟩
  obtain ⟨b1, hb1⟩ : ∃ z, z = w3.heap.size := ⟨_, rfl⟩
  have hx4 : w4.heap[b1]? = some (.cells #[.string x, .string y] 27 (0, 0)) := by rw [hw4, hb1]; exact heap_alloc_new w3 _
  have k0 : w4.cell? ⟨b1, 0, none⟩ = some (.string x) := cellB hx4 rfl
  have k1 : w4.cell? ⟨b1, 1, none⟩ = some (.string y) := cellB hx4 rfl
  have HX4 : Hid (Below W.heap.size W w4) := Lib.hid (by rw [hw4]; exact HX.out.alloc HX.out.size _)
  rw [← hw4, ← hb1]
  clear hw4 hb1 hx4 HX CA CLv
  obtain ⟨rfl, rfl, rfl⟩ := HZ.out
  have t1 : (leaf.toList == leaf.toList) = true := by simp
  go_wp2_with (go_at_call 13; (with_reducible refine (CLK.out _ HX4.out).mono ?_); rintro o w5 ⟨rfl, h⟩; have HX5 : Hid (Below W.heap.size W w5) := Lib.hid (HX4.out.trans (h.mono HX4.out.size)); clear h)
  go_ret
  exact ⟨rfl, HX5.out⟩
set_option maxRecDepth 100000 in
set_option maxHeartbeats 8000000 in
theorem ep_pair {W : World} {s i : Int} {root leaf other : ByteArray} {v4 v6 : Value} {P Q : List ByteArray} (ht : Tabs W) (hP : Txts W v4 P) (hQ : Txts W v6 Q) (hp : P.length ≤ 1048576) (hq : Q.length ≤ 1048576) (h : inclS s i leaf P root = 0 ∧ inclS s i other Q root = 0 ∧ (leaf ≠ other ∨ P ≠ Q)) :
    Calls Tryd.prog 3 #[.int .i64 s, .int .i64 i, .string root, .string leaf, v4, .string other, v6] W fun o w' => o = .returned (.bool true) ∧ Below W.heap.size W w' := by
  have CA := Lib.hid (awake_any ht)
  have CLv : Hid (∀ w, Below W.heap.size W w → Calls Tryd.prog 12 #[.int .i64 s, .int .i64 i, .string root, .string leaf, v4, .string other, v6] w (AnsP 0 w)) := Lib.hid (fun w hb => by
    exact (incl_pair (ht.below hb) (hP.below hb (Nat.le_refl _)) (hQ.below hb (Nat.le_refl _)) hp hq h.1 h.2.1 h.2.2).mono fun e w' h => ans_pair h)
  obtain ⟨e1, he1⟩ : ∃ e, e = inclS s i leaf P root := ⟨_, rfl⟩
  obtain ⟨e2, he2⟩ : ∃ e, e = inclS s i other Q root := ⟨_, rfl⟩
  have CI1 : Hid (∀ w', Below W.heap.size W w' → Calls Tryd.prog 11 #[.int .i64 s, .int .i64 i, .string leaf, v4, .string root] w' fun o z => o = .returned (.int .i64 e1) ∧ Below w'.heap.size w' z) := Lib.hid (fun w' hb => by
    rw [he1]
    exact inclusion_any s i leaf v4 P root w' (ht.below hb) (hP.below hb (Nat.le_refl _)) hp)
  have CI2 : Hid (∀ w', Below W.heap.size W w' → Calls Tryd.prog 11 #[.int .i64 s, .int .i64 i, .string other, v6, .string root] w' fun o z => o = .returned (.int .i64 e2) ∧ Below w'.heap.size w' z) := Lib.hid (fun w' hb => by
    rw [he2]
    exact inclusion_any s i other v6 Q root w' (ht.below hb) (hQ.below hb (Nat.le_refl _)) hq)
  have CU : Hid (∀ w' x y, Below W.heap.size W w' → UnP x y → Calls Tryd.prog 14 #[.agg #[.string x, .string y]] w' fun o z => o = .returned (.bool true) ∧ Below w'.heap.size w' z) := Lib.hid (fun w' x y hb h => unlike_yes (ht.below hb) h.1 h.2)
  have hz1 : e1 = 0 := he1.trans h.1
  have hz2 : e2 = 0 := he2.trans h.2.1
  have HZ : Hid (e1 = 0 ∧ e2 = 0) := Lib.hid ⟨hz1, hz2⟩
  clear h hz1 hz2
  obtain ⟨n, hn⟩ : ∃ n, n = P.length := ⟨_, rfl⟩
  obtain ⟨m, hm⟩ : ∃ n, n = Q.length := ⟨_, rfl⟩
  obtain ⟨pa, ca, rfl⟩ : ∃ p c, v4 = .slice p n c := by obtain ⟨p, c, h, _⟩ := hP; exact ⟨p, c, by rw [h, hn]⟩
  obtain ⟨pb, cb, rfl⟩ : ∃ p c, v6 = .slice p m c := by obtain ⟨p, c, h, _⟩ := hQ; exact ⟨p, c, by rw [h, hm]⟩
  clear ht hP hQ hp hq hn hm he1 he2
  go_enter Tryd.func3, Tryd.ntmps3
  go_upto_region 5 with (first
    | (go_at_call 10; (with_reducible refine CA.out.mono ?_); rintro o w0 ⟨rfl, h⟩; have HX := Lib.hid h; clear h)
    | (go_at_call 11; (with_reducible refine (CI1.out _ HX.out).mono ?_); rintro o w1 ⟨rfl, h⟩; replace HX := Lib.hid (HX.out.trans (h.mono HX.out.size)); clear h CI1)
    | (go_at_call 11; (with_reducible refine (CI2.out _ HX.out).mono ?_); rintro o w2 ⟨rfl, h⟩; replace HX := Lib.hid (HX.out.trans (h.mono HX.out.size)); clear h CI2)
    | (go_at_call 12; (with_reducible refine (CLv.out _ HX.out).mono ?_); rintro o w3 ⟨x, y, rfl, hun, h⟩; have HUN := Lib.hid hun; replace HX := Lib.hid (HX.out.trans (h.mono HX.out.size)); clear h hun))
  obtain ⟨w4, hw4⟩ : ∃ z, z = w3.alloc (.cells #[.string x, .string y] 27) := ⟨_, rfl⟩
  obtain ⟨b1, hb1⟩ : ∃ z, z = w3.heap.size := ⟨_, rfl⟩
  have hx4 : w4.heap[b1]? = some (.cells #[.string x, .string y] 27 (0, 0)) := by rw [hw4, hb1]; exact heap_alloc_new w3 _
  have k0 : w4.cell? ⟨b1, 0, none⟩ = some (.string x) := cellB hx4 rfl
  have k1 : w4.cell? ⟨b1, 1, none⟩ = some (.string y) := cellB hx4 rfl
  have HX4 : Hid (Below W.heap.size W w4) := Lib.hid (by rw [hw4]; exact HX.out.alloc HX.out.size _)
  rw [← hw4, ← hb1]
  clear hw4 hb1 hx4 HX CA CLv
  obtain ⟨rfl, rfl⟩ := HZ.out
  have CU2 := Lib.hid (CU.out w4 x y HX4.out (HUN.out (by first | rfl | trivial)))
  go_wp2_with (go_at_call 14; (with_reducible refine CU2.out.mono ?_); rintro o w5 ⟨rfl, h⟩; have HX5 : Hid (Below W.heap.size W w5) := Lib.hid (HX4.out.trans (h.mono HX4.out.size)); clear h)
  go_ret
  exact ⟨rfl, HX5.out⟩
theorem extractpaths_any {W : World} {s i : Int} {root leaf other : ByteArray} {v4 v6 : Value} {P Q : List ByteArray} (ht : Tabs W) (hP : Txts W v4 P) (hQ : Txts W v6 Q) (hp : P.length ≤ 1048576) (hq : Q.length ≤ 1048576) :
    Calls Tryd.prog 3 #[.int .i64 s, .int .i64 i, .string root, .string leaf, v4, .string other, v6] W fun o w' => o = .returned (.bool true) ∧ Below W.heap.size W w' := by
  by_cases h1 : inclS s i leaf P root = 0
  · by_cases h2 : inclS s i other Q root = 0
    · by_cases h3 : leaf = other ∧ P = Q
      · exact ep_none ht hP hQ hp hq ⟨h1, h2, h3.1, h3.2⟩
      · refine ep_pair ht hP hQ hp hq ⟨h1, h2, ?_⟩
        by_cases h4 : leaf = other
        · exact .inr fun h5 => h3 ⟨h4, h5⟩
        · exact .inl h4
    · exact ep_no ht hP hQ hp hq (.inr h2)
  · exact ep_no ht hP hQ hp hq (.inl h1)
end Go.Proofs.YtdbghgpohdijfaaDoor
