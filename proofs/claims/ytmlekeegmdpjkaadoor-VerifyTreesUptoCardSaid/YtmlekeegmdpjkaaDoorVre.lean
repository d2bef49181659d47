/- Layer 4, the document's answer, walked: RootsOf, Consistency. -/
import Derived.Test.YtmlekeegmdpjkaaDoorVrd
namespace Go.Proofs.YtmlekeegmdpjkaaDoor
open Go.RowKit Go.Scr
set_option linter.unusedVariables false

set_option maxRecDepth 100000 in
set_option maxHeartbeats 2000000 in
theorem rootsof4_any (f s : Int) (old : ByteArray) (v : Value) (L : List ByteArray) (w : World) (hv : Txts w v L) (hl : L.length ≤ 1048576) :
    Calls Tryd.prog 68 #[.int .i64 f, .int .i64 s, .string old, v] w fun e w' => e = .returned (.tuple #[.string (rootsOfS f s old L).1, .string (rootsOfS f s old L).2, .int .i64 (rootsOfE f s old L)]) ∧ Below w.heap.size w w' := by
  have HV := Lib.hid hv
  obtain ⟨p, c, rfl, hv1, hv2, hv3⟩ := hv
  obtain ⟨q, hq⟩ : ∃ q, q = L.length := ⟨_, rfl⟩
  rw [← hq] at hv1 HV hl ⊢
  have HQ := Lib.hid hq
  have hpl := fun w' => prooflen4_any f s w'
  obtain ⟨E, hE⟩ : ∃ E, E = proofLenE f s := ⟨_, rfl⟩
  obtain ⟨PL, hPL⟩ : ∃ PL, PL = proofLenS f s := ⟨_, rfl⟩
  rw [← hE, ← hPL] at hpl
  have HPL := Lib.hid hpl
  have HE := Lib.hid hE
  have HPLS := Lib.hid hPL
  clear hv1 hv2 hv3 hq hpl hE hPL
  have HH := Lib.hid (hashes4_any _ L w HV.out)
  by_cases hE0 : E = 0
  · subst hE0
    by_cases hbad : old.size ≠ 32 ∨ all32 L = false
    · have e1 : rootsOfE f s old L = 42 := by unfold rootsOfE; rw [← HE.out, if_neg (by simp), if_pos hbad]
      have e2 : rootsOfS f s old L = (⟨#[]⟩, ⟨#[]⟩) := by unfold rootsOfS; rw [e1]; rfl
      rw [e1, e2]
      clear e1 e2
      by_cases hleaf : old.size = 32
      · have hall : all32 L = false := by rcases hbad with h | h; exact absurd hleaf h; exact h
        have hli : (old.size : Int) = 32 := by omega
        rw [hall] at HH
        clear hbad hleaf hall
        go_enter Tryd.func68, Tryd.ntmps68
        go_wp2_with (first
          | (go_at_call 18; with_reducible refine (HPL.out w).mono ?_; rintro e w2 ⟨rfl, hw⟩; rw [hw]; clear hw w2)
          | (go_at_call 97; with_reducible refine (HH.out).mono ?_; rintro e w2 ⟨rfl, hw⟩; rw [hw]; clear hw w2))
        go_ret3
        exact ⟨rfl, Below.refl _ _⟩
      · have hli : ¬ ((old.size : Int) = 32) := by omega
        clear hbad hleaf
        go_enter Tryd.func68, Tryd.ntmps68
        go_wp2_with (first
          | (go_at_call 18; with_reducible refine (HPL.out w).mono ?_; rintro e w2 ⟨rfl, hw⟩; rw [hw]; clear hw w2)
          | (go_at_call 97; with_reducible refine (HH.out).mono ?_; rintro e w2 ⟨rfl, hw⟩; rw [hw]; clear hw w2))
        go_ret3
        exact ⟨rfl, Below.refl _ _⟩
    · have hall : all32 L = true := by
        rcases Bool.eq_false_or_eq_true (all32 L) with h | h
        · exact h
        · exact absurd (Or.inr h) hbad
      have hleaf : old.size = 32 := by
        rcases Nat.decEq old.size 32 with h | h
        · exact absurd (Or.inl h) hbad
        · exact h
      have hli : (old.size : Int) = 32 := by omega
      rw [hall] at HH
      by_cases hlen : (q : Int) = PL
      · obtain ⟨hf1, hfs, hs1⟩ : ¬ f < 1 ∧ ¬ s < f ∧ ¬ 1099511627776 < s := by
          have := HE.out
          unfold proofLenE at this
          refine ⟨fun h => ?_, fun h => ?_, fun h => ?_⟩
          · rw [if_pos (Or.inl h)] at this; cases this
          · rw [if_pos (Or.inr (Or.inl h))] at this; cases this
          · rw [if_pos (Or.inr (Or.inr h))] at this; cases this
        have e1 : rootsOfE f s old L = 0 := by unfold rootsOfE; rw [← HE.out, ← HPLS.out, ← HQ.out, if_neg (by simp), if_neg (by simp [hleaf, hall]), if_neg (by simp [hlen])]
        have e2 : rootsOfS f s old L = bothS f.toNat s.toNat true old L := by unfold rootsOfS; rw [e1]; rfl
        rw [e1, e2]
        clear e1 e2
        obtain ⟨n, rfl⟩ : ∃ n : Nat, f = n := ⟨f.toNat, by omega⟩
        obtain ⟨m, rfl⟩ : ∃ m : Nat, s = m := ⟨s.toNat, by omega⟩
        have hn : 1 ≤ n := by omega
        have hnm : n ≤ m := by omega
        have hm : m ≤ 1099511627776 := by omega
        have hql : toldN n m true = q := by
          have h1 := HPLS.out
          rw [(proofLenS_ok hn hnm hm).1] at h1
          omega
        rw [Int.toNat_natCast, Int.toNat_natCast]
        have hup := both4_any m n true old L p q c w HV.out HQ.out.symm hl hql hn hnm hm
        obtain ⟨X, hX⟩ : ∃ X, X = bothS n m true old L := ⟨_, rfl⟩
        rw [← hX] at hup ⊢
        obtain ⟨X1, X2⟩ := X
        have HUP := Lib.hid hup
        clear hup hX hf1 hfs hs1 hql hall hleaf hbad
        go_enter Tryd.func68, Tryd.ntmps68
        go_wp2_with (first
          | (go_at_call 18; with_reducible refine (HPL.out w).mono ?_; rintro e w2 ⟨rfl, hw⟩; rw [hw]; clear hw w2)
          | (go_at_call 97; with_reducible refine (HH.out).mono ?_; rintro e w2 ⟨rfl, hw⟩; rw [hw]; clear hw w2)
          | (go_at_call 103; with_reducible refine (HUP.out).mono ?_; rintro e w2 ⟨rfl, hb⟩; have HB1 := Lib.hid hb; clear hb))
        go_ret3
        exact ⟨rfl, HB1.out⟩
      · have e1 : rootsOfE f s old L = 43 := by unfold rootsOfE; rw [← HE.out, ← HPLS.out, ← HQ.out, if_neg (by simp), if_neg (by simp [hleaf, hall]), if_pos hlen]
        have e2 : rootsOfS f s old L = (⟨#[]⟩, ⟨#[]⟩) := by unfold rootsOfS; rw [e1]; rfl
        rw [e1, e2]
        clear e1 e2 hall hleaf hbad
        go_enter Tryd.func68, Tryd.ntmps68
        go_wp2_with (first
          | (go_at_call 18; with_reducible refine (HPL.out w).mono ?_; rintro e w2 ⟨rfl, hw⟩; rw [hw]; clear hw w2)
          | (go_at_call 97; with_reducible refine (HH.out).mono ?_; rintro e w2 ⟨rfl, hw⟩; rw [hw]; clear hw w2))
        go_ret3
        exact ⟨rfl, Below.refl _ _⟩
  · have e1 : rootsOfE f s old L = E := by unfold rootsOfE; rw [← HE.out, if_pos hE0]
    have e2 : rootsOfS f s old L = (⟨#[]⟩, ⟨#[]⟩) := by unfold rootsOfS; rw [e1, if_neg hE0]
    rw [e1, e2]
    clear e1 e2
    go_enter Tryd.func68, Tryd.ntmps68
    go_wp2_with (first
      | (go_at_call 18; with_reducible refine (HPL.out w).mono ?_; rintro e w2 ⟨rfl, hw⟩; rw [hw]; clear hw w2)
      | (go_at_call 97; with_reducible refine (HH.out).mono ?_; rintro e w2 ⟨rfl, hw⟩; rw [hw]; clear hw w2))
    go_ret3
    exact ⟨rfl, Below.refl _ _⟩

set_option maxRecDepth 100000 in
set_option maxHeartbeats 1000000 in
theorem consistency4_any (f s : Int) (old now : ByteArray) (v : Value) (L : List ByteArray) (w : World) (hv : Txts w v L) (hl : L.length ≤ 1048576) :
    Calls Tryd.prog 69 #[.int .i64 f, .int .i64 s, .string old, .string now, v] w fun e w' => e = .returned (.int .i64 (consS f s old now L)) ∧ Below w.heap.size w w' := by
  have hr := rootsof4_any f s old v L w hv hl
  obtain ⟨E, hE⟩ : ∃ E, E = rootsOfE f s old L := ⟨_, rfl⟩
  obtain ⟨R, hR⟩ : ∃ R, R = rootsOfS f s old L := ⟨_, rfl⟩
  unfold consS
  rw [← hE, ← hR] at hr ⊢
  obtain ⟨R1, R2⟩ := R
  have HRT := Lib.hid hr
  clear hv hr hE hR
  by_cases hE0 : E = 0
  · rw [if_neg (by simp [hE0])]
    subst hE0
    by_cases hroot : now.size = 32
    · rw [if_neg (by simp [hroot])]
      have hri : (now.size : Int) = 32 := by omega
      by_cases h1 : R1 = old
      · have q1 : (R1.toList == old.toList) = true := by rw [h1]; exact toList_same _
        by_cases h2 : R2 = now
        · have q2 : (R2.toList == now.toList) = true := by rw [h2]; exact toList_same _
          rw [if_neg (by simp [h1, h2])]
          clear hroot h1 h2
          go_enter Tryd.func69, Tryd.ntmps69
          go_wp2_with (go_at_call 68; with_reducible refine (HRT.out).mono ?_; rintro e w1 ⟨rfl, hb⟩; have HB1 := Lib.hid hb; clear hb)
          go_ret
          exact ⟨rfl, HB1.out⟩
        · have q2 := toList_ne h2
          rw [if_pos (Or.inr h2)]
          clear hroot h1 h2
          go_enter Tryd.func69, Tryd.ntmps69
          go_wp2_with (go_at_call 68; with_reducible refine (HRT.out).mono ?_; rintro e w1 ⟨rfl, hb⟩; have HB1 := Lib.hid hb; clear hb)
          go_ret
          exact ⟨rfl, HB1.out⟩
      · have q1 := toList_ne h1
        rw [if_pos (Or.inl h1)]
        clear hroot h1
        go_enter Tryd.func69, Tryd.ntmps69
        go_wp2_with (go_at_call 68; with_reducible refine (HRT.out).mono ?_; rintro e w1 ⟨rfl, hb⟩; have HB1 := Lib.hid hb; clear hb)
        go_ret
        exact ⟨rfl, HB1.out⟩
    · rw [if_pos hroot]
      have hri : ¬ ((now.size : Int) = 32) := by omega
      clear hroot
      go_enter Tryd.func69, Tryd.ntmps69
      go_wp2_with (go_at_call 68; with_reducible refine (HRT.out).mono ?_; rintro e w1 ⟨rfl, hb⟩; have HB1 := Lib.hid hb; clear hb)
      go_ret
      exact ⟨rfl, HB1.out⟩
  · rw [if_pos hE0]
    go_enter Tryd.func69, Tryd.ntmps69
    go_wp2_with (go_at_call 68; with_reducible refine (HRT.out).mono ?_; rintro e w1 ⟨rfl, hb⟩; have HB1 := Lib.hid hb; clear hb)
    go_ret
    exact ⟨rfl, HB1.out⟩
end Go.Proofs.YtmlekeegmdpjkaaDoor
