/- Layer 4, the document's answer, walked: RootOf, Inclusion. -/
import Derived.Test.YtmlekeegmdpjkaaDoorVrb
import Derived.Test.YtmlekeegmdpjkaaDoorVer9
namespace Go.Proofs.YtmlekeegmdpjkaaDoor
open Go.RowKit Go.Scr
set_option linter.unusedVariables false

set_option maxRecDepth 100000 in
set_option maxHeartbeats 2000000 in
theorem rootof4_any (s i : Int) (leaf : ByteArray) (v : Value) (L : List ByteArray) (w : World) (hv : Txts w v L) (hl : L.length ≤ 1048576) :
    Calls Tryd.prog 63 #[.int .i64 s, .int .i64 i, .string leaf, v] w fun e w' => e = .returned (.tuple #[.string (rootOfS s i leaf L), .int .i64 (rootOfE s i leaf L)]) ∧ Below w.heap.size w w' := by
  have HV := Lib.hid hv
  obtain ⟨p, c, rfl, hv1, hv2, hv3⟩ := hv
  obtain ⟨q, hq⟩ : ∃ q, q = L.length := ⟨_, rfl⟩
  rw [← hq] at hv1 HV hl ⊢
  have HQ := Lib.hid hq
  have hpl := fun w' => pathlen4_any s i w'
  obtain ⟨E, hE⟩ : ∃ E, E = pathLenE s i := ⟨_, rfl⟩
  obtain ⟨PL, hPL⟩ : ∃ PL, PL = pathLenS s i := ⟨_, rfl⟩
  rw [← hE, ← hPL] at hpl
  have HPL := Lib.hid hpl
  have HE := Lib.hid hE
  have HPLS := Lib.hid hPL
  clear hv1 hv2 hv3 hq hpl hE hPL
  have HH := Lib.hid (hashes4_any _ L w HV.out)
  by_cases hE0 : E = 0
  · subst hE0
    by_cases hbad : leaf.size ≠ 32 ∨ all32 L = false
    · have e1 : rootOfE s i leaf L = 42 := by unfold rootOfE; rw [← HE.out, if_neg (by simp), if_pos hbad]
      have e2 : rootOfS s i leaf L = ⟨#[]⟩ := by unfold rootOfS; rw [e1]; rfl
      rw [e1, e2]
      clear e1 e2
      by_cases hleaf : leaf.size = 32
      · have hall : all32 L = false := by rcases hbad with h | h; exact absurd hleaf h; exact h
        have hli : (leaf.size : Int) = 32 := by omega
        rw [hall] at HH
        clear hbad hleaf hall
        go_enter Tryd.func63, Tryd.ntmps63
        go_wp2_with (first
          | (go_at_call 16; with_reducible refine (HPL.out w).mono ?_; rintro e w2 ⟨rfl, hw⟩; rw [hw]; clear hw w2)
          | (go_at_call 97; with_reducible refine (HH.out).mono ?_; rintro e w2 ⟨rfl, hw⟩; rw [hw]; clear hw w2))
        go_ret2
        exact ⟨rfl, Below.refl _ _⟩
      · have hli : ¬ ((leaf.size : Int) = 32) := by omega
        clear hbad hleaf
        go_enter Tryd.func63, Tryd.ntmps63
        go_wp2_with (first
          | (go_at_call 16; with_reducible refine (HPL.out w).mono ?_; rintro e w2 ⟨rfl, hw⟩; rw [hw]; clear hw w2)
          | (go_at_call 97; with_reducible refine (HH.out).mono ?_; rintro e w2 ⟨rfl, hw⟩; rw [hw]; clear hw w2))
        go_ret2
        exact ⟨rfl, Below.refl _ _⟩
    · have hall : all32 L = true := by
        rcases Bool.eq_false_or_eq_true (all32 L) with h | h
        · exact h
        · exact absurd (Or.inr h) hbad
      have hleaf : leaf.size = 32 := by
        rcases Nat.decEq leaf.size 32 with h | h
        · exact absurd (Or.inl h) hbad
        · exact h
      have hli : (leaf.size : Int) = 32 := by omega
      rw [hall] at HH
      by_cases hlen : (q : Int) = PL
      · obtain ⟨hsn, hin⟩ : (¬ (s < 1 ∨ 1099511627776 < s)) ∧ ¬ (i < 0 ∨ s ≤ i) := by
          have := HE.out
          unfold pathLenE at this
          constructor
          · intro h; rw [if_pos h] at this; cases this
          · intro h
            by_cases h0 : s < 1 ∨ 1099511627776 < s
            · rw [if_pos h0] at this; cases this
            · rw [if_neg h0, if_pos h] at this; cases this
        have e1 : rootOfE s i leaf L = 0 := by unfold rootOfE; rw [← HE.out, ← HPLS.out, ← HQ.out, if_neg (by simp), if_neg (by simp [hleaf, hall]), if_neg (by simp [hlen])]
        have e2 : rootOfS s i leaf L = climbF nodeS (dn s.toNat i.toNat) L leaf := by unfold rootOfS; rw [e1]; rfl
        rw [e1, e2]
        clear e1 e2
        obtain ⟨n, rfl⟩ : ∃ n : Nat, s = n := ⟨s.toNat, by omega⟩
        obtain ⟨m, rfl⟩ : ∃ m : Nat, i = m := ⟨i.toNat, by omega⟩
        have hmn : m < n := by omega
        have hn : n ≤ 1099511627776 := by omega
        have hql : (dn n m).length = q := by
          have h1 := HPLS.out
          rw [(pathLenS_ok hmn hn).1] at h1
          unfold wayN at h1
          omega
        rw [Int.toNat_natCast, Int.toNat_natCast]
        have HUP := Lib.hid (up4_any q L n m leaf p c w HV.out HQ.out.symm hl hql hmn hn)
        clear hsn hin hmn hql hall hleaf hbad
        go_enter Tryd.func63, Tryd.ntmps63
        go_wp2_with (first
          | (go_at_call 16; with_reducible refine (HPL.out w).mono ?_; rintro e w2 ⟨rfl, hw⟩; rw [hw]; clear hw w2)
          | (go_at_call 97; with_reducible refine (HH.out).mono ?_; rintro e w2 ⟨rfl, hw⟩; rw [hw]; clear hw w2)
          | (go_at_call 98; with_reducible refine (HUP.out).mono ?_; rintro e w2 ⟨rfl, hb⟩; have HB1 := Lib.hid hb; clear hb))
        go_ret2
        exact ⟨rfl, HB1.out⟩
      · have e1 : rootOfE s i leaf L = 43 := by unfold rootOfE; rw [← HE.out, ← HPLS.out, ← HQ.out, if_neg (by simp), if_neg (by simp [hleaf, hall]), if_pos hlen]
        have e2 : rootOfS s i leaf L = ⟨#[]⟩ := by unfold rootOfS; rw [e1]; rfl
        rw [e1, e2]
        clear e1 e2 hall hleaf hbad
        go_enter Tryd.func63, Tryd.ntmps63
        go_wp2_with (first
          | (go_at_call 16; with_reducible refine (HPL.out w).mono ?_; rintro e w2 ⟨rfl, hw⟩; rw [hw]; clear hw w2)
          | (go_at_call 97; with_reducible refine (HH.out).mono ?_; rintro e w2 ⟨rfl, hw⟩; rw [hw]; clear hw w2))
        go_ret2
        exact ⟨rfl, Below.refl _ _⟩
  · have e1 : rootOfE s i leaf L = E := by unfold rootOfE; rw [← HE.out, if_pos hE0]
    have e2 : rootOfS s i leaf L = ⟨#[]⟩ := by unfold rootOfS; rw [e1, if_neg hE0]
    rw [e1, e2]
    clear e1 e2
    go_enter Tryd.func63, Tryd.ntmps63
    go_wp2_with (first
      | (go_at_call 16; with_reducible refine (HPL.out w).mono ?_; rintro e w2 ⟨rfl, hw⟩; rw [hw]; clear hw w2)
      | (go_at_call 97; with_reducible refine (HH.out).mono ?_; rintro e w2 ⟨rfl, hw⟩; rw [hw]; clear hw w2))
    go_ret2
    exact ⟨rfl, Below.refl _ _⟩

set_option maxRecDepth 100000 in
set_option maxHeartbeats 1000000 in
theorem inclusion4_any (s i : Int) (leaf : ByteArray) (v : Value) (L : List ByteArray) (root : ByteArray) (w : World) (hv : Txts w v L) (hl : L.length ≤ 1048576) :
    Calls Tryd.prog 64 #[.int .i64 s, .int .i64 i, .string leaf, v, .string root] w fun e w' => e = .returned (.int .i64 (inclS s i leaf L root)) ∧ Below w.heap.size w w' := by
  have hr := rootof4_any s i leaf v L w hv hl
  obtain ⟨E, hE⟩ : ∃ E, E = rootOfE s i leaf L := ⟨_, rfl⟩
  obtain ⟨R, hR⟩ : ∃ R, R = rootOfS s i leaf L := ⟨_, rfl⟩
  unfold inclS
  rw [← hE, ← hR] at hr ⊢
  have HRT := Lib.hid hr
  clear hv hr hE hR
  by_cases hE0 : E = 0
  · rw [if_neg (by simp [hE0])]
    subst hE0
    by_cases hroot : root.size = 32
    · rw [if_neg (by simp [hroot])]
      have hri : (root.size : Int) = 32 := by omega
      by_cases hRr : R = root
      · rw [if_neg (by simp [hRr])]
        subst hRr
        clear hroot
        go_enter Tryd.func64, Tryd.ntmps64
        go_wp2_with (go_at_call 63; with_reducible refine (HRT.out).mono ?_; rintro e w1 ⟨rfl, hb⟩; have HB1 := Lib.hid hb; clear hb)
        go_ret
        exact ⟨rfl, HB1.out⟩
      · rw [if_pos hRr]
        have hne := toList_ne hRr
        clear hroot hRr
        go_enter Tryd.func64, Tryd.ntmps64
        go_wp2_with (go_at_call 63; with_reducible refine (HRT.out).mono ?_; rintro e w1 ⟨rfl, hb⟩; have HB1 := Lib.hid hb; clear hb)
        go_ret
        exact ⟨rfl, HB1.out⟩
    · rw [if_pos hroot]
      have hri : ¬ ((root.size : Int) = 32) := by omega
      clear hroot
      go_enter Tryd.func64, Tryd.ntmps64
      go_wp2_with (go_at_call 63; with_reducible refine (HRT.out).mono ?_; rintro e w1 ⟨rfl, hb⟩; have HB1 := Lib.hid hb; clear hb)
      go_ret
      exact ⟨rfl, HB1.out⟩
  · rw [if_pos hE0]
    go_enter Tryd.func64, Tryd.ntmps64
    go_wp2_with (go_at_call 63; with_reducible refine (HRT.out).mono ?_; rintro e w1 ⟨rfl, hb⟩; have HB1 := Lib.hid hb; clear hb)
    go_ret
    exact ⟨rfl, HB1.out⟩
end Go.Proofs.YtmlekeegmdpjkaaDoor
