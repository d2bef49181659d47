/- Layer 4, the document's answer, walked: up, RootOf, Inclusion. -/
import Derived.Test.YtdbghgpohdijfaaGreatDoorMa43
import Derived.Test.YtdbghgpohdijfaaGreatDoorMa25
import Derived.Deep.RegionHeld3
import Derived.IntWalk
import Derived.Test.YtdbghgpohdijfaaGreatDoorMa26
import Derived.Test.YtdbghgpohdijfaaGreatDoorMa2
namespace Go.Proofs.YtdbghgpohdijfaaGreatDoor
open Go.RowKit Go.Scr
set_option linter.unusedVariables false

theorem keepS {w w2 w3 : World} {B : Nat} {x : Addr} {v : Value} (h : w2.cell? x = some v ∧ Below B w w2) (hb : Below w2.heap.size w2 w3) (hB : B ≤ w2.heap.size) : w3.cell? x = some v ∧ Below B w w3 :=
  ⟨(hb.cell (block_lt_of_cell h.1)).trans h.1, below_from h.2 hb hB⟩
theorem dn_left {n m : Nat} (h : 1 < n) (h2 : m < spl n) : dn n m = dn (spl n) m ++ [false] := by rw [dn, dif_neg (by omega), if_pos h2]
theorem dn_right {n m : Nat} (h : 1 < n) (h2 : ¬ m < spl n) : dn n m = dn (n - spl n) (m - spl n) ++ [true] := by rw [dn, dif_neg (by omega), if_neg h2]
theorem dn_one {n : Nat} (m : Nat) (h : n ≤ 1) : dn n m = [] := by rw [dn, dif_pos h]
theorem Txts.init {w : World} {p : Option Addr} {q c : Nat} {L' : List ByteArray} {s : ByteArray} (h : Txts w (.slice p (q + 1) c) (L' ++ [s])) :
    q = L'.length ∧ Txts w (.slice p q c) L' ∧ ∃ a, p = some a ∧ w.cell? (a.add q) = some (.string s) ∧ (q : Int) + 1 ≤ (c : Int) := by
  obtain ⟨p', c', he, h1, h2, h3⟩ := h
  simp only [Value.slice.injEq] at he
  obtain ⟨rfl, hq1, rfl⟩ := he
  rw [List.length_append, List.length_singleton] at hq1 h1 h2
  have hq : q = L'.length := by omega
  refine ⟨hq, ⟨p, c, by rw [hq], by omega, by omega, fun j x hx => h3 j x (by rw [List.getElem?_append_left (List.getElem?_eq_some_iff.mp hx).1]; exact hx)⟩, ?_⟩
  obtain ⟨a, ha, hc⟩ := h3 q s (by rw [hq]; simp)
  exact ⟨a, ha, hc, by omega⟩

set_option maxRecDepth 100000 in
set_option maxHeartbeats 2000000 in
theorem up4_any (q : Nat) : ∀ (L : List ByteArray) (n m : Nat) (leaf : ByteArray) (p : Option Addr) (c : Nat) (w : World), Txts w (.slice p q c) L → L.length = q → q ≤ 1048576 → (dn n m).length = q → m < n → n ≤ 1099511627776 →
    Calls Tryz.prog 80 #[.int .i64 n, .int .i64 m, .string leaf, .slice p q c] w fun e w' => e = .returned (.string (climbF nodeS (dn n m) L leaf)) ∧ Below w.heap.size w w' := by
  induction q with
  | zero =>
    intro L n m leaf p c w hv hL hq hd hmn hn
    have h1 : dn n m = [] := List.eq_nil_of_length_eq_zero hd
    have h2 : climbF nodeS (dn n m) L leaf = leaf := by rw [h1]; rfl
    rw [h2]
    clear h1 h2 hd hL hv
    go_enter Tryz.func80, Tryz.ntmps80
    go_wp2
    go_ret
    exact ⟨rfl, Below.refl _ _⟩
  | succ q ih =>
    intro L n m leaf p c w hv hL hq hd hmn hn
    have hn1 : 1 < n := by
      rcases Nat.lt_or_ge 1 n with h | h
      · exact h
      · rw [dn_one m h] at hd; simp at hd
    obtain ⟨L', s, rfl⟩ : ∃ L' s, L = L' ++ [s] := ⟨L.dropLast, L.getLast (by intro h; rw [h] at hL; simp at hL), (List.dropLast_concat_getLast (by intro h; rw [h] at hL; simp at hL)).symm⟩
    obtain ⟨hqL, hv2, a, rfl, hcell, hqc⟩ := hv.init
    have hsp := spl_lt (show 2 ≤ n by omega)
    obtain ⟨k, hk⟩ : ∃ k, k = spl n := ⟨_, rfl⟩
    have HSP := Lib.hid (fun w' => split4_any n w' hn)
    rw [← hk] at HSP hsp
    have HV := Lib.hid hv2
    have HNODE := Lib.hid (fun l r w' => node4_any l r w')
    have hq0 : ¬ ((q : Int) + 1 = 0) := by omega
    have hqq : (q : Int) < (q : Int) + 1 := by omega
    have hqb : q ≤ 1048576 := by omega
    have hq00 : (0 : Int) ≤ (q : Int) := by omega
    have hqcc : (q : Int) ≤ (c : Int) := by omega
    by_cases hlt : m < k
    · have hD : dn n m = dn k m ++ [false] := by have := dn_left (n := n) (m := m) hn1 (by rw [← hk]; exact hlt); rw [← hk] at this; exact this
      have hlen : (dn k m).length = q := by rw [hD] at hd; simpa using hd
      have HC := Lib.hid (fun w' (h : Txts w' (.slice (some a) q c) L') => ih L' k m leaf (some a) c w' h (by omega) (by omega) hlen hlt (by omega))
      obtain ⟨X, hX⟩ : ∃ X, X = climbF nodeS (dn k m) L' leaf := ⟨_, rfl⟩
      have hR : climbF nodeS (dn n m) (L' ++ [s]) leaf = nodeS X s := by rw [hD, climbF_snoc _ _ _ _ _ _ (by omega), hX]; rfl
      rw [hR]
      rw [← hX] at HC
      have hlti : (m : Int) < (k : Int) := by omega
      clear ih hR hX hD hlen hk hv hv2 hqL hL hd
      go_enter Tryz.func80, Tryz.ntmps80
      go_upto_region 6 with (go_at_call 97; with_reducible refine (HSP.out _).mono ?_; rintro e w2 ⟨rfl, hw⟩; rw [hw]; clear hw w2)
      have hw1 : IntKind.i64.wrap ((q : Int) + 1 - 1) = (q : Int) := by rw [show (q : Int) + 1 - 1 = (q : Int) by omega]; exact IntWalk.i64_in _ (by omega)
      have hw2 : IntKind.i64.wrap (q : Int) = (q : Int) := IntWalk.i64_in _ (by omega)
      have HVd : Hid (Txts w.drew (.slice (some a) q c) L') := HV
      have HS1 : Hid (w.drew.cell? (a.add q) = some (.string s) ∧ Below w.heap.size w w.drew) := Lib.hid ⟨hcell, (Below.refl w.heap.size w).drew⟩
      go_region_held3 (fun w' => w'.cell? (a.add q) = some (.string s) ∧ Below w.heap.size w w') (first | exact HS1.out | exact HS3.out | exact HS2.out) (first
        | (go_at_call 80; with_reducible refine (HC.out w.drew HVd.out).mono ?_; rintro e w2 ⟨rfl, hb⟩; have HS2 := Lib.hid (keepS HS1.out hb (Nat.le_refl _)); clear hb)
        | (go_at_call 98; with_reducible refine (HNODE.out _ _ _).mono ?_; rintro e w3 ⟨rfl, hb⟩; have HS3 := Lib.hid (keepS HS2.out hb HS2.out.2.size); clear hb))
      go_wp2_with fail
      go_ret
      exact ⟨rfl, HS3.out.2⟩
    · have hD : dn n m = dn (n - k) (m - k) ++ [true] := by have := dn_right (n := n) (m := m) hn1 (by rw [← hk]; exact hlt); rw [← hk] at this; exact this
      have hlen : (dn (n - k) (m - k)).length = q := by rw [hD] at hd; simpa using hd
      have HC := Lib.hid (fun w' (h : Txts w' (.slice (some a) q c) L') => ih L' (n - k) (m - k) leaf (some a) c w' h (by omega) (by omega) hlen (by omega) (by omega))
      obtain ⟨X, hX⟩ : ∃ X, X = climbF nodeS (dn (n - k) (m - k)) L' leaf := ⟨_, rfl⟩
      have hR : climbF nodeS (dn n m) (L' ++ [s]) leaf = nodeS s X := by rw [hD, climbF_snoc _ _ _ _ _ _ (by omega), hX]; rfl
      rw [hR]
      rw [← hX] at HC
      have hlti : ¬ ((m : Int) < (k : Int)) := by omega
      obtain ⟨nk, hnk⟩ : ∃ x, x = n - k := ⟨_, rfl⟩
      obtain ⟨mk, hmk⟩ : ∃ x, x = m - k := ⟨_, rfl⟩
      rw [← hnk, ← hmk] at HC
      have q1 : (n : Int) - (k : Int) = (nk : Int) := by omega
      have q2 : (m : Int) - (k : Int) = (mk : Int) := by omega
      have hnkb : nk ≤ 1099511627776 := by omega
      have hmkb : mk ≤ 1099511627776 := by omega
      clear ih hR hX hD hlen hk hv hv2 hqL hL hd hnk hmk
      go_enter Tryz.func80, Tryz.ntmps80
      go_upto_region 7 with (go_at_call 97; with_reducible refine (HSP.out _).mono ?_; rintro e w2 ⟨rfl, hw⟩; rw [hw]; clear hw w2)
      have hw1 : IntKind.i64.wrap ((q : Int) + 1 - 1) = (q : Int) := by rw [show (q : Int) + 1 - 1 = (q : Int) by omega]; exact IntWalk.i64_in _ (by omega)
      have hw2 : IntKind.i64.wrap (q : Int) = (q : Int) := IntWalk.i64_in _ (by omega)
      have hw3 : IntKind.i64.wrap (nk : Int) = (nk : Int) := IntWalk.i64_in _ (by omega)
      have hw4 : IntKind.i64.wrap (mk : Int) = (mk : Int) := IntWalk.i64_in _ (by omega)
      have HVd : Hid (Txts w.drew (.slice (some a) q c) L') := HV
      have HS1 : Hid (w.drew.cell? (a.add q) = some (.string s) ∧ Below w.heap.size w w.drew) := Lib.hid ⟨hcell, (Below.refl w.heap.size w).drew⟩
      go_region_held3 (fun w' => w'.cell? (a.add q) = some (.string s) ∧ Below w.heap.size w w') (first | exact HS1.out | exact HS3.out | exact HS2.out) (first
        | (go_at_call 80; with_reducible refine (HC.out w.drew HVd.out).mono ?_; rintro e w2 ⟨rfl, hb⟩; have HS2 := Lib.hid (keepS HS1.out hb (Nat.le_refl _)); clear hb)
        | (go_at_call 98; with_reducible refine (HNODE.out _ _ _).mono ?_; rintro e w3 ⟨rfl, hb⟩; have HS3 := Lib.hid (keepS HS2.out hb HS2.out.2.size); clear hb))
      go_wp2_with fail
      go_ret
      exact ⟨rfl, HS3.out.2⟩
end Go.Proofs.YtdbghgpohdijfaaGreatDoor
/- Layer 4, the document's answer, walked: RootOf, Inclusion. -/
namespace Go.Proofs.YtdbghgpohdijfaaGreatDoor
open Go.RowKit Go.Scr
set_option linter.unusedVariables false

set_option maxRecDepth 100000 in
set_option maxHeartbeats 2000000 in
theorem rootof4_any (s i : Int) (leaf : ByteArray) (v : Value) (L : List ByteArray) (w : World) (hv : Txts w v L) (hl : L.length ≤ 1048576) :
    Calls Tryz.prog 56 #[.int .i64 s, .int .i64 i, .string leaf, v] w fun e w' => e = .returned (.tuple #[.string (rootOfS s i leaf L), .int .i64 (rootOfE s i leaf L)]) ∧ Below w.heap.size w w' := by
  have HV := Lib.hid hv
  obtain ⟨p, c, rfl, hv1, hv2, hv3⟩ := hv
  obtain ⟨q, hq⟩ : ∃ q, q = L.length := ⟨_, rfl⟩
  rw [← hq] at hv1 HV hl ⊢
  have HQ := Lib.hid hq
  have hpl := fun w' => pathlen4_any s i w'
  obtain ⟨E, hE⟩ : ∃ E, E = pathLenE s i := ⟨_, rfl⟩
  obtain ⟨PL, hPL⟩ : ∃ PL, PL = pathLenS s i := ⟨_, rfl⟩
  rw [← hE, ← hPL] at hpl
  have HPL := Lib.hid hpl
  have HE := Lib.hid hE
  have HPLS := Lib.hid hPL
  clear hv1 hv2 hv3 hq hpl hE hPL
  have HH := Lib.hid (hashes4_any _ L w HV.out)
  by_cases hE0 : E = 0
  · subst hE0
    by_cases hbad : leaf.size ≠ 32 ∨ all32 L = false
    · have e1 : rootOfE s i leaf L = 42 := by unfold rootOfE; rw [← HE.out, if_neg (by simp), if_pos hbad]
      have e2 : rootOfS s i leaf L = ⟨#[]⟩ := by unfold rootOfS; rw [e1]; rfl
      rw [e1, e2]
      clear e1 e2
      by_cases hleaf : leaf.size = 32
      · have hall : all32 L = false := by rcases hbad with h | h; exact absurd hleaf h; exact h
        have hli : (leaf.size : Int) = 32 := by omega
        rw [hall] at HH
        clear hbad hleaf hall
        go_enter Tryz.func56, Tryz.ntmps56
        go_wp2_with (first
          | (go_at_call 78; with_reducible refine (HPL.out w).mono ?_; rintro e w2 ⟨rfl, hw⟩; rw [hw]; clear hw w2)
          | (go_at_call 79; with_reducible refine (HH.out).mono ?_; rintro e w2 ⟨rfl, hw⟩; rw [hw]; clear hw w2))
        go_ret2
        exact ⟨rfl, Below.refl _ _⟩
      · have hli : ¬ ((leaf.size : Int) = 32) := by omega
        clear hbad hleaf
        go_enter Tryz.func56, Tryz.ntmps56
        go_wp2_with (first
          | (go_at_call 78; with_reducible refine (HPL.out w).mono ?_; rintro e w2 ⟨rfl, hw⟩; rw [hw]; clear hw w2)
          | (go_at_call 79; with_reducible refine (HH.out).mono ?_; rintro e w2 ⟨rfl, hw⟩; rw [hw]; clear hw w2))
        go_ret2
        exact ⟨rfl, Below.refl _ _⟩
    · have hall : all32 L = true := by
        rcases Bool.eq_false_or_eq_true (all32 L) with h | h
        · exact h
        · exact absurd (Or.inr h) hbad
      have hleaf : leaf.size = 32 := by
        rcases Nat.decEq leaf.size 32 with h | h
        · exact absurd (Or.inl h) hbad
        · exact h
      have hli : (leaf.size : Int) = 32 := by omega
      rw [hall] at HH
      by_cases hlen : (q : Int) = PL
      · obtain ⟨hsn, hin⟩ : (¬ (s < 1 ∨ 1099511627776 < s)) ∧ ¬ (i < 0 ∨ s ≤ i) := by
          have := HE.out
          unfold pathLenE at this
          constructor
          · intro h; rw [if_pos h] at this; cases this
          · intro h
            by_cases h0 : s < 1 ∨ 1099511627776 < s
            · rw [if_pos h0] at this; cases this
            · rw [if_neg h0, if_pos h] at this; cases this
        have e1 : rootOfE s i leaf L = 0 := by unfold rootOfE; rw [← HE.out, ← HPLS.out, ← HQ.out, if_neg (by simp), if_neg (by simp [hleaf, hall]), if_neg (by simp [hlen])]
        have e2 : rootOfS s i leaf L = climbF nodeS (dn s.toNat i.toNat) L leaf := by unfold rootOfS; rw [e1]; rfl
        rw [e1, e2]
        clear e1 e2
        obtain ⟨n, rfl⟩ : ∃ n : Nat, s = n := ⟨s.toNat, by omega⟩
        obtain ⟨m, rfl⟩ : ∃ m : Nat, i = m := ⟨i.toNat, by omega⟩
        have hmn : m < n := by omega
        have hn : n ≤ 1099511627776 := by omega
        have hql : (dn n m).length = q := by
          have h1 := HPLS.out
          rw [(pathLenS_ok hmn hn).1] at h1
          unfold wayN at h1
          omega
        rw [Int.toNat_natCast, Int.toNat_natCast]
        have HUP := Lib.hid (up4_any q L n m leaf p c w HV.out HQ.out.symm hl hql hmn hn)
        clear hsn hin hmn hql hall hleaf hbad
        go_enter Tryz.func56, Tryz.ntmps56
        go_wp2_with (first
          | (go_at_call 78; with_reducible refine (HPL.out w).mono ?_; rintro e w2 ⟨rfl, hw⟩; rw [hw]; clear hw w2)
          | (go_at_call 79; with_reducible refine (HH.out).mono ?_; rintro e w2 ⟨rfl, hw⟩; rw [hw]; clear hw w2)
          | (go_at_call 80; with_reducible refine (HUP.out).mono ?_; rintro e w2 ⟨rfl, hb⟩; have HB1 := Lib.hid hb; clear hb))
        go_ret2
        exact ⟨rfl, HB1.out⟩
      · have e1 : rootOfE s i leaf L = 43 := by unfold rootOfE; rw [← HE.out, ← HPLS.out, ← HQ.out, if_neg (by simp), if_neg (by simp [hleaf, hall]), if_pos hlen]
        have e2 : rootOfS s i leaf L = ⟨#[]⟩ := by unfold rootOfS; rw [e1]; rfl
        rw [e1, e2]
        clear e1 e2 hall hleaf hbad
        go_enter Tryz.func56, Tryz.ntmps56
        go_wp2_with (first
          | (go_at_call 78; with_reducible refine (HPL.out w).mono ?_; rintro e w2 ⟨rfl, hw⟩; rw [hw]; clear hw w2)
          | (go_at_call 79; with_reducible refine (HH.out).mono ?_; rintro e w2 ⟨rfl, hw⟩; rw [hw]; clear hw w2))
        go_ret2
        exact ⟨rfl, Below.refl _ _⟩
  · have e1 : rootOfE s i leaf L = E := by unfold rootOfE; rw [← HE.out, if_pos hE0]
    have e2 : rootOfS s i leaf L = ⟨#[]⟩ := by unfold rootOfS; rw [e1, if_neg hE0]
    rw [e1, e2]
    clear e1 e2
    go_enter Tryz.func56, Tryz.ntmps56
    go_wp2_with (first
      | (go_at_call 78; with_reducible refine (HPL.out w).mono ?_; rintro e w2 ⟨rfl, hw⟩; rw [hw]; clear hw w2)
      | (go_at_call 79; with_reducible refine (HH.out).mono ?_; rintro e w2 ⟨rfl, hw⟩; rw [hw]; clear hw w2))
    go_ret2
    exact ⟨rfl, Below.refl _ _⟩

set_option maxRecDepth 100000 in
set_option maxHeartbeats 1000000 in
theorem inclusion4_any (s i : Int) (leaf : ByteArray) (v : Value) (L : List ByteArray) (root : ByteArray) (w : World) (hv : Txts w v L) (hl : L.length ≤ 1048576) :
    Calls Tryz.prog 26 #[.int .i64 s, .int .i64 i, .string leaf, v, .string root] w fun e w' => e = .returned (.int .i64 (inclS s i leaf L root)) ∧ Below w.heap.size w w' := by
  have hr := rootof4_any s i leaf v L w hv hl
  obtain ⟨E, hE⟩ : ∃ E, E = rootOfE s i leaf L := ⟨_, rfl⟩
  obtain ⟨R, hR⟩ : ∃ R, R = rootOfS s i leaf L := ⟨_, rfl⟩
  unfold inclS
  rw [← hE, ← hR] at hr ⊢
  have HRT := Lib.hid hr
  clear hv hr hE hR
  by_cases hE0 : E = 0
  · rw [if_neg (by simp [hE0])]
    subst hE0
    by_cases hroot : root.size = 32
    · rw [if_neg (by simp [hroot])]
      have hri : (root.size : Int) = 32 := by omega
      by_cases hRr : R = root
      · rw [if_neg (by simp [hRr])]
        subst hRr
        clear hroot
        go_enter Tryz.func26, Tryz.ntmps26
        go_wp2_with (go_at_call 56; with_reducible refine (HRT.out).mono ?_; rintro e w1 ⟨rfl, hb⟩; have HB1 := Lib.hid hb; clear hb)
        go_ret
        exact ⟨rfl, HB1.out⟩
      · rw [if_pos hRr]
        have hne := toList_ne hRr
        clear hroot hRr
        go_enter Tryz.func26, Tryz.ntmps26
        go_wp2_with (go_at_call 56; with_reducible refine (HRT.out).mono ?_; rintro e w1 ⟨rfl, hb⟩; have HB1 := Lib.hid hb; clear hb)
        go_ret
        exact ⟨rfl, HB1.out⟩
    · rw [if_pos hroot]
      have hri : ¬ ((root.size : Int) = 32) := by omega
      clear hroot
      go_enter Tryz.func26, Tryz.ntmps26
      go_wp2_with (go_at_call 56; with_reducible refine (HRT.out).mono ?_; rintro e w1 ⟨rfl, hb⟩; have HB1 := Lib.hid hb; clear hb)
      go_ret
      exact ⟨rfl, HB1.out⟩
  · rw [if_pos hE0]
    go_enter Tryz.func26, Tryz.ntmps26
    go_wp2_with (go_at_call 56; with_reducible refine (HRT.out).mono ?_; rintro e w1 ⟨rfl, hb⟩; have HB1 := Lib.hid hb; clear hb)
    go_ret
    exact ⟨rfl, HB1.out⟩
end Go.Proofs.YtdbghgpohdijfaaGreatDoor
/- Layer 4, the document's answer, walked: both. -/
namespace Go.Proofs.YtdbghgpohdijfaaGreatDoor
open Go.RowKit Go.Scr
set_option linter.unusedVariables false

def bothS (f s : Nat) (b : Bool) (old : ByteArray) (L : List ByteArray) : ByteArray × ByteArray :=
  climbB nodeS (fl f s) (restL (wh f s b) L) (seedL (wh f s b) old L, seedL (wh f s b) old L)
theorem bothS_true (f : Nat) (old : ByteArray) (L : List ByteArray) : bothS f f true old L = (old, old) := by
  unfold bothS
  rw [wh, dif_pos (Or.inl rfl), fl, dif_pos (Or.inl rfl)]
  simp [climbB, seedL]
theorem bothS_false (f : Nat) (old x : ByteArray) (L : List ByteArray) : bothS f f false old (x :: L) = (x, x) := by
  unfold bothS
  rw [wh, dif_pos (Or.inl rfl), fl, dif_pos (Or.inl rfl)]
  simp [climbB, seedL]
theorem restL_len (b : Bool) (L : List ByteArray) (n : Nat) (h : L.length = n + (if b then 0 else 1)) : (restL b L).length = n := by
  unfold restL
  cases b <;> simp at h ⊢ <;> omega
theorem bothS_left {f s k : Nat} {b : Bool} {old x : ByteArray} {L : List ByteArray} (hk : k = spl s) (hne : f ≠ s) (hs : 1 < s) (hle : f ≤ k) (hL : L.length = toldN f k b) :
    bothS f s b old (L ++ [x]) = ((bothS f k b old L).1, nodeS (bothS f k b old L).2 x) := by
  subst hk
  have h1 : wh f s b = wh f (spl s) b := by rw [wh.eq_1 f s, dif_neg (by omega), if_pos hle]
  have h2 : fl f s = fl f (spl s) ++ [false] := by rw [fl.eq_1 f s, dif_neg (by omega), if_pos hle]
  have hne2 : wh f (spl s) b = true ∨ L ≠ [] := by
    rcases Bool.eq_false_or_eq_true (wh f (spl s) b) with h | h
    · exact Or.inl h
    · right; intro hc; rw [hc] at hL; unfold toldN at hL; rw [h] at hL; simp at hL
  unfold bothS
  rw [h1, h2, rest_snoc _ _ _ hne2, seed_snoc _ _ _ _ hne2, climbB_snoc _ _ _ _ _ _ (restL_len _ _ _ hL).symm]
  rfl
theorem bothS_right {f s k : Nat} {b : Bool} {old x : ByteArray} {L : List ByteArray} (hk : k = spl s) (hne : f ≠ s) (hs : 1 < s) (hle : ¬ f ≤ k) (hL : L.length = toldN (f - k) (s - k) false) :
    bothS f s b old (L ++ [x]) = (nodeS x (bothS (f - k) (s - k) false old L).1, nodeS x (bothS (f - k) (s - k) false old L).2) := by
  subst hk
  have h1 : wh f s b = wh (f - spl s) (s - spl s) false := by rw [wh.eq_1 f s, dif_neg (by omega), if_neg hle]
  have h2 : fl f s = fl (f - spl s) (s - spl s) ++ [true] := by rw [fl.eq_1 f s, dif_neg (by omega), if_neg hle]
  have hne2 : wh (f - spl s) (s - spl s) false = true ∨ L ≠ [] := by
    right; intro hc; rw [hc] at hL; unfold toldN at hL; rw [wh_false] at hL; simp at hL
  unfold bothS
  rw [h1, h2, rest_snoc _ _ _ hne2, seed_snoc _ _ _ _ hne2, climbB_snoc _ _ _ _ _ _ (restL_len _ _ _ hL).symm]
  rfl

set_option maxRecDepth 100000 in
set_option maxHeartbeats 2000000 in
theorem both4_any (s : Nat) : ∀ (f : Nat) (b : Bool) (old : ByteArray) (L : List ByteArray) (p : Option Addr) (q c : Nat) (w : World), Txts w (.slice p q c) L → L.length = q → q ≤ 1048576 → toldN f s b = q → 1 ≤ f → f ≤ s → s ≤ 1099511627776 →
    Calls Tryz.prog 92 #[.int .i64 f, .int .i64 s, .bool b, .string old, .slice p q c] w fun e w' => e = .returned (.tuple #[.string (bothS f s b old L).1, .string (bothS f s b old L).2]) ∧ Below w.heap.size w w' := by
  induction s using Nat.strongRecOn with
  | ind s ih =>
    intro f b old L p q c w hv hL hq ht h1 h2 h3
    have IH := Lib.hid ih
    clear ih
    by_cases heq : f = s
    · subst heq
      cases b with
      | true =>
        rw [bothS_true]
        clear ht hL hv
        go_enter Tryz.func92, Tryz.ntmps92
        go_wp2
        go_ret2
        exact ⟨rfl, Below.refl _ _⟩
      | false =>
        have hq1 : q = 1 := by rw [← ht, toldN_same]; rfl
        rw [hq1] at hL
        have hqp : (0 : Int) < (q : Int) := by omega
        obtain ⟨x, rfl⟩ : ∃ x, L = [x] := by
          cases L with
          | nil => simp at hL
          | cons x t => cases t with
            | nil => exact ⟨x, rfl⟩
            | cons y t => simp at hL
        rw [bothS_false]
        obtain ⟨p', c', he, hv1, hv2, hv3⟩ := hv
        simp only [Value.slice.injEq] at he
        obtain ⟨rfl, _, rfl⟩ := he
        obtain ⟨a, rfl, hc⟩ := hv3 0 x rfl
        clear hq1
        rw [Addr.add_zero'] at hc
        clear ht hL hv1 hv2 hv3 hq h2 IH
        go_enter Tryz.func92, Tryz.ntmps92
        go_upto_region 4 with fail
        go_quiet (fail)
        go_wp2
        go_ret2
        exact ⟨rfl, below_drewN (Below.refl _ _) _⟩
    · have hs1 : 1 < s := by omega
      have hsp := spl_lt (show 2 ≤ s by omega)
      obtain ⟨k, hk⟩ : ∃ k, k = spl s := ⟨_, rfl⟩
      have HSP := Lib.hid (fun w' => split4_any s w' h3)
      rw [← hk] at HSP hsp
      have HNODE := Lib.hid (fun l r w' => node4_any l r w')
      have hne : ¬ ((f : Int) = (s : Int)) := by omega
      by_cases hle : f ≤ k
      · have ht2 : toldN f s b = toldN f k b + 1 := by have := toldN_left b heq hs1 (by rw [← hk]; exact hle); rw [← hk] at this; exact this
        obtain ⟨q', rfl⟩ : ∃ q', q = q' + 1 := ⟨toldN f k b, by omega⟩
        obtain ⟨L', x, rfl⟩ : ∃ L' x, L = L' ++ [x] := ⟨L.dropLast, L.getLast (by intro h; rw [h] at hL; simp at hL), (List.dropLast_concat_getLast (by intro h; rw [h] at hL; simp at hL)).symm⟩
        obtain ⟨hqL, hv2, a, rfl, hcell, hqc⟩ := hv.init
        have hR := bothS_left (b := b) (old := old) (x := x) (L := L') hk heq hs1 hle (by omega)
        rw [hR]
        have HC := Lib.hid (fun w' (h : Txts w' (.slice (some a) q' c) L') => IH.out k hsp.2.1 f b old L' (some a) q' c w' h hqL.symm (by omega) (by omega) h1 hle (by omega))
        obtain ⟨X, hX⟩ : ∃ X, X = bothS f k b old L' := ⟨_, rfl⟩
        rw [← hX] at HC ⊢
        obtain ⟨X1, X2⟩ := X
        have HV := Lib.hid hv2
        have hlei : (f : Int) ≤ (k : Int) := by omega
        have hqq : (q' : Int) < (q' : Int) + 1 := by omega
        have hq00 : (0 : Int) ≤ (q' : Int) := by omega
        have hqcc : (q' : Int) ≤ (c : Int) := by omega
        have hqb : q' ≤ 1048576 := by omega
        have HCELL := Lib.hid hcell
        clear ht2 hR hX hk hv hv2 hqL hL ht heq hcell
        go_enter Tryz.func92, Tryz.ntmps92
        go_wp2_with (first
          | (go_at_call 97; with_reducible refine (HSP.out w).mono ?_; rintro e w2 ⟨rfl, hw⟩; rw [hw]; clear hw w2)
          | (go_at_call 92; with_reducible refine (HC.out w HV.out).mono ?_; rintro e w2 ⟨rfl, hb⟩; have HB2 := Lib.hid hb; have hcell2 := (hb.cell (block_lt_of_cell HCELL.out)).trans HCELL.out; clear hb)
          | (go_at_call 98; with_reducible refine (HNODE.out _ _ _).mono ?_; rintro e w3 ⟨rfl, hb⟩; have HB3 := Lib.hid (below_from HB2.out hb HB2.out.size); clear hb))
        go_ret2
        exact ⟨rfl, HB3.out⟩
      · have ht2 : toldN f s b = toldN (f - k) (s - k) false + 1 := by have := toldN_right b heq hs1 (by rw [← hk]; exact hle); rw [← hk] at this; exact this
        obtain ⟨q', rfl⟩ : ∃ q', q = q' + 1 := ⟨toldN (f - k) (s - k) false, by omega⟩
        obtain ⟨L', x, rfl⟩ : ∃ L' x, L = L' ++ [x] := ⟨L.dropLast, L.getLast (by intro h; rw [h] at hL; simp at hL), (List.dropLast_concat_getLast (by intro h; rw [h] at hL; simp at hL)).symm⟩
        obtain ⟨hqL, hv2, a, rfl, hcell, hqc⟩ := hv.init
        have hR := bothS_right (b := b) (old := old) (x := x) (L := L') hk heq hs1 hle (by omega)
        rw [hR]
        have HC := Lib.hid (fun w' (h : Txts w' (.slice (some a) q' c) L') => IH.out (s - k) (by omega) (f - k) false old L' (some a) q' c w' h hqL.symm (by omega) (by omega) (by omega) (by omega) (by omega))
        obtain ⟨X, hX⟩ : ∃ X, X = bothS (f - k) (s - k) false old L' := ⟨_, rfl⟩
        rw [← hX] at HC ⊢
        obtain ⟨X1, X2⟩ := X
        have HV := Lib.hid hv2
        have hlei : ¬ ((f : Int) ≤ (k : Int)) := by omega
        have hqq : (q' : Int) < (q' : Int) + 1 := by omega
        have hq00 : (0 : Int) ≤ (q' : Int) := by omega
        have hqcc : (q' : Int) ≤ (c : Int) := by omega
        have hqb : q' ≤ 1048576 := by omega
        obtain ⟨fk, hfk⟩ : ∃ y, y = f - k := ⟨_, rfl⟩
        obtain ⟨sk, hsk⟩ : ∃ y, y = s - k := ⟨_, rfl⟩
        rw [← hfk, ← hsk] at HC
        have q1 : (f : Int) - (k : Int) = (fk : Int) := by omega
        have q2 : (s : Int) - (k : Int) = (sk : Int) := by omega
        have hfkb : fk ≤ 1099511627776 := by omega
        have hskb : sk ≤ 1099511627776 := by omega
        have HCELL := Lib.hid hcell
        clear ht2 hR hX hk hv hv2 hqL hL ht heq hcell hfk hsk
        go_enter Tryz.func92, Tryz.ntmps92
        go_upto_region 11 with (first
          | (go_at_call 97; with_reducible refine (HSP.out w).mono ?_; rintro e w2 ⟨rfl, hw⟩; rw [hw]; clear hw w2)
          | (go_at_call 92; with_reducible refine (HC.out w HV.out).mono ?_; rintro e w2 ⟨rfl, hb⟩; have HB2 := Lib.hid hb; have hcell2 := (hb.cell (block_lt_of_cell HCELL.out)).trans HCELL.out; clear hb))
        have hw1 : IntKind.i64.wrap ((q' : Int) + 1 - 1) = (q' : Int) := by rw [show (q' : Int) + 1 - 1 = (q' : Int) by omega]; exact IntWalk.i64_in _ (by omega)
        have hw2 : IntKind.i64.wrap (q' : Int) = (q' : Int) := IntWalk.i64_in _ (by omega)
        have HS1 : Hid (w2.drew.cell? (a.add q') = some (.string x) ∧ Below w.heap.size w w2.drew) := Lib.hid ⟨hcell2, HB2.out.drew⟩
        have HZ : Hid (w.heap.size ≤ w2.drew.heap.size) := Lib.hid HB2.out.size
        go_region_held3 (fun w' => w'.cell? (a.add q') = some (.string x) ∧ Below w.heap.size w w') (first | exact HS2.out | exact HS1.out) (first
          | (go_at_call 98; with_reducible refine (HNODE.out _ _ _).mono ?_; rintro e w3 ⟨rfl, hb⟩; have HS2 := Lib.hid (keepS (by first | exact HS2.out | exact HS1.out) hb (by first | exact HS2.out.2.size | exact HZ.out)); clear hb))
        all_goals
          go_wp2_with fail
          go_ret2
          exact ⟨rfl, HS2.out.2⟩
end Go.Proofs.YtdbghgpohdijfaaGreatDoor
/- Layer 4, the document's answer, walked: RootsOf, Consistency. -/
namespace Go.Proofs.YtdbghgpohdijfaaGreatDoor
open Go.RowKit Go.Scr
set_option linter.unusedVariables false

set_option maxRecDepth 100000 in
set_option maxHeartbeats 2000000 in
theorem rootsof4_any (f s : Int) (old : ByteArray) (v : Value) (L : List ByteArray) (w : World) (hv : Txts w v L) (hl : L.length ≤ 1048576) :
    Calls Tryz.prog 64 #[.int .i64 f, .int .i64 s, .string old, v] w fun e w' => e = .returned (.tuple #[.string (rootsOfS f s old L).1, .string (rootsOfS f s old L).2, .int .i64 (rootsOfE f s old L)]) ∧ Below w.heap.size w w' := by
  have HV := Lib.hid hv
  obtain ⟨p, c, rfl, hv1, hv2, hv3⟩ := hv
  obtain ⟨q, hq⟩ : ∃ q, q = L.length := ⟨_, rfl⟩
  rw [← hq] at hv1 HV hl ⊢
  have HQ := Lib.hid hq
  have hpl := fun w' => prooflen4_any f s w'
  obtain ⟨E, hE⟩ : ∃ E, E = proofLenE f s := ⟨_, rfl⟩
  obtain ⟨PL, hPL⟩ : ∃ PL, PL = proofLenS f s := ⟨_, rfl⟩
  rw [← hE, ← hPL] at hpl
  have HPL := Lib.hid hpl
  have HE := Lib.hid hE
  have HPLS := Lib.hid hPL
  clear hv1 hv2 hv3 hq hpl hE hPL
  have HH := Lib.hid (hashes4_any _ L w HV.out)
  by_cases hE0 : E = 0
  · subst hE0
    by_cases hbad : old.size ≠ 32 ∨ all32 L = false
    · have e1 : rootsOfE f s old L = 42 := by unfold rootsOfE; rw [← HE.out, if_neg (by simp), if_pos hbad]
      have e2 : rootsOfS f s old L = (⟨#[]⟩, ⟨#[]⟩) := by unfold rootsOfS; rw [e1]; rfl
      rw [e1, e2]
      clear e1 e2
      by_cases hleaf : old.size = 32
      · have hall : all32 L = false := by rcases hbad with h | h; exact absurd hleaf h; exact h
        have hli : (old.size : Int) = 32 := by omega
        rw [hall] at HH
        clear hbad hleaf hall
        go_enter Tryz.func64, Tryz.ntmps64
        go_wp2_with (first
          | (go_at_call 91; with_reducible refine (HPL.out w).mono ?_; rintro e w2 ⟨rfl, hw⟩; rw [hw]; clear hw w2)
          | (go_at_call 79; with_reducible refine (HH.out).mono ?_; rintro e w2 ⟨rfl, hw⟩; rw [hw]; clear hw w2))
        go_ret3
        exact ⟨rfl, Below.refl _ _⟩
      · have hli : ¬ ((old.size : Int) = 32) := by omega
        clear hbad hleaf
        go_enter Tryz.func64, Tryz.ntmps64
        go_wp2_with (first
          | (go_at_call 91; with_reducible refine (HPL.out w).mono ?_; rintro e w2 ⟨rfl, hw⟩; rw [hw]; clear hw w2)
          | (go_at_call 79; with_reducible refine (HH.out).mono ?_; rintro e w2 ⟨rfl, hw⟩; rw [hw]; clear hw w2))
        go_ret3
        exact ⟨rfl, Below.refl _ _⟩
    · have hall : all32 L = true := by
        rcases Bool.eq_false_or_eq_true (all32 L) with h | h
        · exact h
        · exact absurd (Or.inr h) hbad
      have hleaf : old.size = 32 := by
        rcases Nat.decEq old.size 32 with h | h
        · exact absurd (Or.inl h) hbad
        · exact h
      have hli : (old.size : Int) = 32 := by omega
      rw [hall] at HH
      by_cases hlen : (q : Int) = PL
      · obtain ⟨hf1, hfs, hs1⟩ : ¬ f < 1 ∧ ¬ s < f ∧ ¬ 1099511627776 < s := by
          have := HE.out
          unfold proofLenE at this
          refine ⟨fun h => ?_, fun h => ?_, fun h => ?_⟩
          · rw [if_pos (Or.inl h)] at this; cases this
          · rw [if_pos (Or.inr (Or.inl h))] at this; cases this
          · rw [if_pos (Or.inr (Or.inr h))] at this; cases this
        have e1 : rootsOfE f s old L = 0 := by unfold rootsOfE; rw [← HE.out, ← HPLS.out, ← HQ.out, if_neg (by simp), if_neg (by simp [hleaf, hall]), if_neg (by simp [hlen])]
        have e2 : rootsOfS f s old L = bothS f.toNat s.toNat true old L := by unfold rootsOfS; rw [e1]; rfl
        rw [e1, e2]
        clear e1 e2
        obtain ⟨n, rfl⟩ : ∃ n : Nat, f = n := ⟨f.toNat, by omega⟩
        obtain ⟨m, rfl⟩ : ∃ m : Nat, s = m := ⟨s.toNat, by omega⟩
        have hn : 1 ≤ n := by omega
        have hnm : n ≤ m := by omega
        have hm : m ≤ 1099511627776 := by omega
        have hql : toldN n m true = q := by
          have h1 := HPLS.out
          rw [(proofLenS_ok hn hnm hm).1] at h1
          omega
        rw [Int.toNat_natCast, Int.toNat_natCast]
        have hup := both4_any m n true old L p q c w HV.out HQ.out.symm hl hql hn hnm hm
        obtain ⟨X, hX⟩ : ∃ X, X = bothS n m true old L := ⟨_, rfl⟩
        rw [← hX] at hup ⊢
        obtain ⟨X1, X2⟩ := X
        have HUP := Lib.hid hup
        clear hup hX hf1 hfs hs1 hql hall hleaf hbad
        go_enter Tryz.func64, Tryz.ntmps64
        go_wp2_with (first
          | (go_at_call 91; with_reducible refine (HPL.out w).mono ?_; rintro e w2 ⟨rfl, hw⟩; rw [hw]; clear hw w2)
          | (go_at_call 79; with_reducible refine (HH.out).mono ?_; rintro e w2 ⟨rfl, hw⟩; rw [hw]; clear hw w2)
          | (go_at_call 92; with_reducible refine (HUP.out).mono ?_; rintro e w2 ⟨rfl, hb⟩; have HB1 := Lib.hid hb; clear hb))
        go_ret3
        exact ⟨rfl, HB1.out⟩
      · have e1 : rootsOfE f s old L = 43 := by unfold rootsOfE; rw [← HE.out, ← HPLS.out, ← HQ.out, if_neg (by simp), if_neg (by simp [hleaf, hall]), if_pos hlen]
        have e2 : rootsOfS f s old L = (⟨#[]⟩, ⟨#[]⟩) := by unfold rootsOfS; rw [e1]; rfl
        rw [e1, e2]
        clear e1 e2 hall hleaf hbad
        go_enter Tryz.func64, Tryz.ntmps64
        go_wp2_with (first
          | (go_at_call 91; with_reducible refine (HPL.out w).mono ?_; rintro e w2 ⟨rfl, hw⟩; rw [hw]; clear hw w2)
          | (go_at_call 79; with_reducible refine (HH.out).mono ?_; rintro e w2 ⟨rfl, hw⟩; rw [hw]; clear hw w2))
        go_ret3
        exact ⟨rfl, Below.refl _ _⟩
  · have e1 : rootsOfE f s old L = E := by unfold rootsOfE; rw [← HE.out, if_pos hE0]
    have e2 : rootsOfS f s old L = (⟨#[]⟩, ⟨#[]⟩) := by unfold rootsOfS; rw [e1, if_neg hE0]
    rw [e1, e2]
    clear e1 e2
    go_enter Tryz.func64, Tryz.ntmps64
    go_wp2_with (first
      | (go_at_call 91; with_reducible refine (HPL.out w).mono ?_; rintro e w2 ⟨rfl, hw⟩; rw [hw]; clear hw w2)
      | (go_at_call 79; with_reducible refine (HH.out).mono ?_; rintro e w2 ⟨rfl, hw⟩; rw [hw]; clear hw w2))
    go_ret3
    exact ⟨rfl, Below.refl _ _⟩

set_option maxRecDepth 100000 in
set_option maxHeartbeats 1000000 in
theorem consistency4_any (f s : Int) (old now : ByteArray) (v : Value) (L : List ByteArray) (w : World) (hv : Txts w v L) (hl : L.length ≤ 1048576) :
    Calls Tryz.prog 41 #[.int .i64 f, .int .i64 s, .string old, .string now, v] w fun e w' => e = .returned (.int .i64 (consS f s old now L)) ∧ Below w.heap.size w w' := by
  have hr := rootsof4_any f s old v L w hv hl
  obtain ⟨E, hE⟩ : ∃ E, E = rootsOfE f s old L := ⟨_, rfl⟩
  obtain ⟨R, hR⟩ : ∃ R, R = rootsOfS f s old L := ⟨_, rfl⟩
  unfold consS
  rw [← hE, ← hR] at hr ⊢
  obtain ⟨R1, R2⟩ := R
  have HRT := Lib.hid hr
  clear hv hr hE hR
  by_cases hE0 : E = 0
  · rw [if_neg (by simp [hE0])]
    subst hE0
    by_cases hroot : now.size = 32
    · rw [if_neg (by simp [hroot])]
      have hri : (now.size : Int) = 32 := by omega
      by_cases h1 : R1 = old
      · have q1 : (R1.toList == old.toList) = true := by rw [h1]; exact toList_same _
        by_cases h2 : R2 = now
        · have q2 : (R2.toList == now.toList) = true := by rw [h2]; exact toList_same _
          rw [if_neg (by simp [h1, h2])]
          clear hroot h1 h2
          go_enter Tryz.func41, Tryz.ntmps41
          go_wp2_with (go_at_call 64; with_reducible refine (HRT.out).mono ?_; rintro e w1 ⟨rfl, hb⟩; have HB1 := Lib.hid hb; clear hb)
          go_ret
          exact ⟨rfl, HB1.out⟩
        · have q2 := toList_ne h2
          rw [if_pos (Or.inr h2)]
          clear hroot h1 h2
          go_enter Tryz.func41, Tryz.ntmps41
          go_wp2_with (go_at_call 64; with_reducible refine (HRT.out).mono ?_; rintro e w1 ⟨rfl, hb⟩; have HB1 := Lib.hid hb; clear hb)
          go_ret
          exact ⟨rfl, HB1.out⟩
      · have q1 := toList_ne h1
        rw [if_pos (Or.inl h1)]
        clear hroot h1
        go_enter Tryz.func41, Tryz.ntmps41
        go_wp2_with (go_at_call 64; with_reducible refine (HRT.out).mono ?_; rintro e w1 ⟨rfl, hb⟩; have HB1 := Lib.hid hb; clear hb)
        go_ret
        exact ⟨rfl, HB1.out⟩
    · rw [if_pos hroot]
      have hri : ¬ ((now.size : Int) = 32) := by omega
      clear hroot
      go_enter Tryz.func41, Tryz.ntmps41
      go_wp2_with (go_at_call 64; with_reducible refine (HRT.out).mono ?_; rintro e w1 ⟨rfl, hb⟩; have HB1 := Lib.hid hb; clear hb)
      go_ret
      exact ⟨rfl, HB1.out⟩
  · rw [if_pos hE0]
    go_enter Tryz.func41, Tryz.ntmps41
    go_wp2_with (go_at_call 64; with_reducible refine (HRT.out).mono ?_; rintro e w1 ⟨rfl, hb⟩; have HB1 := Lib.hid hb; clear hb)
    go_ret
    exact ⟨rfl, HB1.out⟩
end Go.Proofs.YtdbghgpohdijfaaGreatDoor
