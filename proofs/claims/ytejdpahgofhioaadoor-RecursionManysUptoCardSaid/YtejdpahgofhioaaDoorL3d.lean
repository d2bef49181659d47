/- The law 3's grown, walked. -/
import Derived.Test.YtejdpahgofhioaaDoorL3c
namespace Go.Proofs.YtejdpahgofhioaaDoor
open Go.RowKit Go.Scr
set_option linter.unusedVariables false

theorem rootR_take {L : List ByteArray} {n m k : Nat} (hL : L.length = n) (hk : k = spl n) (h2 : 2 ≤ n) (hm : k < m) (hmn : m ≤ n) : rootR (L.take m) = nodeS (rootR (L.take k)) (rootR ((L.drop k).take (m - k))) := by
  have hs := spl_lt h2
  have hsp : spl m = k := by
    obtain ⟨i, e1, e2, e3⟩ := spl_pow h2
    rw [hk, e1]
    exact spl_two i (by omega) (by omega)
  have hlm : (L.take m).length = m := by rw [List.length_take]; omega
  rw [rootR_split (L := L.take m) (by omega), hlm, hsp, List.take_take, Nat.min_eq_left (by omega), List.drop_take]

set_option maxRecDepth 100000 in
set_option maxHeartbeats 4000000 in
theorem grown3_any (n : Nat) : ∀ (m : Nat) (L : List ByteArray) (b : Bool) (old : ByteArray) (p : Option Addr) (q c : Nat) (w : World), Txts w (.slice p q c) (proofR m L b) → (proofR m L b).length = q → L.length = n → n ≤ 1048576 → 1 ≤ m → m ≤ n → (b = true → old = rootR (L.take m)) → Tabs w →
    Calls Tryd.prog 37 #[.int .i64 m, .int .i64 n, .bool b, .string old, .slice p q c] w fun e w' => e = .returned (.tuple #[.string (rootR (L.take m)), .string (rootR L), .bool true]) ∧ Below w.heap.size w w' := by
  induction n using Nat.strongRecOn with
  | ind n ih =>
    intro m L b old p q c w hv hq hL hn h1 hmn hold ht
    have IH := Lib.hid ih
    have HT := Lib.hid ht
    clear ih
    by_cases heq : m = n
    · have hp1 := proofR_same (L := L) (m := m) (by omega) b
      have hTm : L.take m = L := by rw [heq, ← hL, List.take_length]
      rw [hTm] at hold ⊢
      have hmi : ((m : Int) == (n : Int)) = true := beq_iff_eq.2 (by omega)
      cases b with
      | true =>
        have hq0 : (q : Int) = 0 := by rw [hp1] at hq; simp at hq; omega
        have hq1 : ((q : Int) == 0) = true := beq_iff_eq.2 hq0
        rw [← hold rfl]
        clear hp1 hL heq hold hTm hv hq ht hq0 IH
        go_enter Tryd.func37, Tryd.ntmps37
        go_wp2
        go_ret3
        exact ⟨rfl, Below.refl _ _⟩
      | false =>
        rw [hp1] at hv hq
        obtain ⟨X, hX⟩ : ∃ X, X = rootR L := ⟨_, rfl⟩
        simp only [Bool.false_eq_true, if_false] at hv hq
        rw [← hX] at hv hq ⊢
        obtain ⟨p', c', he, hv1, hv2, hv3⟩ := hv
        simp only [Value.slice.injEq] at he
        obtain ⟨rfl, hql, rfl⟩ := he
        obtain ⟨a, rfl, hc⟩ := hv3 0 X rfl
        rw [Addr.add_zero'] at hc
        have hqi : (q : Int) = 1 := by simp at hq; omega
        have hq1 : ((q : Int) == 0) = false := beq_eq_false_iff_ne.2 (by omega)
        have hq2 : ((q : Int) == 1) = true := beq_iff_eq.2 (by omega)
        have hq3 : (q : Int) - 1 = 0 := by omega
        have hq4 : (0 : Int) < (q : Int) := by omega
        have hqb : q ≤ 1048576 := by omega
        clear hp1 hL heq hold hTm hq ht hX hv1 hv2 hv3 hql hqi IH
        go_enter Tryd.func37, Tryd.ntmps37
        go_wp2
        go_ret3
        exact ⟨rfl, Below.refl _ _⟩
    · have h2 : 2 ≤ n := by omega
      have hmi : ((m : Int) == (n : Int)) = false := beq_eq_false_iff_ne.2 (by omega)
      have HP := Lib.hid (fun w' => half3_any n w' (by omega))
      have hsp := spl_lt h2
      obtain ⟨k, hk⟩ : ∃ k, k = spl n := ⟨_, rfl⟩
      rw [← hk] at HP hsp
      have hkL : k = spl L.length := by rw [hL]; exact hk
      have hRL := rootR_split (L := L) (by omega)
      rw [← hkL] at hRL
      have hqb0 : q ≤ n := by rw [← hq]; have := proofR_len (m := m) (L := L) b h1 (by omega); omega
      by_cases hm2 : m ≤ k
      · have hX := proofR_left b hkL (by omega) (by omega) hm2
        rw [hX] at hv hq
        obtain ⟨X, hXX⟩ : ∃ X, X = rootR (L.drop k) := ⟨_, rfl⟩
        rw [← hXX] at hv hq hRL
        obtain ⟨q', rfl⟩ : ∃ q', q = q' + 1 := ⟨q - 1, by simp at hq; omega⟩
        obtain ⟨hql, hv', a, rfl, hcell, hqc⟩ := hv.initR
        have hI := fun w' (hb : Below w.heap.size w w') => IH.out k hsp.2.1 m (L.take k) b old (some a) q' c w' (hv'.below hb (Nat.le_refl _)) hql.symm (by rw [List.length_take]; omega) (by omega) h1 hm2 (by intro hb1; rw [hold hb1, List.take_take, Nat.min_eq_left hm2]) (HT.out.below hb)
        rw [List.take_take, Nat.min_eq_left hm2] at hI
        obtain ⟨A, hA⟩ : ∃ A, A = rootR (L.take m) := ⟨_, rfl⟩
        obtain ⟨B, hB⟩ : ∃ B, B = rootR (L.take k) := ⟨_, rfl⟩
        rw [← hA, ← hB] at hI
        rw [← hB] at hRL
        rw [hRL, ← hA]
        have HI := Lib.hid hI
        have HND := Lib.hid (fun w' h => node3_any B X w' h)
        have hlei : (m : Int) ≤ (k : Int) := by omega
        have hqq : (q' : Int) < (q' : Int) + 1 := by omega
        have hq00 : (0 : Int) ≤ (q' : Int) := by omega
        have hqcc : (q' : Int) ≤ (c : Int) := by omega
        have hqb : q' ≤ 1048576 := by omega
        have hqz : ¬ ((q' : Int) + 1 = 0) := by omega
        have hkb : k ≤ 1048576 := by omega
        clear hL heq hold hq ht hX hXX hv hv' hql hk hkL hI hA hB hRL hmn
        go_enter Tryd.func37, Tryd.ntmps37
        go_wp2_with (first
          | (go_at_call 84; with_reducible refine (HP.out w).mono ?_; rintro e w2 ⟨rfl, hw⟩; rw [hw]; clear hw w2)
          | (go_at_call 37; with_reducible refine (HI.out w (Below.refl _ _)).mono ?_; rintro e w3 ⟨rfl, hb⟩; have HB3 := Lib.hid hb; clear hb)
          | (go_at_call 40; with_reducible refine (HND.out w3 (HT.out.below HB3.out)).mono ?_; rintro e w4 ⟨rfl, hb⟩; have HB4 := Lib.hid (below_from HB3.out hb HB3.out.size); clear hb))
        go_ret3
        exact ⟨rfl, HB4.out⟩
      · have hX := proofR_right b hkL (by omega) (by omega) hm2
        have hRT := rootR_take hL hk h2 (show k < m by omega) hmn
        rw [hX] at hv hq
        obtain ⟨X, hXX⟩ : ∃ X, X = rootR (L.take k) := ⟨_, rfl⟩
        rw [← hXX] at hv hq hRL hRT
        obtain ⟨q', rfl⟩ : ∃ q', q = q' + 1 := ⟨q - 1, by simp at hq; omega⟩
        obtain ⟨hql, hv', a, rfl, hcell, hqc⟩ := hv.initR
        have hI := fun w' (hb : Below w.heap.size w w') => IH.out (n - k) (by omega) (m - k) (L.drop k) false old (some a) q' c w' (hv'.below hb (Nat.le_refl _)) hql.symm (by rw [List.length_drop]; omega) (by omega) (by omega) (by omega) (by intro h; cases h) (HT.out.below hb)
        obtain ⟨A, hA⟩ : ∃ A, A = rootR ((L.drop k).take (m - k)) := ⟨_, rfl⟩
        obtain ⟨B, hB⟩ : ∃ B, B = rootR (L.drop k) := ⟨_, rfl⟩
        rw [← hA, ← hB] at hI
        rw [← hB] at hRL
        rw [← hA] at hRT
        rw [hRL, hRT]
        obtain ⟨mk, hmk⟩ : ∃ y, y = m - k := ⟨_, rfl⟩
        obtain ⟨nk, hnk⟩ : ∃ y, y = n - k := ⟨_, rfl⟩
        rw [← hmk, ← hnk] at hI
        have HI := Lib.hid hI
        have HND1 := Lib.hid (fun w' h => node3_any X A w' h)
        have HND2 := Lib.hid (fun w' h => node3_any X B w' h)
        have hlei : ¬ ((m : Int) ≤ (k : Int)) := by omega
        have hqq : (q' : Int) < (q' : Int) + 1 := by omega
        have hq00 : (0 : Int) ≤ (q' : Int) := by omega
        have hqcc : (q' : Int) ≤ (c : Int) := by omega
        have hqb : q' ≤ 1048576 := by omega
        have hqz : ¬ ((q' : Int) + 1 = 0) := by omega
        have hmki : (m : Int) - (k : Int) = (mk : Int) := by omega
        have hnki : (n : Int) - (k : Int) = (nk : Int) := by omega
        have hmkb : mk ≤ 1048576 := by omega
        have hnkb : nk ≤ 1048576 := by omega
        clear hL heq hold hq ht hX hXX hv hv' hql hk hkL hI hA hB hRL hRT hmn hmk hnk
        go_enter Tryd.func37, Tryd.ntmps37
        go_wp2_with (first
          | (go_at_call 84; with_reducible refine (HP.out w).mono ?_; rintro e w2 ⟨rfl, hw⟩; rw [hw]; clear hw w2)
          | (go_at_call 37; with_reducible refine (HI.out w (Below.refl _ _)).mono ?_; rintro e w3 ⟨rfl, hb⟩; have HB3 := Lib.hid hb; clear hb)
          | (go_at_call 40; with_reducible refine (HND1.out w3 (HT.out.below HB3.out)).mono ?_; rintro e w4 ⟨rfl, hb⟩; have HB4 := Lib.hid (below_from HB3.out hb HB3.out.size); clear hb)
          | (go_at_call 40; with_reducible refine (HND2.out w4 (HT.out.below HB4.out)).mono ?_; rintro e w5 ⟨rfl, hb⟩; have HB5 := Lib.hid (below_from HB4.out hb HB4.out.size); clear hb))
        go_ret3
        exact ⟨rfl, HB5.out⟩
end Go.Proofs.YtejdpahgofhioaaDoor
