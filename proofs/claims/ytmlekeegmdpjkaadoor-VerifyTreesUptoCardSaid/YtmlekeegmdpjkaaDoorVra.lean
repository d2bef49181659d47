/- Layer 4, the document's answer, walked: split, node, way, told, the lengths, hashes. -/
import Derived.Test.YtmlekeegmdpjkaaDoorVer3
import Derived.Test.YtmlekeegmdpjkaaDoorVer4
namespace Go.Proofs.YtmlekeegmdpjkaaDoor
open Go.RowKit Go.Scr
set_option linter.unusedVariables false

set_option maxRecDepth 100000 in
set_option maxHeartbeats 400000 in
theorem split4_any (n : Nat) (w : World) (hn : n ≤ 1099511627776) :
    Calls Tryd.prog 96 #[.int .i64 n] w fun e w' => e = .returned (.int .i64 ((spl n : Nat) : Int)) ∧ w' = w := by
  obtain ⟨R, hR⟩ : ∃ R, R = spl n := ⟨_, rfl⟩
  rw [← hR]
  have HR := Lib.hid (show splF 1 n = R from hR.symm)
  clear hR
  go_enter Tryd.func96, Tryd.ntmps96
  go_wp2
  go_loop [3] (fun v => ∃ k : Nat, 0 < k ∧ k ≤ 2199023255552 ∧ v = .int .i64 k ∧ Hid (splF k n = R)) (fun v => 2199023255552 - (intOf v).toNat)
  case atStart => exact ⟨1, by decide, by decide, rfl, HR⟩
  case round =>
    obtain ⟨k, hk0, hkb, rfl, HS⟩ := hrel
    by_cases hlt : 2 * k < n
    · have h1 : 2 * (k : Int) < (n : Int) := by omega
      have HS2 := Lib.hid ((splF_spl hk0 hlt).trans HS.out)
      clear hlt
      go_wp2
      exact ⟨⟨2 * k, by omega, by omega, by go_num, HS2⟩, (by show 2199023255552 - (2 * (k : Int)).toNat < 2199023255552 - (k : Int).toNat; omega)⟩
    · have h1 : ¬ (2 * (k : Int) < (n : Int)) := by omega
      have HS2 := Lib.hid ((splF_end hlt).symm.trans HS.out)
      clear hlt
      go_wp2
      go_ret
      exact ⟨by rw [HS2.out]; rfl, rfl⟩

set_option maxRecDepth 100000 in
set_option maxHeartbeats 400000 in
theorem node4_any (l r : ByteArray) (w : World) :
    Calls Tryd.prog 112 #[.string l, .string r] w fun e w' => e = .returned (.string (nodeS l r)) ∧ Below w.heap.size w w' := by
  go_enter Tryd.func112, Tryd.ntmps112
  go_wp2_with (go_at_call 94; with_reducible refine (rnode_any l r _).mono ?_; rintro e w2 ⟨rfl, hb⟩; have HB := Lib.hid hb; clear hb)
  go_ret
  exact ⟨rfl, HB.out⟩

set_option maxRecDepth 100000 in
set_option maxHeartbeats 1000000 in
theorem way4_any (n m : Nat) (w : World) (hn : n ≤ 1099511627776) (hmn : m < n) :
    Calls Tryd.prog 58 #[.int .i64 n, .int .i64 m] w fun e w' => e = .returned (.int .i64 ((wayN n m : Nat) : Int)) ∧ w' = w := by
  obtain ⟨R, hR⟩ : ∃ R, R = wayN n m := ⟨_, rfl⟩
  have hRb : R ≤ 1099511627776 := by
    rw [hR, ← stepL_way hmn]
    have := stepL_len (n - 1) m
    omega
  rw [← hR]
  have HR := Lib.hid hR
  clear hR
  go_enter Tryd.func58, Tryd.ntmps58
  go_wp2
  go_loop [0, 1, 5] (fun a b d => ∃ x y c : Nat, y < x ∧ x ≤ 1099511627776 ∧ c ≤ R ∧ a = .int .i64 x ∧ b = .int .i64 y ∧ d = .int .i64 c ∧ Hid (c + wayN x y = R)) (fun a _ _ => (intOf a).toNat)
  case atStart => exact ⟨n, m, 0, hmn, hn, by omega, rfl, rfl, rfl, Lib.hid (by rw [HR.out]; omega)⟩
  case round =>
    obtain ⟨x, y, c, hyx, hx, hc, rfl, rfl, rfl, HS⟩ := hrel
    by_cases h1 : 1 < x
    · have h1i : (1 : Int) < (x : Int) := by omega
      have hsp := spl_lt h1
      obtain ⟨k, hk⟩ : ∃ k, k = spl x := ⟨_, rfl⟩
      have HSP := Lib.hid (fun w' => split4_any x w' hx)
      rw [← hk] at HSP hsp
      have HK := Lib.hid hk
      have hkx : ((x : Int) - (k : Int)) = ((x - k : Nat) : Int) := by omega
      by_cases h2 : y < k
      · have h2i : (y : Int) < (k : Int) := by omega
        have HW := Lib.hid (by have := wayN_left (n := x) (m := y) h1 (by rw [← hk]; exact h2); rw [← hk] at this; exact this : wayN x y = wayN k y + 1)
        clear hk
        go_wp2_with (go_at_call 96; with_reducible refine (HSP.out _).mono ?_; rintro e w2 ⟨rfl, rfl⟩)
        have hcr : c + 1 ≤ R := by have := HS.out; have := HW.out; omega
        exact ⟨⟨k, y, c + 1, by omega, by omega, hcr, rfl, rfl, rfl, Lib.hid (by have := HS.out; have := HW.out; omega)⟩, (by show (k : Int).toNat < (x : Int).toNat; omega)⟩
      · have h2i : ¬ ((y : Int) < (k : Int)) := by omega
        have HW := Lib.hid (by have := wayN_right (n := x) (m := y) h1 (by rw [← hk]; exact h2); rw [← hk] at this; exact this : wayN x y = wayN (x - k) (y - k) + 1)
        have hky : ((y : Int) - (k : Int)) = ((y - k : Nat) : Int) := by omega
        clear hk
        go_wp2_with (go_at_call 96; with_reducible refine (HSP.out _).mono ?_; rintro e w2 ⟨rfl, rfl⟩)
        have hcr : c + 1 ≤ R := by have := HS.out; have := HW.out; omega
        exact ⟨⟨x - k, y - k, c + 1, by omega, by omega, hcr, by go_num, by go_num, rfl, Lib.hid (by have := HS.out; have := HW.out; omega)⟩, (by show ((x - k : Nat) : Int).toNat < (x : Int).toNat; omega)⟩
    · have h1i : ¬ ((1 : Int) < (x : Int)) := by omega
      have HC := Lib.hid (by have := HS.out; rw [wayN_one y (by omega)] at this; omega : c = R)
      go_wp2
      go_ret
      exact ⟨by rw [← HC.out]; rfl, rfl⟩

set_option maxRecDepth 100000 in
set_option maxHeartbeats 1000000 in
theorem pathlen4_any (s i : Int) (w : World) :
    Calls Tryd.prog 16 #[.int .i64 s, .int .i64 i] w fun e w' => e = .returned (.tuple #[.int .i64 (pathLenS s i), .int .i64 (pathLenE s i)]) ∧ w' = w := by
  by_cases h1 : s < 1
  · have e1 : pathLenS s i = 0 := if_pos (Or.inl h1)
    have e2 : pathLenE s i = 41 := if_pos (Or.inl h1)
    rw [e1, e2]
    clear e1 e2
    go_enter Tryd.func16, Tryd.ntmps16
    go_wp2
    go_ret2
    exact ⟨rfl, rfl⟩
  · by_cases h2 : 1099511627776 < s
    · have e1 : pathLenS s i = 0 := if_pos (Or.inr h2)
      have e2 : pathLenE s i = 41 := if_pos (Or.inr h2)
      rw [e1, e2]
      clear e1 e2
      go_enter Tryd.func16, Tryd.ntmps16
      go_wp2
      go_ret2
      exact ⟨rfl, rfl⟩
    · have hs : ¬ (s < 1 ∨ 1099511627776 < s) := by omega
      by_cases h3 : i < 0
      · have e1 : pathLenS s i = 0 := by unfold pathLenS; rw [if_neg hs, if_pos (Or.inl h3)]
        have e2 : pathLenE s i = 40 := by unfold pathLenE; rw [if_neg hs, if_pos (Or.inl h3)]
        rw [e1, e2]
        clear e1 e2 hs
        go_enter Tryd.func16, Tryd.ntmps16
        go_wp2
        go_ret2
        exact ⟨rfl, rfl⟩
      · by_cases h4 : s ≤ i
        · have e1 : pathLenS s i = 0 := by unfold pathLenS; rw [if_neg hs, if_pos (Or.inr h4)]
          have e2 : pathLenE s i = 40 := by unfold pathLenE; rw [if_neg hs, if_pos (Or.inr h4)]
          rw [e1, e2]
          clear e1 e2 hs
          go_enter Tryd.func16, Tryd.ntmps16
          go_wp2
          go_ret2
          exact ⟨rfl, rfl⟩
        · obtain ⟨n, rfl⟩ : ∃ n : Nat, s = n := ⟨s.toNat, by omega⟩
          obtain ⟨m, rfl⟩ : ∃ m : Nat, i = m := ⟨i.toNat, by omega⟩
          have hmn : m < n := by omega
          have hn : n ≤ 1099511627776 := by omega
          obtain ⟨e1, e2⟩ := pathLenS_ok hmn hn
          rw [e1, e2]
          have HW := Lib.hid (fun w' => way4_any n m w' hn hmn)
          clear e1 e2 hs h1 h2 h3
          go_enter Tryd.func16, Tryd.ntmps16
          go_wp2_with (go_at_call 58; with_reducible refine (HW.out _).mono ?_; rintro e w2 ⟨rfl, rfl⟩)
          go_ret2
          exact ⟨rfl, rfl⟩

theorem toldN_le (s : Nat) : ∀ f whole, 1 ≤ f → f ≤ s → toldN f s whole ≤ s := by
  induction s using Nat.strongRecOn with
  | ind s ih =>
    intro f whole h1 h2
    by_cases h : f = s
    · subst h; rw [toldN_same]; split <;> omega
    · have hs := spl_lt (show 2 ≤ s by omega)
      by_cases hle : f ≤ spl s
      · rw [toldN_left whole h (by omega) hle]
        have := ih (spl s) hs.2.1 f whole h1 hle
        omega
      · rw [toldN_right whole h (by omega) hle]
        have := ih (s - spl s) (by omega) (f - spl s) false (by omega) (by omega)
        omega

set_option maxRecDepth 100000 in
set_option maxHeartbeats 1000000 in
theorem told4_any (s : Nat) : ∀ (f : Nat) (b : Bool) (w : World), 1 ≤ f → f ≤ s → s ≤ 1099511627776 →
    Calls Tryd.prog 61 #[.int .i64 f, .int .i64 s, .bool b] w fun e w' => e = .returned (.int .i64 ((toldN f s b : Nat) : Int)) ∧ w' = w := by
  induction s using Nat.strongRecOn with
  | ind s ih =>
    intro f b w h1 h2 h3
    have IH := Lib.hid ih
    clear ih
    by_cases heq : f = s
    · subst heq
      have e1 : toldN f f b = if b then 0 else 1 := toldN_same f b
      rw [e1]
      clear e1
      cases b with
      | true =>
        go_enter Tryd.func61, Tryd.ntmps61
        go_wp2
        go_ret
        exact ⟨rfl, rfl⟩
      | false =>
        go_enter Tryd.func61, Tryd.ntmps61
        go_wp2
        go_ret
        exact ⟨rfl, rfl⟩
    · have hs1 : 1 < s := by omega
      have hsp := spl_lt (show 2 ≤ s by omega)
      have hnb := toldN_le s f b h1 h2
      obtain ⟨k, hk⟩ : ∃ k, k = spl s := ⟨_, rfl⟩
      have HSP := Lib.hid (fun w' => split4_any s w' h3)
      rw [← hk] at HSP hsp
      have hne : ¬ ((f : Int) = (s : Int)) := by omega
      by_cases hle : f ≤ k
      · have e1 : toldN f s b = toldN f k b + 1 := by have := toldN_left b heq hs1 (by rw [← hk]; exact hle); rw [← hk] at this; exact this
        have HC := Lib.hid (fun w' => IH.out k hsp.2.1 f b w' h1 hle (by omega))
        obtain ⟨t, ht⟩ : ∃ t, t = toldN f k b := ⟨_, rfl⟩
        rw [← ht] at e1 HC
        rw [e1] at hnb ⊢
        have hlei : (f : Int) ≤ (k : Int) := by omega
        clear e1 ht hk heq
        go_enter Tryd.func61, Tryd.ntmps61
        go_wp2_with (first
          | (go_at_call 96; with_reducible refine (HSP.out _).mono ?_; rintro e w2 ⟨rfl, rfl⟩)
          | (go_at_call 61; with_reducible refine (HC.out _).mono ?_; rintro e w2 ⟨rfl, rfl⟩))
        go_ret
        refine ⟨?_, rfl⟩
        show Ending.returned (.int .i64 (1 + (t : Int))) = .returned (.int .i64 ((t + 1 : Nat) : Int))
        rw [show ((t + 1 : Nat) : Int) = 1 + (t : Int) by omega]
      · have e1 : toldN f s b = toldN (f - k) (s - k) false + 1 := by have := toldN_right b heq hs1 (by rw [← hk]; exact hle); rw [← hk] at this; exact this
        have HC := Lib.hid (fun w' => IH.out (s - k) (by omega) (f - k) false w' (by omega) (by omega) (by omega))
        obtain ⟨t, ht⟩ : ∃ t, t = toldN (f - k) (s - k) false := ⟨_, rfl⟩
        rw [← ht] at e1 HC
        rw [e1] at hnb ⊢
        have hlei : ¬ ((f : Int) ≤ (k : Int)) := by omega
        obtain ⟨fk, hfk⟩ : ∃ x, x = f - k := ⟨_, rfl⟩
        obtain ⟨sk, hsk⟩ : ∃ x, x = s - k := ⟨_, rfl⟩
        rw [← hfk, ← hsk] at HC
        have q1 : (f : Int) - (k : Int) = (fk : Int) := by omega
        have q2 : (s : Int) - (k : Int) = (sk : Int) := by omega
        have fkb : fk ≤ 1099511627776 := by omega
        have skb : sk ≤ 1099511627776 := by omega
        clear e1 ht hk heq hfk hsk
        go_enter Tryd.func61, Tryd.ntmps61
        go_wp2_with (first
          | (go_at_call 96; with_reducible refine (HSP.out _).mono ?_; rintro e w2 ⟨rfl, rfl⟩)
          | (go_at_call 61; with_reducible refine (HC.out _).mono ?_; rintro e w2 ⟨rfl, rfl⟩))
        go_ret
        refine ⟨?_, rfl⟩
        show Ending.returned (.int .i64 (1 + (t : Int))) = .returned (.int .i64 ((t + 1 : Nat) : Int))
        rw [show ((t + 1 : Nat) : Int) = 1 + (t : Int) by omega]

set_option maxRecDepth 100000 in
set_option maxHeartbeats 1000000 in
theorem prooflen4_any (f s : Int) (w : World) :
    Calls Tryd.prog 18 #[.int .i64 f, .int .i64 s] w fun e w' => e = .returned (.tuple #[.int .i64 (proofLenS f s), .int .i64 (proofLenE f s)]) ∧ w' = w := by
  by_cases hbad : f < 1 ∨ s < f ∨ 1099511627776 < s
  · have e1 : proofLenS f s = 0 := if_pos hbad
    have e2 : proofLenE f s = 41 := if_pos hbad
    rw [e1, e2]
    clear e1 e2
    by_cases h1 : f < 1
    · clear hbad
      go_enter Tryd.func18, Tryd.ntmps18
      go_wp2
      go_ret2
      exact ⟨rfl, rfl⟩
    · by_cases h2 : s < f
      · clear hbad
        go_enter Tryd.func18, Tryd.ntmps18
        go_wp2
        go_ret2
        exact ⟨rfl, rfl⟩
      · have h3 : 1099511627776 < s := by omega
        clear hbad
        go_enter Tryd.func18, Tryd.ntmps18
        go_wp2
        go_ret2
        exact ⟨rfl, rfl⟩
  · obtain ⟨n, rfl⟩ : ∃ n : Nat, f = n := ⟨f.toNat, by omega⟩
    obtain ⟨m, rfl⟩ : ∃ m : Nat, s = m := ⟨s.toNat, by omega⟩
    have hn : 1 ≤ n := by omega
    have hnm : n ≤ m := by omega
    have hm : m ≤ 1099511627776 := by omega
    obtain ⟨e1, e2⟩ := proofLenS_ok hn hnm hm
    rw [e1, e2]
    have HW := Lib.hid (fun w' => told4_any m n true w' hn hnm hm)
    clear e1 e2 hbad
    go_enter Tryd.func18, Tryd.ntmps18
    go_wp2_with (go_at_call 61; with_reducible refine (HW.out _).mono ?_; rintro e w2 ⟨rfl, rfl⟩)
    go_ret2
    exact ⟨rfl, rfl⟩

set_option maxRecDepth 100000 in
set_option maxHeartbeats 400000 in
theorem hashes4_any (v : Value) (L : List ByteArray) (w : World) (hv : Txts w v L) :
    Calls Tryd.prog 97 #[v] w fun e w' => e = .returned (.bool (all32 L)) ∧ w' = w := by
  obtain ⟨p, c, rfl, hv1, hv2, hv3⟩ := hv
  obtain ⟨n, hn⟩ : ∃ n, n = L.length := ⟨_, rfl⟩
  rw [← hn] at hv1 ⊢
  have HN := Lib.hid hn
  have HV := Lib.hid hv3
  have hnb : n ≤ 281474976710656 := by omega
  clear hn hv2 hv3 hv1
  go_enter Tryd.func97, Tryd.ntmps97
  go_wp2
  go_loop [3] (fun q => ∃ k : Nat, k ≤ n ∧ q = .int .i64 k ∧ Hid (all32 (L.take k) = true)) (fun q => n - (intOf q).toNat)
  case atStart => exact ⟨0, by omega, rfl, Lib.hid rfl⟩
  case round =>
    obtain ⟨k, hk, rfl, hall⟩ := hrel
    by_cases hlt : k < n
    · obtain ⟨s, hs⟩ : ∃ s, L[k]? = some s := ⟨L[k]'(by rw [← HN.out]; exact hlt), List.getElem?_eq_getElem _⟩
      obtain ⟨a, rfl, hc⟩ := HV.out k s hs
      have HS := Lib.hid hs
      clear hs
      by_cases h32 : s.size = 32
      · have hsz : (s.size : Int) = 32 := by omega
        have HALL := Lib.hid (by rw [all32_take HS.out, hall.out]; simp [h32] : all32 (L.take (k + 1)) = true)
        clear h32
        go_wp2
        exact ⟨⟨k + 1, by omega, rfl, HALL⟩, (by show n - ((k : Int) + 1).toNat < n - (k : Int).toNat; omega)⟩
      · have hsz : ¬ ((s.size : Int) = 32) := by omega
        have HBAD := Lib.hid (all32_bad HS.out h32)
        clear h32
        go_wp2
        go_ret
        exact ⟨by rw [HBAD.out]; rfl, rfl⟩
    · have HK := Lib.hid (by have := hall.out; rwa [show k = n by omega, HN.out, List.take_length] at this : all32 L = true)
      go_wp2
      go_ret
      exact ⟨by rw [HK.out]; rfl, rfl⟩
end Go.Proofs.YtmlekeegmdpjkaaDoor
