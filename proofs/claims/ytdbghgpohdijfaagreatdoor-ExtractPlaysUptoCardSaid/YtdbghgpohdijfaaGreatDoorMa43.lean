/- Layer 4, the document's answer, walked: split, node, way, told, the lengths, hashes. -/
import Derived.Test.YtdbghgpohdijfaaGreatDoorMa10
import Derived.Test.YtdbghgpohdijfaaGreatDoorMa24
import Derived.Test.YtdbghgpohdijfaaGreatDoorMa29
import Derived.Test.YtdbghgpohdijfaaGreatDoorMa11
import Derived.BigQuiet
import Derived.LoopTactic
import Derived.Deep.CutBlock
import Derived.Test.YtdbghgpohdijfaaGreatDoorMa39
namespace Go.Proofs.YtdbghgpohdijfaaGreatDoor
open Go.RowKit Go.Scr
set_option linter.unusedVariables false

set_option maxRecDepth 100000 in
set_option maxHeartbeats 400000 in
theorem split4_any (n : Nat) (w : World) (hn : n ≤ 1099511627776) :
    Calls Tryz.prog 97 #[.int .i64 n] w fun e w' => e = .returned (.int .i64 ((spl n : Nat) : Int)) ∧ w' = w := by
  obtain ⟨R, hR⟩ : ∃ R, R = spl n := ⟨_, rfl⟩
  rw [← hR]
  have HR := Lib.hid (show splF 1 n = R from hR.symm)
  clear hR
  go_enter Tryz.func97, Tryz.ntmps97
  go_wp2
  go_loop [3] (fun v => ∃ k : Nat, 0 < k ∧ k ≤ 2199023255552 ∧ v = .int .i64 k ∧ Hid (splF k n = R)) (fun v => 2199023255552 - (intOf v).toNat)
  case atStart => exact ⟨1, by decide, by decide, rfl, HR⟩
  case round =>
    obtain ⟨k, hk0, hkb, rfl, HS⟩ := hrel
    by_cases hlt : 2 * k < n
    · have h1 : 2 * (k : Int) < (n : Int) := by omega
      have HS2 := Lib.hid ((splF_spl hk0 hlt).trans HS.out)
      clear hlt
      go_wp2
      exact ⟨⟨2 * k, by omega, by omega, by go_num, HS2⟩, (by show 2199023255552 - (2 * (k : Int)).toNat < 2199023255552 - (k : Int).toNat; omega)⟩
    · have h1 : ¬ (2 * (k : Int) < (n : Int)) := by omega
      have HS2 := Lib.hid ((splF_end hlt).symm.trans HS.out)
      clear hlt
      go_wp2
      go_ret
      exact ⟨by rw [HS2.out]; rfl, rfl⟩

set_option maxRecDepth 100000 in
set_option maxHeartbeats 400000 in
theorem node4_any (l r : ByteArray) (w : World) :
    Calls Tryz.prog 98 #[.string l, .string r] w fun e w' => e = .returned (.string (nodeS l r)) ∧ Below w.heap.size w w' := by
  go_enter Tryz.func98, Tryz.ntmps98
  go_wp2_with (go_at_call 102; with_reducible refine (rnode_any l r _).mono ?_; rintro e w2 ⟨rfl, hb⟩; have HB := Lib.hid hb; clear hb)
  go_ret
  exact ⟨rfl, HB.out⟩

set_option maxRecDepth 100000 in
set_option maxHeartbeats 1000000 in
theorem way4_any (n m : Nat) (w : World) (hn : n ≤ 1099511627776) (hmn : m < n) :
    Calls Tryz.prog 96 #[.int .i64 n, .int .i64 m] w fun e w' => e = .returned (.int .i64 ((wayN n m : Nat) : Int)) ∧ w' = w := by
  obtain ⟨R, hR⟩ : ∃ R, R = wayN n m := ⟨_, rfl⟩
  have hRb : R ≤ 1099511627776 := by
    rw [hR, ← stepL_way hmn]
    have := stepL_len (n - 1) m
    omega
  rw [← hR]
  have HR := Lib.hid hR
  clear hR
  go_enter Tryz.func96, Tryz.ntmps96
  go_wp2
  go_loop [0, 1, 5] (fun a b d => ∃ x y c : Nat, y < x ∧ x ≤ 1099511627776 ∧ c ≤ R ∧ a = .int .i64 x ∧ b = .int .i64 y ∧ d = .int .i64 c ∧ Hid (c + wayN x y = R)) (fun a _ _ => (intOf a).toNat)
  case atStart => exact ⟨n, m, 0, hmn, hn, by omega, rfl, rfl, rfl, Lib.hid (by rw [HR.out]; omega)⟩
  case round =>
    obtain ⟨x, y, c, hyx, hx, hc, rfl, rfl, rfl, HS⟩ := hrel
    by_cases h1 : 1 < x
    · have h1i : (1 : Int) < (x : Int) := by omega
      have hsp := spl_lt h1
      obtain ⟨k, hk⟩ : ∃ k, k = spl x := ⟨_, rfl⟩
      have HSP := Lib.hid (fun w' => split4_any x w' hx)
      rw [← hk] at HSP hsp
      have HK := Lib.hid hk
      have hkx : ((x : Int) - (k : Int)) = ((x - k : Nat) : Int) := by omega
      by_cases h2 : y < k
      · have h2i : (y : Int) < (k : Int) := by omega
        have HW := Lib.hid (by have := wayN_left (n := x) (m := y) h1 (by rw [← hk]; exact h2); rw [← hk] at this; exact this : wayN x y = wayN k y + 1)
        clear hk
        go_wp2_with (go_at_call 97; with_reducible refine (HSP.out _).mono ?_; rintro e w2 ⟨rfl, rfl⟩)
        have hcr : c + 1 ≤ R := by have := HS.out; have := HW.out; omega
        exact ⟨⟨k, y, c + 1, by omega, by omega, hcr, rfl, rfl, rfl, Lib.hid (by have := HS.out; have := HW.out; omega)⟩, (by show (k : Int).toNat < (x : Int).toNat; omega)⟩
      · have h2i : ¬ ((y : Int) < (k : Int)) := by omega
        have HW := Lib.hid (by have := wayN_right (n := x) (m := y) h1 (by rw [← hk]; exact h2); rw [← hk] at this; exact this : wayN x y = wayN (x - k) (y - k) + 1)
        have hky : ((y : Int) - (k : Int)) = ((y - k : Nat) : Int) := by omega
        clear hk
        go_wp2_with (go_at_call 97; with_reducible refine (HSP.out _).mono ?_; rintro e w2 ⟨rfl, rfl⟩)
        have hcr : c + 1 ≤ R := by have := HS.out; have := HW.out; omega
        exact ⟨⟨x - k, y - k, c + 1, by omega, by omega, hcr, by go_num, by go_num, rfl, Lib.hid (by have := HS.out; have := HW.out; omega)⟩, (by show ((x - k : Nat) : Int).toNat < (x : Int).toNat; omega)⟩
    · have h1i : ¬ ((1 : Int) < (x : Int)) := by omega
      have HC := Lib.hid (by have := HS.out; rw [wayN_one y (by omega)] at this; omega : c = R)
      go_wp2
      go_ret
      exact ⟨by rw [← HC.out]; rfl, rfl⟩

set_option maxRecDepth 100000 in
set_option maxHeartbeats 1000000 in
theorem pathlen4_any (s i : Int) (w : World) :
    Calls Tryz.prog 78 #[.int .i64 s, .int .i64 i] w fun e w' => e = .returned (.tuple #[.int .i64 (pathLenS s i), .int .i64 (pathLenE s i)]) ∧ w' = w := by
  by_cases h1 : s < 1
  · have e1 : pathLenS s i = 0 := if_pos (Or.inl h1)
    have e2 : pathLenE s i = 41 := if_pos (Or.inl h1)
    rw [e1, e2]
    clear e1 e2
    go_enter Tryz.func78, Tryz.ntmps78
    go_wp2
    go_ret2
    exact ⟨rfl, rfl⟩
  · by_cases h2 : 1099511627776 < s
    · have e1 : pathLenS s i = 0 := if_pos (Or.inr h2)
      have e2 : pathLenE s i = 41 := if_pos (Or.inr h2)
      rw [e1, e2]
      clear e1 e2
      go_enter Tryz.func78, Tryz.ntmps78
      go_wp2
      go_ret2
      exact ⟨rfl, rfl⟩
    · have hs : ¬ (s < 1 ∨ 1099511627776 < s) := by omega
      by_cases h3 : i < 0
      · have e1 : pathLenS s i = 0 := by unfold pathLenS; rw [if_neg hs, if_pos (Or.inl h3)]
        have e2 : pathLenE s i = 40 := by unfold pathLenE; rw [if_neg hs, if_pos (Or.inl h3)]
        rw [e1, e2]
        clear e1 e2 hs
        go_enter Tryz.func78, Tryz.ntmps78
        go_wp2
        go_ret2
        exact ⟨rfl, rfl⟩
      · by_cases h4 : s ≤ i
        · have e1 : pathLenS s i = 0 := by unfold pathLenS; rw [if_neg hs, if_pos (Or.inr h4)]
          have e2 : pathLenE s i = 40 := by unfold pathLenE; rw [if_neg hs, if_pos (Or.inr h4)]
          rw [e1, e2]
          clear e1 e2 hs
          go_enter Tryz.func78, Tryz.ntmps78
          go_wp2
          go_ret2
          exact ⟨rfl, rfl⟩
        · obtain ⟨n, rfl⟩ : ∃ n : Nat, s = n := ⟨s.toNat, by omega⟩
          obtain ⟨m, rfl⟩ : ∃ m : Nat, i = m := ⟨i.toNat, by omega⟩
          have hmn : m < n := by omega
          have hn : n ≤ 1099511627776 := by omega
          obtain ⟨e1, e2⟩ := pathLenS_ok hmn hn
          rw [e1, e2]
          have HW := Lib.hid (fun w' => way4_any n m w' hn hmn)
          clear e1 e2 hs h1 h2 h3
          go_enter Tryz.func78, Tryz.ntmps78
          go_wp2_with (go_at_call 96; with_reducible refine (HW.out _).mono ?_; rintro e w2 ⟨rfl, rfl⟩)
          go_ret2
          exact ⟨rfl, rfl⟩

theorem toldN_le (s : Nat) : ∀ f whole, 1 ≤ f → f ≤ s → toldN f s whole ≤ s := by
  induction s using Nat.strongRecOn with
  | ind s ih =>
    intro f whole h1 h2
    by_cases h : f = s
    · subst h; rw [toldN_same]; split <;> omega
    · have hs := spl_lt (show 2 ≤ s by omega)
      by_cases hle : f ≤ spl s
      · rw [toldN_left whole h (by omega) hle]
        have := ih (spl s) hs.2.1 f whole h1 hle
        omega
      · rw [toldN_right whole h (by omega) hle]
        have := ih (s - spl s) (by omega) (f - spl s) false (by omega) (by omega)
        omega

set_option maxRecDepth 100000 in
set_option maxHeartbeats 1000000 in
theorem told4_any (s : Nat) : ∀ (f : Nat) (b : Bool) (w : World), 1 ≤ f → f ≤ s → s ≤ 1099511627776 →
    Calls Tryz.prog 104 #[.int .i64 f, .int .i64 s, .bool b] w fun e w' => e = .returned (.int .i64 ((toldN f s b : Nat) : Int)) ∧ w' = w := by
  induction s using Nat.strongRecOn with
  | ind s ih =>
    intro f b w h1 h2 h3
    have IH := Lib.hid ih
    clear ih
    by_cases heq : f = s
    · subst heq
      have e1 : toldN f f b = if b then 0 else 1 := toldN_same f b
      rw [e1]
      clear e1
      cases b with
      | true =>
        go_enter Tryz.func104, Tryz.ntmps104
        go_wp2
        go_ret
        exact ⟨rfl, rfl⟩
      | false =>
        go_enter Tryz.func104, Tryz.ntmps104
        go_wp2
        go_ret
        exact ⟨rfl, rfl⟩
    · have hs1 : 1 < s := by omega
      have hsp := spl_lt (show 2 ≤ s by omega)
      have hnb := toldN_le s f b h1 h2
      obtain ⟨k, hk⟩ : ∃ k, k = spl s := ⟨_, rfl⟩
      have HSP := Lib.hid (fun w' => split4_any s w' h3)
      rw [← hk] at HSP hsp
      have hne : ¬ ((f : Int) = (s : Int)) := by omega
      by_cases hle : f ≤ k
      · have e1 : toldN f s b = toldN f k b + 1 := by have := toldN_left b heq hs1 (by rw [← hk]; exact hle); rw [← hk] at this; exact this
        have HC := Lib.hid (fun w' => IH.out k hsp.2.1 f b w' h1 hle (by omega))
        obtain ⟨t, ht⟩ : ∃ t, t = toldN f k b := ⟨_, rfl⟩
        rw [← ht] at e1 HC
        rw [e1] at hnb ⊢
        have hlei : (f : Int) ≤ (k : Int) := by omega
        clear e1 ht hk heq
        go_enter Tryz.func104, Tryz.ntmps104
        go_wp2_with (first
          | (go_at_call 97; with_reducible refine (HSP.out _).mono ?_; rintro e w2 ⟨rfl, rfl⟩)
          | (go_at_call 104; with_reducible refine (HC.out _).mono ?_; rintro e w2 ⟨rfl, rfl⟩))
        go_ret
        refine ⟨?_, rfl⟩
        show Ending.returned (.int .i64 (1 + (t : Int))) = .returned (.int .i64 ((t + 1 : Nat) : Int))
        rw [show ((t + 1 : Nat) : Int) = 1 + (t : Int) by omega]
      · have e1 : toldN f s b = toldN (f - k) (s - k) false + 1 := by have := toldN_right b heq hs1 (by rw [← hk]; exact hle); rw [← hk] at this; exact this
        have HC := Lib.hid (fun w' => IH.out (s - k) (by omega) (f - k) false w' (by omega) (by omega) (by omega))
        obtain ⟨t, ht⟩ : ∃ t, t = toldN (f - k) (s - k) false := ⟨_, rfl⟩
        rw [← ht] at e1 HC
        rw [e1] at hnb ⊢
        have hlei : ¬ ((f : Int) ≤ (k : Int)) := by omega
        obtain ⟨fk, hfk⟩ : ∃ x, x = f - k := ⟨_, rfl⟩
        obtain ⟨sk, hsk⟩ : ∃ x, x = s - k := ⟨_, rfl⟩
        rw [← hfk, ← hsk] at HC
        have q1 : (f : Int) - (k : Int) = (fk : Int) := by omega
        have q2 : (s : Int) - (k : Int) = (sk : Int) := by omega
        have fkb : fk ≤ 1099511627776 := by omega
        have skb : sk ≤ 1099511627776 := by omega
        clear e1 ht hk heq hfk hsk
        go_enter Tryz.func104, Tryz.ntmps104
        go_wp2_with (first
          | (go_at_call 97; with_reducible refine (HSP.out _).mono ?_; rintro e w2 ⟨rfl, rfl⟩)
          | (go_at_call 104; with_reducible refine (HC.out _).mono ?_; rintro e w2 ⟨rfl, rfl⟩))
        go_ret
        refine ⟨?_, rfl⟩
        show Ending.returned (.int .i64 (1 + (t : Int))) = .returned (.int .i64 ((t + 1 : Nat) : Int))
        rw [show ((t + 1 : Nat) : Int) = 1 + (t : Int) by omega]

set_option maxRecDepth 100000 in
set_option maxHeartbeats 1000000 in
theorem prooflen4_any (f s : Int) (w : World) :
    Calls Tryz.prog 91 #[.int .i64 f, .int .i64 s] w fun e w' => e = .returned (.tuple #[.int .i64 (proofLenS f s), .int .i64 (proofLenE f s)]) ∧ w' = w := by
  by_cases hbad : f < 1 ∨ s < f ∨ 1099511627776 < s
  · have e1 : proofLenS f s = 0 := if_pos hbad
    have e2 : proofLenE f s = 41 := if_pos hbad
    rw [e1, e2]
    clear e1 e2
    by_cases h1 : f < 1
    · clear hbad
      go_enter Tryz.func91, Tryz.ntmps91
      go_wp2
      go_ret2
      exact ⟨rfl, rfl⟩
    · by_cases h2 : s < f
      · clear hbad
        go_enter Tryz.func91, Tryz.ntmps91
        go_wp2
        go_ret2
        exact ⟨rfl, rfl⟩
      · have h3 : 1099511627776 < s := by omega
        clear hbad
        go_enter Tryz.func91, Tryz.ntmps91
        go_wp2
        go_ret2
        exact ⟨rfl, rfl⟩
  · obtain ⟨n, rfl⟩ : ∃ n : Nat, f = n := ⟨f.toNat, by omega⟩
    obtain ⟨m, rfl⟩ : ∃ m : Nat, s = m := ⟨s.toNat, by omega⟩
    have hn : 1 ≤ n := by omega
    have hnm : n ≤ m := by omega
    have hm : m ≤ 1099511627776 := by omega
    obtain ⟨e1, e2⟩ := proofLenS_ok hn hnm hm
    rw [e1, e2]
    have HW := Lib.hid (fun w' => told4_any m n true w' hn hnm hm)
    clear e1 e2 hbad
    go_enter Tryz.func91, Tryz.ntmps91
    go_wp2_with (go_at_call 104; with_reducible refine (HW.out _).mono ?_; rintro e w2 ⟨rfl, rfl⟩)
    go_ret2
    exact ⟨rfl, rfl⟩

set_option maxRecDepth 100000 in
set_option maxHeartbeats 400000 in
theorem hashes4_any (v : Value) (L : List ByteArray) (w : World) (hv : Txts w v L) :
    Calls Tryz.prog 79 #[v] w fun e w' => e = .returned (.bool (all32 L)) ∧ w' = w := by
  obtain ⟨p, c, rfl, hv1, hv2, hv3⟩ := hv
  obtain ⟨n, hn⟩ : ∃ n, n = L.length := ⟨_, rfl⟩
  rw [← hn] at hv1 ⊢
  have HN := Lib.hid hn
  have HV := Lib.hid hv3
  have hnb : n ≤ 281474976710656 := by omega
  clear hn hv2 hv3 hv1
  go_enter Tryz.func79, Tryz.ntmps79
  go_wp2
  go_loop [3] (fun q => ∃ k : Nat, k ≤ n ∧ q = .int .i64 k ∧ Hid (all32 (L.take k) = true)) (fun q => n - (intOf q).toNat)
  case atStart => exact ⟨0, by omega, rfl, Lib.hid rfl⟩
  case round =>
    obtain ⟨k, hk, rfl, hall⟩ := hrel
    by_cases hlt : k < n
    · obtain ⟨s, hs⟩ : ∃ s, L[k]? = some s := ⟨L[k]'(by rw [← HN.out]; exact hlt), List.getElem?_eq_getElem _⟩
      obtain ⟨a, rfl, hc⟩ := HV.out k s hs
      have HS := Lib.hid hs
      clear hs
      by_cases h32 : s.size = 32
      · have hsz : (s.size : Int) = 32 := by omega
        have HALL := Lib.hid (by rw [all32_take HS.out, hall.out]; simp [h32] : all32 (L.take (k + 1)) = true)
        clear h32
        go_wp2
        exact ⟨⟨k + 1, by omega, rfl, HALL⟩, (by show n - ((k : Int) + 1).toNat < n - (k : Int).toNat; omega)⟩
      · have hsz : ¬ ((s.size : Int) = 32) := by omega
        have HBAD := Lib.hid (all32_bad HS.out h32)
        clear h32
        go_wp2
        go_ret
        exact ⟨by rw [HBAD.out]; rfl, rfl⟩
    · have HK := Lib.hid (by have := hall.out; rwa [show k = n by omega, HN.out, List.take_length] at this : all32 L = true)
      go_wp2
      go_ret
      exact ⟨by rw [HK.out]; rfl, rfl⟩
end Go.Proofs.YtdbghgpohdijfaaGreatDoor
/- The document's layer 6: hashes, text. -/
namespace Go.Proofs.YtdbghgpohdijfaaGreatDoor
open Go.RowKit Go.Scr
set_option linter.unusedVariables false
set_option maxRecDepth 100000 in
set_option maxHeartbeats 400000 in
theorem hashes6_any (v : Value) (L : List ByteArray) (w : World) (hv : Txts w v L) :
    Calls Tryz.prog 35 #[v] w fun e w' => e = .returned (.bool (all32 L && decide (L.length ≤ 4096))) ∧ w' = w := by
  obtain ⟨p, c, rfl, hv1, hv2, hv3⟩ := hv
  obtain ⟨n, hn⟩ : ∃ n, n = L.length := ⟨_, rfl⟩
  rw [← hn] at hv1 ⊢
  have HN := Lib.hid hn
  have HV := Lib.hid hv3
  have hnb : n ≤ 281474976710656 := by omega
  clear hn hv2 hv3 hv1
  go_enter Tryz.func35, Tryz.ntmps35
  go_wp2
  go_loop [3] (fun q => ∃ k : Nat, k ≤ n ∧ q = .int .i64 k ∧ Hid (all32 (L.take k) = true)) (fun q => n - (intOf q).toNat)
  case atStart => exact ⟨0, by omega, rfl, Lib.hid rfl⟩
  case round =>
    obtain ⟨k, hk, rfl, hall⟩ := hrel
    by_cases hlt : k < n
    · obtain ⟨s, hs⟩ : ∃ s, L[k]? = some s := ⟨L[k]'(by rw [← HN.out]; exact hlt), List.getElem?_eq_getElem _⟩
      obtain ⟨a, rfl, hc⟩ := HV.out k s hs
      have HS := Lib.hid hs
      clear hs
      by_cases h32 : s.size = 32
      · have hsz : (s.size : Int) = 32 := by omega
        have HALL := Lib.hid (by rw [all32_take HS.out, hall.out]; simp [h32] : all32 (L.take (k + 1)) = true)
        clear h32
        go_wp2
        exact ⟨⟨k + 1, by omega, rfl, HALL⟩, (by show n - ((k : Int) + 1).toNat < n - (k : Int).toNat; omega)⟩
      · have hsz : ¬ ((s.size : Int) = 32) := by omega
        have HBAD := Lib.hid (all32_bad HS.out h32)
        clear h32
        go_wp2
        go_ret
        exact ⟨by rw [HBAD.out]; rfl, rfl⟩
    · have HK := Lib.hid (by have := hall.out; rwa [show k = n by omega, HN.out, List.take_length] at this : all32 L = true)
      by_cases h4 : n ≤ 4096
      · have h4i : (n : Int) ≤ 4096 := by omega
        have HD : Hid (decide (n ≤ 4096) = true) := Lib.hid (decide_eq_true h4)
        clear h4
        go_wp2
        go_ret
        exact ⟨by rw [HK.out, HD.out]; rfl, rfl⟩
      · have h4i : ¬ (n : Int) ≤ 4096 := by omega
        have HD : Hid (decide (n ≤ 4096) = false) := Lib.hid (decide_eq_false h4)
        clear h4
        go_wp2
        go_ret
        exact ⟨by rw [HK.out, HD.out]; rfl, rfl⟩
set_option maxRecDepth 100000 in
set_option maxHeartbeats 400000 in
theorem text6_any (l r : ByteArray) (w : World) (hl : l.size ≤ 1048576) (hr : r.size ≤ 1048576) :
    Calls Tryz.prog 38 #[.string l, .string r] w fun e w' => e = .returned (.string (txtS l r)) ∧ w' = w := by
  have h1 : (⟨#[1]⟩ : ByteArray).size + l.size ≤ 140737488355200 := by show 1 + l.size ≤ _; omega
  have h2 : (⟨#[1]⟩ ++ l : ByteArray).size + r.size ≤ 140737488355200 := by rw [ByteArray.size_append]; show 1 + l.size + r.size ≤ _; omega
  go_enter Tryz.func38, Tryz.ntmps38
  go_wp2
  go_ret
  exact ⟨rfl, rfl⟩
end Go.Proofs.YtdbghgpohdijfaaGreatDoor
/- scrivenerref6: the same lists? -/
namespace Go.Proofs.YtdbghgpohdijfaaGreatDoor
open Go.RowKit Go.Scr
set_option linter.unusedVariables false
theorem textE_ne {a b : ByteArray} (h : a ≠ b) : (a.toList == b.toList) = false := by
  refine beq_eq_false_iff_ne.2 fun h2 => h ?_
  rw [ByteArray.toList_eq, ByteArray.toList_eq] at h2
  exact ByteArray.ext (Array.toList_inj.mp h2)
theorem textE_same (a : ByteArray) : (a.toList == a.toList) = true := beq_self_eq_true _
set_option maxRecDepth 100000 in
set_option maxHeartbeats 1000000 in
theorem sameE_any (v v2 : Value) (L M : List ByteArray) (w : World) (hv : Txts w v L) (hv2 : Txts w v2 M) (hl : L.length ≤ 1048576) (hl2 : M.length ≤ 1048576) :
    Calls Tryz.prog 27 #[v, v2] w fun e w' => e = .returned (.bool (decide (L = M))) ∧ Below w.heap.size w w' := by
  obtain ⟨p, c, rfl, hv1, hv2', hv3⟩ := hv
  obtain ⟨p2, c2, rfl, hw1, hw2', hw3⟩ := hv2
  obtain ⟨n, hn⟩ : ∃ n, n = L.length := ⟨_, rfl⟩
  obtain ⟨m, hm⟩ : ∃ m, m = M.length := ⟨_, rfl⟩
  rw [← hn] at hv1 hl ⊢
  rw [← hm] at hw1 hl2 ⊢
  have HNL := Lib.hid hn
  have HML := Lib.hid hm
  have HP := Lib.hid hv3
  have HP2 := Lib.hid hw3
  clear hn hm hv1 hv2' hv3 hw1 hw2' hw3
  by_cases hnm : n = m
  · have HNM := Lib.hid hnm
    have e0 : ((n : Int) == (m : Int)) = true := beq_iff_eq.2 (by omega)
    clear hnm
    go_enter Tryz.func27, Tryz.ntmps27
    go_wp2
    go_loopw [5] (fun q wr => ∃ i : Nat, i ≤ n ∧ q = .int .i64 i ∧ Hid (∀ j, j < i → L[j]? = M[j]?) ∧ Below w.heap.size w wr) (fun q _ => n - (intOf q).toNat)
    case atStart => exact ⟨0, by omega, rfl, Lib.hid (fun j h => absurd h (by omega)), Below.refl _ _⟩
    case round =>
      obtain ⟨i, hi, rfl, hinv, hbel⟩ := hrel
      have HBEL := Lib.hid hbel
      have HINV := Lib.hid hinv.out
      clear hbel hinv
      by_cases hlt : i < n
      · have hl8 : (i : Int) < (n : Int) := by omega
        have him : (i : Int) < (m : Int) := by have := HNM.out; omega
        obtain ⟨s, hs⟩ : ∃ s, L[i]? = some s := ⟨L[i]'(by rw [← HNL.out]; exact hlt), List.getElem?_eq_getElem _⟩
        obtain ⟨t, ht⟩ : ∃ s, M[i]? = some s := ⟨M[i]'(by rw [← HML.out, ← HNM.out]; exact hlt), List.getElem?_eq_getElem _⟩
        obtain ⟨a, rfl, hc⟩ := HP.out i s hs
        obtain ⟨b, rfl, hd⟩ := HP2.out i t ht
        have hcell1 : wr.cell? (a.add i) = some (.string s) := (HBEL.out.cell (block_lt_of_cell hc)).trans hc
        have hcell2 : wr.cell? (b.add i) = some (.string t) := (HBEL.out.cell (block_lt_of_cell hd)).trans hd
        have HS := Lib.hid hs
        have HT := Lib.hid ht
        clear hs ht hc hd
        by_cases hst : s = t
        · have e1 : (s.toList == t.toList) = true := by rw [hst]; exact textE_same _
          have HST := Lib.hid hst
          clear hst
          go_upto_region 6 with fail
          go_quiet (fail)
          have HBEL2 : Hid (Below w.heap.size w (wr.drewN nq)) := below_drewN HBEL.out nq
          generalize wr.drewN nq = wx at *
          go_wp2_with fail
          refine ⟨⟨i + 1, by omega, rfl, Lib.hid (fun j hj => ?_), HBEL2.out⟩, (by show n - ((i : Int) + 1).toNat < n - (i : Int).toNat; omega)⟩
          rcases Nat.lt_or_ge j i with h1 | h1
          · exact HINV.out j h1
          · have : j = i := by omega
            subst this
            rw [HS.out, HT.out, HST.out]
        · have e1 : (s.toList == t.toList) = false := textE_ne hst
          have HST := Lib.hid hst
          clear hst
          go_upto_region 6 with fail
          go_quiet (fail)
          have HBEL2 : Hid (Below w.heap.size w (wr.drewN nq)) := below_drewN HBEL.out nq
          generalize wr.drewN nq = wx at *
          go_wp2_with fail
          go_ret
          have hd : decide (L = M) = false := decide_eq_false (by
            intro he
            have h1 := HS.out
            rw [he, HT.out] at h1
            exact HST.out (Option.some.inj h1).symm)
          exact ⟨by rw [hd]; rfl, HBEL2.out⟩
      · have hl8 : ¬ ((i : Int) < (n : Int)) := by omega
        go_wp2_with fail
        go_ret
        have hd : decide (L = M) = true := decide_eq_true (by
          refine List.ext_getElem? fun j => ?_
          rcases Nat.lt_or_ge j i with h1 | h1
          · exact HINV.out j h1
          · rw [List.getElem?_eq_none (by have := HNL.out; omega), List.getElem?_eq_none (by have := HML.out; have := HNM.out; omega)])
        exact ⟨by rw [hd]; rfl, HBEL.out⟩
  · have e0 : ((n : Int) == (m : Int)) = false := beq_eq_false_iff_ne.2 (by omega)
    have e1 : decide (L = M) = false := decide_eq_false (by intro h; apply hnm; rw [HNL.out, HML.out, h])
    rw [e1]
    clear hnm e1
    go_enter Tryz.func27, Tryz.ntmps27
    go_wp2
    go_ret
    exact ⟨rfl, Below.refl _ _⟩
end Go.Proofs.YtdbghgpohdijfaaGreatDoor
/- The document's steps of a walk: plain: the flags are those of the way down. -/
namespace Go.Scr
set_option linter.unusedVariables false
/-- the steps down from the span (b, e) to the span (x, y): where the one beside begins and ends, and whether it stands left -/
def spD (x y : Nat) (b e : Nat) : List (Nat × Nat × Bool) :=
  if h : (b = x ∧ e = y) ∨ e - b ≤ 1 then [] else
    if b + spl (e - b) ≤ x then (b, b + spl (e - b), true) :: spD x y (b + spl (e - b)) e
    else (b + spl (e - b), e, false) :: spD x y b (b + spl (e - b))
termination_by e - b
decreasing_by
  · have := spl_lt (show 2 ≤ e - b by omega); omega
  · have := spl_lt (show 2 ≤ e - b by omega); omega
/-- to a leaf -/
theorem spD_dn (s : Nat) : ∀ (b m : Nat), m < s → ((spD (b + m) (b + m + 1) b (b + s)).map (fun x => x.2.2)).reverse = dn s m := by
  induction s using Nat.strongRecOn with
  | ind s ih =>
    intro b m hm
    rw [spD, dn]
    by_cases h1 : s ≤ 1
    · rw [dif_pos (by right; omega), dif_pos h1]
      rfl
    · have hs := spl_lt (show 2 ≤ s by omega)
      rw [dif_neg (by omega), dif_neg h1, show b + s - b = s by omega]
      by_cases h2 : m < spl s
      · rw [if_neg (by omega), if_pos h2, List.map_cons, List.reverse_cons, ih (spl s) hs.2.1 b m h2]
      · rw [if_pos (by omega), if_neg h2, List.map_cons, List.reverse_cons]
        have := ih (s - spl s) (by omega) (b + spl s) (m - spl s) (by omega)
        rw [show b + spl s + (m - spl s) = b + m by omega, show b + spl s + (s - spl s) = b + s by omega] at this
        rw [this]
/-- to the greatest subtree that ends at f -/
theorem spD_fl (k t : Nat) (hk : k = 2 ^ t) (s : Nat) : ∀ (b f : Nat), 1 ≤ f → f ≤ s → k ∣ f → ¬ (2 * k) ∣ f → (f = s → f = k) → ((spD (b + f - k) (b + f) b (b + s)).map (fun x => x.2.2)).reverse = fl f s := by
  have hk0 : 0 < k := by rw [hk]; exact Nat.pos_of_ne_zero (by simp)
  induction s using Nat.strongRecOn with
  | ind s ih =>
    intro b f h1 h2 hd hnd hfs
    have hkf : k ≤ f := Nat.le_of_dvd (by omega) hd
    rw [spD, fl]
    by_cases he : f = s
    · have := hfs he
      rw [dif_pos (by left; omega), dif_pos (by left; exact he)]
      rfl
    · have hs2 : 2 ≤ s := by omega
      obtain ⟨i, hi, hi2, hi3⟩ := spl_pow hs2
      have hp : 0 < 2 ^ i := Nat.pos_of_ne_zero (by simp)
      have hpi : 2 ^ (i + 1) = 2 * 2 ^ i := by rw [Nat.pow_succ]; omega
      -- k divides the half
      have hti : t ≤ i := by
        have h3 : 2 ^ t < 2 ^ (i + 1) := by rw [← hk]; omega
        have := (Nat.pow_lt_pow_iff_right (a := 2) (by omega)).1 h3
        omega
      have hdi : k ∣ 2 ^ i := by rw [hk]; exact Nat.pow_dvd_pow 2 hti
      rw [dif_neg (by omega), dif_neg (by omega), show b + s - b = s by omega, hi]
      by_cases hle : f ≤ 2 ^ i
      · rw [if_neg (by omega), if_pos hle, List.map_cons, List.reverse_cons, ih (2 ^ i) hi2 b f h1 hle hd hnd (fun hf => by
          rcases Nat.lt_or_ge t i with h3 | h3
          · refine absurd ?_ hnd
            rw [hf, hk, show 2 * 2 ^ t = 2 ^ (t + 1) by rw [Nat.pow_succ]; omega]
            exact Nat.pow_dvd_pow 2 h3
          · rw [hf, hk, show t = i by omega])]
      · have hdf : k ∣ f - 2 ^ i := Nat.dvd_sub hd hdi
        have hkf2 : k ≤ f - 2 ^ i := Nat.le_of_dvd (by omega) hdf
        rw [if_pos (by omega), if_neg hle, List.map_cons, List.reverse_cons]
        have hti2 : t < i := by
          rcases Nat.lt_or_ge t i with h3 | h3
          · exact h3
          · have : k = 2 ^ i := by rw [hk, show t = i by omega]
            omega
        have hd2 : 2 * k ∣ 2 ^ i := by
          rw [hk, show 2 * 2 ^ t = 2 ^ (t + 1) by rw [Nat.pow_succ]; omega]
          exact Nat.pow_dvd_pow 2 hti2
        have := ih (s - 2 ^ i) (by omega) (b + 2 ^ i) (f - 2 ^ i) (by omega) (by omega) hdf (fun h => hnd (by
          have h4 := Nat.dvd_add h hd2
          rwa [show f - 2 ^ i + 2 ^ i = f by omega] at h4)) (fun h => by omega)
        rw [show b + 2 ^ i + (f - 2 ^ i) = b + f by omega, show b + 2 ^ i + (s - 2 ^ i) = b + s by omega] at this
        rw [this]
end Go.Scr
/- The document's steps of a walk: plain: what stands beside is the proof. -/
namespace Go.Proofs.YtdbghgpohdijfaaGreatDoor
open Go.RowKit Go.Scr
set_option linter.unusedVariables false
/-- the root of a span -/
def spR (M : List ByteArray) (x : Nat × Nat × Bool) : ByteArray := rootR ((M.drop x.1).take (x.2.1 - x.1))
theorem proof_ne {f s : Nat} {l : List ByteArray} {w : Bool} (hl : l.length = s) (h : wh f s w = false) : proofL nodeS hempty f l w ≠ [] := by
  intro h2
  have h3 := proofL_length nodeS hempty s f l w hl
  rw [h2] at h3
  unfold toldN at h3
  rw [h] at h3
  simp at h3
theorem head_snoc {p : List ByteArray} (h : p ≠ []) (x d : ByteArray) : (p ++ [x]).headD d = p.headD d := by
  cases p with
  | nil => exact absurd rfl h
  | cons y r => rfl
theorem spD_proof (M : List ByteArray) (k t : Nat) (hk : k = 2 ^ t) (s : Nat) : ∀ (b f : Nat) (w : Bool), b + s ≤ M.length → 1 ≤ f → f ≤ s → k ∣ f → ¬ (2 * k) ∣ f → (f = s → f = k) →
    ((spD (b + f - k) (b + f) b (b + s)).map (spR M)).reverse = restL (wh f s w) (proofL nodeS hempty f ((M.drop b).take s) w) ∧
    (wh f s w = false → ∀ d, (proofL nodeS hempty f ((M.drop b).take s) w).headD d = rootR ((M.drop (b + f - k)).take k)) := by
  have hk0 : 0 < k := by rw [hk]; exact Nat.pos_of_ne_zero (by simp)
  induction s using Nat.strongRecOn with
  | ind s ih =>
    intro b f w hM h1 h2 hd hnd hfs
    have hkf : k ≤ f := Nat.le_of_dvd (by omega) hd
    have hlen : ((M.drop b).take s).length = s := by rw [List.length_take, List.length_drop]; omega
    rw [spD, proofL, wh, hlen]
    by_cases he : f = s
    · have hfk := hfs he
      rw [dif_pos (by left; omega), dif_pos (by left; exact he), dif_pos (by left; exact he)]
      refine ⟨?_, fun hw d => ?_⟩
      · cases w <;> rfl
      · subst hw
        show rootR _ = _
        rw [show b + f - k = b by omega, show k = s by omega]
    · have hs2 : 2 ≤ s := by omega
      obtain ⟨i, hi, hi2, hi3⟩ := spl_pow hs2
      have hp : 0 < 2 ^ i := Nat.pos_of_ne_zero (by simp)
      have hpi : 2 ^ (i + 1) = 2 * 2 ^ i := by rw [Nat.pow_succ]; omega
      have hti : t ≤ i := by
        have h3 : 2 ^ t < 2 ^ (i + 1) := by rw [← hk]; omega
        have := (Nat.pow_lt_pow_iff_right (a := 2) (by omega)).1 h3
        omega
      have hdi : k ∣ 2 ^ i := by rw [hk]; exact Nat.pow_dvd_pow 2 hti
      have htk : ((M.drop b).take s).take (2 ^ i) = (M.drop b).take (2 ^ i) := by rw [List.take_take, Nat.min_eq_left (by omega)]
      have hdr : ((M.drop b).take s).drop (2 ^ i) = (M.drop (b + 2 ^ i)).take (s - 2 ^ i) := by rw [List.drop_take, List.drop_drop]
      rw [dif_neg (by omega), dif_neg (by omega), dif_neg (by omega), show b + s - b = s by omega, hi, htk, hdr]
      by_cases hle : f ≤ 2 ^ i
      · rw [if_neg (by omega), if_pos hle, if_pos hle, List.map_cons, List.reverse_cons]
        obtain ⟨i1, i2⟩ := ih (2 ^ i) hi2 b f w (by omega) h1 hle hd hnd (fun hf => by
          rcases Nat.lt_or_ge t i with h3 | h3
          · refine absurd ?_ hnd
            rw [hf, hk, show 2 * 2 ^ t = 2 ^ (t + 1) by rw [Nat.pow_succ]; omega]
            exact Nat.pow_dvd_pow 2 h3
          · rw [hf, hk, show t = i by omega])
        have hl2 : ((M.drop b).take (2 ^ i)).length = 2 ^ i := by rw [List.length_take, List.length_drop]; omega
        have hor : wh f (2 ^ i) w = true ∨ proofL nodeS hempty f ((M.drop b).take (2 ^ i)) w ≠ [] := by
          cases h : wh f (2 ^ i) w with
          | true => exact .inl rfl
          | false => exact .inr (proof_ne hl2 h)
        rw [i1, rest_snoc _ _ _ hor]
        refine ⟨?_, fun hw d => by rw [head_snoc (proof_ne hl2 hw)]; exact i2 hw d⟩
        show _ ++ [rootR ((M.drop (b + 2 ^ i)).take (b + s - (b + 2 ^ i)))] = _
        rw [show b + s - (b + 2 ^ i) = s - 2 ^ i by omega]
        rfl
      · have hdf : k ∣ f - 2 ^ i := Nat.dvd_sub hd hdi
        have hkf2 : k ≤ f - 2 ^ i := Nat.le_of_dvd (by omega) hdf
        have hti2 : t < i := by
          rcases Nat.lt_or_ge t i with h3 | h3
          · exact h3
          · have : k = 2 ^ i := by rw [hk, show t = i by omega]
            omega
        have hd2 : 2 * k ∣ 2 ^ i := by
          rw [hk, show 2 * 2 ^ t = 2 ^ (t + 1) by rw [Nat.pow_succ]; omega]
          exact Nat.pow_dvd_pow 2 hti2
        rw [if_pos (by omega), if_neg hle, if_neg hle, List.map_cons, List.reverse_cons]
        obtain ⟨i1, i2⟩ := ih (s - 2 ^ i) (by omega) (b + 2 ^ i) (f - 2 ^ i) false (by omega) (by omega) (by omega) hdf (fun h => hnd (by
          have h4 := Nat.dvd_add h hd2
          rwa [show f - 2 ^ i + 2 ^ i = f by omega] at h4)) (fun h => by omega)
        rw [show b + 2 ^ i + (f - 2 ^ i) = b + f by omega, show b + 2 ^ i + (s - 2 ^ i) = b + s by omega] at i1
        rw [show b + 2 ^ i + (f - 2 ^ i) = b + f by omega] at i2
        have hl2 : ((M.drop (b + 2 ^ i)).take (s - 2 ^ i)).length = s - 2 ^ i := by rw [List.length_take, List.length_drop]; omega
        have hor : wh (f - 2 ^ i) (s - 2 ^ i) false = true ∨ proofL nodeS hempty (f - 2 ^ i) ((M.drop (b + 2 ^ i)).take (s - 2 ^ i)) false ≠ [] := by
          cases h : wh (f - 2 ^ i) (s - 2 ^ i) false with
          | true => exact .inl rfl
          | false => exact .inr (proof_ne hl2 h)
        rw [i1, rest_snoc _ _ _ hor]
        refine ⟨?_, fun hw d => by rw [head_snoc (proof_ne hl2 hw)]; exact i2 hw d⟩
        show _ ++ [rootR ((M.drop b).take (b + 2 ^ i - b))] = _
        rw [show b + 2 ^ i - b = 2 ^ i by omega]
        rfl
end Go.Proofs.YtdbghgpohdijfaaGreatDoor
/- The document's steps of a walk: plain: where the walk of a proof begins. -/
namespace Go.Scr
set_option linter.unusedVariables false
/-- the proof's subtree is the old tree where it is a whole one -/
theorem wh_k (k t : Nat) (hk : k = 2 ^ t) (s : Nat) : ∀ (f : Nat), 1 ≤ f → f ≤ s → k ∣ f → ¬ (2 * k) ∣ f → (f = s → f = k) → wh f s true = decide (k = f) := by
  have hk0 : 0 < k := by rw [hk]; exact Nat.pos_of_ne_zero (by simp)
  induction s using Nat.strongRecOn with
  | ind s ih =>
    intro f h1 h2 hd hnd hfs
    have hkf : k ≤ f := Nat.le_of_dvd (by omega) hd
    rw [wh]
    by_cases he : f = s
    · rw [dif_pos (by left; exact he), decide_eq_true (hfs he).symm]
    · have hs2 : 2 ≤ s := by omega
      obtain ⟨i, hi, hi2, hi3⟩ := spl_pow hs2
      have hp : 0 < 2 ^ i := Nat.pos_of_ne_zero (by simp)
      have hpi : 2 ^ (i + 1) = 2 * 2 ^ i := by rw [Nat.pow_succ]; omega
      have hti : t ≤ i := by
        have h3 : 2 ^ t < 2 ^ (i + 1) := by rw [← hk]; omega
        have := (Nat.pow_lt_pow_iff_right (a := 2) (by omega)).1 h3
        omega
      rw [dif_neg (by omega), hi]
      by_cases hle : f ≤ 2 ^ i
      · rw [if_pos hle]
        exact ih (2 ^ i) hi2 f h1 hle hd hnd (fun hf => by
          rcases Nat.lt_or_ge t i with h3 | h3
          · refine absurd ?_ hnd
            rw [hf, hk, show 2 * 2 ^ t = 2 ^ (t + 1) by rw [Nat.pow_succ]; omega]
            exact Nat.pow_dvd_pow 2 h3
          · rw [hf, hk, show t = i by omega])
      · have hki : k ≤ 2 ^ i := by rw [hk]; exact Nat.pow_le_pow_right (by omega) hti
        rw [if_neg hle, wh_false, decide_eq_false (by omega)]
end Go.Scr
namespace Go.Proofs.YtdbghgpohdijfaaGreatDoor
open Go.RowKit Go.Scr
set_option linter.unusedVariables false
/-- the document's walk of a proof: its flags, the hash it begins with, what stands beside -/
theorem cons_doc (M : List ByteArray) (k t f : Nat) (hk : k = 2 ^ t) (h1 : 1 ≤ f) (hf : f < M.length) (hd : k ∣ f) (hnd : ¬ (2 * k) ∣ f) :
    ((spD (f - k) f 0 M.length).map (fun x => x.2.2)).reverse = fl f M.length ∧
    ((spD (f - k) f 0 M.length).map (spR M)).reverse = restL (wh f M.length true) (proofR f M true) ∧
    rootR ((M.drop (f - k)).take (f - (f - k))) = seedL (wh f M.length true) (rootR (M.take f)) (proofR f M true) ∧
    wh f M.length true = decide (k = f) := by
  have hkf : k ≤ f := Nat.le_of_dvd (by omega) hd
  have e1 := spD_fl k t hk M.length 0 f h1 (by omega) hd hnd (fun h => by omega)
  have e2 := spD_proof M k t hk M.length 0 f true (by omega) h1 (by omega) hd hnd (fun h => by omega)
  have e3 := wh_k k t hk M.length f h1 (by omega) hd hnd (fun h => by omega)
  rw [Nat.zero_add, Nat.zero_add] at e1 e2
  rw [List.drop_zero, List.take_length] at e2
  refine ⟨e1, e2.1, ?_, e3⟩
  rw [show f - (f - k) = k by omega]
  cases hw : wh f M.length true with
  | true =>
    rw [hw] at e3
    have hkf2 : k = f := of_decide_eq_true e3.symm
    rw [hkf2, Nat.sub_self, List.drop_zero]
    rfl
  | false =>
    exact (e2.2 hw _).symm
end Go.Proofs.YtdbghgpohdijfaaGreatDoor
