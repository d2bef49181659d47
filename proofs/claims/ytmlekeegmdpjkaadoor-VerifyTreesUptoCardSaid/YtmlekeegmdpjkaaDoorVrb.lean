/- Layer 4, the document's answer, walked: up, RootOf, Inclusion. -/
import Derived.Test.YtmlekeegmdpjkaaDoorVra
import Derived.Test.YtmlekeegmdpjkaaDoorVer6
import Derived.Deep.RegionHeld3
import Derived.IntWalk
namespace Go.Proofs.YtmlekeegmdpjkaaDoor
open Go.RowKit Go.Scr
set_option linter.unusedVariables false

theorem keepS {w w2 w3 : World} {B : Nat} {x : Addr} {v : Value} (h : w2.cell? x = some v ∧ Below B w w2) (hb : Below w2.heap.size w2 w3) (hB : B ≤ w2.heap.size) : w3.cell? x = some v ∧ Below B w w3 :=
  ⟨(hb.cell (block_lt_of_cell h.1)).trans h.1, below_from h.2 hb hB⟩
theorem dn_left {n m : Nat} (h : 1 < n) (h2 : m < spl n) : dn n m = dn (spl n) m ++ [false] := by rw [dn, dif_neg (by omega), if_pos h2]
theorem dn_right {n m : Nat} (h : 1 < n) (h2 : ¬ m < spl n) : dn n m = dn (n - spl n) (m - spl n) ++ [true] := by rw [dn, dif_neg (by omega), if_neg h2]
theorem dn_one {n : Nat} (m : Nat) (h : n ≤ 1) : dn n m = [] := by rw [dn, dif_pos h]
theorem Txts.init {w : World} {p : Option Addr} {q c : Nat} {L' : List ByteArray} {s : ByteArray} (h : Txts w (.slice p (q + 1) c) (L' ++ [s])) :
    q = L'.length ∧ Txts w (.slice p q c) L' ∧ ∃ a, p = some a ∧ w.cell? (a.add q) = some (.string s) ∧ (q : Int) + 1 ≤ (c : Int) := by
  obtain ⟨p', c', he, h1, h2, h3⟩ := h
  simp only [Value.slice.injEq] at he
  obtain ⟨rfl, hq1, rfl⟩ := he
  rw [List.length_append, List.length_singleton] at hq1 h1 h2
  have hq : q = L'.length := by omega
  refine ⟨hq, ⟨p, c, by rw [hq], by omega, by omega, fun j x hx => h3 j x (by rw [List.getElem?_append_left (List.getElem?_eq_some_iff.mp hx).1]; exact hx)⟩, ?_⟩
  obtain ⟨a, ha, hc⟩ := h3 q s (by rw [hq]; simp)
  exact ⟨a, ha, hc, by omega⟩

set_option maxRecDepth 100000 in
set_option maxHeartbeats 2000000 in
theorem up4_any (q : Nat) : ∀ (L : List ByteArray) (n m : Nat) (leaf : ByteArray) (p : Option Addr) (c : Nat) (w : World), Txts w (.slice p q c) L → L.length = q → q ≤ 1048576 → (dn n m).length = q → m < n → n ≤ 1099511627776 →
    Calls Tryd.prog 98 #[.int .i64 n, .int .i64 m, .string leaf, .slice p q c] w fun e w' => e = .returned (.string (climbF nodeS (dn n m) L leaf)) ∧ Below w.heap.size w w' := by
  induction q with
  | zero =>
    intro L n m leaf p c w hv hL hq hd hmn hn
    have h1 : dn n m = [] := List.eq_nil_of_length_eq_zero hd
    have h2 : climbF nodeS (dn n m) L leaf = leaf := by rw [h1]; rfl
    rw [h2]
    clear h1 h2 hd hL hv
    go_enter Tryd.func98, Tryd.ntmps98
    go_wp2
    go_ret
    exact ⟨rfl, Below.refl _ _⟩
  | succ q ih =>
    intro L n m leaf p c w hv hL hq hd hmn hn
    have hn1 : 1 < n := by
      rcases Nat.lt_or_ge 1 n with h | h
      · exact h
      · rw [dn_one m h] at hd; simp at hd
    obtain ⟨L', s, rfl⟩ : ∃ L' s, L = L' ++ [s] := ⟨L.dropLast, L.getLast (by intro h; rw [h] at hL; simp at hL), (List.dropLast_concat_getLast (by intro h; rw [h] at hL; simp at hL)).symm⟩
    obtain ⟨hqL, hv2, a, rfl, hcell, hqc⟩ := hv.init
    have hsp := spl_lt (show 2 ≤ n by omega)
    obtain ⟨k, hk⟩ : ∃ k, k = spl n := ⟨_, rfl⟩
    have HSP := Lib.hid (fun w' => split4_any n w' hn)
    rw [← hk] at HSP hsp
    have HV := Lib.hid hv2
    have HNODE := Lib.hid (fun l r w' => node4_any l r w')
    have hq0 : ¬ ((q : Int) + 1 = 0) := by omega
    have hqq : (q : Int) < (q : Int) + 1 := by omega
    have hqb : q ≤ 1048576 := by omega
    have hq00 : (0 : Int) ≤ (q : Int) := by omega
    have hqcc : (q : Int) ≤ (c : Int) := by omega
    by_cases hlt : m < k
    · have hD : dn n m = dn k m ++ [false] := by have := dn_left (n := n) (m := m) hn1 (by rw [← hk]; exact hlt); rw [← hk] at this; exact this
      have hlen : (dn k m).length = q := by rw [hD] at hd; simpa using hd
      have HC := Lib.hid (fun w' (h : Txts w' (.slice (some a) q c) L') => ih L' k m leaf (some a) c w' h (by omega) (by omega) hlen hlt (by omega))
      obtain ⟨X, hX⟩ : ∃ X, X = climbF nodeS (dn k m) L' leaf := ⟨_, rfl⟩
      have hR : climbF nodeS (dn n m) (L' ++ [s]) leaf = nodeS X s := by rw [hD, climbF_snoc _ _ _ _ _ _ (by omega), hX]; rfl
      rw [hR]
      rw [← hX] at HC
      have hlti : (m : Int) < (k : Int) := by omega
      clear ih hR hX hD hlen hk hv hv2 hqL hL hd
      go_enter Tryd.func98, Tryd.ntmps98
      go_upto_region 6 with (go_at_call 96; with_reducible refine (HSP.out _).mono ?_; rintro e w2 ⟨rfl, hw⟩; rw [hw]; clear hw w2)
      have hw1 : IntKind.i64.wrap ((q : Int) + 1 - 1) = (q : Int) := by rw [show (q : Int) + 1 - 1 = (q : Int) by omega]; exact IntWalk.i64_in _ (by omega)
      have hw2 : IntKind.i64.wrap (q : Int) = (q : Int) := IntWalk.i64_in _ (by omega)
      have HVd : Hid (Txts w.drew (.slice (some a) q c) L') := HV
      have HS1 : Hid (w.drew.cell? (a.add q) = some (.string s) ∧ Below w.heap.size w w.drew) := Lib.hid ⟨hcell, (Below.refl w.heap.size w).drew⟩
      go_region_held3 (fun w' => w'.cell? (a.add q) = some (.string s) ∧ Below w.heap.size w w') (first | exact HS1.out | exact HS3.out | exact HS2.out) (first
        | (go_at_call 98; with_reducible refine (HC.out w.drew HVd.out).mono ?_; rintro e w2 ⟨rfl, hb⟩; have HS2 := Lib.hid (keepS HS1.out hb (Nat.le_refl _)); clear hb)
        | (go_at_call 112; with_reducible refine (HNODE.out _ _ _).mono ?_; rintro e w3 ⟨rfl, hb⟩; have HS3 := Lib.hid (keepS HS2.out hb HS2.out.2.size); clear hb))
      go_wp2_with fail
      go_ret
      exact ⟨rfl, HS3.out.2⟩
    · have hD : dn n m = dn (n - k) (m - k) ++ [true] := by have := dn_right (n := n) (m := m) hn1 (by rw [← hk]; exact hlt); rw [← hk] at this; exact this
      have hlen : (dn (n - k) (m - k)).length = q := by rw [hD] at hd; simpa using hd
      have HC := Lib.hid (fun w' (h : Txts w' (.slice (some a) q c) L') => ih L' (n - k) (m - k) leaf (some a) c w' h (by omega) (by omega) hlen (by omega) (by omega))
      obtain ⟨X, hX⟩ : ∃ X, X = climbF nodeS (dn (n - k) (m - k)) L' leaf := ⟨_, rfl⟩
      have hR : climbF nodeS (dn n m) (L' ++ [s]) leaf = nodeS s X := by rw [hD, climbF_snoc _ _ _ _ _ _ (by omega), hX]; rfl
      rw [hR]
      rw [← hX] at HC
      have hlti : ¬ ((m : Int) < (k : Int)) := by omega
      obtain ⟨nk, hnk⟩ : ∃ x, x = n - k := ⟨_, rfl⟩
      obtain ⟨mk, hmk⟩ : ∃ x, x = m - k := ⟨_, rfl⟩
      rw [← hnk, ← hmk] at HC
      have q1 : (n : Int) - (k : Int) = (nk : Int) := by omega
      have q2 : (m : Int) - (k : Int) = (mk : Int) := by omega
      have hnkb : nk ≤ 1099511627776 := by omega
      have hmkb : mk ≤ 1099511627776 := by omega
      clear ih hR hX hD hlen hk hv hv2 hqL hL hd hnk hmk
      go_enter Tryd.func98, Tryd.ntmps98
      go_upto_region 7 with (go_at_call 96; with_reducible refine (HSP.out _).mono ?_; rintro e w2 ⟨rfl, hw⟩; rw [hw]; clear hw w2)
      have hw1 : IntKind.i64.wrap ((q : Int) + 1 - 1) = (q : Int) := by rw [show (q : Int) + 1 - 1 = (q : Int) by omega]; exact IntWalk.i64_in _ (by omega)
      have hw2 : IntKind.i64.wrap (q : Int) = (q : Int) := IntWalk.i64_in _ (by omega)
      have hw3 : IntKind.i64.wrap (nk : Int) = (nk : Int) := IntWalk.i64_in _ (by omega)
      have hw4 : IntKind.i64.wrap (mk : Int) = (mk : Int) := IntWalk.i64_in _ (by omega)
      have HVd : Hid (Txts w.drew (.slice (some a) q c) L') := HV
      have HS1 : Hid (w.drew.cell? (a.add q) = some (.string s) ∧ Below w.heap.size w w.drew) := Lib.hid ⟨hcell, (Below.refl w.heap.size w).drew⟩
      go_region_held3 (fun w' => w'.cell? (a.add q) = some (.string s) ∧ Below w.heap.size w w') (first | exact HS1.out | exact HS3.out | exact HS2.out) (first
        | (go_at_call 98; with_reducible refine (HC.out w.drew HVd.out).mono ?_; rintro e w2 ⟨rfl, hb⟩; have HS2 := Lib.hid (keepS HS1.out hb (Nat.le_refl _)); clear hb)
        | (go_at_call 112; with_reducible refine (HNODE.out _ _ _).mono ?_; rintro e w3 ⟨rfl, hb⟩; have HS3 := Lib.hid (keepS HS2.out hb HS2.out.2.size); clear hb))
      go_wp2_with fail
      go_ret
      exact ⟨rfl, HS3.out.2⟩
end Go.Proofs.YtmlekeegmdpjkaaDoor
