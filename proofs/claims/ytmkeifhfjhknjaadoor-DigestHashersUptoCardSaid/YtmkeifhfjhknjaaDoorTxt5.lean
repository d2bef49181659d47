/- FromBase64 of the program: what it reckons, plainly. -/
import Derived.Test.YtmkeifhfjhknjaaDoorTxt4
namespace Go.Proofs.YtmkeifhfjhknjaaDoor
open Go.RowKit Go.Scr
set_option linter.unusedVariables false

/-- how many signs of a group are looked at -/
def padN (last : Bool) (c2 c3 : UInt8) : Nat := if last = true ∧ c3 = 61 then (if c2 = 61 then 2 else 3) else 4
def gN (d : List UInt8) (i : Nat) : Nat := padN (decide (4 * i + 4 = d.length)) (d.getD (4 * i + 2) 0) (d.getD (4 * i + 3) 0)
/-- so many signs, put together -/
def sx (d : List UInt8) (i : Nat) : Nat → Nat
  | 0 => 0
  | k + 1 => sx d i k * 64 + (if k < gN d i then sixN (d.getD (4 * i + k) 0) else 0)
def decG (d : List UInt8) (i : Nat) : List UInt8 := (List.range (gN d i - 1)).map fun k => UInt8.ofNat (sx d i 4 / 2 ^ (16 - 8 * k))
def unb (d : List UInt8) (n : Nat) : List UInt8 := (List.range n).flatMap (decG d)
def goodG (d : List UInt8) (i : Nat) : Bool := (List.range (gN d i)).all fun k => decide (sixN (d.getD (4 * i + k) 0) < 64)
def goodB (d : List UInt8) (n : Nat) : Bool := (List.range n).all (goodG d)
def fbOk (d : List UInt8) : Prop := d.length % 4 = 0 ∧ goodB d (d.length / 4) = true ∧ b64 (unb d (d.length / 4)) = d
theorem gN_cases (d : List UInt8) (i : Nat) : gN d i = 2 ∨ gN d i = 3 ∨ gN d i = 4 := by
  unfold gN padN
  split
  · split
    · exact .inl rfl
    · exact .inr (.inl rfl)
  · exact .inr (.inr rfl)
theorem unb_succ (d : List UInt8) (n : Nat) : unb d (n + 1) = unb d n ++ decG d n := by
  unfold unb
  rw [List.range_succ, List.flatMap_append]
  simp
theorem goodB_succ (d : List UInt8) (n : Nat) : goodB d (n + 1) = (goodB d n && goodG d n) := by
  unfold goodB
  rw [List.range_succ, List.all_append]
  simp
theorem goodB_bad {d : List UInt8} {n i k : Nat} (hi : i < n) (hk : k < gN d i) (h : ¬ sixN (d.getD (4 * i + k) 0) < 64) : goodB d n = false := by
  unfold goodB
  rw [List.all_eq_false]
  refine ⟨i, List.mem_range.mpr hi, ?_⟩
  unfold goodG
  rw [Bool.not_eq_true, List.all_eq_false]
  exact ⟨k, List.mem_range.mpr hk, by simpa using h⟩
theorem decG_length (d : List UInt8) (i : Nat) : (decG d i).length ≤ 3 := by
  have := gN_cases d i
  simp [decG]
  omega
theorem unb_length (d : List UInt8) (n : Nat) : (unb d n).length ≤ 3 * n := by
  induction n with
  | zero => simp [unb]
  | succ n ih =>
    rw [unb_succ, List.length_append]
    have := decG_length d n
    omega
theorem b64_length (l : List UInt8) : (b64 l).length = 4 * ((l.length + 2) / 3) := b64L_length _ _
theorem b64q_length (l : List UInt8) (g : Nat) : (b64q l g).length = 4 := by simp [b64q]
theorem b64L_get (l : List UInt8) (n g k : Nat) (hg : g < n) (hk : k < 4) : (b64L l n).getD (4 * g + k) 0 = b64c l g k := by
  induction n with
  | zero => omega
  | succ n ih =>
    rw [b64L_succ, List.getD_eq_getElem?_getD]
    by_cases h : g < n
    · rw [List.getElem?_append_left (by rw [b64L_length]; omega), ← List.getD_eq_getElem?_getD]
      exact ih h
    · obtain rfl : g = n := by omega
      rw [List.getElem?_append_right (by rw [b64L_length]; omega), b64L_length, show 4 * g + k - 4 * g = k by omega]
      unfold b64q
      rw [List.getElem?_map, List.getElem?_range hk]
      rfl
/-- what is written is read: group by group -/
theorem group_back (l : List UInt8) (g : Nat) (hg : 3 * g < l.length) : gN (b64 l) g = min 3 (l.length - 3 * g) + 1 ∧ goodG (b64 l) g = true ∧ decG (b64 l) g = (l.drop (3 * g)).take 3 := by
  have hgG : g < (l.length + 2) / 3 := by omega
  have hc : ∀ k, k < 4 → (b64 l).getD (4 * g + k) 0 = b64c l g k := fun k hk => b64L_get l _ g k hgG hk
  obtain ⟨m, hm⟩ : ∃ m, m = min 3 (l.length - 3 * g) := ⟨_, rfl⟩
  have hcv : ∀ k, b64c l g k = if m < k then 61 else sgn (grp l g / 2 ^ (18 - 6 * k) % 64) := fun k => by unfold b64c; rw [hm]
  have hlast : decide (4 * g + 4 = (b64 l).length) = decide ((l.length + 2) / 3 = g + 1) := by rw [b64_length]; congr 1; apply propext; omega
  have hN : gN (b64 l) g = m + 1 := by
    unfold gN padN
    rw [hc 2 (by omega), hc 3 (by omega), hcv 2, hcv 3, hlast]
    have hcase : m = 1 ∨ m = 2 ∨ m = 3 := by omega
    rcases hcase with h | h | h
    · subst h
      rw [if_pos (by omega : 1 < 3), if_pos (by omega : 1 < 2), if_pos ⟨by simp; omega, rfl⟩, if_pos rfl]
    · subst h
      rw [if_pos (by omega : 2 < 3), if_neg (by omega : ¬ 2 < 2), if_pos ⟨by simp; omega, rfl⟩, if_neg (sgn_pad _ (Nat.mod_lt _ (by omega)))]
    · subst h
      rw [if_neg (by omega : ¬ 3 < 3), if_neg (fun h => sgn_pad _ (Nat.mod_lt _ (by omega)) h.2)]
  have hs : ∀ k, k ≤ m → k < 4 → sixN ((b64 l).getD (4 * g + k) 0) = grp l g / 2 ^ (18 - 6 * k) % 64 := fun k hk hk4 => by
    rw [hc k hk4, hcv k, if_neg (by omega), six_sgn _ (Nat.mod_lt _ (by omega))]
  refine ⟨by rw [hN, hm], ?_, ?_⟩
  · unfold goodG
    rw [hN, List.all_eq_true]
    intro k hk
    have hk' := List.mem_range.mp hk
    rw [hs k (by omega) (by omega)]
    simpa using Nat.mod_lt _ (by omega : 0 < 64)
  · have b0 := byt_lt l (3 * g)
    have b1 := byt_lt l (3 * g + 1)
    have b2 := byt_lt l (3 * g + 2)
    have z1 : m ≤ 1 → byt l (3 * g + 1) = 0 := fun h => byt_out _ _ (by omega)
    have z2 : m ≤ 2 → byt l (3 * g + 2) = 0 := fun h => byt_out _ _ (by omega)
    have hgrp : grp l g = 65536 * byt l (3 * g) + 256 * byt l (3 * g + 1) + byt l (3 * g + 2) := rfl
    have hx : sx (b64 l) g 4 = grp l g := by
      simp only [sx, hN]
      have s0 := hs 0 (by omega) (by omega)
      have s1 := hs 1 (by omega) (by omega)
      rw [if_pos (by omega : 0 < m + 1), if_pos (by omega : 1 < m + 1), s0, s1]
      by_cases h2 : 2 ≤ m
      · rw [if_pos (by omega : 2 < m + 1), hs 2 h2 (by omega)]
        by_cases h3 : 3 ≤ m
        · rw [if_pos (by omega : 3 < m + 1), hs 3 h3 (by omega)]
          simp only [Nat.reduceMul, Nat.reduceSub, Nat.reducePow]
          omega
        · rw [if_neg (by omega : ¬ 3 < m + 1)]
          have := z2 (by omega)
          simp only [Nat.reduceMul, Nat.reduceSub, Nat.reducePow]
          omega
      · rw [if_neg (by omega : ¬ 2 < m + 1), if_neg (by omega : ¬ 3 < m + 1)]
        have := z2 (by omega)
        have := z1 (by omega)
        simp only [Nat.reduceMul, Nat.reduceSub, Nat.reducePow]
        omega
    unfold decG
    rw [hN, hx, Nat.add_sub_cancel]
    apply List.ext_getElem?
    intro j
    rw [List.getElem?_map, List.getElem?_take]
    by_cases hj : j < m
    · rw [List.getElem?_range hj, if_pos (by omega), List.getElem?_drop, List.getElem?_eq_getElem (by omega)]
      have hb : byt l (3 * g + j) = (l[3 * g + j]'(by omega)).toNat := by
        unfold byt
        rw [List.getD_eq_getElem?_getD, List.getElem?_eq_getElem (by omega)]
        rfl
      simp only [Option.map_some, Option.some.injEq]
      apply UInt8.toNat_inj.mp
      rw [← hb, UInt8.toNat_ofNat', hgrp]
      have hj3 : j = 0 ∨ j = 1 ∨ j = 2 := by omega
      rcases hj3 with rfl | rfl | rfl
      · simp only [Nat.reduceMul, Nat.reduceSub, Nat.reducePow, Nat.add_zero]; omega
      · simp only [Nat.reduceMul, Nat.reduceSub, Nat.reducePow]; omega
      · simp only [Nat.reduceMul, Nat.reduceSub, Nat.reducePow]; omega
    · rw [List.getElem?_eq_none (by simpa using hj)]
      split
      · rw [List.getElem?_drop, List.getElem?_eq_none (by omega)]; rfl
      · rfl
theorem unb_back (l : List UInt8) (n : Nat) (hn : n ≤ (l.length + 2) / 3) : unb (b64 l) n = l.take (3 * n) ∧ goodB (b64 l) n = true := by
  induction n with
  | zero => exact ⟨by simp [unb], rfl⟩
  | succ n ih =>
    obtain ⟨h1, h2⟩ := ih (by omega)
    obtain ⟨_, g2, g3⟩ := group_back l n (by omega)
    refine ⟨?_, by rw [goodB_succ, h2, g2]; rfl⟩
    rw [unb_succ, h1, g3, show 3 * (n + 1) = 3 * n + 3 by omega, List.take_add]
theorem fbOk_b64 (l : List UInt8) : fbOk (b64 l) ∧ unb (b64 l) ((b64 l).length / 4) = l := by
  have hl := b64_length l
  obtain ⟨h1, h2⟩ := unb_back l ((l.length + 2) / 3) (Nat.le_refl _)
  have h3 : (b64 l).length / 4 = (l.length + 2) / 3 := by omega
  have h4 : unb (b64 l) ((b64 l).length / 4) = l := by rw [h3, h1, List.take_of_length_le (by omega)]
  exact ⟨⟨by omega, by rw [h3]; exact h2, by rw [h4]⟩, h4⟩
theorem b64_inj {l m : List UInt8} (h : b64 l = b64 m) : l = m := by
  rw [← (fbOk_b64 l).2, ← (fbOk_b64 m).2, h]
open Classical in
noncomputable def fbS (d : List UInt8) : ByteArray := if fbOk d then str (unb d (d.length / 4)) else ⟨#[]⟩
open Classical in
noncomputable def fbE (d : List UInt8) : Int := if fbOk d then 0 else 11
end Go.Proofs.YtmkeifhfjhknjaaDoor
