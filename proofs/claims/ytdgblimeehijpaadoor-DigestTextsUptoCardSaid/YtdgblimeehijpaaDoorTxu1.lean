/- The document's FromBase64: what it reckons, plainly. -/
import Derived.Test.YtdgblimeehijpaaDoorTxt9
namespace Go.Proofs.YtdgblimeehijpaaDoor
open Go.RowKit Go.Scr
set_option linter.unusedVariables false

/-- the signs of a group that are none, among the first k -/
def rb (d : List UInt8) (i : Nat) : Nat → Nat
  | 0 => 0
  | k + 1 => rb d i k + (if sixN (d.getD (4 * i + k) 0) < 64 then 0 else 1)
def rx4 (d : List UInt8) (i : Nat) : Nat → Nat
  | 0 => 0
  | k + 1 => rx4 d i k * 64 + (if sixN (d.getD (4 * i + k) 0) < 64 then sixN (d.getD (4 * i + k) 0) else 0)
def rG (d : List UInt8) (i : Nat) : List UInt8 := (List.range (3 - rb d i 4)).map fun k => UInt8.ofNat (rx4 d i 4 / 2 ^ (16 - 8 * k))
def runb (d : List UInt8) (n : Nat) : List UInt8 := (List.range n).flatMap (rG d)
theorem runb_succ (d : List UInt8) (n : Nat) : runb d (n + 1) = runb d n ++ rG d n := by
  unfold runb
  rw [List.range_succ, List.flatMap_append]
  simp
theorem rb_le (d : List UInt8) (i k : Nat) : rb d i k ≤ k := by
  induction k with
  | zero => exact Nat.le_refl _
  | succ k ih => simp only [rb]; split <;> omega
theorem rx4_le (d : List UInt8) (i k : Nat) : rx4 d i (k + 1) ≤ rx4 d i k * 64 + 63 := by
  simp only [rx4]
  split <;> omega
theorem rx4_lt (d : List UInt8) (i k : Nat) (h : k ≤ 4) : rx4 d i k < 16777216 ∧ (k ≤ 3 → rx4 d i k < 262144) := by
  have h0 : rx4 d i 0 = 0 := rfl
  have h1 := rx4_le d i 0
  have h2 := rx4_le d i 1
  have h3 := rx4_le d i 2
  have h4 := rx4_le d i 3
  match k, h with
  | 0, _ => omega
  | 1, _ => simp only [Nat.zero_add] at h1; omega
  | 2, _ => simp only [Nat.zero_add, Nat.reduceAdd] at h1 h2; omega
  | 3, _ => simp only [Nat.zero_add, Nat.reduceAdd] at h1 h2 h3; omega
  | 4, _ => simp only [Nat.zero_add, Nat.reduceAdd] at h1 h2 h3 h4; omega
theorem rG_length (d : List UInt8) (i : Nat) : (rG d i).length ≤ 3 := by simp [rG]
theorem runb_length (d : List UInt8) (n : Nat) : (runb d n).length ≤ 3 * n := by
  induction n with
  | zero => simp [runb]
  | succ n ih =>
    rw [runb_succ, List.length_append]
    have := rG_length d n
    omega
theorem group_back_r (l : List UInt8) (g : Nat) (hg : 3 * g < l.length) : rb (b64 l) g 4 ≤ 2 ∧ rG (b64 l) g = (l.drop (3 * g)).take 3 := by
  obtain ⟨h1, h2, h3⟩ := group_back l g hg
  have hgG : g < (l.length + 2) / 3 := by omega
  have hc : ∀ k, k < 4 → (b64 l).getD (4 * g + k) 0 = b64c l g k := fun k hk => b64L_get l _ g k hgG hk
  obtain ⟨m, hm⟩ : ∃ m, m = min 3 (l.length - 3 * g) := ⟨_, rfl⟩
  rw [← hm] at h1
  have hlo : ∀ k, k ≤ m → k < 4 → sixN ((b64 l).getD (4 * g + k) 0) < 64 := fun k hk hk4 => by
    have := List.all_eq_true.mp h2 k (List.mem_range.mpr (by omega))
    simpa using this
  have hhi : ∀ k, m < k → k < 4 → ¬ sixN ((b64 l).getD (4 * g + k) 0) < 64 := fun k hk hk4 => by
    rw [hc k hk4, show b64c l g k = 61 by unfold b64c; rw [if_pos (by omega)], six_pad]
    omega
  have hstep : ∀ k, k < 4 → (if sixN ((b64 l).getD (4 * g + k) 0) < 64 then sixN ((b64 l).getD (4 * g + k) 0) else 0) = (if k < gN (b64 l) g then sixN ((b64 l).getD (4 * g + k) 0) else 0) := fun k hk => by
    rw [h1]
    by_cases h : k ≤ m
    · rw [if_pos (hlo k h hk), if_pos (by omega)]
    · rw [if_neg (hhi k (by omega) hk), if_neg (by omega)]
  have hx : rx4 (b64 l) g 4 = sx (b64 l) g 4 := by
    simp only [rx4, sx]
    rw [hstep 0 (by omega), hstep 1 (by omega), hstep 2 (by omega), hstep 3 (by omega)]
  have hbk : rb (b64 l) g 4 = 3 - m := by
    simp only [rb]
    have hcase : m = 1 ∨ m = 2 ∨ m = 3 := by omega
    rcases hcase with h | h | h
    · rw [if_pos (hlo 0 (by omega) (by omega)), if_pos (hlo 1 (by omega) (by omega)), if_neg (hhi 2 (by omega) (by omega)), if_neg (hhi 3 (by omega) (by omega)), h]
    · rw [if_pos (hlo 0 (by omega) (by omega)), if_pos (hlo 1 (by omega) (by omega)), if_pos (hlo 2 (by omega) (by omega)), if_neg (hhi 3 (by omega) (by omega)), h]
    · rw [if_pos (hlo 0 (by omega) (by omega)), if_pos (hlo 1 (by omega) (by omega)), if_pos (hlo 2 (by omega) (by omega)), if_pos (hlo 3 (by omega) (by omega)), h]
  refine ⟨by omega, ?_⟩
  rw [← h3]
  unfold rG decG
  rw [hbk, hx, h1, show 3 - (3 - m) = m + 1 - 1 by omega]
theorem runb_back (l : List UInt8) (n : Nat) (hn : n ≤ (l.length + 2) / 3) : runb (b64 l) n = l.take (3 * n) := by
  induction n with
  | zero => simp [runb]
  | succ n ih =>
    rw [runb_succ, ih (by omega), (group_back_r l n (by omega)).2, show 3 * (n + 1) = 3 * n + 3 by omega, List.take_add]
/-- a text that is right is read as its own bytes, group by group -/
theorem fbOk_r {d : List UInt8} (h : fbOk d) : (∀ i, i < d.length / 4 → rb d i 4 ≤ 2) ∧ runb d (d.length / 4) = unb d (d.length / 4) := by
  obtain ⟨l, hl⟩ : ∃ l, l = unb d (d.length / 4) := ⟨_, rfl⟩
  have hd : b64 l = d := by rw [hl]; exact h.2.2
  have hlen := b64_length l
  rw [hd] at hlen
  have e : d.length / 4 = (l.length + 2) / 3 := by omega
  rw [← hl]
  refine ⟨fun i hi => ?_, ?_⟩
  · rw [← hd]
    exact (group_back_r l i (by omega)).1
  · rw [e, ← hd, runb_back l _ (Nat.le_refl _), List.take_of_length_le (by omega)]
theorem fbOk_of_r {d O : List UInt8} (h : b64 O = d) : fbOk d ∧ unb d (d.length / 4) = O := by
  have := fbOk_b64 O
  rw [h] at this
  exact this
end Go.Proofs.YtdgblimeehijpaaDoor
