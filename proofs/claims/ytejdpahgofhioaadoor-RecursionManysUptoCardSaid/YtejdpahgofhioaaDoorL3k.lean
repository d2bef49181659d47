/- Layer 3, plain: RecursionManys: how long a proof of many is, and what told makes of it. -/
import Derived.Test.YtejdpahgofhioaaDoorL3i
namespace Go.Proofs.YtejdpahgofhioaaDoor
open Go.RowKit Go.Scr
set_option linter.unusedVariables false

/-- how many of Z lie in [b, b + n) -/
def cntZ (b n : Nat) (Z : List Int) : Nat := (Z.filter fun z => decide ((b : Int) ≤ z) && decide (z < (b : Int) + (n : Int))).length
theorem cntZ_out {b n : Nat} {Z : List Int} (h : inZ b n Z = false) : cntZ b n Z = 0 := by
  unfold inZ at h
  unfold cntZ
  rw [List.any_eq_false] at h
  rw [List.length_eq_zero_iff, List.filter_eq_nil_iff]
  exact h
theorem cntZ_split (b k m : Nat) (Z : List Int) : cntZ b (k + m) Z = cntZ b k Z + cntZ (b + k) m Z := by
  unfold cntZ
  induction Z with
  | nil => rfl
  | cons z Z ih =>
    simp only [List.filter_cons]
    by_cases h1 : (b : Int) ≤ z ∧ z < (b : Int) + (k : Int)
    · rw [if_pos (by simp; omega), if_pos (by simp; omega), if_neg (by simp; omega)]
      simp only [List.length_cons]; omega
    · by_cases h2 : ((b + k : Nat) : Int) ≤ z ∧ z < ((b + k : Nat) : Int) + (m : Int)
      · rw [if_pos (by simp; omega), if_neg (by simp; omega), if_pos (by simp; omega)]
        simp only [List.length_cons]; omega
      · rw [if_neg (by simp; omega), if_neg (by simp; omega), if_neg (by simp; omega)]
        exact ih
theorem cntZ_one {b n : Nat} {Z : List Int} (hs : Z.Pairwise (· < ·)) (h : n ≤ 1) : cntZ b n Z ≤ 1 := by
  unfold cntZ
  have hp := hs.filter (fun z => decide ((b : Int) ≤ z) && decide (z < (b : Int) + (n : Int)))
  generalize hF : Z.filter (fun z => decide ((b : Int) ≤ z) && decide (z < (b : Int) + (n : Int))) = F at hp ⊢
  match F, hp, hF with
  | [], _, _ => simp
  | [x], _, _ => simp
  | x :: y :: t, hp, hF =>
    exfalso
    have hx : x ∈ Z.filter (fun z => decide ((b : Int) ≤ z) && decide (z < (b : Int) + (n : Int))) := by rw [hF]; simp
    have hy : y ∈ Z.filter (fun z => decide ((b : Int) ≤ z) && decide (z < (b : Int) + (n : Int))) := by rw [hF]; simp
    have hxy : x < y := (List.pairwise_cons.mp hp).1 y (by simp)
    simp only [List.mem_filter, Bool.and_eq_true, decide_eq_true_eq] at hx hy
    omega
theorem manyZ_fits (n : Nat) : ∀ (b : Nat) (L : List ByteArray) (Z : List Int), L.length = n → 1 ≤ n → Z.Pairwise (· < ·) → (manyZ b L Z).length + cntZ b n Z ≤ n := by
  induction n using Nat.strongRecOn with
  | ind n ih =>
    intro b L Z hL h1 hs
    rcases Bool.eq_false_or_eq_true (inZ b L.length Z) with h | h
    · rcases Nat.lt_or_ge n 2 with h2 | h2
      · rw [manyZ_one h (by omega)]
        have := cntZ_one (b := b) hs (show n ≤ 1 by omega)
        simp only [List.length_nil]; omega
      · obtain ⟨k, hk⟩ : ∃ k, k = spl n := ⟨_, rfl⟩
        have hsp := spl_lt h2
        rw [← hk] at hsp
        obtain ⟨m, hm⟩ : ∃ m, m = n - k := ⟨_, rfl⟩
        have e1 := ih k hsp.2.1 b (L.take k) Z (by rw [List.length_take]; omega) (by omega) hs
        have e2 := ih m (by omega) (b + k) (L.drop k) Z (by rw [List.length_drop]; omega) (by omega) hs
        have e3 := cntZ_split b k m Z
        rw [show k + m = n by omega] at e3
        rw [manyZ_two (k := k) (by rw [hL, hk]) h (by omega), List.length_append]
        omega
    · rw [manyZ_out h]
      have e := cntZ_out h
      rw [hL] at e
      simp only [List.length_singleton]; omega

/-- the places of the marks, from b on -/
def plcB : Nat → List Bool → List Int
  | _, [] => []
  | b, x :: t => if x then (b : Int) :: plcB (b + 1) t else plcB (b + 1) t
theorem plcB_ge (B : List Bool) : ∀ b z, z ∈ plcB b B → (b : Int) ≤ z ∧ z < (b : Int) + (B.length : Int) := by
  induction B with
  | nil => intro b z h; cases h
  | cons x t ih =>
    intro b z h
    cases x with
    | true =>
      rcases List.mem_cons.mp (show z ∈ (b : Int) :: plcB (b + 1) t from h) with rfl | h
      · simp only [List.length_cons]; omega
      · have := ih (b + 1) z h
        simp only [List.length_cons]; omega
    | false =>
      have := ih (b + 1) z h
      simp only [List.length_cons]; omega
theorem plcB_rises (B : List Bool) : ∀ b, (plcB b B).Pairwise (· < ·) := by
  induction B with
  | nil => intro b; exact List.Pairwise.nil
  | cons x t ih =>
    intro b
    cases x with
    | true => exact List.Pairwise.cons (fun z hz => by have := plcB_ge t (b + 1) z hz; omega) (ih (b + 1))
    | false => exact ih (b + 1)
theorem plcB_mem (B : List Bool) : ∀ (b i : Nat), ((b + i : Nat) : Int) ∈ plcB b B ↔ B[i]? = some true := by
  induction B with
  | nil => intro b i; simp [plcB]
  | cons x t ih =>
    intro b i
    cases i with
    | zero =>
      cases x with
      | true => simp [plcB]
      | false =>
        simp only [plcB, Bool.false_eq_true, if_false, Nat.add_zero, List.getElem?_cons_zero, Option.some.injEq, iff_false]
        intro h
        have := plcB_ge t (b + 1) _ h
        omega
    | succ i =>
      have h := ih (b + 1) i
      rw [show b + 1 + i = b + (i + 1) by omega] at h
      rw [List.getElem?_cons_succ]
      cases x with
      | true =>
        simp only [plcB, if_true, List.mem_cons]
        rw [h]
        constructor
        · rintro (h1 | h1)
          · omega
          · exact h1
        · exact Or.inr
      | false => simpa only [plcB, Bool.false_eq_true, if_false] using h
theorem inZ_marks {B : List Bool} {b n : Nat} : inZ b n (plcB 0 B) = true ↔ ∃ i, b ≤ i ∧ i < b + n ∧ B[i]? = some true := by
  unfold inZ
  rw [List.any_eq_true]
  constructor
  · rintro ⟨z, hz, h⟩
    simp only [Bool.and_eq_true, decide_eq_true_eq] at h
    have hg := plcB_ge B 0 z hz
    obtain ⟨i, rfl⟩ : ∃ i : Nat, z = i := ⟨z.toNat, by omega⟩
    have := (plcB_mem B 0 i).mp (by rw [Nat.zero_add]; exact hz)
    exact ⟨i, by omega, by omega, this⟩
  · rintro ⟨i, h1, h2, h3⟩
    have := (plcB_mem B 0 i).mpr h3
    rw [Nat.zero_add] at this
    exact ⟨_, this, by simp; omega⟩
theorem cntZ_all {B : List Bool} : cntZ 0 B.length (plcB 0 B) = (plcB 0 B).length := by
  unfold cntZ
  rw [List.filter_eq_self.mpr]
  intro z hz
  have := plcB_ge B 0 z hz
  simp; omega
end Go.Proofs.YtejdpahgofhioaaDoor
