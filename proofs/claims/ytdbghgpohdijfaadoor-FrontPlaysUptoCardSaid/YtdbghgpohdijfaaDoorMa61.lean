/- Ranges of any width, plain: a span has at most 80 pieces; what is joined is told by what is known. -/
import Derived.Test.YtdbghgpohdijfaaDoorMa37
import Derived.Test.YtdbghgpohdijfaaDoorMa20
import Derived.Test.YtdbghgpohdijfaaDoorMa39
namespace Go.Scr
set_option linter.unusedVariables false
theorem cutA_low (k : Nat) : ∀ b e, b ≤ e → 2 ^ k ∣ b → e - b < 2 ^ k → (cutA b e).length ≤ k := by
  induction k with
  | zero =>
    intro b e hbe _ h
    rw [Nat.pow_zero] at h
    rw [cutA_nil (by omega)]
    exact Nat.le_refl _
  | succ k ih =>
    intro b e hbe hb h
    have hpp : 2 ^ (k + 1) = 2 ^ k + 2 ^ k := by rw [Nat.pow_succ]; omega
    have hp : 0 < 2 ^ k := Nat.pos_of_ne_zero (by simp)
    have hb2 : 2 ^ k ∣ b := Nat.dvd_trans (Nat.pow_dvd_pow 2 (Nat.le_succ k)) hb
    by_cases hd : 2 ^ k ≤ e - b
    · have hlv : lvA b (e - b) = k := lvA_eq hd hb2 (fun j hj _ => by have := two_lt (Nat.lt_of_le_of_lt hj h); omega)
      rw [cutA_cons (by omega), hlv, List.length_cons]
      have := ih (b + 2 ^ k) e (by omega) (Nat.dvd_add hb2 (Nat.dvd_refl _)) (by omega)
      omega
    · have := ih b e hbe hb2 (by omega)
      omega
theorem cutA_high (K : Nat) (hK : 1 ≤ K) : ∀ j b e, j ≤ K → b ≤ e → e ≤ 2 ^ K → 2 ^ (K - j) ∣ b → (cutA b e).length ≤ j + K := by
  intro j
  induction j with
  | zero =>
    intro b e _ hbe he hb
    rw [Nat.sub_zero] at hb
    by_cases h : e - b < 2 ^ K
    · have := cutA_low K b e hbe hb h
      omega
    · have hb0 : b = 0 := by omega
      have he0 : e = 0 + 2 ^ K := by omega
      subst hb0
      rw [he0, cutA_one (Nat.dvd_zero _)]
      show 1 ≤ _
      omega
  | succ j ih =>
    intro b e hj hbe he hb
    obtain ⟨s, hs⟩ : ∃ s, s = K - (j + 1) := ⟨_, rfl⟩
    have hs1 : K - j = s + 1 := by omega
    rw [← hs] at hb
    have IH := ih
    rw [hs1] at IH
    have hp : 0 < 2 ^ s := Nat.pos_of_ne_zero (by simp)
    by_cases hb1 : 2 ^ (s + 1) ∣ b
    · have := IH b e (by omega) hbe he hb1
      omega
    · by_cases hd : 2 ^ s ≤ e - b
      · have hlv : lvA b (e - b) = s := lvA_eq hd hb (fun i _ hi => by
          rcases Nat.lt_or_ge s i with h | h
          · exact absurd (Nat.dvd_trans (Nat.pow_dvd_pow 2 h) hi) hb1
          · exact h)
        rw [cutA_cons (by omega), hlv, List.length_cons]
        have h2 : 2 ^ (s + 1) ∣ b + 2 ^ s := by
          obtain ⟨q, rfl⟩ := hb
          rcases Nat.mod_two_eq_zero_or_one q with h | h
          · obtain ⟨r, rfl⟩ := Nat.dvd_of_mod_eq_zero h
            exact absurd ⟨r, by rw [Nat.pow_succ, Nat.mul_assoc]⟩ hb1
          · exact ⟨(q + 1) / 2, by rw [Nat.pow_succ, Nat.mul_assoc, show 2 * ((q + 1) / 2) = q + 1 by omega, Nat.mul_add, Nat.mul_one]⟩
        have := IH (b + 2 ^ s) e (by omega) (by omega) he h2
        omega
      · have := cutA_low s b e hbe hb (by omega)
        omega
theorem cutA_80 {b e : Nat} (he : e ≤ 1099511627776) : (cutA b e).length ≤ 80 := by
  rcases Nat.lt_or_ge b e with h | h
  · have := cutA_high 40 (by decide) 40 b e (Nat.le_refl _) (Nat.le_of_lt h) he (by simp)
    exact this
  · rw [cutA_nil h]; exact Nat.zero_le _
/-- the hash of each subtree that is formed when a piece is pushed is that of its halves -/
def NdE (nd : ByteArray → ByteArray → ByteArray) (val : Nat → Nat → ByteArray) (b e l : Nat) : Prop := ∀ x k, b ≤ x → l ≤ k → x + 2 ^ (k + 1) = e + 2 ^ l → val x (k + 1) = nd (val x k) (val (x + 2 ^ k) k)
theorem pushR_rowE {nd : ByteArray → ByteArray → ByteArray} {val : Nat → Nat → ByteArray} {l : Nat} (d : Nat) : ∀ b e, e - b = d → b ≤ e → 2 ^ l ∣ e → NdE nd val b e l → pushR nd (rowA val b e).reverse (e, l, val e l) = (rowA val b (e + 2 ^ l)).reverse := by
  induction d using Nat.strongRecOn with
  | ind d ih =>
  intro b e hd hbe hle hnd
  have hp : 0 < 2 ^ l := Nat.pos_of_ne_zero (by simp)
  rcases Nat.eq_or_lt_of_le hbe with rfl | hlt
  · rw [rowA_nil (Nat.le_refl _), rowA_one hle]
    rfl
  · obtain ⟨l1, hl1⟩ : ∃ x, x = lvA b (e - b) := ⟨_, rfl⟩
    have h1 : 2 ^ l1 ≤ e - b := by rw [hl1]; exact lvA_le (by omega)
    have h2 : 2 ^ l1 ∣ b := by rw [hl1]; exact lvA_dvd (by omega)
    have hp1 : 0 < 2 ^ l1 := Nat.pos_of_ne_zero (by simp)
    have hmx : ∀ k, 2 ^ k ≤ e - b → 2 ^ k ∣ b → k ≤ l1 := fun k a c => by rw [hl1]; exact lvA_max a c
    have IH := ih (e - (b + 2 ^ l1)) (by omega) (b + 2 ^ l1) e rfl (by omega) hle (fun x k hx hk => hnd x k (by omega) hk)
    rw [rowA_cons hlt, ← hl1, List.reverse_cons, pushR_snoc, IH]
    obtain ⟨l2, hl2⟩ : ∃ x, x = lvA b (e + 2 ^ l - b) := ⟨_, rfl⟩
    have g1 : 2 ^ l2 ≤ e + 2 ^ l - b := by rw [hl2]; exact lvA_le (by omega)
    have g2 : 2 ^ l2 ∣ b := by rw [hl2]; exact lvA_dvd (by omega)
    have g3 : l1 ≤ l2 := by rw [hl2]; exact lvA_max (by omega) h2
    rcases Nat.eq_or_lt_of_le g3 with heq | hgt
    · have hrow : rowA val b (e + 2 ^ l) = (b, l1, val b l1) :: rowA val (b + 2 ^ l1) (e + 2 ^ l) := by rw [rowA_cons (by omega), ← hl2, ← heq]
      rw [hrow, List.reverse_cons]
      have hlt2 : b + 2 ^ l1 < e + 2 ^ l := by omega
      cases hr : (rowA val (b + 2 ^ l1) (e + 2 ^ l)).reverse with
      | nil => exact absurd (List.reverse_eq_nil_iff.1 hr) (rowA_ne hlt2)
      | cons q r =>
        cases r with
        | cons q2 r2 => rfl
        | nil =>
          have hq : rowA val (b + 2 ^ l1) (e + 2 ^ l) = [q] := by
            have := congrArg List.reverse hr
            simpa using this
          rw [rowA_cons hlt2] at hq
          injection hq with hq1 hq2
          obtain ⟨lq, hlq⟩ : ∃ x, x = lvA (b + 2 ^ l1) (e + 2 ^ l - (b + 2 ^ l1)) := ⟨_, rfl⟩
          rw [← hlq] at hq1 hq2
          have hqle : 2 ^ lq ≤ e + 2 ^ l - (b + 2 ^ l1) := by rw [hlq]; exact lvA_le (by omega)
          show pushR nd [(b, l1, val b l1)] q = [q] ++ [(b, l1, val b l1)]
          rw [← hq1, pushR]
          rw [if_neg]
          · rfl
          · rintro ⟨c1, c2⟩
            have c1 : l1 = lq := c1
            have c2 : b / 2 ^ l1 % 2 = 0 := c2
            have c3 := (even_dvd h2).1 c2
            have hpp : 2 ^ (l1 + 1) = 2 ^ l1 + 2 ^ l1 := by rw [Nat.pow_succ]; omega
            have : l1 + 1 ≤ l2 := by rw [hl2]; exact lvA_max (by rw [hpp]; rw [← c1] at hqle; omega) c3
            omega
    · have hpp : 2 ^ (l1 + 1) = 2 ^ l1 + 2 ^ l1 := by rw [Nat.pow_succ]; omega
      have c3 : 2 ^ (l1 + 1) ∣ b := Nat.dvd_trans (Nat.pow_dvd_pow 2 hgt) g2
      have c4 : ¬ 2 ^ (l1 + 1) ≤ e - b := fun h => by have := hmx (l1 + 1) h c3; omega
      have c5 : 2 ^ (l1 + 1) ≤ e + 2 ^ l - b := Nat.le_trans (two_le hgt) g1
      have hll : l ≤ l1 := by
        rcases Nat.lt_or_ge l1 l with h | h
        · exfalso
          have d1 : 2 ^ (l1 + 1) ∣ e := Nat.dvd_trans (Nat.pow_dvd_pow 2 h) hle
          have d2 : 2 ^ (l1 + 1) ∣ e - b := Nat.dvd_sub d1 c3
          have := Nat.le_of_dvd (by omega) d2
          omega
        · exact h
      have d3 : 2 ^ l ∣ b + 2 ^ (l1 + 1) := Nat.dvd_add (Nat.dvd_trans (Nat.pow_dvd_pow 2 (by omega)) c3) (Nat.pow_dvd_pow 2 (by omega))
      have d4 : 2 ^ l ∣ b + 2 ^ (l1 + 1) - e := Nat.dvd_sub d3 hle
      have d5 := Nat.le_of_dvd (by omega) d4
      have d6 : 2 ^ l1 ∣ b + 2 ^ l1 := Nat.dvd_add h2 (Nat.dvd_refl _)
      have hw : e + 2 ^ l = b + 2 ^ (l1 + 1) := by omega
      have hv := hnd b l1 (Nat.le_refl _) hll hw.symm
      rw [hw, rowA_one c3]
      have hw2 : b + 2 ^ (l1 + 1) = b + 2 ^ l1 + 2 ^ l1 := by omega
      rw [hw2, rowA_one d6]
      show pushR nd [(b, l1, val b l1)] (b + 2 ^ l1, l1, val (b + 2 ^ l1) l1) = [(b, l1 + 1, val b (l1 + 1))]
      rw [pushR, if_pos ⟨rfl, (even_dvd h2).2 c3⟩, pushR, hv]
end Go.Scr
namespace Go.Proofs.YtdbghgpohdijfaaDoor
open Go.RowKit Go.Scr Go.ChangeMaps Go.MapKept
set_option linter.unusedVariables false
theorem push_joinE {val : Nat → Nat → ByteArray} {b m e j : Nat} {x : Pc} (hbm : b ≤ m) (hme : m ≤ e) (hx : (rowA val m e)[j]? = some x) (hnd : ∀ y ∈ cutA m e, NdE nodeS val b y.1 y.2) :
    (pushR nodeS (rowA val b (begA m e j)).reverse x).reverse = rowA val b (begA m e (j + 1)) := by
  obtain ⟨h1, h2, h3, h4, h5, h6⟩ := begA_next _ m e j rfl hme hx
  have hm : (x.1, x.2.1) ∈ cutA m e := by
    have := List.mem_of_getElem? hx
    unfold rowA at this
    obtain ⟨y, hy, rfl⟩ := List.mem_map.1 this
    exact hy
  obtain ⟨xb, xl, xs⟩ := x
  dsimp only at h1 h2 h3 h4 h5 h6 hm
  subst h4
  rw [h2, ← h1, pushR_rowE _ b xb rfl (by omega) h3 (hnd _ hm), List.reverse_reverse]
end Go.Proofs.YtdbghgpohdijfaaDoor
/- Joined ranges, plain: hashes that are looked for, or made of halves. -/
namespace Go.Scr
set_option linter.unusedVariables false
theorem cut_more {b e l : Nat} (hlt : b < e) (hle : 2 ^ l ∣ e) :
    (lvA b (e + 2 ^ l - b) = lvA b (e - b) ∧ cutA b (e + 2 ^ l) = (b, lvA b (e - b)) :: cutA (b + 2 ^ lvA b (e - b)) (e + 2 ^ l)) ∨
    (2 ^ (lvA b (e - b) + 1) ∣ b ∧ e + 2 ^ l = b + 2 ^ (lvA b (e - b) + 1)) := by
  have hp : 0 < 2 ^ l := Nat.pos_of_ne_zero (by simp)
  obtain ⟨l1, hl1⟩ : ∃ x, x = lvA b (e - b) := ⟨_, rfl⟩
  have h1 : 2 ^ l1 ≤ e - b := by rw [hl1]; exact lvA_le (by omega)
  have h2 : 2 ^ l1 ∣ b := by rw [hl1]; exact lvA_dvd (by omega)
  have hmx : ∀ k, 2 ^ k ≤ e - b → 2 ^ k ∣ b → k ≤ l1 := fun k a c => by rw [hl1]; exact lvA_max a c
  rw [← hl1]
  obtain ⟨l2, hl2⟩ : ∃ x, x = lvA b (e + 2 ^ l - b) := ⟨_, rfl⟩
  have g1 : 2 ^ l2 ≤ e + 2 ^ l - b := by rw [hl2]; exact lvA_le (by omega)
  have g2 : 2 ^ l2 ∣ b := by rw [hl2]; exact lvA_dvd (by omega)
  have g3 : l1 ≤ l2 := by rw [hl2]; exact lvA_max (by omega) h2
  rcases Nat.eq_or_lt_of_le g3 with heq | hgt
  · left
    rw [← hl2]
    exact ⟨heq.symm, by rw [cutA_cons (by omega), ← hl2, ← heq]⟩
  · right
    have hpp : 2 ^ (l1 + 1) = 2 ^ l1 + 2 ^ l1 := by rw [Nat.pow_succ]; omega
    have c3 : 2 ^ (l1 + 1) ∣ b := Nat.dvd_trans (Nat.pow_dvd_pow 2 hgt) g2
    have c4 : ¬ 2 ^ (l1 + 1) ≤ e - b := fun h => by have := hmx (l1 + 1) h c3; omega
    have c5 : 2 ^ (l1 + 1) ≤ e + 2 ^ l - b := Nat.le_trans (two_le hgt) g1
    have hll : l ≤ l1 := by
      rcases Nat.lt_or_ge l1 l with h | h
      · exfalso
        have d1 : 2 ^ (l1 + 1) ∣ e := Nat.dvd_trans (Nat.pow_dvd_pow 2 h) hle
        have d2 : 2 ^ (l1 + 1) ∣ e - b := Nat.dvd_sub d1 c3
        have := Nat.le_of_dvd (by omega) d2
        omega
      · exact h
    have d3 : 2 ^ l ∣ b + 2 ^ (l1 + 1) := Nat.dvd_add (Nat.dvd_trans (Nat.pow_dvd_pow 2 (by omega)) c3) (Nat.pow_dvd_pow 2 (by omega))
    have d4 : 2 ^ l ∣ b + 2 ^ (l1 + 1) - e := Nat.dvd_sub d3 hle
    have d5 := Nat.le_of_dvd (by omega) d4
    exact ⟨c3, by omega⟩
/-- what is closed under halves holds of each piece of what is joined -/
theorem cutA_clos {C : Nat → Nat → Prop} (hC : ∀ x l, C x l → C (x + 2 ^ l) l → C x (l + 1)) {l : Nat} (d : Nat) : ∀ b e, e - b = d → b ≤ e → 2 ^ l ∣ e → (∀ y ∈ cutA b e, C y.1 y.2) → C e l → ∀ y ∈ cutA b (e + 2 ^ l), C y.1 y.2 := by
  induction d using Nat.strongRecOn with
  | ind d ih =>
  intro b e hd hbe hle hall hel y hy
  have hp : 0 < 2 ^ l := Nat.pos_of_ne_zero (by simp)
  rcases Nat.eq_or_lt_of_le hbe with rfl | hlt
  · rw [cutA_one hle, List.mem_singleton] at hy
    subst hy
    exact hel
  · obtain ⟨l1, hl1⟩ : ∃ x, x = lvA b (e - b) := ⟨_, rfl⟩
    have h1 : 2 ^ l1 ≤ e - b := by rw [hl1]; exact lvA_le (by omega)
    have h2 : 2 ^ l1 ∣ b := by rw [hl1]; exact lvA_dvd (by omega)
    have hp1 : 0 < 2 ^ l1 := Nat.pos_of_ne_zero (by simp)
    rw [cutA_cons hlt, ← hl1] at hall
    have hb1 : C b l1 := hall (b, l1) List.mem_cons_self
    have IH := ih (e - (b + 2 ^ l1)) (by omega) (b + 2 ^ l1) e rfl (by omega) hle (fun z hz => hall z (List.mem_cons_of_mem _ hz)) hel
    rcases cut_more hlt hle with ⟨_, hc⟩ | ⟨c1, c2⟩
    · rw [hc, ← hl1] at hy
      rcases List.mem_cons.1 hy with rfl | hy
      · exact hb1
      · exact IH y hy
    · rw [← hl1] at c1 c2
      have hpp : 2 ^ (l1 + 1) = 2 ^ l1 + 2 ^ l1 := by rw [Nat.pow_succ]; omega
      rw [c2, cutA_one c1, List.mem_singleton] at hy
      subst hy
      refine hC b l1 hb1 (IH (b + 2 ^ l1, l1) ?_)
      rw [show e + 2 ^ l = b + 2 ^ l1 + 2 ^ l1 by omega, cutA_one (Nat.dvd_add h2 (Nat.dvd_refl _))]
      exact List.mem_singleton.2 rfl
theorem cutA_in {e : Nat} {y : Nat × Nat} (d : Nat) : ∀ b, e - b = d → y ∈ cutA b e → b ≤ y.1 ∧ y.1 + 2 ^ y.2 ≤ e ∧ 2 ^ y.2 ∣ y.1 := by
  induction d using Nat.strongRecOn with
  | ind d ih =>
  intro b hd hy
  by_cases h : b < e
  · have hp : 0 < 2 ^ lvA b (e - b) := Nat.pos_of_ne_zero (by simp)
    have h1 := lvA_le (b := b) (d := e - b) (by omega)
    rw [cutA_cons h] at hy
    rcases List.mem_cons.1 hy with rfl | hy
    · exact ⟨Nat.le_refl _, by show b + 2 ^ lvA b (e - b) ≤ e; omega, lvA_dvd (by omega)⟩
    · have := ih (e - (b + 2 ^ lvA b (e - b))) (by omega) (b + 2 ^ lvA b (e - b)) rfl hy
      exact ⟨by omega, this.2⟩
  · rw [cutA_nil (by omega)] at hy
    exact nomatch hy
/-- pieces stand from the left to the right -/
theorem cutA_sorted (d : Nat) : ∀ b e, e - b = d → List.Pairwise (fun y z : Nat × Nat => y.1 + 2 ^ y.2 ≤ z.1) (cutA b e) := by
  induction d using Nat.strongRecOn with
  | ind d ih =>
  intro b e hd
  by_cases h : b < e
  · have hp : 0 < 2 ^ lvA b (e - b) := Nat.pos_of_ne_zero (by simp)
    rw [cutA_cons h]
    exact List.pairwise_cons.2 ⟨fun z hz => (cutA_in _ _ rfl hz).1, ih _ (by omega) _ _ rfl⟩
  · rw [cutA_nil (by omega)]
    exact List.Pairwise.nil
theorem cut2_sorted (b m e : Nat) : List.Pairwise (fun y z : Nat × Nat => y.1 + 2 ^ y.2 ≤ z.1) (cutA b m ++ cutA m e) :=
  List.pairwise_append.2 ⟨cutA_sorted _ _ _ rfl, cutA_sorted _ _ _ rfl, fun y hy z hz => Nat.le_trans (cutA_in _ _ rfl hy).2.1 (cutA_in _ _ rfl hz).1⟩
/-- the hash of a known subtree -/
def lookP : List (Nat × Nat) → List ByteArray → Nat → Nat → Option ByteArray
  | k :: K, h :: H, x, l => if k = (x, l) then some h else lookP K H x l
  | _, _, _, _ => none
theorem lookP_none : ∀ {K : List (Nat × Nat)} {H : List ByteArray} {x l : Nat}, (x, l) ∉ K → lookP K H x l = none
  | [], _, _, _, _ => by simp [lookP]
  | k :: K, [], _, _, _ => rfl
  | k :: K, h :: H, x, l, hn => by
    rw [lookP, if_neg (fun e => hn (by rw [e]; exact List.mem_cons_self)), lookP_none (fun hm => hn (List.mem_cons_of_mem _ hm))]
theorem lookP_at : ∀ {K : List (Nat × Nat)} {H : List ByteArray} {j x l : Nat} {h : ByteArray}, List.Pairwise (fun y z : Nat × Nat => y.1 + 2 ^ y.2 ≤ z.1) K → K[j]? = some (x, l) → H[j]? = some h → lookP K H x l = some h
  | [], _, _, _, _, _, _, hk, _ => by simp at hk
  | k :: K, [], _, _, _, _, _, _, hh => by simp at hh
  | k :: K, g :: H, 0, x, l, h, _, hk, hh => by
    rw [lookP, if_pos (by simpa using hk)]
    simpa using hh
  | k :: K, g :: H, j + 1, x, l, h, hs, hk, hh => by
    have hs := List.pairwise_cons.1 hs
    have hm : (x, l) ∈ K := List.mem_of_getElem? (by simpa using hk)
    have hlt := hs.1 _ hm
    rw [lookP, if_neg (fun e => by rw [e] at hlt; have hp : 0 < 2 ^ l := Nat.pos_of_ne_zero (by simp); have hlt : x + 2 ^ l ≤ x := hlt; omega), lookP_at hs.2 (by simpa using hk) (by simpa using hh)]
def valKL (nd : ByteArray → ByteArray → ByteArray) (K : List (Nat × Nat)) (H : List ByteArray) : Nat → Nat → ByteArray
  | 0, x => (lookP K H x 0).getD ⟨#[]⟩
  | l + 1, x => match lookP K H x (l + 1) with
    | some h => h
    | none => nd (valKL nd K H l x) (valKL nd K H l (x + 2 ^ l))
def valK (nd : ByteArray → ByteArray → ByteArray) (K : List (Nat × Nat)) (H : List ByteArray) (x l : Nat) : ByteArray := valKL nd K H l x
theorem valK_known {nd : ByteArray → ByteArray → ByteArray} {K : List (Nat × Nat)} {H : List ByteArray} {x l : Nat} {h : ByteArray} (hk : lookP K H x l = some h) : valK nd K H x l = h := by
  unfold valK
  cases l with
  | zero => rw [valKL, hk]; rfl
  | succ l => rw [valKL, hk]
theorem valK_halves {nd : ByteArray → ByteArray → ByteArray} {K : List (Nat × Nat)} {H : List ByteArray} {x l : Nat} (hk : lookP K H x (l + 1) = none) : valK nd K H x (l + 1) = nd (valK nd K H x l) (valK nd K H (x + 2 ^ l) l) := by
  unfold valK
  rw [valKL, hk]
/-- a subtree whose hash can be told -/
def Cv (K : List (Nat × Nat)) : Nat → Nat → Prop
  | x, 0 => (x, 0) ∈ K
  | x, l + 1 => (x, l + 1) ∈ K ∨ (Cv K x l ∧ Cv K (x + 2 ^ l) l)
theorem Cv.of_mem {K : List (Nat × Nat)} : ∀ {x l : Nat}, (x, l) ∈ K → Cv K x l
  | _, 0, h => h
  | _, _ + 1, h => .inl h
end Go.Scr
namespace Go.Proofs.YtdbghgpohdijfaaDoor
open Go.RowKit Go.Scr Go.ChangeMaps Go.MapKept
set_option linter.unusedVariables false
theorem nodesA_known {nd : ByteArray → ByteArray → ByteArray} {K : List (Nat × Nat)} {H : List ByteArray} {b e i : Nat} (hs : List.Pairwise (fun y z : Nat × Nat => y.1 + 2 ^ y.2 ≤ z.1) K) (hk : ∀ j, j < (cutA b e).length → K[i + j]? = (cutA b e)[j]?) (hl : i + (cutA b e).length ≤ H.length) :
    nodesA (valK nd K H) b e = (H.drop i).take (cutA b e).length := by
  unfold nodesA rowA
  rw [List.map_map]
  apply List.ext_getElem?
  intro j
  rw [List.getElem?_map]
  rcases Nat.lt_or_ge j (cutA b e).length with h | h
  · obtain ⟨x, l⟩ := (⟨(cutA b e)[j], rfl⟩ : {z // z = (cutA b e)[j]})
    rw [List.getElem?_take_of_lt h, List.getElem?_drop, List.getElem?_eq_getElem h, List.getElem?_eq_getElem (by omega : i + j < H.length)]
    have hk2 := hk j h
    rw [List.getElem?_eq_getElem h] at hk2
    show some _ = some _
    congr 1
    exact valK_known (lookP_at hs hk2 (List.getElem?_eq_getElem (by omega)))
  · rw [List.getElem?_eq_none h, List.getElem?_eq_none (by rw [List.length_take]; omega)]
    rfl
/-- two ranges side by side: what is known -/
theorem join_known {nd : ByteArray → ByteArray → ByteArray} {b m e : Nat} {A B : List ByteArray} (hA : A.length = (cutA b m).length) (hB : B.length = (cutA m e).length) :
    nodesA (valK nd (cutA b m ++ cutA m e) (A ++ B)) b m = A ∧ nodesA (valK nd (cutA b m ++ cutA m e) (A ++ B)) m e = B := by
  refine ⟨?_, ?_⟩
  · rw [nodesA_known (i := 0) (cut2_sorted b m e) (fun j hj => by rw [Nat.zero_add, List.getElem?_append_left hj]) (by rw [List.length_append]; omega), List.drop_zero, ← hA, List.take_left]
  · rw [nodesA_known (i := (cutA b m).length) (cut2_sorted b m e) (fun j hj => by rw [List.getElem?_append_right (by omega), Nat.add_sub_cancel_left]) (by rw [List.length_append]; omega), ← hA, List.drop_left, List.take_of_length_le (by omega)]
theorem join_nd {nd : ByteArray → ByteArray → ByteArray} {b m e : Nat} {H : List ByteArray} : ∀ y ∈ cutA m e, NdE nd (valK nd (cutA b m ++ cutA m e) H) b y.1 y.2 := by
  intro y hy x k hbx hk he
  have hp : 2 ^ (k + 1) = 2 ^ k + 2 ^ k := by rw [Nat.pow_succ]; omega
  have hyin := cutA_in _ _ rfl hy
  have hp2 : 0 < 2 ^ y.2 := Nat.pos_of_ne_zero (by simp)
  have hlk : 2 ^ y.2 ≤ 2 ^ k := two_le hk
  refine valK_halves (lookP_none fun hm => ?_)
  rcases List.mem_append.1 hm with h | h
  · have := cutA_in _ _ rfl h
    have h1 : x + 2 ^ (k + 1) ≤ m := this.2.1
    omega
  · obtain ⟨i, hi, hie⟩ := List.mem_iff_getElem.1 h
    obtain ⟨j, hj, hje⟩ := List.mem_iff_getElem.1 hy
    have hs := cutA_sorted _ m e rfl
    rw [List.pairwise_iff_getElem] at hs
    rcases Nat.lt_trichotomy i j with hij | hij | hij
    · have := hs i j hi hj hij
      rw [hie, hje] at this
      have h2 : x + 2 ^ (k + 1) ≤ y.1 := this
      omega
    · subst hij
      rw [hie] at hje
      rw [← hje] at hk
      have hk : k + 1 ≤ k := hk
      omega
    · have := hs j i hj hi hij
      rw [hie, hje] at this
      have h2 : y.1 + 2 ^ y.2 ≤ x := this
      omega
theorem join_cv {b m e : Nat} (hbm : b ≤ m) (hme : m ≤ e) : ∀ y ∈ cutA b e, Cv (cutA b m ++ cutA m e) y.1 y.2 := by
  have key : ∀ j, j ≤ (cutA m e).length → ∀ y ∈ cutA b (begA m e j), Cv (cutA b m ++ cutA m e) y.1 y.2 := by
    intro j
    induction j with
    | zero =>
      intro _ y hy
      rw [begA_zero hme] at hy
      exact Cv.of_mem (List.mem_append_left _ hy)
    | succ j ih =>
      intro hj y hy
      obtain ⟨x, hx⟩ : ∃ x, (cutA m e)[j]? = some x := ⟨(cutA m e)[j], List.getElem?_eq_getElem (by omega)⟩
      have hrow : (rowA (fun _ _ => ⟨#[]⟩) m e)[j]? = some (x.1, x.2, ⟨#[]⟩) := by unfold rowA; rw [List.getElem?_map, hx]; rfl
      obtain ⟨h1, h2, h3, _, _, h6⟩ := begA_next _ m e j rfl hme hrow
      have h1 : x.1 = begA m e j := h1
      have h2 : begA m e (j + 1) = x.1 + 2 ^ x.2 := h2
      have h3 : 2 ^ x.2 ∣ x.1 := h3
      have h6 : m ≤ x.1 := h6
      rw [h2] at hy
      refine cutA_clos (fun z l c1 c2 => .inr ⟨c1, c2⟩) _ b x.1 rfl (by omega) h3 ?_ (Cv.of_mem (List.mem_append_right _ (List.mem_of_getElem? hx))) y hy
      rw [h1]
      exact ih (by omega)
  have := key (cutA m e).length (Nat.le_refl _)
  have he : begA m e (cutA m e).length = e := by unfold begA; rw [List.getElem?_eq_none (Nat.le_refl _)]
  rwa [he] at this
end Go.Proofs.YtdbghgpohdijfaaDoor
/- math/bits.Len of numbers up to 2^40. -/
namespace Go.Proofs.YtdbghgpohdijfaaDoor
open Go.RowKit Go.Scr
set_option linter.unusedVariables false
set_option maxHeartbeats 4000000 in
set_option maxRecDepth 100000 in
theorem len64W_any (x : Int) (w : World) (h0 : 4294967296 ≤ x) (h1 : x ≤ 1099511627776) :
    Calls Tryd.prog 142 #[.int .u64 x] w fun e w' => e = .returned (.int .i64 ((Lib.bitLen x.toNat : Nat) : Int)) ∧ w' = w := by
  have hq : x / 4294967296 < 65536 := by omega
  have hq2 : ¬ 65536 ≤ x / 4294967296 := by omega
  go_enter Tryd.func142, Tryd.ntmps142
  go_wp2_with (refine wpList_idx8 _ rfl _ _ (by kernel_rfl) rfl rfl (by omega) (by omega) ?_)
  all_goals go_ret
  all_goals refine ⟨congrArg Ending.returned (congrArg (Value.int IntKind.i64) ?_), rfl⟩
  · have s : Lib.bitLen x.toNat = 40 + Lib.bitLen (x.toNat / 1099511627776) := Lib.bitLen_shift 40 x.toNat (by omega) (by omega)
    have l := tab8_le (x.toNat / 1099511627776) (by omega)
    rw [show (x / 4294967296 / 256).toNat = x.toNat / 1099511627776 by omega, s]
    unfold wrap64
    omega
  · have s : Lib.bitLen x.toNat = 32 + Lib.bitLen (x.toNat / 4294967296) := Lib.bitLen_shift 32 x.toNat (by omega) (by omega)
    have l := tab8_le (x.toNat / 4294967296) (by omega)
    rw [show (x / 4294967296).toNat = x.toNat / 4294967296 by omega, s]
    unfold wrap64
    omega
theorem lenW_any (x : Nat) (w : World) (h1 : x ≤ 1099511627776) :
    Calls Tryd.prog 133 #[.int .u64 (x : Int)] w fun e w' => e = .returned (.int .i64 ((Lib.bitLen x : Nat) : Int)) ∧ w' = w := by
  rcases Nat.lt_or_ge x 4294967296 with h | h
  · exact len_any x w (by omega)
  · have H := Lib.hid (fun w' => len64W_any (x : Int) w' (by omega) (by omega))
    clear h h1
    go_enter Tryd.func133, Tryd.ntmps133
    go_wp2_with (go_at_call 142; refine (H.out _).mono ?_; rintro e w' ⟨rfl, rfl⟩)
    go_ret
    exact ⟨by simp, rfl⟩
end Go.Proofs.YtdbghgpohdijfaaDoor
/- frontier: cut and filled of spans of any width (printed by gen_fs2.py). -/
namespace Go.Proofs.YtdbghgpohdijfaaDoor
open Go.RowKit Go.Scr Go.ChangeMaps Go.MapKept
set_option linter.unusedVariables false
set_option maxRecDepth 100000 in
set_option maxHeartbeats 8000000 in
theorem fcutW_any {w : World} {B b0 e : Nat} (hB : Bas w B) (hbe0 : b0 ≤ e) (he : e ≤ 1099511627776) :
    Calls Tryd.prog 126 #[.int .i64 (b0 : Int), .int .i64 (e : Int)] w fun o w' => ∃ v, o = .returned v ∧ PcI w w' v (bareA b0 e) := by
  have HB := Lib.hid hB
  have HD : Hid ((bareA b0 e).length ≤ 80 ∧ e ≤ 1099511627776) := Lib.hid ⟨by unfold bareA; rw [rowA_length]; exact cutA_80 he, he⟩
  have HI0 : Hid (CuI w w b0 b0 e 0 (.slice none 0 0)) := Lib.hid ⟨[], rfl, rfl, ⟨Below.refl _ _, ⟨rfl, .inl ⟨rfl, rfl⟩⟩, fun g hg => nomatch hg⟩⟩
  clear hB
  go_enter Tryd.func126, Tryd.ntmps126
  go_wp2_with fail
  go_loopw [0, 5] (fun k l wr => ∃ (b : Nat) (p : Option Addr) (n c : Nat), k = .int .i64 (b : Int) ∧ l = .slice p n c ∧ b0 ≤ b ∧ b ≤ e ∧ n ≤ b - b0 ∧ Hid (CuI w wr b0 b e n (.slice p n c))) (fun k _ _ => e - (intOf k).toNat)
  case atStart => exact ⟨b0, none, 0, 0, rfl, rfl, Nat.le_refl _, hbe0, Nat.zero_le _, HI0⟩
  case round =>
    clear HI0
    obtain ⟨b, p, n, c, rfl, rfl, hb0, hbe, hn, HI⟩ := hrel
    by_cases hlt : b < e
    · have hbeI : (b : Int) < (e : Int) := by omega
      have hn4 : n ≤ 4096 := by
        have h1 := HI.out.ex.choose_spec
        have h2 := congrArg List.length h1.2.1
        rw [List.length_append, h1.1] at h2
        have := HD.out.1
        omega
      obtain ⟨d, hd⟩ : ∃ d, d = e - b := ⟨_, rfl⟩
      have hdI : (e : Int) - (b : Int) = (d : Int) := by omega
      have hd1 : 1 ≤ d := by omega
      have hd4 : d ≤ 1099511627776 := by have := HD.out.2; omega
      obtain ⟨k, hk, _, _⟩ := bitLen_spec d (by omega) (by omega)
      obtain ⟨bl, hbl⟩ : ∃ x, x = Lib.bitLen d := ⟨_, rfl⟩
      have hblI : (bl : Int) - 1 = (k : Int) := by omega
      have CLn : Hid (∀ w', Calls Tryd.prog 133 #[.int .u64 (d : Int)] w' fun o w2 => o = .returned (.int .i64 (bl : Int)) ∧ w2 = w') := Lib.hid (fun w' => by rw [hbl]; exact lenW_any d w' (by omega))
      obtain ⟨l, hl⟩ : ∃ l, l = lvA b d := ⟨_, rfl⟩
      have hle := lvA_le (b := b) hd1
      rw [← hl] at hle
      obtain ⟨b', hb'⟩ : ∃ b', b' = b + 2 ^ l := ⟨_, rfl⟩
      have hp2 := two_pos l
      have hl12 : l ≤ 40 := two_le' (by have h9 : (2 : Nat) ^ 40 = 1099511627776 := by decide
                                        omega)
      have CEn : Hid (∀ w', Calls Tryd.prog 135 #[.agg #[.int .i64 (b : Int), .int .i64 (l : Int), .string ⟨#[]⟩]] w' fun o w2 => o = .returned (.int .i64 (b' : Int)) ∧ Below w'.heap.size w' w2) := Lib.hid (fun w' => by rw [hb']; exact fend_any b l ⟨#[]⟩ w' (by omega) (by omega))
      have HNX : Hid (b < b' ∧ b' ≤ e ∧ bareA b e = (b, l, ⟨#[]⟩) :: bareA b' e) := Lib.hid ⟨by omega, by omega, by rw [bareA_cons hlt, ← hd, ← hl, ← hb']⟩
      have HHD : Hid (∀ o, Held (wr.alloc o) 115 3 (.slice p n c) n (pcV (HI.out.ex.choose))) := Lib.hid (fun o => by
        have h1 := HI.out.ex.choose_spec
        have h2 := h1.2.2.h.below ((Below.refl _ _).alloc (Nat.le_refl _) o)
        rwa [h1.1] at h2)
      have HPU : Hid (∀ o o2 v5 w5, Grew 115 3 ((wr.alloc o).alloc o2) (.slice p n c) n 1 (pcV (HI.out.ex.choose)) [.int .i64 (b : Int), .int .i64 (l : Int), .string ⟨#[]⟩] v5 w5 → CuI w w5 b0 b' e (n + 1) v5 ∧ w5.heap[wr.heap.size]? = some o) := Lib.hid (fun o o2 v5 w5 g => by
        have h1 := HI.out.ex.choose_spec
        refine ⟨⟨HI.out.ex.choose ++ [(b, l, ⟨#[]⟩)], by rw [List.length_append, h1.1]; rfl, by rw [List.append_assoc]; show _ ++ ((b, l, ⟨#[]⟩) :: bareA b' e) = _; rw [← HNX.out.2.2]; exact h1.2.1, h1.2.2.push h1.1.symm (((Below.refl _ _).alloc (Nat.le_refl _) o).alloc (by simp) o2) g⟩, ?_⟩
        refine (g.grown.block wr.heap.size (by simp; omega) (fun e => ?_)).trans (blk_alloc (heap_alloc_new wr o))
        have := HI.out.lt e.symm
        omega)
      have HONE : Hid (∀ u ∈ [Value.int .i64 (b : Int), .int .i64 (l : Int), .string ⟨#[]⟩], u.oneCell' = true) := Lib.hid (by rw [← pcV_one (b, l, ⟨#[]⟩)]; exact pcV_oneCell _)
      have hl1 : (n + 1) * 32 ≤ 140737488355328 := by omega
      have hl2 : n + 1 ≤ 140737488355328 := by omega
      have HBW : Hid (Bas wr B) := Lib.hid (HB.out.below (HI.out.b.mono HB.out.le))
      have hk4 : k ≤ 64 := by
        have h9 := Lib.bitLen_le d 64 (by omega) (by omega)
        omega
      by_cases hz : b = 0
      · have hlk : l = k := by rw [hl, hz, lvA_zero hd1 (by omega), hk]; rfl
        subst hlk
        have hbz : ¬ (0 : Int) < (b : Int) := by omega
        have HZ := Lib.hid hz
        clear hz hlt hk hbl hl hle hb' hp2 hd hd1
        go_wp2_with (first
          | (go_at_call 133; with_reducible refine (CLn.out _).mono ?_; rintro o w' ⟨rfl, hww⟩; replace hww := hww.symm; subst hww)
          | (at_builtin; refine wpList_grew (v := .slice p n c) rfl _ _ rfl Tryd.underlying60 (.agg #[.int .i64 0, .int .i64 0, .string ⟨#[]⟩]) 3 info_pc rfl (by decide) [.int .i64 (b : Int), .int .i64 (l : Int), .string ⟨#[]⟩] 1 (by simp [Act.eval]) (by simp [Act.eval]) (HHD.out _) rfl rfl (by decide) HONE.out hl1 hl2 ?_; intro v5 w5 hg5; obtain ⟨p5, c5, rfl, _⟩ := hg5.held.cells; have h5 := HPU.out _ _ _ _ hg5; have H5 := Lib.hid h5.1; have hx := h5.2; have k0 : w5.cell? ⟨wr.heap.size, 0, none⟩ = some (.int .i64 (b : Int)) := cellB hx rfl; have k1 : w5.cell? ⟨wr.heap.size, 1, none⟩ = some (.int .i64 (l : Int)) := cellB hx rfl; have k2 : w5.cell? ⟨wr.heap.size, 2, none⟩ = some (.string ⟨#[]⟩) := cellB hx rfl; clear hg5 h5 hx)
          | (go_at_call 135; with_reducible refine (CEn.out _).mono ?_; rintro o w6 ⟨rfl, hb6⟩; have HB6 := Lib.hid hb6; clear hb6))
        have h9 := HNX.out
        exact ⟨⟨b', p5, n + 1, c5, rfl, rfl, by omega, by omega, by omega, Lib.hid (by obtain ⟨P, q1, q2, q3⟩ := H5.out.ex; exact ⟨P, q1, q2, q3.below HB6.out⟩)⟩, by show e - ((b' : Int)).toNat < e - ((b : Int)).toNat; omega⟩
      · obtain ⟨t, ht⟩ : ∃ t, t = Lib.ctz 64 b := ⟨_, rfl⟩
        have hlk : l = min k t := by rw [hl, lvA_pos hd1 (by omega) (by omega) (by omega), hk, ht]; rfl
        have hbz : (0 : Int) < (b : Int) := by omega
        have CTz : Hid (∀ w', Bas w' B → Calls Tryd.prog 134 #[.int .u64 (b : Int)] w' fun o w2 => o = .returned (.int .i64 (t : Int)) ∧ w2 = w') := Lib.hid (fun w' h => by rw [ht]; exact tz_any b w' hz (by omega) h.tz)
        by_cases htk : t < k
        · have hlt2 : l = t := by omega
          subst hlt2
          have hm1 : (l : Int) < (k : Int) := by omega
          have hm2 : ¬ (k : Int) ≤ (l : Int) := by omega
          have hm3 : ¬ (k : Int) < (l : Int) := by omega
          clear hz hlt hk hbl hl hle hb' hp2 hd hd1 hlk ht htk
          go_wp2_with (first
            | (go_at_call 133; with_reducible refine (CLn.out _).mono ?_; rintro o w' ⟨rfl, hww⟩; replace hww := hww.symm; subst hww)
            | (go_at_call 134; with_reducible refine (CTz.out _ HBW.out).mono ?_; rintro o w' ⟨rfl, hww⟩; replace hww := hww.symm; subst hww)
            | (at_builtin; refine wpList_grew (v := .slice p n c) rfl _ _ rfl Tryd.underlying60 (.agg #[.int .i64 0, .int .i64 0, .string ⟨#[]⟩]) 3 info_pc rfl (by decide) [.int .i64 (b : Int), .int .i64 (l : Int), .string ⟨#[]⟩] 1 (by simp [Act.eval]) (by simp [Act.eval]) (HHD.out _) rfl rfl (by decide) HONE.out hl1 hl2 ?_; intro v5 w5 hg5; obtain ⟨p5, c5, rfl, _⟩ := hg5.held.cells; have h5 := HPU.out _ _ _ _ hg5; have H5 := Lib.hid h5.1; have hx := h5.2; have k0 : w5.cell? ⟨wr.heap.size, 0, none⟩ = some (.int .i64 (b : Int)) := cellB hx rfl; have k1 : w5.cell? ⟨wr.heap.size, 1, none⟩ = some (.int .i64 (l : Int)) := cellB hx rfl; have k2 : w5.cell? ⟨wr.heap.size, 2, none⟩ = some (.string ⟨#[]⟩) := cellB hx rfl; clear hg5 h5 hx)
            | (go_at_call 135; with_reducible refine (CEn.out _).mono ?_; rintro o w6 ⟨rfl, hb6⟩; have HB6 := Lib.hid hb6; clear hb6))
          have h9 := HNX.out
          exact ⟨⟨b', p5, n + 1, c5, rfl, rfl, by omega, by omega, by omega, Lib.hid (by obtain ⟨P, q1, q2, q3⟩ := H5.out.ex; exact ⟨P, q1, q2, q3.below HB6.out⟩)⟩, by show e - ((b' : Int)).toNat < e - ((b : Int)).toNat; omega⟩
        · have hlt2 : l = k := by omega
          subst hlt2
          have hm1 : ¬ (t : Int) < (l : Int) := by omega
          have hm2 : (l : Int) ≤ (t : Int) := by omega
          clear hz hlt hk hbl hl hle hb' hp2 hd hd1 hlk ht htk
          go_wp2_with (first
            | (go_at_call 133; with_reducible refine (CLn.out _).mono ?_; rintro o w' ⟨rfl, hww⟩; replace hww := hww.symm; subst hww)
            | (go_at_call 134; with_reducible refine (CTz.out _ HBW.out).mono ?_; rintro o w' ⟨rfl, hww⟩; replace hww := hww.symm; subst hww)
            | (at_builtin; refine wpList_grew (v := .slice p n c) rfl _ _ rfl Tryd.underlying60 (.agg #[.int .i64 0, .int .i64 0, .string ⟨#[]⟩]) 3 info_pc rfl (by decide) [.int .i64 (b : Int), .int .i64 (l : Int), .string ⟨#[]⟩] 1 (by simp [Act.eval]) (by simp [Act.eval]) (HHD.out _) rfl rfl (by decide) HONE.out hl1 hl2 ?_; intro v5 w5 hg5; obtain ⟨p5, c5, rfl, _⟩ := hg5.held.cells; have h5 := HPU.out _ _ _ _ hg5; have H5 := Lib.hid h5.1; have hx := h5.2; have k0 : w5.cell? ⟨wr.heap.size, 0, none⟩ = some (.int .i64 (b : Int)) := cellB hx rfl; have k1 : w5.cell? ⟨wr.heap.size, 1, none⟩ = some (.int .i64 (l : Int)) := cellB hx rfl; have k2 : w5.cell? ⟨wr.heap.size, 2, none⟩ = some (.string ⟨#[]⟩) := cellB hx rfl; clear hg5 h5 hx)
            | (go_at_call 135; with_reducible refine (CEn.out _).mono ?_; rintro o w6 ⟨rfl, hb6⟩; have HB6 := Lib.hid hb6; clear hb6))
          have h9 := HNX.out
          exact ⟨⟨b', p5, n + 1, c5, rfl, rfl, by omega, by omega, by omega, Lib.hid (by obtain ⟨P, q1, q2, q3⟩ := H5.out.ex; exact ⟨P, q1, q2, q3.below HB6.out⟩)⟩, by show e - ((b' : Int)).toNat < e - ((b : Int)).toNat; omega⟩
    · obtain rfl : b = e := by omega
      have hbeI : ¬ (b : Int) < (b : Int) := by omega
      clear hlt
      go_wp2_with fail
      go_ret
      obtain ⟨P, _, h2, h3⟩ := HI.out.ex
      rw [bareA_nil (Nat.le_refl _), List.append_nil] at h2
      rw [← h2]
      exact ⟨_, rfl, h3⟩
set_option maxRecDepth 100000 in
set_option maxHeartbeats 4000000 in
theorem ffilledW_any {w : World} {B b e : Nat} {v : Value} {val : Nat → Nat → ByteArray} (hB : Bas w B) (hbe : b ≤ e) (he : e ≤ 1099511627776) (hv : Txts w v (nodesA val b e)) (h32 : ∀ s ∈ nodesA val b e, s.size = 32) :
    Calls Tryd.prog 95 #[.int .i64 (b : Int), .int .i64 (e : Int), v] w fun o w' => ∃ u, o = .returned (.tuple #[u, .int .i64 0]) ∧ PcI w w' u (rowA val b e) := by
  have CC := Lib.hid (fcutW_any hB hbe he)
  have HV := Lib.hid hv
  have hnl := nodesA_len val b e
  have hnn : (bareA b e).length ≤ 4096 := Nat.le_trans (by unfold bareA; rw [rowA_length]; exact cutA_80 he) (show 80 ≤ 4096 by decide)
  obtain ⟨p, c, rfl, hv1, hv2, _⟩ := hv
  obtain ⟨n, hn⟩ : ∃ n, n = (bareA b e).length := ⟨_, rfl⟩
  rw [hnl, ← hn] at HV hv1 hv2 ⊢
  have HF : Hid ((bareA b e).length = n ∧ (nodesA val b e).length = n ∧ (∀ s ∈ nodesA val b e, s.size = 32) ∧ fillA val b e 0 = bareA b e ∧ fillA val b e n = rowA val b e) := Lib.hid ⟨hn.symm, by rw [hnl, hn], h32, fillA_zero val b e, by rw [hn]; exact fillA_all val b e⟩
  have hn4 : n ≤ 4096 := by omega
  clear hB hbe he h32 hnl hnn hn hv1
  go_enter Tryd.func95, Tryd.ntmps95
  go_upto_region 2 with (go_at_call 126; refine CC.out.mono ?_; rintro o w1 ⟨u, rfl, hu⟩; have HU := Lib.hid hu; clear hu)
  obtain ⟨q, d, rfl, _⟩ := HU.out.h.cells
  rw [HF.out.1] at HU ⊢
  have HI0 : Hid (PcI w w1 (.slice q n d) (fillA val b e 0)) := Lib.hid (by rw [HF.out.2.2.2.1]; exact HU.out)
  go_wp2_with fail
  go_loopw [21] (fun k wr => ∃ i : Nat, k = .int .i64 (i : Int) ∧ i ≤ n ∧ Hid (PcI w wr (.slice q n d) (fillA val b e i))) (fun k _ => n - (intOf k).toNat)
  case atStart => exact ⟨0, rfl, Nat.zero_le _, HI0⟩
  case round =>
    clear HI0
    obtain ⟨i, rfl, hi, HI⟩ := hrel
    by_cases hlt : i < n
    · have hli : (i : Int) < (n : Int) := by omega
      have hi0 : (0 : Int) ≤ (i : Int) := by omega
      obtain ⟨s, hs⟩ : ∃ s, (nodesA val b e)[i]? = some s := ⟨(nodesA val b e)[i]'(by have := HF.out; omega), List.getElem?_eq_getElem _⟩
      obtain ⟨a, rfl, hac⟩ := txts_cellF HV.out hs
      have hcell := hac wr HI.out.b
      have hsz : (s.size : Int) = 32 := by have := HF.out.2.2.1 s (List.mem_of_getElem? hs); omega
      obtain ⟨x, hx, hnx⟩ := fillA_next hs
      have hlen : (fillA val b e i).length = n := by
        have := HI.out.h.cells
        obtain ⟨p', c', hpe, _⟩ := this
        injection hpe with e1 e2 e3
        exact e2.symm
      obtain ⟨g, rfl, hg⟩ := held_cellP HI.out.h (by omega)
      obtain ⟨_, _, x2⟩ := pcV_get hx
      have hcx := hg _ _ x2
      have hfz : wr.frozen? ⟨g, i * 3 + 1 + 1, none⟩ = false := by
        rcases HI.out.h.2 with ⟨e0, _⟩ | ⟨g', cap, cur, e0, hgb, _⟩
        · exact nomatch e0
        · injection e0 with e1 e2 e3
          injection e1 with e1
          injection e1 with e1
          subst e1
          exact frozB hgb
      have HNX : Hid (PcI w (wr.setCell ⟨g, i * 3 + 2, none⟩ (.string s)) (.slice (some ⟨g, 0, none⟩) n d) (fillA val b e (i + 1))) := Lib.hid (by rw [hnx]; exact HI.out.set rfl hx)
      have HLT := Lib.hid hlt
      clear hlt hs hac hx hnx hlen hg x2
      go_wp2_with fail
      exact ⟨⟨i + 1, by simp, HLT.out, HNX⟩, by show n - ((i : Int) + 1).toNat < n - (i : Int).toNat; have := HLT.out; omega⟩
    · obtain rfl : i = n := by omega
      have hli : ¬ (i : Int) < (i : Int) := by omega
      clear hlt
      go_wp2_with fail
      go_ret2
      exact ⟨_, rfl, by have := HI.out; rwa [HF.out.2.2.2.2] at this⟩
end Go.Proofs.YtdbghgpohdijfaaDoor
