/- Layer 4 in plain Lean: the way up (bottom-up) and the way down (by splits) give the same flags. -/
import Derived.Test.YtafookdllnhdaaaDoorMa0
namespace Go.Scr
set_option linter.unusedVariables false

/-- both halved while the place is even and above 0 -/
def skipUp (at_ last : Nat) : Nat × Nat := if at_ % 2 = 0 ∧ at_ ≠ 0 then skipUp (at_ / 2) (last / 2) else (at_, last)
termination_by at_
theorem skipUp_le (at_ last : Nat) : (skipUp at_ last).1 ≤ at_ ∧ (skipUp at_ last).2 ≤ last := by
  induction at_ using Nat.strongRecOn generalizing last with
  | ind a ih =>
    rw [skipUp]
    split
    · rename_i h
      have := ih (a / 2) (by omega) (last / 2)
      omega
    · simp
def isLeft (at_ last : Nat) : Bool := at_ % 2 == 1 || at_ == last
/-- the flags of all hashes that are taken on the way up -/
def stepL (at_ last : Nat) : List Bool :=
  if h : last = 0 then [] else
    isLeft at_ last :: (if isLeft at_ last then stepL ((skipUp at_ last).1 / 2) ((skipUp at_ last).2 / 2) else stepL (at_ / 2) (last / 2))
termination_by last
decreasing_by
  · have := (skipUp_le at_ last).2; omega
  · omega
theorem stepL_zero (a : Nat) : stepL a 0 = [] := by rw [stepL]; simp
theorem skipUp_odd {a : Nat} (l : Nat) (h : a % 2 = 1) : skipUp a l = (a, l) := by rw [skipUp, if_neg (by omega)]
theorem skipUp_zero (l : Nat) : skipUp 0 l = (0, l) := by rw [skipUp, if_neg (by omega)]
/-- a step where the place is not the last one, or odd -/
theorem stepL_plain {a l : Nat} (hl : l ≠ 0) (h : a % 2 = 1 ∨ a ≠ l) : stepL a l = (a % 2 == 1) :: stepL (a / 2) (l / 2) := by
  rw [stepL, dif_neg hl]
  by_cases ho : a % 2 = 1
  · have : isLeft a l = true := by simp [isLeft, ho]
    rw [this, if_pos rfl, skipUp_odd _ ho]
    simp [ho]
  · have hne : a ≠ l := by omega
    have : isLeft a l = false := by simp [isLeft, ho, hne]
    rw [this]
    simp [ho]
theorem stepL_even {a : Nat} (ha : a ≠ 0) (he : a % 2 = 0) : stepL a a = stepL (a / 2) (a / 2) := by
  have h1 : isLeft a a = true := by simp [isLeft]
  have h2 : isLeft (a / 2) (a / 2) = true := by simp [isLeft]
  rw [stepL, dif_neg ha, stepL.eq_1 (a / 2), dif_neg (by omega : ¬ a / 2 = 0), h1, h2, if_pos rfl, if_pos rfl]
  have hs : skipUp a a = skipUp (a / 2) (a / 2) := by
    rw [skipUp, if_pos ⟨he, ha⟩]
  rw [hs]
def bitsL : Nat → Nat → List Bool
  | 0, _ => []
  | j + 1, a => (a % 2 == 1) :: bitsL j (a / 2)
theorem stepL_low (j : Nat) : ∀ a l, a < 2 ^ j → 2 ^ j ≤ l → l < 2 ^ (j + 1) → stepL a l = bitsL j a ++ [false] := by
  induction j with
  | zero =>
    intro a l h1 h2 h3
    have ha : a = 0 := by simp at h1; exact h1
    have hl : l = 1 := by simp at h2 h3; omega
    subst ha; subst hl
    rw [stepL_plain (by omega) (by omega), stepL_zero]; rfl
  | succ j ih =>
    intro a l h1 h2 h3
    rw [Nat.pow_succ] at h1 h2 h3
    rw [stepL_plain (by omega) (by omega), ih (a / 2) (l / 2) (by omega) (by omega) (by rw [Nat.pow_succ] at h3 ⊢; omega)]
    rfl
theorem stepL_full (j : Nat) : ∀ a, a < 2 ^ j → stepL a (2 ^ j - 1) = bitsL j a := by
  induction j with
  | zero => intro a h; simp [stepL_zero, bitsL]
  | succ j ih =>
    intro a h
    rw [Nat.pow_succ] at h ⊢
    have hp : 0 < 2 ^ j := Nat.pos_of_ne_zero (by simp)
    rw [stepL_plain (by omega) (by omega), show (2 ^ j * 2 - 1) / 2 = 2 ^ j - 1 by omega, ih (a / 2) (by omega)]
    rfl
theorem stepL_right (j : Nat) : ∀ a l, 2 ^ j ≤ a → a ≤ l → l < 2 ^ (j + 1) → stepL a l = stepL (a - 2 ^ j) (l - 2 ^ j) ++ [true] := by
  induction j with
  | zero =>
    intro a l h1 h2 h3
    simp at h1 h3
    have ha : a = 1 := by omega
    have hl : l = 1 := by omega
    subst ha; subst hl
    rw [stepL_plain (by omega) (by omega), stepL_zero]
    simp
  | succ j ih =>
    intro a l h1 h2 h3
    have hp : 0 < 2 ^ j := Nat.pos_of_ne_zero (by simp)
    have hps : 2 ^ (j + 1) = 2 * 2 ^ j := by rw [Nat.pow_succ]; omega
    have hps2 : 2 ^ (j + 1 + 1) = 4 * 2 ^ j := by rw [Nat.pow_succ]; omega
    rw [hps] at *
    rw [hps2] at h3
    by_cases hc : a = l ∧ a % 2 = 0
    · obtain ⟨rfl, he⟩ := hc
      rw [stepL_even (by omega) he, ih (a / 2) (a / 2) (by omega) (by omega) (by omega)]
      have hd : a / 2 - 2 ^ j = (a - 2 * 2 ^ j) / 2 := by omega
      rw [hd]
      by_cases hz : a - 2 * 2 ^ j = 0
      · rw [hz]
      · rw [← stepL_even hz (by omega)]
    · rw [stepL_plain (by omega) (by omega), stepL_plain (a := a - 2 * 2 ^ j) (l := l - 2 * 2 ^ j) (by omega) (by omega), ih (a / 2) (l / 2) (by omega) (by omega) (by omega)]
      have hd : a / 2 - 2 ^ j = (a - 2 * 2 ^ j) / 2 := by omega
      have hd2 : l / 2 - 2 ^ j = (l - 2 * 2 ^ j) / 2 := by omega
      rw [hd, hd2, show (a - 2 * 2 ^ j) % 2 = a % 2 by omega]
      rfl

/-- the greatest power of two below n -/
def splF (k n : Nat) : Nat := if 0 < k ∧ 2 * k < n then splF (2 * k) n else k
termination_by n - k
def spl (n : Nat) : Nat := splF 1 n
theorem splF_pow (n : Nat) : ∀ k j, k = 2 ^ j → k < n → ∃ i, splF k n = 2 ^ i ∧ splF k n < n ∧ n ≤ 2 * splF k n := by
  intro k
  induction hd : n - k using Nat.strongRecOn generalizing k with
  | ind d ih =>
    intro j hj hk
    have hp : 0 < 2 ^ j := Nat.pos_of_ne_zero (by simp)
    rw [splF]
    split
    · rename_i h
      exact ih (n - 2 * k) (by omega) (2 * k) rfl (j + 1) (by rw [Nat.pow_succ]; omega) h.2
    · rename_i h
      exact ⟨j, hj, hk, by omega⟩
theorem spl_pow {n : Nat} (h : 2 ≤ n) : ∃ i, spl n = 2 ^ i ∧ 2 ^ i < n ∧ n ≤ 2 ^ (i + 1) := by
  obtain ⟨i, h1, h2, h3⟩ := splF_pow n 1 0 (by simp) (by omega)
  have hs : spl n = 2 ^ i := h1
  have hps : 2 ^ (i + 1) = 2 * 2 ^ i := by rw [Nat.pow_succ]; omega
  rw [h1] at h2 h3
  exact ⟨i, hs, h2, by omega⟩
theorem spl_lt {n : Nat} (h : 2 ≤ n) : 0 < spl n ∧ spl n < n ∧ n ≤ 2 * spl n := by
  obtain ⟨i, h1, h2, h3⟩ := spl_pow h
  have hp : 0 < 2 ^ i := Nat.pos_of_ne_zero (by simp)
  have hps : 2 ^ (i + 1) = 2 * 2 ^ i := by rw [Nat.pow_succ]; omega
  omega
theorem splF_spl {k n : Nat} (hk : 0 < k) (h : 2 * k < n) : splF (2 * k) n = splF k n := by rw [splF.eq_1 k, if_pos ⟨hk, h⟩]
theorem splF_end {k n : Nat} (h : ¬ 2 * k < n) : splF k n = k := by rw [splF, if_neg (by omega)]

/-- the flags of the way down to leaf m of n, from below -/
def dn (n m : Nat) : List Bool :=
  if h : n ≤ 1 then [] else
    if m < spl n then dn (spl n) m ++ [false] else dn (n - spl n) (m - spl n) ++ [true]
termination_by n
decreasing_by
  · have := spl_lt (show 2 ≤ n by omega); omega
  · have := spl_lt (show 2 ≤ n by omega); omega
theorem spl_two (i : Nat) {n : Nat} (h1 : 2 ^ i < n) (h2 : n ≤ 2 ^ (i + 1)) : spl n = 2 ^ i := by
  have hp : 0 < 2 ^ i := Nat.pos_of_ne_zero (by simp)
  obtain ⟨k, h3, h4, h5⟩ := spl_pow (show 2 ≤ n by omega)
  rw [h3]
  have ha : i < k + 1 := (Nat.pow_lt_pow_iff_right (a := 2) (by omega)).1 (by omega)
  have hb : k < i + 1 := (Nat.pow_lt_pow_iff_right (a := 2) (by omega)).1 (by omega)
  rw [show i = k by omega]
theorem stepL_dn (n : Nat) : ∀ m, m < n → stepL m (n - 1) = dn n m := by
  induction n using Nat.strongRecOn with
  | ind n ih =>
    intro m hm
    rw [dn]
    split
    · rename_i h
      rw [show n - 1 = 0 by omega, stepL_zero]
    · rename_i h
      obtain ⟨i, h1, h2, h3⟩ := spl_pow (show 2 ≤ n by omega)
      have hp : 0 < 2 ^ i := Nat.pos_of_ne_zero (by simp)
      rw [h1]
      split
      · rename_i hlt
        rw [← ih (2 ^ i) h2 m hlt, stepL_full i m hlt, stepL_low i m (n - 1) hlt (by omega) (by omega)]
      · rename_i hge
        rw [stepL_right i m (n - 1) (by omega) (by omega) (by omega), ← ih (n - 2 ^ i) (by omega) (m - 2 ^ i) (by omega), show n - 1 - 2 ^ i = n - 2 ^ i - 1 by omega]

/-- both halved while the place is odd -/
def strip (at_ last : Nat) : Nat × Nat := if at_ % 2 = 1 then strip (at_ / 2) (last / 2) else (at_, last)
termination_by at_
theorem strip_even {a : Nat} (l : Nat) (h : a % 2 ≠ 1) : strip a l = (a, l) := by rw [strip, if_neg h]
theorem strip_odd {a : Nat} (l : Nat) (h : a % 2 = 1) : strip a l = strip (a / 2) (l / 2) := by rw [strip, if_pos h]
theorem strip_le (a l : Nat) : (strip a l).1 ≤ a ∧ (strip a l).2 ≤ l := by
  induction a using Nat.strongRecOn generalizing l with
  | ind a ih =>
    by_cases h : a % 2 = 1
    · rw [strip_odd l h]
      have := ih (a / 2) (by omega) (l / 2)
      omega
    · rw [strip_even l h]; simp
/-- the flags of a proof, from below; and whether its subtree begins at 0 -/
def fl (f s : Nat) : List Bool :=
  if h : f = s ∨ s ≤ 1 then [] else
    if f ≤ spl s then fl f (spl s) ++ [false] else fl (f - spl s) (s - spl s) ++ [true]
termination_by s
decreasing_by
  · have := spl_lt (show 2 ≤ s by omega); omega
  · have := spl_lt (show 2 ≤ s by omega); omega
def wh (f s : Nat) (whole : Bool) : Bool :=
  if h : f = s ∨ s ≤ 1 then whole else
    if f ≤ spl s then wh f (spl s) whole else wh (f - spl s) (s - spl s) false
termination_by s
decreasing_by
  · have := spl_lt (show 2 ≤ s by omega); omega
  · have := spl_lt (show 2 ≤ s by omega); omega
theorem wh_false (s : Nat) : ∀ f, wh f s false = false := by
  induction s using Nat.strongRecOn with
  | ind s ih =>
    intro f
    rw [wh]
    split
    · rfl
    · rename_i h
      have := spl_lt (show 2 ≤ s by omega)
      split
      · exact ih _ (by omega) _
      · exact ih _ (by omega) _
theorem strip_low (j : Nat) : ∀ a l, a < 2 ^ j - 1 → 2 ^ j ≤ l → l < 2 ^ (j + 1) →
    stepL (strip a l).1 (strip a l).2 = stepL (strip a (2 ^ j - 1)).1 (strip a (2 ^ j - 1)).2 ++ [false] ∧ (strip a l).1 = (strip a (2 ^ j - 1)).1 := by
  induction j with
  | zero => intro a l h; simp at h
  | succ j ih =>
    intro a l h1 h2 h3
    have hp : 0 < 2 ^ j := Nat.pos_of_ne_zero (by simp)
    have hps : 2 ^ (j + 1) = 2 * 2 ^ j := by rw [Nat.pow_succ]; omega
    by_cases ho : a % 2 = 1
    · rw [strip_odd _ ho, strip_odd _ ho, show (2 ^ (j + 1) - 1) / 2 = 2 ^ j - 1 by omega]
      rw [Nat.pow_succ 2 (j + 1)] at h3
      exact ih (a / 2) (l / 2) (by omega) (by omega) (by omega)
    · rw [strip_even _ ho, strip_even _ ho]
      exact ⟨by rw [stepL_low (j + 1) a l (by omega) h2 h3, stepL_full (j + 1) a (by omega)], rfl⟩
theorem strip_top (j : Nat) : ∀ l, 2 ^ j ≤ l → l < 2 ^ (j + 1) → strip (2 ^ j - 1) l = (0, 1) := by
  induction j with
  | zero => intro l h1 h2; simp at h1 h2; have : l = 1 := by omega
            subst this; rw [strip_even _ (by simp)]
  | succ j ih =>
    intro l h1 h2
    have hp : 0 < 2 ^ j := Nat.pos_of_ne_zero (by simp)
    have hps : 2 ^ (j + 1) = 2 * 2 ^ j := by rw [Nat.pow_succ]; omega
    rw [Nat.pow_succ 2 (j + 1)] at h2
    rw [strip_odd _ (by omega), show (2 ^ (j + 1) - 1) / 2 = 2 ^ j - 1 by omega]
    exact ih (l / 2) (by omega) (by omega)
theorem strip_right (j : Nat) : ∀ a l, 2 ^ j ≤ a → a < l → l < 2 ^ (j + 1) →
    stepL (strip a l).1 (strip a l).2 = stepL (strip (a - 2 ^ j) (l - 2 ^ j)).1 (strip (a - 2 ^ j) (l - 2 ^ j)).2 ++ [true] ∧ (strip a l).1 ≠ 0 := by
  induction j with
  | zero => intro a l h1 h2 h3; simp at h1 h3; omega
  | succ j ih =>
    intro a l h1 h2 h3
    have hp : 0 < 2 ^ j := Nat.pos_of_ne_zero (by simp)
    have hps : 2 ^ (j + 1) = 2 * 2 ^ j := by rw [Nat.pow_succ]; omega
    by_cases ho : a % 2 = 1
    · have hs2 := h3
      rw [Nat.pow_succ 2 (j + 1)] at hs2
      have := ih (a / 2) (l / 2) (by omega) (by omega) (by omega)
      rw [strip_odd l ho, strip_odd (a := a - 2 ^ (j + 1)) _ (by omega), show (a - 2 ^ (j + 1)) / 2 = a / 2 - 2 ^ j by omega, show (l - 2 ^ (j + 1)) / 2 = l / 2 - 2 ^ j by omega]
      exact this
    · rw [strip_even _ ho, strip_even (a := a - 2 ^ (j + 1)) _ (by omega)]
      exact ⟨stepL_right (j + 1) a l h1 (by omega) h3, by show a ≠ 0; omega⟩
theorem strip_fl (s : Nat) : ∀ f, 1 ≤ f → f < s → stepL (strip (f - 1) (s - 1)).1 (strip (f - 1) (s - 1)).2 = fl f s ∧ ((strip (f - 1) (s - 1)).1 == 0) = wh f s true := by
  induction s using Nat.strongRecOn with
  | ind s ih =>
    intro f h1 h2
    obtain ⟨i, hi, hi2, hi3⟩ := spl_pow (show 2 ≤ s by omega)
    have hp : 0 < 2 ^ i := Nat.pos_of_ne_zero (by simp)
    have hc : ¬ (f = s ∨ s ≤ 1) := by omega
    rw [fl, wh, dif_neg hc, dif_neg hc, hi]
    by_cases hle : f ≤ 2 ^ i
    · rw [if_pos hle, if_pos hle]
      by_cases he : f = 2 ^ i
      · subst he
        rw [strip_top i (s - 1) (by omega) (by omega), fl, wh, dif_pos (Or.inl rfl), dif_pos (Or.inl rfl)]
        exact ⟨by show stepL 0 1 = [false]; rw [stepL_plain (by omega) (by omega)]; simp [stepL_zero], rfl⟩
      · have := strip_low i (f - 1) (s - 1) (by omega) (by omega) (by omega)
        have ih2 := ih (2 ^ i) hi2 f h1 (by omega)
        rw [this.1, this.2, ih2.1, ih2.2]
        exact ⟨rfl, rfl⟩
    · rw [if_neg hle, if_neg hle]
      have := strip_right i (f - 1) (s - 1) (by omega) (by omega) (by omega)
      have ih2 := ih (s - 2 ^ i) (by omega) (f - 2 ^ i) (by omega) (by omega)
      rw [this.1, wh_false, show f - 1 - 2 ^ i = f - 2 ^ i - 1 by omega, show s - 1 - 2 ^ i = s - 2 ^ i - 1 by omega, ih2.1]
      exact ⟨rfl, by simp [this.2]⟩

/-- a path gone up: the flag says that the other hash stands left -/
def climbF (node : ByteArray → ByteArray → ByteArray) : List Bool → List ByteArray → ByteArray → ByteArray
  | f :: fs, p :: ps, r => climbF node fs ps (if f then node p r else node r p)
  | _, _, r => r
def climbB (node : ByteArray → ByteArray → ByteArray) : List Bool → List ByteArray → ByteArray × ByteArray → ByteArray × ByteArray
  | f :: fs, p :: ps, r => climbB node fs ps (if f then (node p r.1, node p r.2) else (r.1, node r.2 p))
  | _, _, r => r
theorem climbF_snoc (node : ByteArray → ByteArray → ByteArray) (f : Bool) (p : ByteArray) : ∀ (fs : List Bool) (ps : List ByteArray) (r : ByteArray), fs.length = ps.length →
    climbF node (fs ++ [f]) (ps ++ [p]) r = if f then node p (climbF node fs ps r) else node (climbF node fs ps r) p := by
  intro fs
  induction fs with
  | nil => intro ps r h; cases ps with
    | nil => rfl
    | cons a l => simp at h
  | cons g fs ih => intro ps r h; cases ps with
    | nil => simp at h
    | cons a l => exact ih l _ (by simpa using h)
theorem climbB_snoc (node : ByteArray → ByteArray → ByteArray) (f : Bool) (p : ByteArray) : ∀ (fs : List Bool) (ps : List ByteArray) (r : ByteArray × ByteArray), fs.length = ps.length →
    climbB node (fs ++ [f]) (ps ++ [p]) r = if f then (node p (climbB node fs ps r).1, node p (climbB node fs ps r).2) else ((climbB node fs ps r).1, node (climbB node fs ps r).2 p) := by
  intro fs
  induction fs with
  | nil => intro ps r h; cases ps with
    | nil => rfl
    | cons a l => simp at h
  | cons g fs ih => intro ps r h; cases ps with
    | nil => simp at h
    | cons a l => exact ih l _ (by simpa using h)
/-- how many hashes a way has -/
def wayN (n m : Nat) : Nat := (dn n m).length
theorem wayN_one {n : Nat} (m : Nat) (h : n ≤ 1) : wayN n m = 0 := by unfold wayN; rw [dn, dif_pos h]; rfl
theorem wayN_left {n m : Nat} (h : 1 < n) (h2 : m < spl n) : wayN n m = wayN (spl n) m + 1 := by unfold wayN; rw [dn, dif_neg (by omega), if_pos h2]; simp
theorem wayN_right {n m : Nat} (h : 1 < n) (h2 : ¬ m < spl n) : wayN n m = wayN (n - spl n) (m - spl n) + 1 := by unfold wayN; rw [dn, dif_neg (by omega), if_neg h2]; simp
def toldN (f s : Nat) (whole : Bool) : Nat := (fl f s).length + (if wh f s whole then 0 else 1)
theorem toldN_same (f : Nat) (whole : Bool) : toldN f f whole = if whole then 0 else 1 := by unfold toldN; rw [fl, wh, dif_pos (Or.inl rfl), dif_pos (Or.inl rfl)]; simp
theorem toldN_left {f s : Nat} (whole : Bool) (h : f ≠ s) (h1 : 1 < s) (h2 : f ≤ spl s) : toldN f s whole = toldN f (spl s) whole + 1 := by
  unfold toldN; rw [fl.eq_1 f s, wh.eq_1 f s, dif_neg (by omega), dif_neg (by omega), if_pos h2, if_pos h2]; simp; omega
theorem toldN_right {f s : Nat} (whole : Bool) (h : f ≠ s) (h1 : 1 < s) (h2 : ¬ f ≤ spl s) : toldN f s whole = toldN (f - spl s) (s - spl s) false + 1 := by
  unfold toldN; rw [fl.eq_1 f s, wh.eq_1 f s, dif_neg (by omega), dif_neg (by omega), if_neg h2, if_neg h2]; simp; omega
end Go.Scr
/- Shape in plain Lean: subtrees by numbers. -/
namespace Go.Scr
set_option linter.unusedVariables false

/-- the spans of a path, from the top: of a subtree of n leaves that begins at b, to its leaf m -/
def pathT (b n m : Nat) : List (Nat × Nat) :=
  if h : n ≤ 1 then [] else
    if m < spl n then (b + spl n, b + n) :: pathT b (spl n) m else (b, b + spl n) :: pathT (b + spl n) (n - spl n) (m - spl n)
termination_by n
decreasing_by
  · have := spl_lt (show 2 ≤ n by omega); omega
  · have := spl_lt (show 2 ≤ n by omega); omega
theorem pathT_one {n : Nat} (b m : Nat) (h : n ≤ 1) : pathT b n m = [] := by rw [pathT, dif_pos h]
theorem pathT_left {n m : Nat} (b : Nat) (h : 1 < n) (h2 : m < spl n) : pathT b n m = (b + spl n, b + n) :: pathT b (spl n) m := by rw [pathT, dif_neg (by omega), if_pos h2]
theorem pathT_right {n m : Nat} (b : Nat) (h : 1 < n) (h2 : ¬ m < spl n) : pathT b n m = (b, b + spl n) :: pathT (b + spl n) (n - spl n) (m - spl n) := by rw [pathT, dif_neg (by omega), if_neg h2]
/-- the spans of a proof, from the top -/
def proofT (b n m : Nat) : List (Nat × Nat) :=
  if h : m = n ∨ n ≤ 1 then (if b = 0 then [] else [(b, b + n)]) else
    if m ≤ spl n then (b + spl n, b + n) :: proofT b (spl n) m else (b, b + spl n) :: proofT (b + spl n) (n - spl n) (m - spl n)
termination_by n
decreasing_by
  · have := spl_lt (show 2 ≤ n by omega); omega
  · have := spl_lt (show 2 ≤ n by omega); omega
theorem proofT_end (b n : Nat) : proofT b n n = if b = 0 then [] else [(b, b + n)] := by rw [proofT, dif_pos (Or.inl rfl)]
theorem proofT_left {n m : Nat} (b : Nat) (hne : m ≠ n) (h : 1 < n) (h2 : m ≤ spl n) : proofT b n m = (b + spl n, b + n) :: proofT b (spl n) m := by rw [proofT, dif_neg (by omega), if_pos h2]
theorem proofT_right {n m : Nat} (b : Nat) (hne : m ≠ n) (h : 1 < n) (h2 : ¬ m ≤ spl n) : proofT b n m = (b, b + spl n) :: proofT (b + spl n) (n - spl n) (m - spl n) := by rw [proofT, dif_neg (by omega), if_neg h2]
/-- is a span a subtree? -/
def insideB (b n lo hi : Nat) : Bool :=
  if h : n ≤ 1 then (b == lo && b + n == hi) else
    if b = lo ∧ b + n = hi then true else
    if hi ≤ b + spl n then insideB b (spl n) lo hi else if b + spl n ≤ lo then insideB (b + spl n) (n - spl n) lo hi else false
termination_by n
decreasing_by
  · have := spl_lt (show 2 ≤ n by omega); omega
  · have := spl_lt (show 2 ≤ n by omega); omega
theorem insideB_one {b n lo hi : Nat} (h : n ≤ 1) : insideB b n lo hi = (b == lo && b + n == hi) := by rw [insideB, dif_pos h]
theorem insideB_at (n lo : Nat) : insideB lo n lo (lo + n) = true := by
  rw [insideB]
  split
  · simp
  · rw [if_pos ⟨rfl, rfl⟩]
theorem insideB_left {b n lo hi : Nat} (h : 1 < n) (hne : ¬ (b = lo ∧ b + n = hi)) (h2 : hi ≤ b + spl n) : insideB b n lo hi = insideB b (spl n) lo hi := by rw [insideB, dif_neg (by omega), if_neg hne, if_pos h2]
theorem insideB_right {b n lo hi : Nat} (h : 1 < n) (hne : ¬ (b = lo ∧ b + n = hi)) (h2 : ¬ hi ≤ b + spl n) (h3 : b + spl n ≤ lo) : insideB b n lo hi = insideB (b + spl n) (n - spl n) lo hi := by rw [insideB, dif_neg (by omega), if_neg hne, if_neg h2, if_pos h3]
theorem insideB_no {b n lo hi : Nat} (h : 1 < n) (hne : ¬ (b = lo ∧ b + n = hi)) (h2 : ¬ hi ≤ b + spl n) (h3 : ¬ b + spl n ≤ lo) : insideB b n lo hi = false := by rw [insideB, dif_neg (by omega), if_neg hne, if_neg h2, if_neg h3]
/-- those that a look says 'none' of (0: none, 2: all, else: some), from the left -/
def restT (look : Nat → Nat → Nat) (b n : Nat) : List (Nat × Nat) :=
  if look b (b + n) = 0 then [(b, b + n)] else if look b (b + n) = 2 then [] else
    if h : n ≤ 1 then [] else restT look b (spl n) ++ restT look (b + spl n) (n - spl n)
termination_by n
decreasing_by
  · have := spl_lt (show 2 ≤ n by omega); omega
  · have := spl_lt (show 2 ≤ n by omega); omega
theorem restT_none {look : Nat → Nat → Nat} {b n : Nat} (h : look b (b + n) = 0) : restT look b n = [(b, b + n)] := by rw [restT, if_pos h]
theorem restT_all {look : Nat → Nat → Nat} {b n : Nat} (h : look b (b + n) = 2) : restT look b n = [] := by rw [restT, if_neg (by omega), if_pos h]
theorem restT_some {look : Nat → Nat → Nat} {b n : Nat} (h0 : look b (b + n) ≠ 0) (h2 : look b (b + n) ≠ 2) (h : 1 < n) : restT look b n = restT look b (spl n) ++ restT look (b + spl n) (n - spl n) := by rw [restT, if_neg h0, if_neg h2, dif_neg (by omega)]
def lookB (idx : List Nat) (b e : Nat) : Nat := if idx.any (fun x => decide (b ≤ x ∧ x < e)) then (if e - b = 1 then 2 else 1) else 0
def lookR (lo hi b e : Nat) : Nat := if e ≤ lo ∨ hi ≤ b then 0 else if lo ≤ b ∧ e ≤ hi then 2 else 1
/-- the level of the greatest complete subtree that begins at b and ends at or ahead of e -/
def lvlF (l b e : Nat) : Nat := if h : b / 2 ^ l % 2 = 0 ∧ b + 2 * 2 ^ l ≤ e then lvlF (l + 1) b e else l
termination_by e - 2 ^ l
decreasing_by
  have hp : 0 < 2 ^ l := Nat.pos_of_ne_zero (by simp)
  rw [Nat.pow_succ]; omega
theorem lvlF_more {l b e : Nat} (h : b / 2 ^ l % 2 = 0 ∧ b + 2 * 2 ^ l ≤ e) : lvlF l b e = lvlF (l + 1) b e := by rw [lvlF, dif_pos h]
theorem lvlF_end {l b e : Nat} (h : ¬ (b / 2 ^ l % 2 = 0 ∧ b + 2 * 2 ^ l ≤ e)) : lvlF l b e = l := by rw [lvlF, dif_neg h]
theorem lvlF_fit (e : Nat) : ∀ (k l b : Nat), e - 2 ^ l ≤ k → b + 2 ^ l ≤ e → 2 ^ l ∣ b → b + 2 ^ (lvlF l b e) ≤ e ∧ 2 ^ (lvlF l b e) ∣ b ∧ l ≤ lvlF l b e := by
  intro k
  induction k with
  | zero =>
    intro l b hk hb hd
    have hp : 0 < 2 ^ l := Nat.pos_of_ne_zero (by simp)
    rw [lvlF_end (by omega)]
    exact ⟨hb, hd, Nat.le_refl _⟩
  | succ k ih =>
    intro l b hk hb hd
    have hp : 0 < 2 ^ l := Nat.pos_of_ne_zero (by simp)
    by_cases h : b / 2 ^ l % 2 = 0 ∧ b + 2 * 2 ^ l ≤ e
    · rw [lvlF_more h]
      have hd2 : 2 ^ (l + 1) ∣ b := by
        rw [Nat.pow_succ]
        obtain ⟨c, hc⟩ := hd
        have : b / 2 ^ l = c := by rw [hc]; exact Nat.mul_div_cancel_left _ hp
        rw [this] at h
        obtain ⟨d, hd⟩ := Nat.dvd_of_mod_eq_zero h.1
        exact ⟨d, by rw [hc, hd, Nat.mul_assoc]⟩
      obtain ⟨a1, a2, a3⟩ := ih (l + 1) b (by rw [Nat.pow_succ]; omega) (by rw [Nat.pow_succ]; omega) hd2
      exact ⟨a1, a2, by omega⟩
    · rw [lvlF_end h]
      exact ⟨hb, hd, Nat.le_refl _⟩
/-- the complete subtrees of a span -/
def coverT (b e : Nat) : List (Nat × Nat) :=
  if h : b < e then (lvlF 0 b e, b / 2 ^ lvlF 0 b e) :: coverT (b + 2 ^ lvlF 0 b e) e else []
termination_by e - b
decreasing_by
  have hp : 0 < 2 ^ lvlF 0 b e := Nat.pos_of_ne_zero (by simp)
  omega
theorem coverT_more {b e : Nat} (h : b < e) : coverT b e = (lvlF 0 b e, b / 2 ^ lvlF 0 b e) :: coverT (b + 2 ^ lvlF 0 b e) e := by rw [coverT, dif_pos h]
theorem coverT_end {b e : Nat} (h : ¬ b < e) : coverT b e = [] := by rw [coverT, dif_neg h]
end Go.Scr
/- Layer 3 in plain Lean: roots, paths, proofs of lists of hashes, by splits. -/
namespace Go.Scr
set_option linter.unusedVariables false

theorem len_take {α} (l : List α) (h : 2 ≤ l.length) : (l.take (spl l.length)).length = spl l.length := by
  have := spl_lt h; rw [List.length_take]; omega
theorem len_drop {α} (l : List α) : (l.drop (spl l.length)).length = l.length - spl l.length := List.length_drop
def rootL (node : ByteArray → ByteArray → ByteArray) (empty : ByteArray) (l : List ByteArray) : ByteArray :=
  if h0 : l.length = 0 then empty else if h1 : l.length = 1 then l.headD empty else
    node (rootL node empty (l.take (spl l.length))) (rootL node empty (l.drop (spl l.length)))
termination_by l.length
decreasing_by
  · have := spl_lt (show 2 ≤ l.length by omega); rw [List.length_take]; omega
  · have := spl_lt (show 2 ≤ l.length by omega); rw [List.length_drop]; omega
def pathL (node : ByteArray → ByteArray → ByteArray) (empty : ByteArray) (m : Nat) (l : List ByteArray) : List ByteArray :=
  if h : l.length ≤ 1 then [] else
    if m < spl l.length then pathL node empty m (l.take (spl l.length)) ++ [rootL node empty (l.drop (spl l.length))]
    else pathL node empty (m - spl l.length) (l.drop (spl l.length)) ++ [rootL node empty (l.take (spl l.length))]
termination_by l.length
decreasing_by
  · have := spl_lt (show 2 ≤ l.length by omega); rw [List.length_take]; omega
  · have := spl_lt (show 2 ≤ l.length by omega); rw [List.length_drop]; omega
def proofL (node : ByteArray → ByteArray → ByteArray) (empty : ByteArray) (m : Nat) (l : List ByteArray) (whole : Bool) : List ByteArray :=
  if h : m = l.length ∨ l.length ≤ 1 then (if whole then [] else [rootL node empty l]) else
    if m ≤ spl l.length then proofL node empty m (l.take (spl l.length)) whole ++ [rootL node empty (l.drop (spl l.length))]
    else proofL node empty (m - spl l.length) (l.drop (spl l.length)) false ++ [rootL node empty (l.take (spl l.length))]
termination_by l.length
decreasing_by
  · have := spl_lt (show 2 ≤ l.length by omega); rw [List.length_take]; omega
  · have := spl_lt (show 2 ≤ l.length by omega); rw [List.length_drop]; omega
def manyL (node : ByteArray → ByteArray → ByteArray) (empty : ByteArray) (b : Nat) (l : List ByteArray) (is : List Nat) : List ByteArray :=
  if (is.any fun i => b ≤ i ∧ i < b + l.length) = false then [rootL node empty l] else
  if h : l.length ≤ 1 then [] else
    manyL node empty b (l.take (spl l.length)) is ++ manyL node empty (b + spl l.length) (l.drop (spl l.length)) is
termination_by l.length
decreasing_by
  · have := spl_lt (show 2 ≤ l.length by omega); rw [List.length_take]; omega
  · have := spl_lt (show 2 ≤ l.length by omega); rw [List.length_drop]; omega

theorem rootL_split (node : ByteArray → ByteArray → ByteArray) (empty : ByteArray) {l : List ByteArray} (h : 2 ≤ l.length) :
    rootL node empty l = node (rootL node empty (l.take (spl l.length))) (rootL node empty (l.drop (spl l.length))) := by
  rw [rootL, dif_neg (by omega), dif_neg (by omega)]
theorem rootL_one (node : ByteArray → ByteArray → ByteArray) (empty x : ByteArray) : rootL node empty [x] = x := by
  rw [rootL, dif_neg (by simp), dif_pos (by simp)]; rfl
theorem rootL_nil (node : ByteArray → ByteArray → ByteArray) (empty : ByteArray) : rootL node empty [] = empty := by
  rw [rootL, dif_pos (by simp)]
theorem pathL_length (node : ByteArray → ByteArray → ByteArray) (empty : ByteArray) (n : Nat) : ∀ (m : Nat) (l : List ByteArray), l.length = n → (pathL node empty m l).length = (dn n m).length := by
  induction n using Nat.strongRecOn with
  | ind n ih =>
    intro m l hl
    rw [pathL, dn, hl]
    split
    · rfl
    · have := spl_lt (show 2 ≤ n by omega)
      split
      · simp [ih (spl n) (by omega) m (l.take (spl n)) (by rw [List.length_take]; omega)]
      · simp [ih (n - spl n) (by omega) (m - spl n) (l.drop (spl n)) (by rw [List.length_drop]; omega)]
/-- a path, gone up, is the root -/
theorem climb_path (node : ByteArray → ByteArray → ByteArray) (empty : ByteArray) (n : Nat) : ∀ (m : Nat) (l : List ByteArray) (x : ByteArray), l.length = n → l[m]? = some x →
    climbF node (dn n m) (pathL node empty m l) x = rootL node empty l := by
  induction n using Nat.strongRecOn with
  | ind n ih =>
    intro m l x hl hx
    have hm : m < n := by rw [← hl]; exact (List.getElem?_eq_some_iff.mp hx).1
    rw [pathL, dn, hl]
    by_cases h : n ≤ 1
    · rw [dif_pos h, dif_pos h]
      have hm0 : m = 0 := by omega
      subst hm0
      cases l with
      | nil => simp at hx
      | cons y t =>
        have ht : t = [] := by cases t with
          | nil => rfl
          | cons a b => simp at hl; omega
        subst ht
        simp at hx
        rw [rootL_one, hx]; rfl
    · have hs := spl_lt (show 2 ≤ n by omega)
      rw [dif_neg h, dif_neg h, rootL_split node empty (l := l) (by omega), hl]
      by_cases hlt : m < spl n
      · rw [if_pos hlt, if_pos hlt, climbF_snoc _ _ _ _ _ _ (by rw [pathL_length node empty (spl n)]; rw [List.length_take]; omega),
          ih (spl n) (by omega) m (l.take (spl n)) x (by rw [List.length_take]; omega) (by rw [List.getElem?_take, if_pos hlt]; exact hx)]
        rfl
      · rw [if_neg hlt, if_neg hlt, climbF_snoc _ _ _ _ _ _ (by rw [pathL_length node empty (n - spl n)]; rw [List.length_drop]; omega),
          ih (n - spl n) (by omega) (m - spl n) (l.drop (spl n)) x (by rw [List.length_drop]; omega) (by rw [List.getElem?_drop, show spl n + (m - spl n) = m by omega]; exact hx)]
        rfl
/-- what a proof's way begins with, and what it goes up by -/
def seedL (whole : Bool) (old : ByteArray) (p : List ByteArray) : ByteArray := if whole then old else p.headD old
def restL (whole : Bool) (p : List ByteArray) : List ByteArray := if whole then p else p.drop 1
theorem proofL_length (node : ByteArray → ByteArray → ByteArray) (empty : ByteArray) (n : Nat) : ∀ (m : Nat) (l : List ByteArray) (whole : Bool), l.length = n → (proofL node empty m l whole).length = toldN m n whole := by
  induction n using Nat.strongRecOn with
  | ind n ih =>
    intro m l whole hl
    rw [proofL, hl]
    by_cases h : m = n ∨ n ≤ 1
    · rw [dif_pos h]
      unfold toldN
      rw [fl, wh, dif_pos h, dif_pos h]
      cases whole <;> rfl
    · rw [dif_neg h]
      have := spl_lt (show 2 ≤ n by omega)
      split
      · rename_i hle
        rw [toldN_left whole (by omega) (by omega) hle, List.length_append, ih (spl n) (by omega) m (l.take (spl n)) whole (by rw [List.length_take]; omega)]; rfl
      · rename_i hle
        rw [toldN_right whole (by omega) (by omega) hle, List.length_append, ih (n - spl n) (by omega) (m - spl n) (l.drop (spl n)) false (by rw [List.length_drop]; omega)]; rfl
theorem rest_snoc (whole : Bool) (p : List ByteArray) (x : ByteArray) (h : whole = true ∨ p ≠ []) : restL whole (p ++ [x]) = restL whole p ++ [x] := by
  unfold restL
  cases whole with
  | true => rfl
  | false =>
    cases p with
    | nil => simp at h
    | cons a t => rfl
theorem seed_snoc (whole : Bool) (old : ByteArray) (p : List ByteArray) (x : ByteArray) (h : whole = true ∨ p ≠ []) : seedL whole old (p ++ [x]) = seedL whole old p := by
  unfold seedL
  cases whole with
  | true => rfl
  | false =>
    cases p with
    | nil => simp at h
    | cons a t => rfl
/-- a proof leads to both roots -/
theorem climb_proof (node : ByteArray → ByteArray → ByteArray) (empty : ByteArray) (n : Nat) : ∀ (m : Nat) (l : List ByteArray) (whole : Bool) (old : ByteArray), l.length = n → 1 ≤ m → m ≤ n →
    (wh m n whole = true → old = rootL node empty (l.take m)) →
    climbB node (fl m n) (restL (wh m n whole) (proofL node empty m l whole)) (seedL (wh m n whole) old (proofL node empty m l whole), seedL (wh m n whole) old (proofL node empty m l whole)) = (rootL node empty (l.take m), rootL node empty l) := by
  induction n using Nat.strongRecOn with
  | ind n ih =>
    intro m l whole old hl h1 h2 hold
    rw [proofL, hl]
    by_cases h : m = n ∨ n ≤ 1
    · have hmn : m = n := by omega
      rw [dif_pos h]
      rw [wh, dif_pos h] at hold ⊢
      rw [fl, dif_pos h]
      rw [hmn, ← hl, List.take_length] at hold ⊢
      cases whole with
      | true => simp [seedL, climbB, hold rfl]
      | false => simp [seedL, climbB]
    · rw [dif_neg h]
      have hs := spl_lt (show 2 ≤ n by omega)
      rw [wh, dif_neg h] at hold ⊢
      rw [fl, dif_neg h]
      by_cases hle : m ≤ spl n
      · rw [if_pos hle] at hold
        rw [if_pos hle, if_pos hle, if_pos hle]
        have hlen := proofL_length node empty (spl n) m (l.take (spl n)) whole (by rw [List.length_take]; omega)
        have htk : (l.take (spl n)).take m = l.take m := by rw [List.take_take, Nat.min_eq_left hle]
        have hne : wh m (spl n) whole = true ∨ proofL node empty m (l.take (spl n)) whole ≠ [] := by
          rcases Bool.eq_false_or_eq_true (wh m (spl n) whole) with hh | hh
          · exact Or.inl hh
          · right; intro hc; rw [hc] at hlen; unfold toldN at hlen; rw [hh] at hlen; simp at hlen
        have hr : (fl m (spl n)).length = (restL (wh m (spl n) whole) (proofL node empty m (l.take (spl n)) whole)).length := by
          unfold restL; unfold toldN at hlen
          split <;> simp_all
        rw [rest_snoc _ _ _ hne, seed_snoc _ _ _ _ hne, climbB_snoc _ _ _ _ _ _ hr,
          ih (spl n) (by omega) m (l.take (spl n)) whole old (by rw [List.length_take]; omega) h1 hle (by rw [htk]; exact hold), rootL_split node empty (l := l) (by omega), hl, htk]
        simp
      · rw [if_neg hle] at hold
        rw [if_neg hle, if_neg hle, if_neg hle, wh_false]
        rw [wh_false] at hold
        have hlen := proofL_length node empty (n - spl n) (m - spl n) (l.drop (spl n)) false (by rw [List.length_drop]; omega)
        have hne : proofL node empty (m - spl n) (l.drop (spl n)) false ≠ [] := by
          intro hc; rw [hc] at hlen; unfold toldN at hlen; rw [wh_false] at hlen; simp at hlen
        have hr : (fl (m - spl n) (n - spl n)).length = (restL false (proofL node empty (m - spl n) (l.drop (spl n)) false)).length := by
          unfold restL; unfold toldN at hlen; rw [wh_false] at hlen
          simp at hlen ⊢; omega
        have hih := ih (n - spl n) (by omega) (m - spl n) (l.drop (spl n)) false old (by rw [List.length_drop]; omega) (by omega) (by omega) (by rw [wh_false]; simp)
        rw [wh_false] at hih
        have hsp : spl m = spl n := by
          obtain ⟨i, e1, e2, e3⟩ := spl_pow (show 2 ≤ n by omega)
          rw [e1]
          exact spl_two i (by omega) (by omega)
        rw [rest_snoc _ _ _ (Or.inr hne), seed_snoc _ _ _ _ (Or.inr hne), climbB_snoc _ _ _ _ _ _ hr, hih, rootL_split node empty (l := l) (by omega), hl,
          rootL_split node empty (l := l.take m) (by rw [List.length_take]; omega)]
        have hlm : (l.take m).length = m := by rw [List.length_take]; omega
        rw [hlm, hsp, List.take_take, Nat.min_eq_left (by omega), List.drop_take]
        simp
end Go.Scr
