/- Layer 3 in plain Lean: roots, paths, proofs of lists of hashes, by splits. -/
import Derived.Test.YtejdpahgofhioaaDoorVer0
namespace Go.Scr
set_option linter.unusedVariables false

theorem len_take {α} (l : List α) (h : 2 ≤ l.length) : (l.take (spl l.length)).length = spl l.length := by
  have := spl_lt h; rw [List.length_take]; omega
theorem len_drop {α} (l : List α) : (l.drop (spl l.length)).length = l.length - spl l.length := List.length_drop
def rootL (node : ByteArray → ByteArray → ByteArray) (empty : ByteArray) (l : List ByteArray) : ByteArray :=
  if h0 : l.length = 0 then empty else if h1 : l.length = 1 then l.headD empty else
    node (rootL node empty (l.take (spl l.length))) (rootL node empty (l.drop (spl l.length)))
termination_by l.length
decreasing_by
  · have := spl_lt (show 2 ≤ l.length by omega); rw [List.length_take]; omega
  · have := spl_lt (show 2 ≤ l.length by omega); rw [List.length_drop]; omega
def pathL (node : ByteArray → ByteArray → ByteArray) (empty : ByteArray) (m : Nat) (l : List ByteArray) : List ByteArray :=
  if h : l.length ≤ 1 then [] else
    if m < spl l.length then pathL node empty m (l.take (spl l.length)) ++ [rootL node empty (l.drop (spl l.length))]
    else pathL node empty (m - spl l.length) (l.drop (spl l.length)) ++ [rootL node empty (l.take (spl l.length))]
termination_by l.length
decreasing_by
  · have := spl_lt (show 2 ≤ l.length by omega); rw [List.length_take]; omega
  · have := spl_lt (show 2 ≤ l.length by omega); rw [List.length_drop]; omega
def proofL (node : ByteArray → ByteArray → ByteArray) (empty : ByteArray) (m : Nat) (l : List ByteArray) (whole : Bool) : List ByteArray :=
  if h : m = l.length ∨ l.length ≤ 1 then (if whole then [] else [rootL node empty l]) else
    if m ≤ spl l.length then proofL node empty m (l.take (spl l.length)) whole ++ [rootL node empty (l.drop (spl l.length))]
    else proofL node empty (m - spl l.length) (l.drop (spl l.length)) false ++ [rootL node empty (l.take (spl l.length))]
termination_by l.length
decreasing_by
  · have := spl_lt (show 2 ≤ l.length by omega); rw [List.length_take]; omega
  · have := spl_lt (show 2 ≤ l.length by omega); rw [List.length_drop]; omega
def manyL (node : ByteArray → ByteArray → ByteArray) (empty : ByteArray) (b : Nat) (l : List ByteArray) (is : List Nat) : List ByteArray :=
  if (is.any fun i => b ≤ i ∧ i < b + l.length) = false then [rootL node empty l] else
  if h : l.length ≤ 1 then [] else
    manyL node empty b (l.take (spl l.length)) is ++ manyL node empty (b + spl l.length) (l.drop (spl l.length)) is
termination_by l.length
decreasing_by
  · have := spl_lt (show 2 ≤ l.length by omega); rw [List.length_take]; omega
  · have := spl_lt (show 2 ≤ l.length by omega); rw [List.length_drop]; omega

theorem rootL_split (node : ByteArray → ByteArray → ByteArray) (empty : ByteArray) {l : List ByteArray} (h : 2 ≤ l.length) :
    rootL node empty l = node (rootL node empty (l.take (spl l.length))) (rootL node empty (l.drop (spl l.length))) := by
  rw [rootL, dif_neg (by omega), dif_neg (by omega)]
theorem rootL_one (node : ByteArray → ByteArray → ByteArray) (empty x : ByteArray) : rootL node empty [x] = x := by
  rw [rootL, dif_neg (by simp), dif_pos (by simp)]; rfl
theorem rootL_nil (node : ByteArray → ByteArray → ByteArray) (empty : ByteArray) : rootL node empty [] = empty := by
  rw [rootL, dif_pos (by simp)]
theorem pathL_length (node : ByteArray → ByteArray → ByteArray) (empty : ByteArray) (n : Nat) : ∀ (m : Nat) (l : List ByteArray), l.length = n → (pathL node empty m l).length = (dn n m).length := by
  induction n using Nat.strongRecOn with
  | ind n ih =>
    intro m l hl
    rw [pathL, dn, hl]
    split
    · rfl
    · have := spl_lt (show 2 ≤ n by omega)
      split
      · simp [ih (spl n) (by omega) m (l.take (spl n)) (by rw [List.length_take]; omega)]
      · simp [ih (n - spl n) (by omega) (m - spl n) (l.drop (spl n)) (by rw [List.length_drop]; omega)]
/-- a path, gone up, is the root -/
theorem climb_path (node : ByteArray → ByteArray → ByteArray) (empty : ByteArray) (n : Nat) : ∀ (m : Nat) (l : List ByteArray) (x : ByteArray), l.length = n → l[m]? = some x →
    climbF node (dn n m) (pathL node empty m l) x = rootL node empty l := by
  induction n using Nat.strongRecOn with
  | ind n ih =>
    intro m l x hl hx
    have hm : m < n := by rw [← hl]; exact (List.getElem?_eq_some_iff.mp hx).1
    rw [pathL, dn, hl]
    by_cases h : n ≤ 1
    · rw [dif_pos h, dif_pos h]
      have hm0 : m = 0 := by omega
      subst hm0
      cases l with
      | nil => simp at hx
      | cons y t =>
        have ht : t = [] := by cases t with
          | nil => rfl
          | cons a b => simp at hl; omega
        subst ht
        simp at hx
        rw [rootL_one, hx]; rfl
    · have hs := spl_lt (show 2 ≤ n by omega)
      rw [dif_neg h, dif_neg h, rootL_split node empty (l := l) (by omega), hl]
      by_cases hlt : m < spl n
      · rw [if_pos hlt, if_pos hlt, climbF_snoc _ _ _ _ _ _ (by rw [pathL_length node empty (spl n)]; rw [List.length_take]; omega),
          ih (spl n) (by omega) m (l.take (spl n)) x (by rw [List.length_take]; omega) (by rw [List.getElem?_take, if_pos hlt]; exact hx)]
        rfl
      · rw [if_neg hlt, if_neg hlt, climbF_snoc _ _ _ _ _ _ (by rw [pathL_length node empty (n - spl n)]; rw [List.length_drop]; omega),
          ih (n - spl n) (by omega) (m - spl n) (l.drop (spl n)) x (by rw [List.length_drop]; omega) (by rw [List.getElem?_drop, show spl n + (m - spl n) = m by omega]; exact hx)]
        rfl
/-- what a proof's way begins with, and what it goes up by -/
def seedL (whole : Bool) (old : ByteArray) (p : List ByteArray) : ByteArray := if whole then old else p.headD old
def restL (whole : Bool) (p : List ByteArray) : List ByteArray := if whole then p else p.drop 1
theorem proofL_length (node : ByteArray → ByteArray → ByteArray) (empty : ByteArray) (n : Nat) : ∀ (m : Nat) (l : List ByteArray) (whole : Bool), l.length = n → (proofL node empty m l whole).length = toldN m n whole := by
  induction n using Nat.strongRecOn with
  | ind n ih =>
    intro m l whole hl
    rw [proofL, hl]
    by_cases h : m = n ∨ n ≤ 1
    · rw [dif_pos h]
      unfold toldN
      rw [fl, wh, dif_pos h, dif_pos h]
      cases whole <;> rfl
    · rw [dif_neg h]
      have := spl_lt (show 2 ≤ n by omega)
      split
      · rename_i hle
        rw [toldN_left whole (by omega) (by omega) hle, List.length_append, ih (spl n) (by omega) m (l.take (spl n)) whole (by rw [List.length_take]; omega)]; rfl
      · rename_i hle
        rw [toldN_right whole (by omega) (by omega) hle, List.length_append, ih (n - spl n) (by omega) (m - spl n) (l.drop (spl n)) false (by rw [List.length_drop]; omega)]; rfl
theorem rest_snoc (whole : Bool) (p : List ByteArray) (x : ByteArray) (h : whole = true ∨ p ≠ []) : restL whole (p ++ [x]) = restL whole p ++ [x] := by
  unfold restL
  cases whole with
  | true => rfl
  | false =>
    cases p with
    | nil => simp at h
    | cons a t => rfl
theorem seed_snoc (whole : Bool) (old : ByteArray) (p : List ByteArray) (x : ByteArray) (h : whole = true ∨ p ≠ []) : seedL whole old (p ++ [x]) = seedL whole old p := by
  unfold seedL
  cases whole with
  | true => rfl
  | false =>
    cases p with
    | nil => simp at h
    | cons a t => rfl
/-- a proof leads to both roots -/
theorem climb_proof (node : ByteArray → ByteArray → ByteArray) (empty : ByteArray) (n : Nat) : ∀ (m : Nat) (l : List ByteArray) (whole : Bool) (old : ByteArray), l.length = n → 1 ≤ m → m ≤ n →
    (wh m n whole = true → old = rootL node empty (l.take m)) →
    climbB node (fl m n) (restL (wh m n whole) (proofL node empty m l whole)) (seedL (wh m n whole) old (proofL node empty m l whole), seedL (wh m n whole) old (proofL node empty m l whole)) = (rootL node empty (l.take m), rootL node empty l) := by
  induction n using Nat.strongRecOn with
  | ind n ih =>
    intro m l whole old hl h1 h2 hold
    rw [proofL, hl]
    by_cases h : m = n ∨ n ≤ 1
    · have hmn : m = n := by omega
      rw [dif_pos h]
      rw [wh, dif_pos h] at hold ⊢
      rw [fl, dif_pos h]
      rw [hmn, ← hl, List.take_length] at hold ⊢
      cases whole with
      | true => simp [seedL, climbB, hold rfl]
      | false => simp [seedL, climbB]
    · rw [dif_neg h]
      have hs := spl_lt (show 2 ≤ n by omega)
      rw [wh, dif_neg h] at hold ⊢
      rw [fl, dif_neg h]
      by_cases hle : m ≤ spl n
      · rw [if_pos hle] at hold
        rw [if_pos hle, if_pos hle, if_pos hle]
        have hlen := proofL_length node empty (spl n) m (l.take (spl n)) whole (by rw [List.length_take]; omega)
        have htk : (l.take (spl n)).take m = l.take m := by rw [List.take_take, Nat.min_eq_left hle]
        have hne : wh m (spl n) whole = true ∨ proofL node empty m (l.take (spl n)) whole ≠ [] := by
          rcases Bool.eq_false_or_eq_true (wh m (spl n) whole) with hh | hh
          · exact Or.inl hh
          · right; intro hc; rw [hc] at hlen; unfold toldN at hlen; rw [hh] at hlen; simp at hlen
        have hr : (fl m (spl n)).length = (restL (wh m (spl n) whole) (proofL node empty m (l.take (spl n)) whole)).length := by
          unfold restL; unfold toldN at hlen
          split <;> simp_all
        rw [rest_snoc _ _ _ hne, seed_snoc _ _ _ _ hne, climbB_snoc _ _ _ _ _ _ hr,
          ih (spl n) (by omega) m (l.take (spl n)) whole old (by rw [List.length_take]; omega) h1 hle (by rw [htk]; exact hold), rootL_split node empty (l := l) (by omega), hl, htk]
        simp
      · rw [if_neg hle] at hold
        rw [if_neg hle, if_neg hle, if_neg hle, wh_false]
        rw [wh_false] at hold
        have hlen := proofL_length node empty (n - spl n) (m - spl n) (l.drop (spl n)) false (by rw [List.length_drop]; omega)
        have hne : proofL node empty (m - spl n) (l.drop (spl n)) false ≠ [] := by
          intro hc; rw [hc] at hlen; unfold toldN at hlen; rw [wh_false] at hlen; simp at hlen
        have hr : (fl (m - spl n) (n - spl n)).length = (restL false (proofL node empty (m - spl n) (l.drop (spl n)) false)).length := by
          unfold restL; unfold toldN at hlen; rw [wh_false] at hlen
          simp at hlen ⊢; omega
        have hih := ih (n - spl n) (by omega) (m - spl n) (l.drop (spl n)) false old (by rw [List.length_drop]; omega) (by omega) (by omega) (by rw [wh_false]; simp)
        rw [wh_false] at hih
        have hsp : spl m = spl n := by
          obtain ⟨i, e1, e2, e3⟩ := spl_pow (show 2 ≤ n by omega)
          rw [e1]
          exact spl_two i (by omega) (by omega)
        rw [rest_snoc _ _ _ (Or.inr hne), seed_snoc _ _ _ _ (Or.inr hne), climbB_snoc _ _ _ _ _ _ hr, hih, rootL_split node empty (l := l) (by omega), hl,
          rootL_split node empty (l := l.take m) (by rw [List.length_take]; omega)]
        have hlm : (l.take m).length = m := by rw [List.length_take]; omega
        rw [hlm, hsp, List.take_take, Nat.min_eq_left (by omega), List.drop_take]
        simp
end Go.Scr
