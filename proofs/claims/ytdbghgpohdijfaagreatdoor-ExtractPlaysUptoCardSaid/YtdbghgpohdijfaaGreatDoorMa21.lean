/- The right edge in plain Lean: complete subtrees side by side, each as great as may be; what a piece more does; the root. -/
import Derived.Test.YtdbghgpohdijfaaGreatDoorMa18
import Derived.Test.YtdbghgpohdijfaaGreatDoorMa11
import Derived.Test.YtdbghgpohdijfaaGreatDoorMa10
import Derived.Deep.RegionHeld3
import Derived.Deep.CutBlock
import Derived.LoopTactic
namespace Go.Scr
set_option linter.unusedVariables false
abbrev Pc := Nat × Nat × ByteArray
theorem two_le {a b : Nat} (h : a ≤ b) : 2 ^ a ≤ 2 ^ b := Nat.pow_le_pow_right (by decide) h
theorem two_lt {a b : Nat} (h : 2 ^ a < 2 ^ b) : a < b := (Nat.pow_lt_pow_iff_right (show 1 < 2 by decide)).1 h
theorem two_le' {a b : Nat} (h : 2 ^ a ≤ 2 ^ b) : a ≤ b := (Nat.pow_le_pow_iff_right (show 1 < 2 by decide)).1 h
theorem lt_two (a : Nat) : a < 2 ^ a := Nat.lt_two_pow_self
/-- the greatest level (at most k) of a subtree that begins at b and has at most d leaves -/
def lvG (b d : Nat) : Nat → Nat
  | 0 => 0
  | k + 1 => if 2 ^ (k + 1) ≤ d ∧ 2 ^ (k + 1) ∣ b then k + 1 else lvG b d k
def lvA (b d : Nat) : Nat := lvG b d d
theorem lvG_ok (b d : Nat) (hd : 1 ≤ d) : ∀ k, 2 ^ lvG b d k ≤ d ∧ 2 ^ lvG b d k ∣ b := by
  intro k
  induction k with
  | zero => exact ⟨by rw [lvG]; simpa using hd, by rw [lvG]; simp⟩
  | succ k ih =>
    rw [lvG]
    split
    · rename_i h; exact h
    · exact ih
theorem lvG_max (b d : Nat) : ∀ k l, l ≤ k → 2 ^ l ≤ d → 2 ^ l ∣ b → l ≤ lvG b d k := by
  intro k
  induction k with
  | zero => intro l h _ _; omega
  | succ k ih =>
    intro l h h1 h2
    rw [lvG]
    split
    · exact h
    · rename_i hn
      by_cases e : l = k + 1
      · subst e; exact absurd ⟨h1, h2⟩ hn
      · exact ih l (by omega) h1 h2
theorem lvA_le {b d : Nat} (hd : 1 ≤ d) : 2 ^ lvA b d ≤ d := (lvG_ok b d hd d).1
theorem lvA_dvd {b d : Nat} (hd : 1 ≤ d) : 2 ^ lvA b d ∣ b := (lvG_ok b d hd d).2
theorem lvA_max {b d l : Nat} (h1 : 2 ^ l ≤ d) (h2 : 2 ^ l ∣ b) : l ≤ lvA b d := lvG_max b d d l (by have := lt_two l; omega) h1 h2
theorem lvA_eq {b d l : Nat} (h1 : 2 ^ l ≤ d) (h2 : 2 ^ l ∣ b) (h3 : ∀ k, 2 ^ k ≤ d → 2 ^ k ∣ b → k ≤ l) : lvA b d = l := by
  have hd : 1 ≤ d := Nat.le_trans (Nat.pos_of_ne_zero (by simp)) h1
  exact Nat.le_antisymm (h3 _ (lvA_le hd) (lvA_dvd hd)) (lvA_max h1 h2)
/-- a span, cut into complete subtrees: where each begins, its level -/
def cutA (b e : Nat) : List (Nat × Nat) :=
  if h : b < e then (b, lvA b (e - b)) :: cutA (b + 2 ^ lvA b (e - b)) e else []
termination_by e - b
decreasing_by
  have : 0 < 2 ^ lvA b (e - b) := Nat.pos_of_ne_zero (by simp)
  omega
theorem cutA_nil {b e : Nat} (h : e ≤ b) : cutA b e = [] := by rw [cutA, dif_neg (by omega)]
theorem cutA_cons {b e : Nat} (h : b < e) : cutA b e = (b, lvA b (e - b)) :: cutA (b + 2 ^ lvA b (e - b)) e := by rw [cutA, dif_pos h]
theorem cutA_one {b l : Nat} (h : 2 ^ l ∣ b) : cutA b (b + 2 ^ l) = [(b, l)] := by
  have hp : 0 < 2 ^ l := Nat.pos_of_ne_zero (by simp)
  have e : lvA b (b + 2 ^ l - b) = l := lvA_eq (by omega) h (fun k hk _ => two_le' (by omega))
  rw [cutA_cons (by omega), e, cutA_nil (Nat.le_refl _)]
def rowA (val : Nat → Nat → ByteArray) (b e : Nat) : List Pc := (cutA b e).map fun x => (x.1, x.2, val x.1 x.2)
theorem rowA_nil {val : Nat → Nat → ByteArray} {b e : Nat} (h : e ≤ b) : rowA val b e = [] := by unfold rowA; rw [cutA_nil h]; rfl
theorem rowA_cons {val : Nat → Nat → ByteArray} {b e : Nat} (h : b < e) : rowA val b e = (b, lvA b (e - b), val b (lvA b (e - b))) :: rowA val (b + 2 ^ lvA b (e - b)) e := by unfold rowA; rw [cutA_cons h]; rfl
theorem rowA_one {val : Nat → Nat → ByteArray} {b l : Nat} (h : 2 ^ l ∣ b) : rowA val b (b + 2 ^ l) = [(b, l, val b l)] := by unfold rowA; rw [cutA_one h]; rfl
theorem rowA_ne {val : Nat → Nat → ByteArray} {b e : Nat} (h : b < e) : rowA val b e ≠ [] := by rw [rowA_cons h]; simp
/-- a piece behind the others (the last one first), and those that make a whole are joined -/
def pushR (nd : ByteArray → ByteArray → ByteArray) : List Pc → Pc → List Pc
  | [], p => [p]
  | a :: r, p => if a.2.1 = p.2.1 ∧ a.1 / 2 ^ a.2.1 % 2 = 0 then pushR nd r (a.1, a.2.1 + 1, nd a.2.2 p.2.2) else p :: a :: r
theorem pushR_ne (nd : ByteArray → ByteArray → ByteArray) : ∀ (r : List Pc) (p : Pc), pushR nd r p ≠ [] := by
  intro r
  induction r with
  | nil => intro p; simp [pushR]
  | cons a r ih =>
    intro p
    rw [pushR]
    split
    · exact ih _
    · simp
theorem pushR_snoc (nd : ByteArray → ByteArray → ByteArray) (f : Pc) : ∀ (r : List Pc) (p : Pc), pushR nd (r ++ [f]) p = (match pushR nd r p with
    | [q] => pushR nd [f] q
    | l => l ++ [f]) := by
  intro r
  induction r with
  | nil => intro p; rfl
  | cons a r ih =>
    intro p
    rw [List.cons_append, pushR, pushR]
    split
    · exact ih _
    · rfl
theorem even_dvd {b l : Nat} (h : 2 ^ l ∣ b) : b / 2 ^ l % 2 = 0 ↔ 2 ^ (l + 1) ∣ b := by
  have hp : 0 < 2 ^ l := Nat.pos_of_ne_zero (by simp)
  obtain ⟨q, rfl⟩ := h
  rw [Nat.mul_div_cancel_left _ hp, Nat.pow_succ]
  constructor
  · intro h
    obtain ⟨k, rfl⟩ := Nat.dvd_of_mod_eq_zero h
    exact ⟨k, by rw [Nat.mul_assoc]⟩
  · rintro ⟨k, hk⟩
    rw [Nat.mul_assoc] at hk
    rw [Nat.eq_of_mul_eq_mul_left hp hk]
    exact Nat.mul_mod_right 2 k
/-- the hash of a greater subtree is that of its halves -/
def NdV (nd : ByteArray → ByteArray → ByteArray) (val : Nat → Nat → ByteArray) (B E : Nat) : Prop := ∀ b l, B ≤ b → b + 2 ^ (l + 1) ≤ E → val b (l + 1) = nd (val b l) (val (b + 2 ^ l) l)
theorem pushR_row {nd : ByteArray → ByteArray → ByteArray} {val : Nat → Nat → ByteArray} {E l : Nat} (d : Nat) : ∀ b e, e - b = d → b ≤ e → 2 ^ l ∣ e → e + 2 ^ l ≤ E → NdV nd val b E → pushR nd (rowA val b e).reverse (e, l, val e l) = (rowA val b (e + 2 ^ l)).reverse := by
  induction d using Nat.strongRecOn with
  | ind d ih =>
  intro b e hd hbe hle hE hnd
  have hp : 0 < 2 ^ l := Nat.pos_of_ne_zero (by simp)
  rcases Nat.eq_or_lt_of_le hbe with rfl | hlt
  · rw [rowA_nil (Nat.le_refl _), rowA_one hle]
    rfl
  · obtain ⟨l1, hl1⟩ : ∃ x, x = lvA b (e - b) := ⟨_, rfl⟩
    have h1 : 2 ^ l1 ≤ e - b := by rw [hl1]; exact lvA_le (by omega)
    have h2 : 2 ^ l1 ∣ b := by rw [hl1]; exact lvA_dvd (by omega)
    have hp1 : 0 < 2 ^ l1 := Nat.pos_of_ne_zero (by simp)
    have hmx : ∀ k, 2 ^ k ≤ e - b → 2 ^ k ∣ b → k ≤ l1 := fun k a c => by rw [hl1]; exact lvA_max a c
    have IH := ih (e - (b + 2 ^ l1)) (by omega) (b + 2 ^ l1) e rfl (by omega) hle hE (fun x k hx hk => hnd x k (by omega) hk)
    rw [rowA_cons hlt, ← hl1, List.reverse_cons, pushR_snoc, IH]
    obtain ⟨l2, hl2⟩ : ∃ x, x = lvA b (e + 2 ^ l - b) := ⟨_, rfl⟩
    have g1 : 2 ^ l2 ≤ e + 2 ^ l - b := by rw [hl2]; exact lvA_le (by omega)
    have g2 : 2 ^ l2 ∣ b := by rw [hl2]; exact lvA_dvd (by omega)
    have g3 : l1 ≤ l2 := by rw [hl2]; exact lvA_max (by omega) h2
    rcases Nat.eq_or_lt_of_le g3 with heq | hgt
    · -- nothing is joined with the first piece
      have hrow : rowA val b (e + 2 ^ l) = (b, l1, val b l1) :: rowA val (b + 2 ^ l1) (e + 2 ^ l) := by rw [rowA_cons (by omega), ← hl2, ← heq]
      rw [hrow, List.reverse_cons]
      have hlt2 : b + 2 ^ l1 < e + 2 ^ l := by omega
      cases hr : (rowA val (b + 2 ^ l1) (e + 2 ^ l)).reverse with
      | nil => exact absurd (List.reverse_eq_nil_iff.1 hr) (rowA_ne hlt2)
      | cons q r =>
        cases r with
        | cons q2 r2 => rfl
        | nil =>
          have hq : rowA val (b + 2 ^ l1) (e + 2 ^ l) = [q] := by
            have := congrArg List.reverse hr
            simpa using this
          rw [rowA_cons hlt2] at hq
          injection hq with hq1 hq2
          obtain ⟨lq, hlq⟩ : ∃ x, x = lvA (b + 2 ^ l1) (e + 2 ^ l - (b + 2 ^ l1)) := ⟨_, rfl⟩
          rw [← hlq] at hq1 hq2
          have hend : e + 2 ^ l ≤ b + 2 ^ l1 + 2 ^ lq := by
            rcases Nat.lt_or_ge (b + 2 ^ l1 + 2 ^ lq) (e + 2 ^ l) with h | h
            · exact absurd hq2 (rowA_ne h)
            · exact h
          have hqle : 2 ^ lq ≤ e + 2 ^ l - (b + 2 ^ l1) := by rw [hlq]; exact lvA_le (by omega)
          show pushR nd [(b, l1, val b l1)] q = [q] ++ [(b, l1, val b l1)]
          rw [← hq1, pushR]
          rw [if_neg]
          · rfl
          · rintro ⟨c1, c2⟩
            have c1 : l1 = lq := c1
            have c2 : b / 2 ^ l1 % 2 = 0 := c2
            have c3 := (even_dvd h2).1 c2
            have hpp : 2 ^ (l1 + 1) = 2 ^ l1 + 2 ^ l1 := by rw [Nat.pow_succ]; omega
            have : l1 + 1 ≤ l2 := by rw [hl2]; exact lvA_max (by rw [hpp]; rw [← c1] at hqle; omega) c3
            omega
    · -- the first piece is joined: the whole ends there
      have hpp : 2 ^ (l1 + 1) = 2 ^ l1 + 2 ^ l1 := by rw [Nat.pow_succ]; omega
      have c3 : 2 ^ (l1 + 1) ∣ b := Nat.dvd_trans (Nat.pow_dvd_pow 2 hgt) g2
      have c4 : ¬ 2 ^ (l1 + 1) ≤ e - b := fun h => by have := hmx (l1 + 1) h c3; omega
      have c5 : 2 ^ (l1 + 1) ≤ e + 2 ^ l - b := Nat.le_trans (two_le hgt) g1
      have hll : l ≤ l1 := by
        rcases Nat.lt_or_ge l1 l with h | h
        · exfalso
          have d1 : 2 ^ (l1 + 1) ∣ e := Nat.dvd_trans (Nat.pow_dvd_pow 2 h) hle
          have d2 : 2 ^ (l1 + 1) ∣ e - b := Nat.dvd_sub d1 c3
          have := Nat.le_of_dvd (by omega) d2
          omega
        · exact h
      have d3 : 2 ^ l ∣ b + 2 ^ (l1 + 1) := Nat.dvd_add (Nat.dvd_trans (Nat.pow_dvd_pow 2 (by omega)) c3) (Nat.pow_dvd_pow 2 (by omega))
      have d4 : 2 ^ l ∣ b + 2 ^ (l1 + 1) - e := Nat.dvd_sub d3 hle
      have d5 := Nat.le_of_dvd (by omega) d4
      have hend : e + 2 ^ l = b + 2 ^ l1 + 2 ^ l1 := by omega
      have d6 : 2 ^ l1 ∣ b + 2 ^ l1 := Nat.dvd_add h2 (Nat.dvd_refl _)
      have hw : e + 2 ^ l = b + 2 ^ (l1 + 1) := by omega
      rw [hw, rowA_one c3]
      have hw2 : b + 2 ^ (l1 + 1) = b + 2 ^ l1 + 2 ^ l1 := by omega
      rw [hw2, rowA_one d6]
      show pushR nd [(b, l1, val b l1)] (b + 2 ^ l1, l1, val (b + 2 ^ l1) l1) = [(b, l1 + 1, val b (l1 + 1))]
      rw [pushR, if_pos ⟨rfl, (even_dvd h2).2 c3⟩, pushR, hnd b l1 (Nat.le_refl _) (by omega)]
/-- the root by pieces: from the last one on -/
def rootA (nd : ByteArray → ByteArray → ByteArray) : List Pc → ByteArray
  | [] => ⟨#[]⟩
  | [p] => p.2.2
  | p :: q :: r => nd p.2.2 (rootA nd (q :: r))
theorem rootA_cons (nd : ByteArray → ByteArray → ByteArray) (p : Pc) {l : List Pc} (h : l ≠ []) : rootA nd (p :: l) = nd p.2.2 (rootA nd l) := by
  cases l with
  | nil => exact absurd rfl h
  | cons q r => rfl
end Go.Scr
namespace Go.Proofs.YtdbghgpohdijfaaGreatDoor
open Go.RowKit Go.Scr Go.ChangeMaps Go.MapKept
set_option linter.unusedVariables false
/-- the hash of a subtree over leaves whose first one has the place f -/
def valF (L : List ByteArray) (f b l : Nat) : ByteArray := partL L (b - f) (b - f + 2 ^ l)
theorem valF_nd (L : List ByteArray) (f : Nat) : NdV nodeS (valF L f) f (f + L.length) := by
  intro b l hb he
  have hpp : 2 ^ (l + 1) = 2 ^ l + 2 ^ l := by rw [Nat.pow_succ]; omega
  have hp := two_pos l
  unfold valF
  rw [partL_two (m := 2 ^ l) (by omega) (by omega) (by rw [show b - f + 2 ^ (l + 1) - (b - f) = 2 ^ (l + 1) by omega]; exact (spl_of (by omega) (Nat.le_refl _)).symm)]
  rw [show b + 2 ^ l - f = b - f + 2 ^ l by omega, hpp, Nat.add_assoc]
theorem rootA_row {L : List ByteArray} (d : Nat) : ∀ b, 1 ≤ d → b + d ≤ L.length → (b = 0 ∨ ∃ K, d ≤ 2 ^ K ∧ 2 ^ K ∣ b) → rootA nodeS (rowA (valF L 0) b (b + d)) = partL L b (b + d) := by
  induction d using Nat.strongRecOn with
  | ind d ih =>
  intro b hd he hk
  obtain ⟨k, k1, k2⟩ : ∃ k, 2 ^ k ≤ d ∧ d < 2 ^ (k + 1) := by
    refine ⟨Nat.log2 d, Nat.log2_self_le (by omega), Nat.lt_log2_self⟩
  have hp := two_pos k
  have hdv : 2 ^ k ∣ b := by
    rcases hk with rfl | ⟨K, q1, q2⟩
    · exact Nat.dvd_zero _
    · exact Nat.dvd_trans (Nat.pow_dvd_pow 2 (two_le' (Nat.le_trans k1 q1))) q2
  have hlv : lvA b (b + d - b) = k := lvA_eq (by omega) hdv (fun j hj _ => by have := two_lt (Nat.lt_of_le_of_lt (show 2 ^ j ≤ d by omega) k2); omega)
  rw [rowA_cons (by omega), hlv]
  by_cases e : d = 2 ^ k
  · rw [e, rowA_nil (Nat.le_refl _)]
    show valF L 0 b k = _
    unfold valF
    rw [Nat.sub_zero]
  · have hpp : 2 ^ (k + 1) = 2 ^ k + 2 ^ k := by rw [Nat.pow_succ]; omega
    rw [rootA_cons _ _ (rowA_ne (by omega)), show b + d = b + 2 ^ k + (d - 2 ^ k) by omega, ih (d - 2 ^ k) (by omega) (b + 2 ^ k) (by omega) (by omega) (.inr ⟨k, by omega, Nat.dvd_add hdv (Nat.dvd_refl _)⟩)]
    rw [show b + 2 ^ k + (d - 2 ^ k) = b + d by omega, partL_two (b := b) (e := b + d) (m := 2 ^ k) (by omega) he (by rw [show b + d - b = d by omega]; exact (spl_of (by omega) (by omega)).symm)]
    congr 1
end Go.Proofs.YtdbghgpohdijfaaGreatDoor
/- Complete subtrees side by side, in memory. -/
namespace Go.Scr
def pcV1 (x : Pc) : List Value := [.int .i64 (x.1 : Int), .int .i64 (x.2.1 : Int), .string x.2.2]
def pcV (K : List Pc) : List Value := (K.map pcV1).flatten
theorem pcV_append (A B : List Pc) : pcV (A ++ B) = pcV A ++ pcV B := by simp [pcV]
theorem pcV_cons (a : Pc) (K : List Pc) : pcV (a :: K) = .int .i64 (a.1 : Int) :: .int .i64 (a.2.1 : Int) :: .string a.2.2 :: pcV K := by simp [pcV, pcV1]
theorem pcV_one (a : Pc) : pcV [a] = [.int .i64 (a.1 : Int), .int .i64 (a.2.1 : Int), .string a.2.2] := by simp [pcV, pcV1]
theorem pcV_length (K : List Pc) : (pcV K).length = K.length * 3 := by
  induction K with
  | nil => rfl
  | cons a K ih => rw [pcV_cons]; simp [ih]; omega
theorem pcV_get {K : List Pc} : ∀ {j : Nat} {x : Pc}, K[j]? = some x → (pcV K)[j * 3]? = some (.int .i64 (x.1 : Int)) ∧ (pcV K)[j * 3 + 1]? = some (.int .i64 (x.2.1 : Int)) ∧ (pcV K)[j * 3 + 1 + 1]? = some (.string x.2.2) := by
  induction K with
  | nil => intro j x h; simp at h
  | cons a K ih =>
    intro j x h
    cases j with
    | zero =>
      simp at h
      subst h
      rw [pcV_cons]
      simp
    | succ j =>
      have := ih (j := j) (x := x) (by simpa using h)
      have e : ∀ i, (pcV (a :: K))[i + 3]? = (pcV K)[i]? := fun i => by rw [pcV_cons]; rfl
      rw [show (j + 1) * 3 = j * 3 + 3 by omega, show j * 3 + 3 + 1 = (j * 3 + 1) + 3 by omega, show (j * 3 + 1) + 3 + 1 = (j * 3 + 1 + 1) + 3 by omega, e, e, e]
      exact this
theorem pcV_oneCell (K : List Pc) : ∀ u ∈ pcV K, u.oneCell' = true := by
  intro u hu
  obtain ⟨l, hl, hul⟩ := List.mem_flatten.1 hu
  obtain ⟨x, _, rfl⟩ := List.mem_map.1 hl
  simp only [pcV1, List.mem_cons, List.not_mem_nil, or_false] at hul
  rcases hul with rfl | rfl | rfl <;> rfl
end Go.Scr
namespace Go.Proofs.YtdbghgpohdijfaaGreatDoor
open Go.RowKit Go.Scr Go.ChangeMaps Go.MapKept
set_option linter.unusedVariables false
abbrev rowP (eb : Nat) : Value := .pointer (some ⟨eb, 0, none⟩)
abbrev pcA (p : Pc) : Value := .agg #[.int .i64 (p.1 : Int), .int .i64 (p.2.1 : Int), .string p.2.2]
def ebQ (eb : Nat) (v : Value) : Nat → Prop := fun g => g = eb ∨ v.ownBlock = some g
end Go.Proofs.YtdbghgpohdijfaaGreatDoor
/- A piece pushed: walked. -/
namespace Go.Proofs.YtdbghgpohdijfaaGreatDoor
open Go.RowKit Go.Scr Go.ChangeMaps Go.MapKept
set_option linter.unusedVariables false
theorem held_cellP {w : World} {T sz n k c : Nat} {p : Option Addr} {xs : List Value} (h : Held w T sz (.slice p n c) k xs) (hn : 0 < k) : ∃ g, p = some ⟨g, 0, none⟩ ∧ ∀ k u, xs[k]? = some u → w.cell? ⟨g, k, none⟩ = some u := by
  obtain ⟨p', c', hpe, _, _, hce⟩ := h.cells
  obtain rfl : p = p' := by cases hpe; rfl
  obtain ⟨g, rfl⟩ : ∃ g, p = some ⟨g, 0, none⟩ := by
    rcases h.2 with ⟨e, h0⟩ | ⟨g, _, _, e, _⟩
    · omega
    · exact ⟨g, by cases e; rfl⟩
  refine ⟨g, rfl, fun k u hk => ?_⟩
  obtain ⟨a, ha, _, hc⟩ := hce k u hk
  cases ha
  have hadd : (⟨g, 0, none⟩ : Addr).add k = ⟨g, k, none⟩ := by unfold Addr.add; split <;> simp_all
  rw [hadd] at hc
  exact hc
theorem alloc_two (w : World) (a b : Obj) : ((w.alloc a).alloc b).heap[w.heap.size + 1]? = some b := by
  have := heap_alloc_new (w.alloc a) b
  rwa [show (w.alloc a).heap.size = w.heap.size + 1 by simp] at this
theorem rev_take (a b : Pc) (r : List Pc) {i : Nat} (h : i = r.length) : ((a :: b :: r).reverse).take i = r.reverse := by
  subst h
  rw [List.reverse_cons, List.reverse_cons, List.append_assoc]
  exact List.take_left' (by simp)
theorem Chg.ext {w wr w' : World} {eb : Nat} {v v' : Value} (h : Chg (ebQ eb v) w wr) (k : Chg (ebQ eb v') wr w') (own : ∀ q, v'.ownBlock = some q → v.ownBlock = some q ∨ w.heap.size ≤ q) : Chg (ebQ eb v) w w' :=
  ⟨k.os.trans h.os, k.tape.trans h.tape, k.output.trans h.output, Nat.le_trans h.size k.size, fun i hi hn => (k.same i (Nat.lt_of_lt_of_le hi h.size) (fun e => hn (e.imp id (fun e2 => (own i e2).resolve_right (by omega))))).trans (h.same i hi hn)⟩
theorem Chg.below_to {Q : Nat → Prop} {a b c : World} (hb : Below a.heap.size a b) (h : Chg Q b c) : Chg Q a c := (Chg.of_below hb).trans h
end Go.Proofs.YtdbghgpohdijfaaGreatDoor
