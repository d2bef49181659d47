/- The right edge in plain Lean: complete subtrees side by side, each as great as may be; what a piece more does; the root. -/
import Derived.Test.YtdbghgpohdijfaaDoorMa23
import Derived.Test.YtdbghgpohdijfaaDoorMa14
import Derived.Test.YtdbghgpohdijfaaDoorMa11
import Derived.Test.YtdbghgpohdijfaaDoorMa21
import Derived.Deep.RegionHeld3
import Derived.Deep.CutBlock
import Derived.LoopTactic
namespace Go.Scr
set_option linter.unusedVariables false
abbrev Pc := Nat × Nat × ByteArray
theorem two_le {a b : Nat} (h : a ≤ b) : 2 ^ a ≤ 2 ^ b := Nat.pow_le_pow_right (by decide) h
theorem two_lt {a b : Nat} (h : 2 ^ a < 2 ^ b) : a < b := (Nat.pow_lt_pow_iff_right (show 1 < 2 by decide)).1 h
theorem two_le' {a b : Nat} (h : 2 ^ a ≤ 2 ^ b) : a ≤ b := (Nat.pow_le_pow_iff_right (show 1 < 2 by decide)).1 h
theorem lt_two (a : Nat) : a < 2 ^ a := Nat.lt_two_pow_self
/-- the greatest level (at most k) of a subtree that begins at b and has at most d leaves -/
def lvG (b d : Nat) : Nat → Nat
  | 0 => 0
  | k + 1 => if 2 ^ (k + 1) ≤ d ∧ 2 ^ (k + 1) ∣ b then k + 1 else lvG b d k
def lvA (b d : Nat) : Nat := lvG b d d
theorem lvG_ok (b d : Nat) (hd : 1 ≤ d) : ∀ k, 2 ^ lvG b d k ≤ d ∧ 2 ^ lvG b d k ∣ b := by
  intro k
  induction k with
  | zero => exact ⟨by rw [lvG]; simpa using hd, by rw [lvG]; simp⟩
  | succ k ih =>
    rw [lvG]
    split
    · rename_i h; exact h
    · exact ih
theorem lvG_max (b d : Nat) : ∀ k l, l ≤ k → 2 ^ l ≤ d → 2 ^ l ∣ b → l ≤ lvG b d k := by
  intro k
  induction k with
  | zero => intro l h _ _; omega
  | succ k ih =>
    intro l h h1 h2
    rw [lvG]
    split
    · exact h
    · rename_i hn
      by_cases e : l = k + 1
      · subst e; exact absurd ⟨h1, h2⟩ hn
      · exact ih l (by omega) h1 h2
theorem lvA_le {b d : Nat} (hd : 1 ≤ d) : 2 ^ lvA b d ≤ d := (lvG_ok b d hd d).1
theorem lvA_dvd {b d : Nat} (hd : 1 ≤ d) : 2 ^ lvA b d ∣ b := (lvG_ok b d hd d).2
theorem lvA_max {b d l : Nat} (h1 : 2 ^ l ≤ d) (h2 : 2 ^ l ∣ b) : l ≤ lvA b d := lvG_max b d d l (by have := lt_two l; omega) h1 h2
theorem lvA_eq {b d l : Nat} (h1 : 2 ^ l ≤ d) (h2 : 2 ^ l ∣ b) (h3 : ∀ k, 2 ^ k ≤ d → 2 ^ k ∣ b → k ≤ l) : lvA b d = l := by
  have hd : 1 ≤ d := Nat.le_trans (Nat.pos_of_ne_zero (by simp)) h1
  exact Nat.le_antisymm (h3 _ (lvA_le hd) (lvA_dvd hd)) (lvA_max h1 h2)
/-- a span, cut into complete subtrees: where each begins, its level -/
def cutA (b e : Nat) : List (Nat × Nat) :=
  if h : b < e then (b, lvA b (e - b)) :: cutA (b + 2 ^ lvA b (e - b)) e else []
termination_by e - b
decreasing_by
  have : 0 < 2 ^ lvA b (e - b) := Nat.pos_of_ne_zero (by simp)
  omega
theorem cutA_nil {b e : Nat} (h : e ≤ b) : cutA b e = [] := by rw [cutA, dif_neg (by omega)]
theorem cutA_cons {b e : Nat} (h : b < e) : cutA b e = (b, lvA b (e - b)) :: cutA (b + 2 ^ lvA b (e - b)) e := by rw [cutA, dif_pos h]
theorem cutA_one {b l : Nat} (h : 2 ^ l ∣ b) : cutA b (b + 2 ^ l) = [(b, l)] := by
  have hp : 0 < 2 ^ l := Nat.pos_of_ne_zero (by simp)
  have e : lvA b (b + 2 ^ l - b) = l := lvA_eq (by omega) h (fun k hk _ => two_le' (by omega))
  rw [cutA_cons (by omega), e, cutA_nil (Nat.le_refl _)]
def rowA (val : Nat → Nat → ByteArray) (b e : Nat) : List Pc := (cutA b e).map fun x => (x.1, x.2, val x.1 x.2)
theorem rowA_nil {val : Nat → Nat → ByteArray} {b e : Nat} (h : e ≤ b) : rowA val b e = [] := by unfold rowA; rw [cutA_nil h]; rfl
theorem rowA_cons {val : Nat → Nat → ByteArray} {b e : Nat} (h : b < e) : rowA val b e = (b, lvA b (e - b), val b (lvA b (e - b))) :: rowA val (b + 2 ^ lvA b (e - b)) e := by unfold rowA; rw [cutA_cons h]; rfl
theorem rowA_one {val : Nat → Nat → ByteArray} {b l : Nat} (h : 2 ^ l ∣ b) : rowA val b (b + 2 ^ l) = [(b, l, val b l)] := by unfold rowA; rw [cutA_one h]; rfl
theorem rowA_ne {val : Nat → Nat → ByteArray} {b e : Nat} (h : b < e) : rowA val b e ≠ [] := by rw [rowA_cons h]; simp
/-- a piece behind the others (the last one first), and those that make a whole are joined -/
def pushR (nd : ByteArray → ByteArray → ByteArray) : List Pc → Pc → List Pc
  | [], p => [p]
  | a :: r, p => if a.2.1 = p.2.1 ∧ a.1 / 2 ^ a.2.1 % 2 = 0 then pushR nd r (a.1, a.2.1 + 1, nd a.2.2 p.2.2) else p :: a :: r
theorem pushR_snoc (nd : ByteArray → ByteArray → ByteArray) (f : Pc) : ∀ (r : List Pc) (p : Pc), pushR nd (r ++ [f]) p = (match pushR nd r p with
    | [q] => pushR nd [f] q
    | l => l ++ [f]) := by
  intro r
  induction r with
  | nil => intro p; rfl
  | cons a r ih =>
    intro p
    rw [List.cons_append, pushR, pushR]
    split
    · exact ih _
    · rfl
theorem even_dvd {b l : Nat} (h : 2 ^ l ∣ b) : b / 2 ^ l % 2 = 0 ↔ 2 ^ (l + 1) ∣ b := by
  have hp : 0 < 2 ^ l := Nat.pos_of_ne_zero (by simp)
  obtain ⟨q, rfl⟩ := h
  rw [Nat.mul_div_cancel_left _ hp, Nat.pow_succ]
  constructor
  · intro h
    obtain ⟨k, rfl⟩ := Nat.dvd_of_mod_eq_zero h
    exact ⟨k, by rw [Nat.mul_assoc]⟩
  · rintro ⟨k, hk⟩
    rw [Nat.mul_assoc] at hk
    rw [Nat.eq_of_mul_eq_mul_left hp hk]
    exact Nat.mul_mod_right 2 k
/-- the hash of a greater subtree is that of its halves -/
def NdV (nd : ByteArray → ByteArray → ByteArray) (val : Nat → Nat → ByteArray) (B E : Nat) : Prop := ∀ b l, B ≤ b → b + 2 ^ (l + 1) ≤ E → val b (l + 1) = nd (val b l) (val (b + 2 ^ l) l)
theorem pushR_row {nd : ByteArray → ByteArray → ByteArray} {val : Nat → Nat → ByteArray} {E l : Nat} (d : Nat) : ∀ b e, e - b = d → b ≤ e → 2 ^ l ∣ e → e + 2 ^ l ≤ E → NdV nd val b E → pushR nd (rowA val b e).reverse (e, l, val e l) = (rowA val b (e + 2 ^ l)).reverse := by
  induction d using Nat.strongRecOn with
  | ind d ih =>
  intro b e hd hbe hle hE hnd
  have hp : 0 < 2 ^ l := Nat.pos_of_ne_zero (by simp)
  rcases Nat.eq_or_lt_of_le hbe with rfl | hlt
  · rw [rowA_nil (Nat.le_refl _), rowA_one hle]
    rfl
  · obtain ⟨l1, hl1⟩ : ∃ x, x = lvA b (e - b) := ⟨_, rfl⟩
    have h1 : 2 ^ l1 ≤ e - b := by rw [hl1]; exact lvA_le (by omega)
    have h2 : 2 ^ l1 ∣ b := by rw [hl1]; exact lvA_dvd (by omega)
    have hp1 : 0 < 2 ^ l1 := Nat.pos_of_ne_zero (by simp)
    have hmx : ∀ k, 2 ^ k ≤ e - b → 2 ^ k ∣ b → k ≤ l1 := fun k a c => by rw [hl1]; exact lvA_max a c
    have IH := ih (e - (b + 2 ^ l1)) (by omega) (b + 2 ^ l1) e rfl (by omega) hle hE (fun x k hx hk => hnd x k (by omega) hk)
    rw [rowA_cons hlt, ← hl1, List.reverse_cons, pushR_snoc, IH]
    obtain ⟨l2, hl2⟩ : ∃ x, x = lvA b (e + 2 ^ l - b) := ⟨_, rfl⟩
    have g1 : 2 ^ l2 ≤ e + 2 ^ l - b := by rw [hl2]; exact lvA_le (by omega)
    have g2 : 2 ^ l2 ∣ b := by rw [hl2]; exact lvA_dvd (by omega)
    have g3 : l1 ≤ l2 := by rw [hl2]; exact lvA_max (by omega) h2
    rcases Nat.eq_or_lt_of_le g3 with heq | hgt
    · -- nothing is joined with the first piece
      have hrow : rowA val b (e + 2 ^ l) = (b, l1, val b l1) :: rowA val (b + 2 ^ l1) (e + 2 ^ l) := by rw [rowA_cons (by omega), ← hl2, ← heq]
      rw [hrow, List.reverse_cons]
      have hlt2 : b + 2 ^ l1 < e + 2 ^ l := by omega
      cases hr : (rowA val (b + 2 ^ l1) (e + 2 ^ l)).reverse with
      | nil => exact absurd (List.reverse_eq_nil_iff.1 hr) (rowA_ne hlt2)
      | cons q r =>
        cases r with
        | cons q2 r2 => rfl
        | nil =>
          have hq : rowA val (b + 2 ^ l1) (e + 2 ^ l) = [q] := by
            have := congrArg List.reverse hr
            simpa using this
          rw [rowA_cons hlt2] at hq
          injection hq with hq1 hq2
          obtain ⟨lq, hlq⟩ : ∃ x, x = lvA (b + 2 ^ l1) (e + 2 ^ l - (b + 2 ^ l1)) := ⟨_, rfl⟩
          rw [← hlq] at hq1 hq2
          have hend : e + 2 ^ l ≤ b + 2 ^ l1 + 2 ^ lq := by
            rcases Nat.lt_or_ge (b + 2 ^ l1 + 2 ^ lq) (e + 2 ^ l) with h | h
            · exact absurd hq2 (rowA_ne h)
            · exact h
          have hqle : 2 ^ lq ≤ e + 2 ^ l - (b + 2 ^ l1) := by rw [hlq]; exact lvA_le (by omega)
          show pushR nd [(b, l1, val b l1)] q = [q] ++ [(b, l1, val b l1)]
          rw [← hq1, pushR]
          rw [if_neg]
          · rfl
          · rintro ⟨c1, c2⟩
            have c1 : l1 = lq := c1
            have c2 : b / 2 ^ l1 % 2 = 0 := c2
            have c3 := (even_dvd h2).1 c2
            have hpp : 2 ^ (l1 + 1) = 2 ^ l1 + 2 ^ l1 := by rw [Nat.pow_succ]; omega
            have : l1 + 1 ≤ l2 := by rw [hl2]; exact lvA_max (by rw [hpp]; rw [← c1] at hqle; omega) c3
            omega
    · -- the first piece is joined: the whole ends there
      have hpp : 2 ^ (l1 + 1) = 2 ^ l1 + 2 ^ l1 := by rw [Nat.pow_succ]; omega
      have c3 : 2 ^ (l1 + 1) ∣ b := Nat.dvd_trans (Nat.pow_dvd_pow 2 hgt) g2
      have c4 : ¬ 2 ^ (l1 + 1) ≤ e - b := fun h => by have := hmx (l1 + 1) h c3; omega
      have c5 : 2 ^ (l1 + 1) ≤ e + 2 ^ l - b := Nat.le_trans (two_le hgt) g1
      have hll : l ≤ l1 := by
        rcases Nat.lt_or_ge l1 l with h | h
        · exfalso
          have d1 : 2 ^ (l1 + 1) ∣ e := Nat.dvd_trans (Nat.pow_dvd_pow 2 h) hle
          have d2 : 2 ^ (l1 + 1) ∣ e - b := Nat.dvd_sub d1 c3
          have := Nat.le_of_dvd (by omega) d2
          omega
        · exact h
      have d3 : 2 ^ l ∣ b + 2 ^ (l1 + 1) := Nat.dvd_add (Nat.dvd_trans (Nat.pow_dvd_pow 2 (by omega)) c3) (Nat.pow_dvd_pow 2 (by omega))
      have d4 : 2 ^ l ∣ b + 2 ^ (l1 + 1) - e := Nat.dvd_sub d3 hle
      have d5 := Nat.le_of_dvd (by omega) d4
      have hend : e + 2 ^ l = b + 2 ^ l1 + 2 ^ l1 := by omega
      have d6 : 2 ^ l1 ∣ b + 2 ^ l1 := Nat.dvd_add h2 (Nat.dvd_refl _)
      have hw : e + 2 ^ l = b + 2 ^ (l1 + 1) := by omega
      rw [hw, rowA_one c3]
      have hw2 : b + 2 ^ (l1 + 1) = b + 2 ^ l1 + 2 ^ l1 := by omega
      rw [hw2, rowA_one d6]
      show pushR nd [(b, l1, val b l1)] (b + 2 ^ l1, l1, val (b + 2 ^ l1) l1) = [(b, l1 + 1, val b (l1 + 1))]
      rw [pushR, if_pos ⟨rfl, (even_dvd h2).2 c3⟩, pushR, hnd b l1 (Nat.le_refl _) (by omega)]
/-- the root by pieces: from the last one on -/
def rootA (nd : ByteArray → ByteArray → ByteArray) : List Pc → ByteArray
  | [] => ⟨#[]⟩
  | [p] => p.2.2
  | p :: q :: r => nd p.2.2 (rootA nd (q :: r))
theorem rootA_cons (nd : ByteArray → ByteArray → ByteArray) (p : Pc) {l : List Pc} (h : l ≠ []) : rootA nd (p :: l) = nd p.2.2 (rootA nd l) := by
  cases l with
  | nil => exact absurd rfl h
  | cons q r => rfl
end Go.Scr
namespace Go.Proofs.YtdbghgpohdijfaaDoor
open Go.RowKit Go.Scr Go.ChangeMaps Go.MapKept
set_option linter.unusedVariables false
/-- the hash of a subtree over leaves whose first one has the place f -/
def valF (L : List ByteArray) (f b l : Nat) : ByteArray := partL L (b - f) (b - f + 2 ^ l)
theorem valF_nd (L : List ByteArray) (f : Nat) : NdV nodeS (valF L f) f (f + L.length) := by
  intro b l hb he
  have hpp : 2 ^ (l + 1) = 2 ^ l + 2 ^ l := by rw [Nat.pow_succ]; omega
  have hp := two_pos l
  unfold valF
  rw [partL_two (m := 2 ^ l) (by omega) (by omega) (by rw [show b - f + 2 ^ (l + 1) - (b - f) = 2 ^ (l + 1) by omega]; exact (spl_of (by omega) (Nat.le_refl _)).symm)]
  rw [show b + 2 ^ l - f = b - f + 2 ^ l by omega, hpp, Nat.add_assoc]
theorem rootA_row {L : List ByteArray} (d : Nat) : ∀ b, 1 ≤ d → b + d ≤ L.length → (b = 0 ∨ ∃ K, d ≤ 2 ^ K ∧ 2 ^ K ∣ b) → rootA nodeS (rowA (valF L 0) b (b + d)) = partL L b (b + d) := by
  induction d using Nat.strongRecOn with
  | ind d ih =>
  intro b hd he hk
  obtain ⟨k, k1, k2⟩ : ∃ k, 2 ^ k ≤ d ∧ d < 2 ^ (k + 1) := by
    refine ⟨Nat.log2 d, Nat.log2_self_le (by omega), Nat.lt_log2_self⟩
  have hp := two_pos k
  have hdv : 2 ^ k ∣ b := by
    rcases hk with rfl | ⟨K, q1, q2⟩
    · exact Nat.dvd_zero _
    · exact Nat.dvd_trans (Nat.pow_dvd_pow 2 (two_le' (Nat.le_trans k1 q1))) q2
  have hlv : lvA b (b + d - b) = k := lvA_eq (by omega) hdv (fun j hj _ => by have := two_lt (Nat.lt_of_le_of_lt (show 2 ^ j ≤ d by omega) k2); omega)
  rw [rowA_cons (by omega), hlv]
  by_cases e : d = 2 ^ k
  · rw [e, rowA_nil (Nat.le_refl _)]
    show valF L 0 b k = _
    unfold valF
    rw [Nat.sub_zero]
  · have hpp : 2 ^ (k + 1) = 2 ^ k + 2 ^ k := by rw [Nat.pow_succ]; omega
    rw [rootA_cons _ _ (rowA_ne (by omega)), show b + d = b + 2 ^ k + (d - 2 ^ k) by omega, ih (d - 2 ^ k) (by omega) (b + 2 ^ k) (by omega) (by omega) (.inr ⟨k, by omega, Nat.dvd_add hdv (Nat.dvd_refl _)⟩)]
    rw [show b + 2 ^ k + (d - 2 ^ k) = b + d by omega, partL_two (b := b) (e := b + d) (m := 2 ^ k) (by omega) he (by rw [show b + d - b = d by omega]; exact (spl_of (by omega) (by omega)).symm)]
    congr 1
end Go.Proofs.YtdbghgpohdijfaaDoor
/- Complete subtrees side by side, in memory. -/
namespace Go.Scr
def pcV1 (x : Pc) : List Value := [.int .i64 (x.1 : Int), .int .i64 (x.2.1 : Int), .string x.2.2]
def pcV (K : List Pc) : List Value := (K.map pcV1).flatten
theorem pcV_append (A B : List Pc) : pcV (A ++ B) = pcV A ++ pcV B := by simp [pcV]
theorem pcV_cons (a : Pc) (K : List Pc) : pcV (a :: K) = .int .i64 (a.1 : Int) :: .int .i64 (a.2.1 : Int) :: .string a.2.2 :: pcV K := by simp [pcV, pcV1]
theorem pcV_one (a : Pc) : pcV [a] = [.int .i64 (a.1 : Int), .int .i64 (a.2.1 : Int), .string a.2.2] := by simp [pcV, pcV1]
theorem pcV_length (K : List Pc) : (pcV K).length = K.length * 3 := by
  induction K with
  | nil => rfl
  | cons a K ih => rw [pcV_cons]; simp [ih]; omega
theorem pcV_get {K : List Pc} : ∀ {j : Nat} {x : Pc}, K[j]? = some x → (pcV K)[j * 3]? = some (.int .i64 (x.1 : Int)) ∧ (pcV K)[j * 3 + 1]? = some (.int .i64 (x.2.1 : Int)) ∧ (pcV K)[j * 3 + 1 + 1]? = some (.string x.2.2) := by
  induction K with
  | nil => intro j x h; simp at h
  | cons a K ih =>
    intro j x h
    cases j with
    | zero =>
      simp at h
      subst h
      rw [pcV_cons]
      simp
    | succ j =>
      have := ih (j := j) (x := x) (by simpa using h)
      have e : ∀ i, (pcV (a :: K))[i + 3]? = (pcV K)[i]? := fun i => by rw [pcV_cons]; rfl
      rw [show (j + 1) * 3 = j * 3 + 3 by omega, show j * 3 + 3 + 1 = (j * 3 + 1) + 3 by omega, show (j * 3 + 1) + 3 + 1 = (j * 3 + 1 + 1) + 3 by omega, e, e, e]
      exact this
theorem pcV_oneCell (K : List Pc) : ∀ u ∈ pcV K, u.oneCell' = true := by
  intro u hu
  obtain ⟨l, hl, hul⟩ := List.mem_flatten.1 hu
  obtain ⟨x, _, rfl⟩ := List.mem_map.1 hl
  simp only [pcV1, List.mem_cons, List.not_mem_nil, or_false] at hul
  rcases hul with rfl | rfl | rfl <;> rfl
end Go.Scr
namespace Go.Proofs.YtdbghgpohdijfaaDoor
open Go.RowKit Go.Scr Go.ChangeMaps Go.MapKept
set_option linter.unusedVariables false
theorem info_pc : (Tryd.prog.info? 115).map (fun i => (i.zero, i.size, i.bytes)) = some (some (.agg #[.int .i64 0, .int .i64 0, .string ⟨#[]⟩]), 3, 32) := by kernel_rfl
abbrev rowP (eb : Nat) : Value := .pointer (some ⟨eb, 0, none⟩)
abbrev pcA (p : Pc) : Value := .agg #[.int .i64 (p.1 : Int), .int .i64 (p.2.1 : Int), .string p.2.2]
/-- pieces that a block's first cell holds -/
structure FrI (w : World) (eb : Nat) (T : TypeId) (rest : List Value) (P : List Pc) (v : Value) : Prop where
  box : w.heap[eb]? = some (.cells (v :: rest).toArray T (0, 0))
  hd : Held w 115 3 v P.length (pcV P)
  ne : v.ownBlock ≠ some eb
def ebQ (eb : Nat) (v : Value) : Nat → Prop := fun g => g = eb ∨ v.ownBlock = some g
theorem FrI.below {w w' : World} {eb : Nat} {T : TypeId} {rest : List Value} {P : List Pc} {v : Value} (H : FrI w eb T rest P v) (hb : Below w.heap.size w w') : FrI w' eb T rest P v :=
  ⟨blk_below H.box hb (blk_lt H.box), H.hd.below hb, H.ne⟩
/-- a new list of pieces, laid into the block -/
theorem FrI.grow {w w1 : World} {eb : Nat} {T : TypeId} {rest : List Value} {P A : List Pc} {v u v' : Value} {x : Pc} {n : Nat} (H : FrI w eb T rest P v) (hu : u.ownBlock = v.ownBlock) (hn : n = A.length)
    (g : Grew 115 3 w u n 1 (pcV A) [.int .i64 (x.1 : Int), .int .i64 (x.2.1 : Int), .string x.2.2] v' w1) :
    FrI (w1.setCell ⟨eb, 0, none⟩ v') eb T rest (A ++ [x]) v' ∧ Chg (ebQ eb v) w (w1.setCell ⟨eb, 0, none⟩ v') ∧ ∀ q, v'.ownBlock = some q → v.ownBlock = some q ∨ w.heap.size ≤ q := by
  subst hn
  rw [← pcV_one] at g
  have hgr := g.grown
  have hst := hgr.size
  have hown : ∀ q, v'.ownBlock = some q → v.ownBlock = some q ∨ w.heap.size ≤ q := fun q hq => by
    rcases g.at with ⟨e, _⟩ | ⟨e, _⟩
    · exact .inl (by rw [← hu, ← e]; exact hq)
    · rw [hq] at e
      have h1 := Option.some.inj e
      exact .inr (by omega)
  have hlt := blk_lt H.box
  have hne : v'.ownBlock ≠ some eb := fun e => by
    rcases hown eb e with h | h
    · exact H.ne h
    · omega
  have hb1 : w1.heap[eb]? = some (.cells (v :: rest).toArray T (0, 0)) := (hgr.block eb hlt (fun e => H.ne (by rw [← hu, ← e]))).trans H.box
  refine ⟨⟨?_, ?_, hne⟩, ⟨hgr.os, hgr.tape, hgr.output, by simpa [World.setCell] using hst, fun q hq hn => ?_⟩, hown⟩
  · have := blk_set hb1 0 v'
    rw [this]
    congr 2
  · have := g.held
    rw [pcV_append, List.length_append]
    exact this.keep fun q hq => Below.heap_setCell w1 ⟨eb, 0, none⟩ v' q (fun e => hne (by rw [← show q = eb from e]; exact hq))
  · have h1 : q ≠ eb := fun e => hn (.inl e)
    rw [Below.heap_setCell w1 ⟨eb, 0, none⟩ v' q h1]
    exact hgr.block q hq (fun e => hn (.inr (by rw [← hu]; exact e.symm)))
/-- the first ones of some pieces, over the same block -/
theorem held_first {w : World} {P : List Pc} {n : Nat} {p : Option Addr} {c : Nat} (h : Held w 115 3 (.slice p P.length c) P.length (pcV P)) (hn : n ≤ P.length) (hn0 : 0 < P.length) : Held w 115 3 (.slice p n c) (P.take n).length (pcV (P.take n)) := by
  rcases h.2 with ⟨_, e⟩ | ⟨g, cap, cur, e, hg, h1, h2, h3, h4⟩
  · omega
  · injection e with e1 e2 e3
    subst e1 e3
    have hl : (P.take n).length = n := by rw [List.length_take]; omega
    rw [hl]
    refine ⟨by rw [pcV_length, hl], .inr ⟨g, _, cur, rfl, hg, by omega, h2, h3, ?_⟩⟩
    have e5 : pcV P = pcV (P.take n) ++ pcV (P.drop n) := by rw [← pcV_append, List.take_append_drop]
    have h6 := congrArg (List.take (n * 3)) h4
    rw [List.take_take, Nat.min_eq_left (by omega), e5, List.take_append_of_le_length (by rw [pcV_length, hl]; exact Nat.le_refl _)] at h6
    have h7 : List.take (n * 3) (pcV (P.take n)) = pcV (P.take n) := List.take_of_length_le (by rw [pcV_length, hl]; exact Nat.le_refl _)
    rw [h7] at h6
    exact h6
end Go.Proofs.YtdbghgpohdijfaaDoor
/- A piece pushed: walked. -/
namespace Go.Proofs.YtdbghgpohdijfaaDoor
open Go.RowKit Go.Scr Go.ChangeMaps Go.MapKept
set_option linter.unusedVariables false
set_option maxRecDepth 100000 in
theorem fnode_any (l r : ByteArray) (w : World) (ht : Tabs w) : Calls Tryd.prog 83 #[.string l, .string r] w fun o w' => o = .returned (.string (nodeS l r)) ∧ Below w.heap.size w w' := by
  have H := Lib.hid (dnode_any l r w ht)
  clear ht
  go_enter Tryd.func83, Tryd.ntmps83
  go_wp2_with (go_at_call 70; refine H.out.mono ?_; rintro o w1 ⟨rfl, hb⟩)
  go_ret
  exact ⟨rfl, hb⟩
/-- what stands in the pushing loop -/
structure FuI (w wr : World) (eb : Nat) (T : TypeId) (rest : List Value) (v : Value) (F r : List Pc) (p : Pc) (v' : Value) : Prop where
  eq : pushR nodeS r p = F
  fr : FrI wr eb T rest (p :: r).reverse v'
  chg : Chg (ebQ eb v) w wr
  own : ∀ q, v'.ownBlock = some q → v.ownBlock = some q ∨ w.heap.size ≤ q
  rb : ∀ x ∈ r, x.1 ≤ 1099511627776 ∧ x.2.1 ≤ 40
  pb : p.1 ≤ 1099511627776 ∧ p.2.1 ≤ 41
theorem FuI.fin {w wr : World} {eb : Nat} {T : TypeId} {rest : List Value} {v : Value} {F r : List Pc} {p : Pc} {v' : Value} (h : FuI w wr eb T rest v F r p v') (he : pushR nodeS r p = p :: r) : FrI wr eb T rest F.reverse v' := by
  rw [← h.eq, he]
  exact h.fr
theorem held_cellP {w : World} {T sz n k c : Nat} {p : Option Addr} {xs : List Value} (h : Held w T sz (.slice p n c) k xs) (hn : 0 < k) : ∃ g, p = some ⟨g, 0, none⟩ ∧ ∀ k u, xs[k]? = some u → w.cell? ⟨g, k, none⟩ = some u := by
  obtain ⟨p', c', hpe, _, _, hce⟩ := h.cells
  obtain rfl : p = p' := by cases hpe; rfl
  obtain ⟨g, rfl⟩ : ∃ g, p = some ⟨g, 0, none⟩ := by
    rcases h.2 with ⟨e, h0⟩ | ⟨g, _, _, e, _⟩
    · omega
    · exact ⟨g, by cases e; rfl⟩
  refine ⟨g, rfl, fun k u hk => ?_⟩
  obtain ⟨a, ha, _, hc⟩ := hce k u hk
  cases ha
  have hadd : (⟨g, 0, none⟩ : Addr).add k = ⟨g, k, none⟩ := by unfold Addr.add; split <;> simp_all
  rw [hadd] at hc
  exact hc
theorem alloc_two (w : World) (a b : Obj) : ((w.alloc a).alloc b).heap[w.heap.size + 1]? = some b := by
  have := heap_alloc_new (w.alloc a) b
  rwa [show (w.alloc a).heap.size = w.heap.size + 1 by simp] at this
theorem Bas.chg {Q : Nat → Prop} {w w' : World} {B : Nat} (h : Bas w B) (c : Chg Q w w') (hq : ∀ q, Q q → B ≤ q) : Bas w' B :=
  h.below ⟨c.os, c.tape, c.output, c.size, fun g hg => c.same g (Nat.lt_of_lt_of_le hg h.le) (fun e => by have := hq g e; omega)⟩
theorem rev_take (a b : Pc) (r : List Pc) {i : Nat} (h : i = r.length) : ((a :: b :: r).reverse).take i = r.reverse := by
  subst h
  rw [List.reverse_cons, List.reverse_cons, List.append_assoc]
  exact List.take_left' (by simp)
theorem Chg.ext {w wr w' : World} {eb : Nat} {v v' : Value} (h : Chg (ebQ eb v) w wr) (k : Chg (ebQ eb v') wr w') (own : ∀ q, v'.ownBlock = some q → v.ownBlock = some q ∨ w.heap.size ≤ q) : Chg (ebQ eb v) w w' :=
  ⟨k.os.trans h.os, k.tape.trans h.tape, k.output.trans h.output, Nat.le_trans h.size k.size, fun i hi hn => (k.same i (Nat.lt_of_lt_of_le hi h.size) (fun e => hn (e.imp id (fun e2 => (own i e2).resolve_right (by omega))))).trans (h.same i hi hn)⟩
theorem Chg.below_to {Q : Nat → Prop} {a b c : World} (hb : Below a.heap.size a b) (h : Chg Q b c) : Chg Q a c := (Chg.of_below hb).trans h
set_option maxRecDepth 100000 in
set_option maxHeartbeats 8000000 in
theorem fpush_any {w : World} {B eb : Nat} {T : TypeId} {rest : List Value} {r : List Pc} {p : Pc} {v : Value} (H : FrI w eb T rest r.reverse v) (hB : Bas w B) (hlo : B ≤ eb ∧ ∀ g, v.ownBlock = some g → B ≤ g)
    (hr : ∀ x ∈ r, x.1 ≤ 1099511627776 ∧ x.2.1 ≤ 40) (hp : p.1 ≤ 1099511627776 ∧ p.2.1 ≤ 41) (hl : r.length ≤ 4096) :
    Calls Tryd.prog 88 #[rowP eb, pcA p] w fun o w' => o = .returned (.tuple #[]) ∧ ∃ v', FrI w' eb T rest (pushR nodeS r p).reverse v' ∧ Chg (ebQ eb v) w w' ∧ ∀ q, v'.ownBlock = some q → v.ownBlock = some q ∨ w.heap.size ≤ q := by
  obtain ⟨⟨pb, pl, ps⟩, hpe⟩ : ∃ x, x = p := ⟨_, rfl⟩
  subst hpe
  have HF := Lib.hid H
  obtain ⟨R, hR⟩ : ∃ R, R = r.reverse := ⟨_, rfl⟩
  obtain ⟨n, hn⟩ : ∃ n, n = R.length := ⟨_, rfl⟩
  have hnr : n = r.length := by rw [hn, hR, List.length_reverse]
  have HRR : Hid (R = r.reverse ∧ n = R.length ∧ n = r.length) := Lib.hid ⟨hR, hn, hnr⟩
  rw [← hR] at HF H
  obtain ⟨vp, vc, rfl, _⟩ := H.hd.cells
  rw [← hn] at HF hlo ⊢
  have hl1 : (n + 1) * 32 ≤ 140737488355328 := by omega
  have hl2 : n + 1 ≤ 140737488355328 := by omega
  obtain ⟨w1, hw1⟩ : ∃ x, x = w.alloc (.cells #[.int .i64 (pb : Int), .int .i64 (pl : Int), .string ps] 115) := ⟨_, rfl⟩
  obtain ⟨bp, hbp⟩ : ∃ x, x = w.heap.size := ⟨_, rfl⟩
  have HB1 : Hid (Below w.heap.size w w1) := Lib.hid (by rw [hw1]; exact (Below.refl _ _).alloc (Nat.le_refl _) _)
  have hbx : w1.heap[bp]? = some (.cells #[.int .i64 (pb : Int), .int .i64 (pl : Int), .string ps] 115 (0, 0)) := by rw [hw1, hbp]; exact heap_alloc_new w _
  have HBX := Lib.hid hbx
  have c0 : w1.cell? ⟨bp, 0, none⟩ = some (.int .i64 (pb : Int)) := cellB hbx rfl
  have c1 : w1.cell? ⟨bp, 1, none⟩ = some (.int .i64 (pl : Int)) := cellB hbx rfl
  have c2 : w1.cell? ⟨bp, 2, none⟩ = some (.string ps) := cellB hbx rfl
  have hF1 := HF.out.below HB1.out
  have ce : w1.cell? ⟨eb, 0, none⟩ = some (.slice vp n vc) := cellB hF1.box rfl
  have fe : w1.frozen? ⟨eb, 0, none⟩ = false := frozB hF1.box
  have HW1 := Lib.hid hw1
  have HBP := Lib.hid hbp
  have hce2 : ∀ o, (w1.alloc o).cell? ⟨eb, 0, none⟩ = some (.slice vp n vc) := fun o => cellB (blk_alloc hF1.box) rfl
  have HIN : Hid (Bas w B ∧ (∀ x ∈ r, x.1 ≤ 1099511627776 ∧ x.2.1 ≤ 40) ∧ (pb ≤ 1099511627776 ∧ pl ≤ 41) ∧ r.length ≤ 4096 ∧ B ≤ eb ∧ (∀ g, (Value.slice vp n vc).ownBlock = some g → B ≤ g)) := Lib.hid ⟨hB, hr, hp, hl, hlo.1, hlo.2⟩
  clear H hB hr hp hl hlo hw1 hbp hbx hF1 hn hnr hR
  have HX : Hid (pcV [((pb, pl, ps) : Pc)] = [.int .i64 (pb : Int), .int .i64 (pl : Int), .string ps]) := Lib.hid (pcV_one _)
  have HG1 : Hid (∀ v5 w5, Grew 115 3 (w1.drew.alloc (.cells #[.int .i64 (pb : Int), .int .i64 (pl : Int), .string ps] 115)) (.slice vp n vc) n 1 (pcV R) [.int .i64 (pb : Int), .int .i64 (pl : Int), .string ps] v5 w5 →
      ∃ p5 c5, v5 = .slice p5 (n + 1) c5 ∧ w5.cell? ⟨eb, 0, none⟩ = some (.slice vp n vc) ∧ w5.frozen? ⟨eb, 0, none⟩ = false ∧ Hid (FrI (w5.setCell ⟨eb, 0, none⟩ v5) eb T rest (R ++ [(pb, pl, ps)]) v5 ∧ Chg (ebQ eb (.slice vp n vc)) w (w5.setCell ⟨eb, 0, none⟩ v5) ∧ ∀ q, v5.ownBlock = some q → (Value.slice vp n vc).ownBlock = some q ∨ w.heap.size ≤ q)) := Lib.hid (fun v5 w5 g => by
    have hB3 : Below w.heap.size w (w1.drew.alloc (.cells #[.int .i64 (pb : Int), .int .i64 (pl : Int), .string ps] 115)) := (HB1.out.drew).alloc HB1.out.size _
    have hF3 := HF.out.below hB3
    obtain ⟨h1, h2, h3⟩ := hF3.grow (x := (pb, pl, ps)) rfl HRR.out.2.1 g
    have hgr := g.grown
    have hb5 := (hgr.block eb (blk_lt hF3.box) (fun e => hF3.ne e.symm)).trans hF3.box
    obtain ⟨p5, c5, e5, _⟩ := g.held.cells
    refine ⟨p5, c5, e5, cellB hb5 rfl, frozB hb5, Lib.hid ⟨h1, ?_, fun q hq => ?_⟩⟩
    · exact (Chg.below_to hB3 h2)
    · exact (h3 q hq).imp id (fun h4 => Nat.le_trans hB3.size h4))
  have HCE : Hid (Held (w1.drew.alloc (.cells #[.int .i64 (pb : Int), .int .i64 (pl : Int), .string ps] 115)) 115 3 (.slice vp n vc) n (pcV R)) := Lib.hid (by
    have := (HF.out.below ((HB1.out.drew).alloc HB1.out.size (.cells #[.int .i64 (pb : Int), .int .i64 (pl : Int), .string ps] 115))).hd
    rwa [← HRR.out.2.1] at this)
  have HONE : Hid (∀ u ∈ [Value.int .i64 (pb : Int), .int .i64 (pl : Int), .string ps], u.oneCell' = true) := Lib.hid (by rw [← HX.out]; exact pcV_oneCell _)
  have HC3 : Hid (∀ (j : Nat) (u : Value), [Value.int .i64 (pb : Int), .int .i64 (pl : Int), .string ps][j]? = some u → (w1.drew.alloc (.cells #[.int .i64 (pb : Int), .int .i64 (pl : Int), .string ps] 115)).cell? ((⟨w1.heap.size, 0, none⟩ : Addr).add j) = some u) := Lib.hid (fun j u hj => by
    have hadd : (⟨w1.heap.size, 0, none⟩ : Addr).add j = ⟨w1.heap.size, j, none⟩ := by unfold Addr.add; split <;> simp_all
    rw [hadd]
    exact cellB (heap_alloc_new w1.drew _) (by simpa using hj))
  go_enter Tryd.func88, Tryd.ntmps88
  go_upto_region 1 with fail
  rw [← HW1.out, ← HBP.out]
  go_cut [3] from 7 to 16 (fun b wx => b = .pointer (some ⟨bp, 0, none⟩) ∧ ∃ p5 c5, Hid (FrI wx eb T rest (R ++ [(pb, pl, ps)]) (.slice p5 (n + 1) c5) ∧ Chg (ebQ eb (.slice vp n vc)) w wx ∧ ∀ q, (Value.slice p5 (n + 1) c5).ownBlock = some q → (Value.slice vp n vc).ownBlock = some q ∨ w.heap.size ≤ q))
  case first =>
    go_region_law (first
      | (refine step_grew (v := .slice vp n vc) rfl (.tmp 11) (.tmp 13) rfl Tryd.underlying60 (.agg #[.int .i64 0, .int .i64 0, .string ⟨#[]⟩]) 3 info_pc rfl (by decide) [.int .i64 (pb : Int), .int .i64 (pl : Int), .string ps] 1 ⟨w1.heap.size, 0, none⟩ rfl rfl HCE.out rfl (by decide) HC3.out HONE.out hl1 hl2 ?_; intro v5 w5 hg5; obtain ⟨p5, c5, rfl, k5, f5, HI⟩ := HG1.out _ _ hg5; clear hg5)
      | fail)
    all_goals
      go_wp2_with fail
      go_meet
      exact ⟨rfl, _, _, HI⟩
  case rest =>
    obtain ⟨rfl, p5, c5, HI⟩ := hcut
    obtain ⟨v, hv⟩ : ∃ v, v = Value.slice vp n vc := ⟨_, rfl⟩
    rw [← hv] at HI HIN
    have HV := Lib.hid hv
    have HI0 : Hid (FuI w wc eb T rest v (pushR nodeS r (pb, pl, ps)) r (pb, pl, ps) (.slice p5 (n + 1) c5)) := Lib.hid ⟨rfl, by
      have := HI.out.1
      rwa [HRR.out.1, ← List.reverse_cons] at this, HI.out.2.1, HI.out.2.2, HIN.out.2.1, HIN.out.2.2.1⟩
    obtain ⟨m, hm⟩ : ∃ m, m = n + 1 := ⟨_, rfl⟩
    rw [← hm] at HI0
    have hm1 : m ≤ 4097 := by have := HIN.out.2.2.2.1; have := HRR.out.2.2; omega
    have cw : wc.cell? ⟨eb, 0, none⟩ = some (.slice p5 m c5) := cellB HI0.out.fr.box rfl
    have HM0 : Hid (m = r.length + 1) := Lib.hid (by rw [hm, HRR.out.2.2])
    clear hv hm HI c0 c1 c2 ce fe hce2 HG1 HCE HONE HC3 HX HBX HF HW1 HBP
    go_wp2_with fail
    go_loopw [4] (fun k wr => ∃ (r' : List Pc) (p' : Pc) (pq : Option Addr) (cq m : Nat), k = .int .i64 (m : Int) ∧ m ≤ 4097 ∧ Hid (m = r'.length + 1) ∧ Hid (FuI w wr eb T rest v (pushR nodeS r (pb, pl, ps)) r' p' (.slice pq m cq))) (fun k _ => (intOf k).toNat)
    case atStart => exact ⟨r, (pb, pl, ps), p5, c5, m, rfl, hm1, HM0, HI0⟩
    case round =>
      clear HI0 HM0 cw hm1
      obtain ⟨r', ⟨qb, ql, qs⟩, pq, cq, m, rfl, hm1, HM, HI⟩ := hrel
      have cw : wr.cell? ⟨eb, 0, none⟩ = some (.slice pq m cq) := cellB HI.out.fr.box rfl
      cases r' with
      | nil =>
        have hm2 : m = 1 := HM.out
        have hmi : ¬ (1 : Int) < (m : Int) := by omega
        clear hm2
        go_wp2_with fail
        go_end0
        exact ⟨rfl, _, HI.out.fin rfl, by rw [← HV.out]; exact HI.out.chg, by rw [← HV.out]; exact HI.out.own⟩
      | cons a r'' =>
        obtain ⟨ab, al, as_⟩ := a
        have hmi : (1 : Int) < (m : Int) := by have := HM.out; simp at this; omega
        obtain ⟨i, hi⟩ : ∃ i, i = r''.length := ⟨_, rfl⟩
        obtain ⟨j, hj⟩ : ∃ j, j = r''.length + 1 := ⟨_, rfl⟩
        have hmj : m = j + 1 := by rw [HM.out, hj]; rfl
        have hi2 : (m : Int) - 2 = (i : Int) := by omega
        have hj1 : (m : Int) - 1 = (j : Int) := by omega
        obtain ⟨g, rfl, hg⟩ := held_cellP HI.out.fr.hd (by simp)
        obtain ⟨a0, a1, a2⟩ := pcV_get (show ((qb, ql, qs) :: (ab, al, as_) :: r'').reverse[i]? = some (ab, al, as_) by rw [hi]; simp)
        obtain ⟨b0, b1, b2⟩ := pcV_get (show ((qb, ql, qs) :: (ab, al, as_) :: r'').reverse[j]? = some (qb, ql, qs) by rw [hj]; simp)
        have HCS : Hid (∀ w', Below wr.heap.size wr w' → w'.cell? ⟨eb, 0, none⟩ = some (.slice (some ⟨g, 0, none⟩) m cq) ∧ w'.cell? ⟨g, i * 3, none⟩ = some (.int .i64 (ab : Int)) ∧ w'.cell? ⟨g, i * 3 + 1, none⟩ = some (.int .i64 (al : Int)) ∧ w'.cell? ⟨g, i * 3 + 1 + 1, none⟩ = some (.string as_) ∧ w'.cell? ⟨g, j * 3, none⟩ = some (.int .i64 (qb : Int)) ∧ w'.cell? ⟨g, j * 3 + 1, none⟩ = some (.int .i64 (ql : Int)) ∧ w'.cell? ⟨g, j * 3 + 1 + 1, none⟩ = some (.string qs)) := Lib.hid (fun w' hb => by
          have hk : ∀ {x : Addr} {u : Value}, wr.cell? x = some u → w'.cell? x = some u := fun hx => (hb.cell (block_lt_of_cell hx)).trans hx
          exact ⟨hk cw, hk (hg _ _ a0), hk (hg _ _ a1), hk (hg _ _ a2), hk (hg _ _ b0), hk (hg _ _ b1), hk (hg _ _ b2)⟩)
        obtain ⟨d0, d1, d2, d3, d4, d5, d6⟩ := HCS.out wr.drew (Below.refl _ _).drew
        have him : (i : Int) < (m : Int) := by omega
        have hjm : (j : Int) < (m : Int) := by omega
        have hi0 : (0 : Int) ≤ (i : Int) := by omega
        have hj0 : (0 : Int) ≤ (j : Int) := by omega
        have hiw : IntKind.i64.wrap (i : Int) = (i : Int) := IntWalk.i64_in _ (by omega)
        have hjw : IntKind.i64.wrap (j : Int) = (j : Int) := IntWalk.i64_in _ (by omega)
        have HIJ : Hid (i = r''.length ∧ j = r''.length + 1 ∧ m = j + 1) := Lib.hid ⟨hi, hj, hmj⟩
        clear hi hj hmj hg a0 a1 a2 b0 b1 b2
        go_upto_region 5 with fail
        have HBA : Hid (Below wr.heap.size wr wr.drew) := Lib.hid (Below.refl _ _).drew
        have HBC : Hid (∀ o, Below wr.heap.size wr (wr.alloc o).drew) := Lib.hid (fun o => ((Below.refl _ _).alloc (Nat.le_refl _) _).drew)
        have HBD : Hid (∀ o o2, Below wr.heap.size wr ((wr.alloc o).alloc o2).drew) := Lib.hid (fun o o2 => (((Below.refl _ _).alloc (Nat.le_refl _) _).alloc (by simp) _).drew)
        go_cut [5, 6] from 26 to 41 (fun x y wx => ∃ ba bb, x = rowP ba ∧ y = rowP bb ∧ Hid (wx.heap[ba]? = some (.cells #[.int .i64 (ab : Int), .int .i64 (al : Int), .string as_] 115 (0, 0)) ∧ wx.heap[bb]? = some (.cells #[.int .i64 (qb : Int), .int .i64 (ql : Int), .string qs] 115 (0, 0)) ∧ Below wr.heap.size wr wx ∧ wr.heap.size ≤ ba ∧ wr.heap.size ≤ bb))
        case first =>
          go_region_held3 (fun w' => w'.cell? ⟨eb, 0, none⟩ = some (.slice (some ⟨g, 0, none⟩) m cq) ∧ w'.cell? ⟨g, i * 3, none⟩ = some (.int .i64 (ab : Int)) ∧ w'.cell? ⟨g, i * 3 + 1, none⟩ = some (.int .i64 (al : Int)) ∧ w'.cell? ⟨g, i * 3 + 1 + 1, none⟩ = some (.string as_) ∧ w'.cell? ⟨g, j * 3, none⟩ = some (.int .i64 (qb : Int)) ∧ w'.cell? ⟨g, j * 3 + 1, none⟩ = some (.int .i64 (ql : Int)) ∧ w'.cell? ⟨g, j * 3 + 1 + 1, none⟩ = some (.string qs)) (exact HCS.out _ (by first | exact HBA.out | exact HBC.out _ | exact HBD.out _ _)) (fail)
          · go_wp2_with fail
            go_meet
            exact ⟨_, _, rfl, rfl, Lib.hid ⟨blk_alloc (w := wr.alloc _) (heap_alloc_new wr _), alloc_two wr _ _, HBD.out _ _, Nat.le_refl _, Nat.le_succ _⟩⟩
          · go_wp2_with fail
            go_meet
            exact ⟨_, _, rfl, rfl, Lib.hid ⟨alloc_two wr _ _, blk_alloc (w := wr.alloc _) (heap_alloc_new wr _), HBD.out _ _, Nat.le_succ _, Nat.le_refl _⟩⟩
        case rest =>
          obtain ⟨ba, bb, rfl, rfl, HBX⟩ := hcut
          obtain ⟨k1, k2, k3, k4, k5⟩ := HBX.out
          have e0 : wc.cell? ⟨ba, 0, none⟩ = some (.int .i64 (ab : Int)) := cellB k1 rfl
          have e1 : wc.cell? ⟨ba, 1, none⟩ = some (.int .i64 (al : Int)) := cellB k1 rfl
          have e2 : wc.cell? ⟨ba, 2, none⟩ = some (.string as_) := cellB k1 rfl
          have e3 : wc.cell? ⟨bb, 0, none⟩ = some (.int .i64 (qb : Int)) := cellB k2 rfl
          have e4 : wc.cell? ⟨bb, 1, none⟩ = some (.int .i64 (ql : Int)) := cellB k2 rfl
          have e5 : wc.cell? ⟨bb, 2, none⟩ = some (.string qs) := cellB k2 rfl
          have er : wc.cell? ⟨eb, 0, none⟩ = some (.slice (some ⟨g, 0, none⟩) m cq) := (HCS.out wc k3).1
          have hbd := HI.out.rb (ab, al, as_) (by simp)
          have hal : al ≤ 40 := hbd.2
          have hab : ab ≤ 1099511627776 := hbd.1
          have hqb : qb ≤ 1099511627776 ∧ ql ≤ 41 := HI.out.pb
          clear k1 k2 k3 k4 k5 hbd d0 d1 d2 d3 d4 d5 d6 HBA HBC HBD cw
          by_cases hlq : al = ql
          case neg =>
            have hne : ((al : Int) == (ql : Int)) = false := by rw [beq_eq_false_iff_ne]; omega
            have HNO : Hid (pushR nodeS ((ab, al, as_) :: r'') (qb, ql, qs) = (qb, ql, qs) :: (ab, al, as_) :: r'') := Lib.hid (by rw [pushR]; exact if_neg (fun h => hlq h.1))
            clear hlq
            go_wp2_with fail
            refine bodyPost_ret (results_none rfl _ _ _) rfl ?_
            exact ⟨rfl, _, FrI.below (HI.out.fin HNO.out) HBX.out.2.2.1, by rw [← HV.out]; exact HI.out.chg.trans (Chg.of_below HBX.out.2.2.1), by rw [← HV.out]; exact HI.out.own⟩
          subst hlq
          obtain ⟨p2, hp2⟩ : ∃ x, x = 2 ^ al := ⟨_, rfl⟩
          have hpI : (2 : Int) ^ al = (p2 : Int) := by rw [hp2]; simp
          obtain ⟨q2, hq2⟩ : ∃ q, q = ab / p2 := ⟨_, rfl⟩
          have hqI : (ab : Int) / (p2 : Int) = (q2 : Int) := by rw [hq2]; simp
          have hqn : q2 ≤ ab := by rw [hq2]; exact Nat.div_le_self _ _
          have hand0 : bits .and .i64 (q2 : Int) 1 = ((q2 % 2 : Nat) : Int) := i64_andm q2 1 (by omega)
          have hal63 : al ≤ 63 := by omega
          by_cases hodd : q2 % 2 = 0
          case neg =>
            have hand : bits .and .i64 (q2 : Int) 1 = 1 := by rw [hand0, show q2 % 2 = 1 by omega]; rfl
            have HNO : Hid (pushR nodeS ((ab, al, as_) :: r'') (qb, al, qs) = (qb, al, qs) :: (ab, al, as_) :: r'') := Lib.hid (by
              rw [pushR]
              refine if_neg (fun h => hodd ?_)
              rw [hq2, hp2]
              exact h.2)
            clear hodd hand0 hp2 hq2
            go_wp2_with fail
            refine bodyPost_ret (results_none rfl _ _ _) rfl ?_
            exact ⟨rfl, _, FrI.below (HI.out.fin HNO.out) HBX.out.2.2.1, by rw [← HV.out]; exact HI.out.chg.trans (Chg.of_below HBX.out.2.2.1), by rw [← HV.out]; exact HI.out.own⟩
          have hand : bits .and .i64 (q2 : Int) 1 = 0 := by rw [hand0, hodd]; rfl
          have HYES : Hid (pushR nodeS ((ab, al, as_) :: r'') (qb, al, qs) = pushR nodeS r'' (ab, al + 1, nodeS as_ qs)) := Lib.hid (by
            rw [pushR]
            exact if_pos ⟨rfl, by rw [← hp2, ← hq2]; exact hodd⟩)
          clear hodd hand0 hp2 hq2
          obtain ⟨ns, hns⟩ : ∃ s, s = nodeS as_ qs := ⟨_, rfl⟩
          obtain ⟨a1, ha1⟩ : ∃ x, x = al + 1 := ⟨_, rfl⟩
          have ha1I : (al : Int) + 1 = (a1 : Int) := by omega
          have ha1w : IntKind.i64.wrap (a1 : Int) = (a1 : Int) := IntWalk.i64_in _ (by omega)
          rw [← hns, ← ha1] at HYES
          have hwB : Below w.heap.size w wc → True := fun _ => trivial
          have HBW : Hid (Bas wc B) := Lib.hid (HIN.out.1.chg (HI.out.chg.trans (Chg.of_below HBX.out.2.2.1)) (fun q hq => by
            rcases hq with h | h
            · rw [h]; exact HIN.out.2.2.2.2.1
            · exact HIN.out.2.2.2.2.2 q h))
          have CND : Hid (Calls Tryd.prog 83 #[.string as_, .string qs] wc.drew fun o w' => o = .returned (.string ns) ∧ Below wc.drew.heap.size wc.drew w') := Lib.hid (by rw [hns]; exact fnode_any as_ qs wc.drew (HBW.out.tabs.below ((Below.refl wc.heap.size wc).drew)))
          have HS1 : Hid (wc.drew.cell? ⟨ba, 0, none⟩ = some (.int .i64 (ab : Int)) ∧ wc.drew.cell? ⟨ba, 1, none⟩ = some (.int .i64 (al : Int)) ∧ wc.drew.cell? ⟨ba, 2, none⟩ = some (.string as_) ∧ wc.drew.cell? ⟨bb, 2, none⟩ = some (.string qs)) := Lib.hid ⟨e0, e1, e2, e5⟩
          have HSX : Hid (∀ w', Below wc.heap.size wc w' → w'.cell? ⟨ba, 0, none⟩ = some (.int .i64 (ab : Int)) ∧ w'.cell? ⟨ba, 1, none⟩ = some (.int .i64 (al : Int)) ∧ w'.cell? ⟨ba, 2, none⟩ = some (.string as_) ∧ w'.cell? ⟨bb, 2, none⟩ = some (.string qs) ∧ w'.cell? ⟨eb, 0, none⟩ = some (.slice (some ⟨g, 0, none⟩) m cq)) := Lib.hid (fun w' hb => by
            have hk : ∀ {x : Addr} {u : Value}, wc.cell? x = some u → w'.cell? x = some u := fun hx => (hb.cell (block_lt_of_cell hx)).trans hx
            exact ⟨hk e0, hk e1, hk e2, hk e5, hk er⟩)
          have HFC : Hid (FrI wc eb T rest ((qb, al, qs) :: (ab, al, as_) :: r'').reverse (.slice (some ⟨g, 0, none⟩) m cq)) := Lib.hid (HI.out.fr.below HBX.out.2.2.1)
          have hicq : (i : Int) ≤ (cq : Int) := by
            obtain ⟨_, c', hpe, hle, _⟩ := HFC.out.hd.cells
            obtain rfl : cq = c' := by cases hpe; rfl
            have := HIJ.out
            simp at hle
            omega
          have HX7 : Hid (∀ u ∈ [Value.int .i64 (ab : Int), .int .i64 (a1 : Int), .string ns], u.oneCell' = true) := Lib.hid (by rw [← pcV_one (ab, a1, ns)]; exact pcV_oneCell _)
          have hl3 : (i + 1) * 32 ≤ 140737488355328 := by have := HIJ.out; omega
          have hl4 : i + 1 ≤ 140737488355328 := by have := HIJ.out; omega
          have HC6 : Hid (∀ (w6 : World) (j : Nat) (u : Value), [Value.int .i64 (ab : Int), .int .i64 (a1 : Int), .string ns][j]? = some u → (w6.alloc (.cells #[.int .i64 (ab : Int), .int .i64 (a1 : Int), .string ns] 115)).cell? ((⟨w6.heap.size, 0, none⟩ : Addr).add j) = some u) := Lib.hid (fun w6 j u hj => by
            have hadd : (⟨w6.heap.size, 0, none⟩ : Addr).add j = ⟨w6.heap.size, j, none⟩ := by unfold Addr.add; split <;> simp_all
            rw [hadd]
            exact cellB (heap_alloc_new w6 _) (by simpa using hj))
          have HH6 : Hid (∀ w', Below wc.heap.size wc w' → Held w' 115 3 (.slice (some ⟨g, 0, none⟩) i cq) i (pcV r''.reverse)) := Lib.hid (fun w' hb => by
            have h1 := (HFC.out.below hb).hd
            have hlen : ((qb, al, qs) :: (ab, al, as_) :: r'').reverse.length = m := by rw [List.length_reverse]; exact HM.out.symm
            have h2 : Held w' 115 3 (.slice (some ⟨g, 0, none⟩) ((qb, al, qs) :: (ab, al, as_) :: r'').reverse.length cq) ((qb, al, qs) :: (ab, al, as_) :: r'').reverse.length (pcV ((qb, al, qs) :: (ab, al, as_) :: r'').reverse) := by rw [hlen] at h1 ⊢; exact h1
            have h3 := held_first h2 (n := i) (by rw [hlen]; have := HIJ.out; omega) (by rw [hlen]; have := HIJ.out; omega)
            rw [rev_take _ _ _ HIJ.out.1] at h3
            rw [show r''.reverse.length = i by rw [List.length_reverse]; exact HIJ.out.1.symm] at h3
            exact h3)
          have HG7 : Hid (∀ w6 v5 w5, Below wc.heap.size wc w6 → Grew 115 3 (w6.alloc (.cells #[.int .i64 (ab : Int), .int .i64 (a1 : Int), .string ns] 115)) (.slice (some ⟨g, 0, none⟩) i cq) i 1 (pcV r''.reverse) [.int .i64 (ab : Int), .int .i64 (a1 : Int), .string ns] v5 w5 →
              ∃ p5 c5, v5 = .slice p5 j c5 ∧ w5.cell? ⟨eb, 0, none⟩ = some (.slice (some ⟨g, 0, none⟩) m cq) ∧ w5.frozen? ⟨eb, 0, none⟩ = false ∧ Hid (w5.cell? ⟨ba, 0, none⟩ = some (.int .i64 (ab : Int)) ∧ w5.cell? ⟨ba, 1, none⟩ = some (.int .i64 (al : Int)) ∧ w5.cell? ⟨ba, 2, none⟩ = some (.string as_) ∧ w5.cell? ⟨bb, 2, none⟩ = some (.string qs)) ∧ Hid ((w5.setCell ⟨eb, 0, none⟩ v5).cell? ⟨ba, 0, none⟩ = some (.int .i64 (ab : Int)) ∧ (w5.setCell ⟨eb, 0, none⟩ v5).cell? ⟨ba, 1, none⟩ = some (.int .i64 (al : Int)) ∧ (w5.setCell ⟨eb, 0, none⟩ v5).cell? ⟨ba, 2, none⟩ = some (.string as_) ∧ (w5.setCell ⟨eb, 0, none⟩ v5).cell? ⟨bb, 2, none⟩ = some (.string qs)) ∧ Hid (FuI w (w5.setCell ⟨eb, 0, none⟩ v5) eb T rest v (pushR nodeS r (pb, pl, ps)) r'' (ab, a1, ns) v5)) := Lib.hid (fun w6 v5 w5 hb6 gr => by
            have hB3 := hb6.alloc hb6.size (.cells #[.int .i64 (ab : Int), .int .i64 (a1 : Int), .string ns] 115)
            have hF3 := HFC.out.below hB3
            obtain ⟨h1, h2, h3⟩ := hF3.grow (u := .slice (some ⟨g, 0, none⟩) i cq) (A := r''.reverse) (x := (ab, a1, ns)) rfl (by rw [List.length_reverse]; exact HIJ.out.1) gr
            have hgr := gr.grown
            have hb5 := (hgr.block eb (blk_lt hF3.box) (fun e => hF3.ne e.symm)).trans hF3.box
            obtain ⟨p5, c5, e5, _⟩ := gr.held.cells
            have hown : (Value.slice (some ⟨g, 0, none⟩) i cq).ownBlock = some g := rfl
            have hgT : ∀ q, q ≠ g → q < wc.heap.size → w5.heap[q]? = wc.heap[q]? := fun q hq hlt => (hgr.block q (by have := hB3.size; omega) (fun e => hq (by rw [hown] at e; exact Option.some.inj e))).trans (hB3.block q hlt)
            have hglt : g < wr.heap.size := HI.out.fr.hd.lt rfl
            have helt : eb < wr.heap.size := blk_lt HI.out.fr.box
            have hx := HBX.out
            have k1 := (hgT ba (by omega) (blk_lt hx.1)).trans hx.1
            have k2 := (hgT bb (by omega) (blk_lt hx.2.1)).trans hx.2.1
            have k3 := (Below.heap_setCell w5 ⟨eb, 0, none⟩ v5 ba (show ba ≠ eb by omega)).trans k1
            have k4 := (Below.heap_setCell w5 ⟨eb, 0, none⟩ v5 bb (show bb ≠ eb by omega)).trans k2
            have hwr := HI.out.chg.size
            refine ⟨p5, c5, by rw [e5]; have := HIJ.out; congr 1; omega, cellB hb5 rfl, frozB hb5, Lib.hid ⟨cellB k1 rfl, cellB k1 rfl, cellB k1 rfl, cellB k2 rfl⟩, Lib.hid ⟨cellB k3 rfl, cellB k3 rfl, cellB k3 rfl, cellB k4 rfl⟩, Lib.hid ⟨HYES.out.symm.trans HI.out.eq, by rw [List.reverse_cons]; exact h1, ?_, fun q hq => ?_, fun x hx => HI.out.rb x (List.mem_cons_of_mem _ hx), ⟨hab, by show a1 ≤ 41; omega⟩⟩⟩
            · have hbc : Below wr.heap.size wr (w6.alloc (.cells #[.int .i64 (ab : Int), .int .i64 (a1 : Int), .string ns] 115)) := hx.2.2.1.trans (hB3.mono hx.2.2.1.size)
              exact Chg.ext HI.out.chg (Chg.below_to hbc h2) HI.out.own
            · rcases h3 q hq with h4 | h4
              · exact HI.out.own q h4
              · right
                have := hx.2.2.1.size
                have := hB3.size
                omega)
          go_upto_region 7 with fail
          clear hns ha1 hwB e0 e1 e2 e3 e4 e5 hpI hqI hqn hand hal63
          have er1 : wc.drew.cell? ⟨eb, 0, none⟩ = some (.slice (some ⟨g, 0, none⟩) m cq) := er
          refine wp_region_noPanic ?_
          refine wp_region_held_drew (S := (fun w' => w'.cell? ⟨ba, 0, none⟩ = some (.int .i64 (ab : Int)) ∧ w'.cell? ⟨ba, 1, none⟩ = some (.int .i64 (al : Int)) ∧ w'.cell? ⟨ba, 2, none⟩ = some (.string as_) ∧ w'.cell? ⟨bb, 2, none⟩ = some (.string qs))) (by kernel_rfl) HS1.out (fun hHeld => ?_)
          refine wpAnyH_take (i := 0) (oi := ⟨_, _, _, _, _, _⟩) (v := ?_) rfl (by kernel_rfl) (by kernel_rfl) (by kernel_rfl) (fun _ _ _ h => h) (Or.inl ⟨by rfl, ?_⟩) hHeld ?_
          rotate_left
          · ((intro w hSw; (try dsimp only at hSw); go_simp) <;> with_reducible rfl)
          try simp only [Act.put, List.setIfInBounds_toArray, List.set_cons_zero, List.set_cons_succ]
          refine wpAnyH_take (i := 1) (oi := ⟨_, _, _, _, _, _⟩) (v := ?_) rfl (by kernel_rfl) (by kernel_rfl) (by kernel_rfl) (fun _ _ _ h => h) (Or.inl ⟨by rfl, ?_⟩) hHeld ?_
          rotate_left
          · ((intro w hSw; (try dsimp only at hSw); go_simp) <;> with_reducible rfl)
          try simp only [Act.put, List.setIfInBounds_toArray, List.set_cons_zero, List.set_cons_succ]
          refine wpAnyH_take (i := 2) (oi := ⟨_, _, _, _, _, _⟩) (v := ?_) rfl (by kernel_rfl) (by kernel_rfl) (by kernel_rfl) (fun _ _ _ h => h) (Or.inl ⟨by rfl, ?_⟩) hHeld ?_
          rotate_left
          · ((intro w hSw; (try dsimp only at hSw); go_simp) <;> with_reducible rfl)
          try simp only [Act.put, List.setIfInBounds_toArray, List.set_cons_zero, List.set_cons_succ]
          refine wpAnyH_take (i := 3) (oi := ⟨_, _, _, _, _, _⟩) (v := ?_) rfl (by kernel_rfl) (by kernel_rfl) (by kernel_rfl) (fun _ _ _ h => h) (Or.inl ⟨by rfl, ?_⟩) hHeld ?_
          rotate_left
          · ((intro w hSw; (try dsimp only at hSw); go_simp) <;> with_reducible rfl)
          try simp only [Act.put, List.setIfInBounds_toArray, List.set_cons_zero, List.set_cons_succ]
          refine wpAnyH_take (i := 5) (oi := ⟨_, _, _, _, _, _⟩) (v := ?_) rfl (by kernel_rfl) (by kernel_rfl) (by kernel_rfl) (fun _ _ _ h => h) (Or.inl ⟨by rfl, ?_⟩) hHeld ?_
          rotate_left
          · ((intro w hSw; (try dsimp only at hSw); go_simp) <;> with_reducible rfl)
          try simp only [Act.put, List.setIfInBounds_toArray, List.set_cons_zero, List.set_cons_succ]
          refine wpAnyH_take (i := 6) (oi := ⟨_, _, _, _, _, _⟩) (v := ?_) rfl (by kernel_rfl) (by kernel_rfl) (by kernel_rfl) (fun _ _ _ h => h) (Or.inl ⟨by rfl, ?_⟩) hHeld ?_
          rotate_left
          · ((intro w hSw; (try dsimp only at hSw); go_simp) <;> with_reducible rfl)
          try simp only [Act.put, List.setIfInBounds_toArray, List.set_cons_zero, List.set_cons_succ]
          refine wpAnyH_take (i := 8) (oi := ⟨_, _, _, _, _, _⟩) (v := ?_) rfl (by kernel_rfl) (by kernel_rfl) (by kernel_rfl) (fun _ _ _ h => h) (Or.inl ⟨by rfl, ?_⟩) hHeld ?_
          rotate_left
          · ((intro w hSw; (try dsimp only at hSw); go_simp) <;> with_reducible rfl)
          try simp only [Act.put, List.setIfInBounds_toArray, List.set_cons_zero, List.set_cons_succ]
          refine wpAnyH_take (i := 9) (oi := ⟨_, _, _, _, _, _⟩) (v := ?_) rfl (by kernel_rfl) (by kernel_rfl) (by kernel_rfl) (fun _ _ _ h => h) (Or.inl ⟨by rfl, ?_⟩) hHeld ?_
          rotate_left
          · ((intro w hSw; (try dsimp only at hSw); go_simp) <;> with_reducible rfl)
          try simp only [Act.put, List.setIfInBounds_toArray, List.set_cons_zero, List.set_cons_succ]
          refine wpAnyH_take (i := 10) (oi := ⟨_, _, _, _, _, _⟩) (v := ?_) rfl (by kernel_rfl) (by kernel_rfl) (by kernel_rfl) (fun _ _ _ h => h) (Or.inl ⟨by rfl, ?_⟩) hHeld ?_
          rotate_left
          · ((intro w hSw; (try dsimp only at hSw); go_simp) <;> with_reducible rfl)
          try simp only [Act.put, List.setIfInBounds_toArray, List.set_cons_zero, List.set_cons_succ]
          refine wpAnyH_take (i := 11) (oi := ⟨_, _, _, _, _, _⟩) (v := ?_) rfl (by kernel_rfl) (by kernel_rfl) (by kernel_rfl) (fun _ _ _ h => h) (Or.inl ⟨by rfl, ?_⟩) hHeld ?_
          rotate_left
          · ((intro w hSw; (try dsimp only at hSw); go_simp) <;> with_reducible rfl)
          try simp only [Act.put, List.setIfInBounds_toArray, List.set_cons_zero, List.set_cons_succ]
          refine wpAnyH_take (i := 12) (oi := ⟨_, _, _, _, _, _⟩) (v := ?_) rfl (by kernel_rfl) (by kernel_rfl) (by kernel_rfl) (fun _ _ _ h => h) (Or.inl ⟨by rfl, ?_⟩) hHeld ?_
          rotate_left
          · ((intro w hSw; (try dsimp only at hSw); go_simp) <;> with_reducible rfl)
          try simp only [Act.put, List.setIfInBounds_toArray, List.set_cons_zero, List.set_cons_succ]
          refine wpAnyH_take (i := 13) (oi := ⟨_, _, _, _, _, _⟩) (v := ?_) rfl (by kernel_rfl) (by kernel_rfl) (by kernel_rfl) (fun _ _ _ h => h) (Or.inl ⟨by rfl, ?_⟩) hHeld ?_
          rotate_left
          · ((intro w hSw; (try dsimp only at hSw); go_simp) <;> with_reducible rfl)
          try simp only [Act.put, List.setIfInBounds_toArray, List.set_cons_zero, List.set_cons_succ]
          refine wpAnyH_take (i := 14) (oi := ⟨_, _, _, _, _, _⟩) (v := ?_) rfl (by kernel_rfl) (by kernel_rfl) (by kernel_rfl) (fun _ _ _ h => h) (Or.inl ⟨by rfl, ?_⟩) hHeld ?_
          rotate_left
          · ((intro w hSw; (try dsimp only at hSw); go_simp) <;> with_reducible rfl)
          try simp only [Act.put, List.setIfInBounds_toArray, List.set_cons_zero, List.set_cons_succ]
          refine wpAnyH_take (i := 15) (oi := ⟨_, _, _, _, _, _⟩) (v := ?_) rfl (by kernel_rfl) (by kernel_rfl) (by kernel_rfl) (fun _ _ _ h => h) (Or.inl ⟨by rfl, ?_⟩) hHeld ?_
          rotate_left
          · ((intro w hSw; (try dsimp only at hSw); go_simp) <;> with_reducible rfl)
          try simp only [Act.put, List.setIfInBounds_toArray, List.set_cons_zero, List.set_cons_succ]
          refine wpAnyH_take (i := 16) (oi := ⟨_, _, _, _, _, _⟩) (v := ?_) rfl (by kernel_rfl) (by kernel_rfl) (by kernel_rfl) (fun _ _ _ h => h) (Or.inl ⟨by rfl, ?_⟩) hHeld ?_
          rotate_left
          · ((intro w hSw; (try dsimp only at hSw); go_simp) <;> with_reducible rfl)
          try simp only [Act.put, List.setIfInBounds_toArray, List.set_cons_zero, List.set_cons_succ]
          refine wpAnyH_ready (rs := [4, 17]) (by kernel_rfl) (by simp) ?_
          refine AllReadyH.cons (o := ⟨_, _, _, _, _, _⟩) rfl (fun K hK => ?_) ?_
          rotate_left
          refine AllReadyH.cons (o := ⟨_, _, _, _, _, _⟩) rfl (fun K hK => ?_) ?_
          rotate_left
          · exact AllReadyH.nil
          · go_simp
            refine hK.out _ _ (HS1.out) (fun hHeld => ?_)
            clear hK K
            try simp only [Act.put, List.setIfInBounds_toArray, List.set_cons_zero, List.set_cons_succ]
            refine wpAnyH_take (i := 7) (oi := ⟨_, _, _, _, _, _⟩) (v := ?_) rfl (by kernel_rfl) (by kernel_rfl) (by kernel_rfl) (fun _ _ _ h => h) (Or.inl ⟨by rfl, ?_⟩) hHeld ?_
            rotate_left
            · ((intro w hSw; (try dsimp only at hSw); go_simp) <;> with_reducible rfl)
            try simp only [Act.put, List.setIfInBounds_toArray, List.set_cons_zero, List.set_cons_succ]
            refine wpAnyH_ready (rs := [17]) (by kernel_rfl) (by simp) ?_
            refine AllReadyH.cons (o := ⟨_, _, _, _, _, _⟩) rfl (fun K hK => ?_) ?_
            rotate_left
            · exact AllReadyH.nil
            go_simp
            go_at_call 83
            with_reducible refine CND.out.mono ?_
            rintro o w6 ⟨rfl, hb6⟩
            have HB6 : Hid (Below wc.heap.size wc w6) := Lib.hid ((Below.refl _ _).drew.trans hb6)
            have HSA := Lib.hid (HSX.out w6 HB6.out)
            have HSB : Hid (∀ o, _) := Lib.hid (fun o => HSX.out (w6.alloc o) (HB6.out.alloc HB6.out.size o))
            have er6 := HSA.out.2.2.2.2
            have er7 := fun o => (HSB.out o).2.2.2.2
            clear hb6
            refine hK.out _ _ (⟨HSA.out.1, HSA.out.2.1, HSA.out.2.2.1, HSA.out.2.2.2.1⟩) (fun hHeld => ?_)
            clear hK K
            try simp only [Act.put, List.setIfInBounds_toArray, List.set_cons_zero, List.set_cons_succ]
            refine wpAnyH_take (i := 18) (oi := ⟨_, _, _, _, _, _⟩) (v := ?_) rfl (by kernel_rfl) (by kernel_rfl) (by kernel_rfl) (fun _ _ _ h => h) (Or.inl ⟨by rfl, ?_⟩) hHeld ?_
            rotate_left
            · ((intro w hSw; (try dsimp only at hSw); go_simp) <;> with_reducible rfl)
            try simp only [Act.put, List.setIfInBounds_toArray, List.set_cons_zero, List.set_cons_succ]
            refine wpAnyH_ready (rs := [19]) (by kernel_rfl) (by simp) ?_
            refine AllReadyH.cons (o := ⟨_, _, _, _, _, _⟩) rfl (fun K hK => ?_) ?_
            rotate_left
            · exact AllReadyH.nil
            go_simp
            refine hK.out _ _ (⟨(HSB.out _).1, (HSB.out _).2.1, (HSB.out _).2.2.1, (HSB.out _).2.2.2.1⟩) (fun hHeld => ?_)
            clear hK K
            try simp only [Act.put, List.setIfInBounds_toArray, List.set_cons_zero, List.set_cons_succ]
            refine wpAnyH_ready (rs := [20]) (by kernel_rfl) (by simp) ?_
            refine AllReadyH.cons (o := ⟨_, _, _, _, _, _⟩) rfl (fun K hK => ?_) ?_
            rotate_left
            · exact AllReadyH.nil
            refine step_grew (v := .slice (some ⟨g, 0, none⟩) i cq) rfl (.tmp 63) (.tmp 75) rfl Tryd.underlying60 (.agg #[.int .i64 0, .int .i64 0, .string ⟨#[]⟩]) 3 info_pc rfl (by decide) [.int .i64 (ab : Int), .int .i64 (a1 : Int), .string ns] 1 ⟨w6.heap.size, 0, none⟩ rfl rfl (HH6.out _ (HB6.out.alloc HB6.out.size _)) rfl (by decide) (HC6.out w6) HX7.out hl3 hl4 ?_
            intro v5 w5 hg5
            obtain ⟨p5, c5, rfl, k5, f5, HS5, HS6, HFU⟩ := HG7.out _ _ _ HB6.out hg5
            clear hg5
            refine hK.out _ _ (HS5.out) (fun hHeld => ?_)
            clear hK K
            try simp only [Act.put, List.setIfInBounds_toArray, List.set_cons_zero, List.set_cons_succ]
            refine wpAnyH_take (i := 21) (oi := ⟨_, _, _, _, _, _⟩) (v := ?_) rfl (by kernel_rfl) (by kernel_rfl) (by kernel_rfl) (fun _ _ _ h => h) (Or.inl ⟨by rfl, ?_⟩) hHeld ?_
            rotate_left
            · ((intro w hSw; (try dsimp only at hSw); go_simp) <;> with_reducible rfl)
            try simp only [Act.put, List.setIfInBounds_toArray, List.set_cons_zero, List.set_cons_succ]
            refine wpAnyH_take (i := 22) (oi := ⟨_, _, _, _, _, _⟩) (v := ?_) rfl (by kernel_rfl) (by kernel_rfl) (by kernel_rfl) (fun _ _ _ h => h) (Or.inl ⟨by rfl, ?_⟩) hHeld ?_
            rotate_left
            · ((intro w hSw; (try dsimp only at hSw); go_simp) <;> with_reducible rfl)
            try simp only [Act.put, List.setIfInBounds_toArray, List.set_cons_zero, List.set_cons_succ]
            refine wpAnyH_ready (rs := [23]) (by kernel_rfl) (by simp) ?_
            refine AllReadyH.cons (o := ⟨_, _, _, _, _, _⟩) rfl (fun K hK => ?_) ?_
            rotate_left
            · exact AllReadyH.nil
            go_simp
            refine hK.out _ _ (HS6.out) (fun hHeld => ?_)
            clear hK K
            try simp only [Act.put, List.setIfInBounds_toArray, List.set_cons_zero, List.set_cons_succ]
            refine wpAnyH_done (by kernel_rfl) ?_ _
            refine NoPanic.normal ?_
            go_wp2_with fail
            exact ⟨⟨r'', (ab, a1, ns), _, _, j, by simp, by have := HIJ.out; omega, Lib.hid HIJ.out.2.1, HFU⟩, by show ((j : Int)).toNat < (m : Int).toNat; omega⟩
          · go_simp
            go_at_call 83
            with_reducible refine CND.out.mono ?_
            rintro o w6 ⟨rfl, hb6⟩
            have HB6 : Hid (Below wc.heap.size wc w6) := Lib.hid ((Below.refl _ _).drew.trans hb6)
            have HSA := Lib.hid (HSX.out w6 HB6.out)
            have HSB : Hid (∀ o, _) := Lib.hid (fun o => HSX.out (w6.alloc o) (HB6.out.alloc HB6.out.size o))
            have er6 := HSA.out.2.2.2.2
            have er7 := fun o => (HSB.out o).2.2.2.2
            clear hb6
            refine hK.out _ _ (⟨HSA.out.1, HSA.out.2.1, HSA.out.2.2.1, HSA.out.2.2.2.1⟩) (fun hHeld => ?_)
            clear hK K
            try simp only [Act.put, List.setIfInBounds_toArray, List.set_cons_zero, List.set_cons_succ]
            refine wpAnyH_take (i := 18) (oi := ⟨_, _, _, _, _, _⟩) (v := ?_) rfl (by kernel_rfl) (by kernel_rfl) (by kernel_rfl) (fun _ _ _ h => h) (Or.inl ⟨by rfl, ?_⟩) hHeld ?_
            rotate_left
            · ((intro w hSw; (try dsimp only at hSw); go_simp) <;> with_reducible rfl)
            try simp only [Act.put, List.setIfInBounds_toArray, List.set_cons_zero, List.set_cons_succ]
            refine wpAnyH_ready (rs := [4, 19]) (by kernel_rfl) (by simp) ?_
            refine AllReadyH.cons (o := ⟨_, _, _, _, _, _⟩) rfl (fun K hK => ?_) ?_
            rotate_left
            refine AllReadyH.cons (o := ⟨_, _, _, _, _, _⟩) rfl (fun K hK => ?_) ?_
            rotate_left
            · exact AllReadyH.nil
            · go_simp
              refine hK.out _ _ (⟨HSA.out.1, HSA.out.2.1, HSA.out.2.2.1, HSA.out.2.2.2.1⟩) (fun hHeld => ?_)
              clear hK K
              try simp only [Act.put, List.setIfInBounds_toArray, List.set_cons_zero, List.set_cons_succ]
              refine wpAnyH_take (i := 7) (oi := ⟨_, _, _, _, _, _⟩) (v := ?_) rfl (by kernel_rfl) (by kernel_rfl) (by kernel_rfl) (fun _ _ _ h => h) (Or.inl ⟨by rfl, ?_⟩) hHeld ?_
              rotate_left
              · ((intro w hSw; (try dsimp only at hSw); go_simp) <;> with_reducible rfl)
              try simp only [Act.put, List.setIfInBounds_toArray, List.set_cons_zero, List.set_cons_succ]
              refine wpAnyH_ready (rs := [19]) (by kernel_rfl) (by simp) ?_
              refine AllReadyH.cons (o := ⟨_, _, _, _, _, _⟩) rfl (fun K hK => ?_) ?_
              rotate_left
              · exact AllReadyH.nil
              go_simp
              refine hK.out _ _ (⟨(HSB.out _).1, (HSB.out _).2.1, (HSB.out _).2.2.1, (HSB.out _).2.2.2.1⟩) (fun hHeld => ?_)
              clear hK K
              try simp only [Act.put, List.setIfInBounds_toArray, List.set_cons_zero, List.set_cons_succ]
              refine wpAnyH_ready (rs := [20]) (by kernel_rfl) (by simp) ?_
              refine AllReadyH.cons (o := ⟨_, _, _, _, _, _⟩) rfl (fun K hK => ?_) ?_
              rotate_left
              · exact AllReadyH.nil
              refine step_grew (v := .slice (some ⟨g, 0, none⟩) i cq) rfl (.tmp 63) (.tmp 75) rfl Tryd.underlying60 (.agg #[.int .i64 0, .int .i64 0, .string ⟨#[]⟩]) 3 info_pc rfl (by decide) [.int .i64 (ab : Int), .int .i64 (a1 : Int), .string ns] 1 ⟨w6.heap.size, 0, none⟩ rfl rfl (HH6.out _ (HB6.out.alloc HB6.out.size _)) rfl (by decide) (HC6.out w6) HX7.out hl3 hl4 ?_
              intro v5 w5 hg5
              obtain ⟨p5, c5, rfl, k5, f5, HS5, HS6, HFU⟩ := HG7.out _ _ _ HB6.out hg5
              clear hg5
              refine hK.out _ _ (HS5.out) (fun hHeld => ?_)
              clear hK K
              try simp only [Act.put, List.setIfInBounds_toArray, List.set_cons_zero, List.set_cons_succ]
              refine wpAnyH_take (i := 21) (oi := ⟨_, _, _, _, _, _⟩) (v := ?_) rfl (by kernel_rfl) (by kernel_rfl) (by kernel_rfl) (fun _ _ _ h => h) (Or.inl ⟨by rfl, ?_⟩) hHeld ?_
              rotate_left
              · ((intro w hSw; (try dsimp only at hSw); go_simp) <;> with_reducible rfl)
              try simp only [Act.put, List.setIfInBounds_toArray, List.set_cons_zero, List.set_cons_succ]
              refine wpAnyH_take (i := 22) (oi := ⟨_, _, _, _, _, _⟩) (v := ?_) rfl (by kernel_rfl) (by kernel_rfl) (by kernel_rfl) (fun _ _ _ h => h) (Or.inl ⟨by rfl, ?_⟩) hHeld ?_
              rotate_left
              · ((intro w hSw; (try dsimp only at hSw); go_simp) <;> with_reducible rfl)
              try simp only [Act.put, List.setIfInBounds_toArray, List.set_cons_zero, List.set_cons_succ]
              refine wpAnyH_ready (rs := [23]) (by kernel_rfl) (by simp) ?_
              refine AllReadyH.cons (o := ⟨_, _, _, _, _, _⟩) rfl (fun K hK => ?_) ?_
              rotate_left
              · exact AllReadyH.nil
              go_simp
              refine hK.out _ _ (HS6.out) (fun hHeld => ?_)
              clear hK K
              try simp only [Act.put, List.setIfInBounds_toArray, List.set_cons_zero, List.set_cons_succ]
              refine wpAnyH_done (by kernel_rfl) ?_ _
              refine NoPanic.normal ?_
              go_wp2_with fail
              exact ⟨⟨r'', (ab, a1, ns), _, _, j, by simp, by have := HIJ.out; omega, Lib.hid HIJ.out.2.1, HFU⟩, by show ((j : Int)).toNat < (m : Int).toNat; omega⟩
            · go_simp
              refine hK.out _ _ (⟨(HSB.out _).1, (HSB.out _).2.1, (HSB.out _).2.2.1, (HSB.out _).2.2.2.1⟩) (fun hHeld => ?_)
              clear hK K
              try simp only [Act.put, List.setIfInBounds_toArray, List.set_cons_zero, List.set_cons_succ]
              refine wpAnyH_ready (rs := [4]) (by kernel_rfl) (by simp) ?_
              refine AllReadyH.cons (o := ⟨_, _, _, _, _, _⟩) rfl (fun K hK => ?_) ?_
              rotate_left
              · exact AllReadyH.nil
              go_simp
              refine hK.out _ _ (⟨(HSB.out _).1, (HSB.out _).2.1, (HSB.out _).2.2.1, (HSB.out _).2.2.2.1⟩) (fun hHeld => ?_)
              clear hK K
              try simp only [Act.put, List.setIfInBounds_toArray, List.set_cons_zero, List.set_cons_succ]
              refine wpAnyH_take (i := 7) (oi := ⟨_, _, _, _, _, _⟩) (v := ?_) rfl (by kernel_rfl) (by kernel_rfl) (by kernel_rfl) (fun _ _ _ h => h) (Or.inl ⟨by rfl, ?_⟩) hHeld ?_
              rotate_left
              · ((intro w hSw; (try dsimp only at hSw); go_simp) <;> with_reducible rfl)
              try simp only [Act.put, List.setIfInBounds_toArray, List.set_cons_zero, List.set_cons_succ]
              refine wpAnyH_ready (rs := [20]) (by kernel_rfl) (by simp) ?_
              refine AllReadyH.cons (o := ⟨_, _, _, _, _, _⟩) rfl (fun K hK => ?_) ?_
              rotate_left
              · exact AllReadyH.nil
              refine step_grew (v := .slice (some ⟨g, 0, none⟩) i cq) rfl (.tmp 63) (.tmp 75) rfl Tryd.underlying60 (.agg #[.int .i64 0, .int .i64 0, .string ⟨#[]⟩]) 3 info_pc rfl (by decide) [.int .i64 (ab : Int), .int .i64 (a1 : Int), .string ns] 1 ⟨w6.heap.size, 0, none⟩ rfl rfl (HH6.out _ (HB6.out.alloc HB6.out.size _)) rfl (by decide) (HC6.out w6) HX7.out hl3 hl4 ?_
              intro v5 w5 hg5
              obtain ⟨p5, c5, rfl, k5, f5, HS5, HS6, HFU⟩ := HG7.out _ _ _ HB6.out hg5
              clear hg5
              refine hK.out _ _ (HS5.out) (fun hHeld => ?_)
              clear hK K
              try simp only [Act.put, List.setIfInBounds_toArray, List.set_cons_zero, List.set_cons_succ]
              refine wpAnyH_take (i := 21) (oi := ⟨_, _, _, _, _, _⟩) (v := ?_) rfl (by kernel_rfl) (by kernel_rfl) (by kernel_rfl) (fun _ _ _ h => h) (Or.inl ⟨by rfl, ?_⟩) hHeld ?_
              rotate_left
              · ((intro w hSw; (try dsimp only at hSw); go_simp) <;> with_reducible rfl)
              try simp only [Act.put, List.setIfInBounds_toArray, List.set_cons_zero, List.set_cons_succ]
              refine wpAnyH_take (i := 22) (oi := ⟨_, _, _, _, _, _⟩) (v := ?_) rfl (by kernel_rfl) (by kernel_rfl) (by kernel_rfl) (fun _ _ _ h => h) (Or.inl ⟨by rfl, ?_⟩) hHeld ?_
              rotate_left
              · ((intro w hSw; (try dsimp only at hSw); go_simp) <;> with_reducible rfl)
              try simp only [Act.put, List.setIfInBounds_toArray, List.set_cons_zero, List.set_cons_succ]
              refine wpAnyH_ready (rs := [23]) (by kernel_rfl) (by simp) ?_
              refine AllReadyH.cons (o := ⟨_, _, _, _, _, _⟩) rfl (fun K hK => ?_) ?_
              rotate_left
              · exact AllReadyH.nil
              go_simp
              refine hK.out _ _ (HS6.out) (fun hHeld => ?_)
              clear hK K
              try simp only [Act.put, List.setIfInBounds_toArray, List.set_cons_zero, List.set_cons_succ]
              refine wpAnyH_done (by kernel_rfl) ?_ _
              refine NoPanic.normal ?_
              go_wp2_with fail
              exact ⟨⟨r'', (ab, a1, ns), _, _, j, by simp, by have := HIJ.out; omega, Lib.hid HIJ.out.2.1, HFU⟩, by show ((j : Int)).toNat < (m : Int).toNat; omega⟩
end Go.Proofs.YtdbghgpohdijfaaDoor
