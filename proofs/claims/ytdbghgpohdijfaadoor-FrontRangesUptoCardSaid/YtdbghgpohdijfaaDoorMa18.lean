/- Tiles: the hashes of complete subtrees of some leaves; how many there are. -/
import Derived.Test.YtdbghgpohdijfaaDoorMa17
import Derived.Test.YtdbghgpohdijfaaDoorMa16
import Derived.IntWalk
import Derived.WalkKit
import Derived.WalkSpells
import Derived.WalkLawsBesides
import Derived.Lib.Hide
import Derived.BigRegion
import Derived.RegionTactic
import Derived.Deep.QuietTactic
import Derived.Deep.RegionWith
import Derived.Deep.RegionLaw
namespace Go.Proofs.YtdbghgpohdijfaaDoor
open Go.RowKit Go.Scr
set_option linter.unusedVariables false
/-- the hash of the i-th complete subtree of a level -/
def valL (L : List ByteArray) (l i : Nat) : ByteArray := rootR ((L.drop (i * 2 ^ l)).take (2 ^ l))
def cL (n l : Nat) : Nat := n / 2 ^ l
theorem cL_mono (n : Nat) : ∀ l j, cL n (l + j) * 2 ^ j ≤ cL n l := by
  intro l j
  unfold cL
  rw [Nat.pow_add, ← Nat.div_div_eq_div_mul]
  exact Nat.div_mul_le_self _ _
theorem cL_lt {n l i : Nat} : i < cL n l ↔ (i + 1) * 2 ^ l ≤ n := by
  unfold cL
  exact Nat.le_div_iff_mul_le (two_pos l)
theorem valL_zero {L : List ByteArray} {i : Nat} {x : ByteArray} (h : L[i]? = some x) : valL L 0 i = x := by
  obtain ⟨hi, rfl⟩ := List.getElem?_eq_some_iff.mp h
  unfold valL
  rw [Nat.pow_zero, Nat.mul_one, List.drop_eq_getElem_cons hi, List.take_succ_cons, List.take_zero]
  exact rootL_one _ _ _
theorem valL_snoc {L : List ByteArray} {x : ByteArray} {l i : Nat} (h : i < cL L.length l) : valL (L ++ [x]) l i = valL L l i := by
  have h1 := cL_lt.1 h
  rw [Nat.add_mul, Nat.one_mul] at h1
  have hp := two_pos l
  unfold valL
  clear h
  generalize 2 ^ l = p at *
  rw [List.drop_append_of_le_length (by omega), List.take_append_of_le_length (by rw [List.length_drop]; omega)]
theorem spl_two (l : Nat) : spl (2 ^ (l + 1)) = 2 ^ l := by
  have h1 : 2 ≤ 2 ^ (l + 1) := by rw [Nat.pow_succ]; have := two_pos l; omega
  obtain ⟨k, q1, q2, q3⟩ := spl_pow h1
  have h2 := (Nat.pow_lt_pow_iff_right (show 1 < 2 by decide)).1 q2
  have h3 := (Nat.pow_le_pow_iff_right (show 1 < 2 by decide)).1 q3
  rw [q1, show k = l by omega]
theorem valL_node {L : List ByteArray} {l i : Nat} (h : i < cL L.length (l + 1)) : valL L (l + 1) i = nodeS (valL L l (2 * i)) (valL L l (2 * i + 1)) := by
  have h1 := cL_lt.1 h
  have hp : 2 ^ (l + 1) = 2 ^ l + 2 ^ l := by rw [Nat.pow_succ]; omega
  have e1 : i * 2 ^ (l + 1) = 2 * i * 2 ^ l := by rw [hp, Nat.mul_add, Nat.mul_comm 2 i, Nat.mul_assoc, Nat.two_mul, Nat.mul_add]
  have e2 : (2 * i + 1) * 2 ^ l = 2 * i * 2 ^ l + 2 ^ l := by rw [Nat.add_mul, Nat.one_mul]
  rw [Nat.add_mul, Nat.one_mul, e1, hp] at h1
  have hlen : ((L.drop (i * 2 ^ (l + 1))).take (2 ^ (l + 1))).length = 2 ^ (l + 1) := by rw [List.length_take, List.length_drop, e1, hp]; omega
  unfold valL
  rw [rootR_split (by rw [hlen, hp]; have := two_pos l; omega), hlen, spl_two, e2, e1, List.take_take, hp, Nat.min_eq_left (by omega), List.drop_take, List.drop_drop, show 2 ^ l + 2 ^ l - 2 ^ l = 2 ^ l by omega]
theorem rootR_size (n : Nat) : ∀ L : List ByteArray, L.length = n → 1 ≤ n → (∀ s ∈ L, s.size = 32) → (rootR L).size = 32 := by
  induction n using Nat.strongRecOn with
  | ind n ih =>
    intro L hL hn h
    by_cases h1 : n = 1
    · subst h1
      match L, hL with
      | [x], _ =>
        rw [show rootR [x] = x from rootL_one _ _ _]
        exact h x (List.mem_singleton.2 rfl)
    · have hs := spl_lt (show 2 ≤ n by omega)
      rw [rootR_split (by omega), hL]
      have q1 := ih (spl n) hs.2.1 (L.take (spl n)) (by rw [List.length_take]; omega) hs.1 (fun s hs => h s (List.mem_of_mem_take hs))
      have q2 := ih (n - spl n) (by omega) (L.drop (spl n)) (by rw [List.length_drop]; omega) (by omega) (fun s hs => h s (List.mem_of_mem_drop hs))
      unfold nodeS
      rw [if_pos ⟨q1, q2⟩]
      unfold hnode
      rw [str_size, sha_length]
theorem valL_size {L : List ByteArray} {l i : Nat} (h : i < cL L.length l) (h32 : ∀ s ∈ L, s.size = 32) : (valL L l i).size = 32 := by
  have h1 := cL_lt.1 h
  rw [Nat.add_mul, Nat.one_mul] at h1
  have hp := two_pos l
  exact rootR_size (2 ^ l) _ (by rw [List.length_take, List.length_drop]; omega) hp (fun s hs => h32 s (List.mem_of_mem_drop (List.mem_of_mem_take hs)))
/-- levels up to k have taken the new leaf -/
def cAdd (n k : Nat) : Nat → Nat := fun l => if l < k then n / 2 ^ l + 1 else n / 2 ^ l
theorem cAdd_zero (n : Nat) : cAdd n 0 = cL n := by funext l; unfold cAdd cL; rw [if_neg (by omega)]
theorem cAdd_up (n k : Nat) : upC (cAdd n k) k = cAdd n (k + 1) := by
  funext l
  unfold upC
  by_cases h : l = k
  · subst h
    rw [if_pos rfl]
    unfold cAdd
    rw [if_neg (by omega), if_pos (by omega)]
  · rw [if_neg h]
    unfold cAdd
    by_cases h2 : l < k
    · rw [if_pos h2, if_pos (by omega)]
    · rw [if_neg h2, if_neg (by omega)]
theorem div_succ {n l : Nat} (h : 2 ^ l ∣ n + 1) : n / 2 ^ l + 1 = (n + 1) / 2 ^ l := by
  obtain ⟨q, hq⟩ := h
  have hp := two_pos l
  have hq0 : 0 < q := by
    rcases Nat.eq_zero_or_pos q with e | e
    · rw [e] at hq; omega
    · exact e
  rw [hq, Nat.mul_div_cancel_left _ hp]
  have h1 : n = 2 ^ l * (q - 1) + (2 ^ l - 1) := by
    have : 2 ^ l * q = 2 ^ l * (q - 1) + 2 ^ l := by rw [← Nat.mul_succ]; congr 1; omega
    omega
  rw [h1, Nat.mul_add_div hp, Nat.div_eq_of_lt (by omega)]
  omega
theorem dvd_low {n a b : Nat} (h : 2 ^ b ∣ n) (hab : a ≤ b) : 2 ^ a ∣ n := Nat.dvd_trans (Nat.pow_dvd_pow 2 hab) h
theorem cAdd_all {n z : Nat} (h : 2 ^ z ∣ n + 1) (h2 : ¬ 2 ^ (z + 1) ∣ n + 1) : cAdd n (z + 1) = cL (n + 1) := by
  funext l
  unfold cAdd cL
  by_cases hl : l < z + 1
  · rw [if_pos hl]
    exact div_succ (dvd_low h (by omega))
  · rw [if_neg hl]
    have h3 : ¬ 2 ^ l ∣ n + 1 := fun h4 => h2 (dvd_low h4 (by omega))
    rw [Nat.succ_div, if_neg h3, Nat.add_zero]
theorem cAdd_hm {n l : Nat} (h : 2 ^ l ∣ n + 1) : ∀ k, k < l → (cAdd n l l + 1) * 2 ^ (l - k) ≤ cAdd n l k := by
  intro k hk
  unfold cAdd
  rw [if_neg (by omega), if_pos hk, div_succ h, div_succ (dvd_low h (by omega))]
  have := cL_mono (n + 1) k (l - k)
  unfold cL at this
  rwa [show k + (l - k) = l by omega] at this
theorem cAdd_mono {n z : Nat} (h : 2 ^ z ∣ n + 1) : ∀ k, k ≤ z + 1 → ∀ l j, cAdd n k (l + j) * 2 ^ j ≤ cAdd n k l := by
  intro k
  induction k with
  | zero => intro _; rw [cAdd_zero]; exact cL_mono n
  | succ k ih =>
    intro hk
    rw [← cAdd_up]
    exact upC_mono (ih (by omega)) (cAdd_hm (dvd_low h (by omega)))
/-- the tile that the next node of a level goes to: there, or it begins -/
theorem cAdd_ex {n l h : Nat} (hh : 0 < h) (hd : 2 ^ l ∣ n + 1) : l % h = 0 ∨ exT (cAdd n l) h (l / h) (cAdd n l l / 2 ^ (h - l % h)) := by
  by_cases h0 : l % h = 0
  · exact .inl h0
  · right
    have h1 := lvl_back (h := h) l
    have h2 := Nat.mod_lt l hh
    unfold exT cAdd
    rw [if_neg (by omega), if_pos (by omega), Nat.div_div_eq_div_mul, ← Nat.pow_add, show l + (h - l % h) = l / h * h + h by omega, Nat.pow_add, ← Nat.div_div_eq_div_mul]
    have := Nat.div_mul_le_self (n / 2 ^ (l / h * h)) (2 ^ h)
    omega
end Go.Proofs.YtdbghgpohdijfaaDoor
/- Where a node lies: its tile, its level there, its place. -/
namespace Go.Proofs.YtdbghgpohdijfaaDoor
open Go.RowKit Go.Scr
set_option linter.unusedVariables false
abbrev bpT (b : Nat) : Value := .pointer (some ⟨b, 0, none⟩)
theorem i64_andm (q k : Nat) (hk : k ≤ 62) : bits .and .i64 (q : Int) (((2 ^ k - 1 : Nat)) : Int) = ((q % 2 ^ k : Nat) : Int) := by
  have hp : 2 ^ k ≤ 2 ^ 62 := Nat.pow_le_pow_right (by decide) hk
  have hp0 := two_pos k
  have h1 : (BitVec.ofInt 64 ((2 ^ k - 1 : Nat) : Int)).toNat = 2 ^ k - 1 := by
    rw [BitVec.toNat_ofInt]
    omega
  have key : (BitVec.ofInt 64 (q : Int) &&& BitVec.ofInt 64 ((2 ^ k - 1 : Nat) : Int)).toNat = ((q : Int) % ((2 ^ 64 : Nat) : Int)).toNat % 2 ^ k := by
    rw [BitVec.toNat_and, BitVec.toNat_ofInt, h1, Nat.and_two_pow_sub_one_eq_mod]
  show IntKind.i64.wrap ((BitVec.ofInt 64 (q : Int) &&& BitVec.ofInt 64 ((2 ^ k - 1 : Nat) : Int)).toNat : Nat) = _
  have hd : ((q : Int) % ((2 ^ 64 : Nat) : Int)).toNat % 2 ^ k = q % 2 ^ k := by
    have h3 : ((q : Int) % ((2 ^ 64 : Nat) : Int)).toNat = q % 2 ^ 64 := by omega
    rw [h3, Nat.mod_mod_of_dvd q (Nat.pow_dvd_pow 2 (by omega : k ≤ 64))]
  have hm := Nat.mod_lt q hp0
  rw [key, hd]
  exact IntWalk.i64_in _ (by omega)
theorem cellB {w : World} {g k : Nat} {cs : Array Value} {T : TypeId} {v : Value} (h : w.heap[g]? = some (.cells cs T (0, 0))) (hk : cs[k]? = some v) : w.cell? ⟨g, k, none⟩ = some v := by
  simp [World.cell?, h, hk]
theorem frozB {w : World} {g k : Nat} {cs : Array Value} {T : TypeId} (h : w.heap[g]? = some (.cells cs T (0, 0))) : w.frozen? ⟨g, k, none⟩ = false := by
  simp [World.frozen?, h]
theorem results_place3 {P : Program} {fn : Func} {a t u : Tmp} {T : TypeId} {tmps : Array Value} {w : World} (h : fn.results = #[.cell a T, .tmp t, .tmp u]) :
    (results fn tmps).run P w = ((asAddr (tmps.getD a undef)).run P w).andThen fun x w' => ((loadVar T x).run P w').andThen fun v w'' => .ok (.tuple #[v, tmps.getD t undef, tmps.getD u undef]) w'' := by
  simp [results, h]
end Go.Proofs.YtdbghgpohdijfaaDoor
/- The hash of a node that is there. -/
namespace Go.Proofs.YtdbghgpohdijfaaDoor
open Go.RowKit Go.Scr
set_option linter.unusedVariables false
end Go.Proofs.YtdbghgpohdijfaaDoor
