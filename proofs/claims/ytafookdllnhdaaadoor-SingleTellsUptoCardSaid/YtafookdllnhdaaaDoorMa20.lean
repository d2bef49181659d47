/- Tiles: the hashes of complete subtrees of some leaves; how many there are. -/
import Derived.Test.YtafookdllnhdaaaDoorMa19
import Derived.Test.YtafookdllnhdaaaDoorMa18
import Derived.IntWalk
import Derived.WalkKit
import Derived.WalkSpells
import Derived.WalkLawsBesides
import Derived.Lib.Hide
import Derived.BigRegion
import Derived.RegionTactic
import Derived.Deep.QuietTactic
import Derived.Deep.RegionWith
import Derived.Deep.RegionLaw
namespace Go.Proofs.YtafookdllnhdaaaDoor
open Go.RowKit Go.Scr
set_option linter.unusedVariables false
/-- the hash of the i-th complete subtree of a level -/
def valL (L : List ByteArray) (l i : Nat) : ByteArray := rootR ((L.drop (i * 2 ^ l)).take (2 ^ l))
def cL (n l : Nat) : Nat := n / 2 ^ l
theorem cL_mono (n : Nat) : ∀ l j, cL n (l + j) * 2 ^ j ≤ cL n l := by
  intro l j
  unfold cL
  rw [Nat.pow_add, ← Nat.div_div_eq_div_mul]
  exact Nat.div_mul_le_self _ _
theorem cL_lt {n l i : Nat} : i < cL n l ↔ (i + 1) * 2 ^ l ≤ n := by
  unfold cL
  exact Nat.le_div_iff_mul_le (two_pos l)
theorem valL_zero {L : List ByteArray} {i : Nat} {x : ByteArray} (h : L[i]? = some x) : valL L 0 i = x := by
  obtain ⟨hi, rfl⟩ := List.getElem?_eq_some_iff.mp h
  unfold valL
  rw [Nat.pow_zero, Nat.mul_one, List.drop_eq_getElem_cons hi, List.take_succ_cons, List.take_zero]
  exact rootL_one _ _ _
theorem valL_snoc {L : List ByteArray} {x : ByteArray} {l i : Nat} (h : i < cL L.length l) : valL (L ++ [x]) l i = valL L l i := by
  have h1 := cL_lt.1 h
  rw [Nat.add_mul, Nat.one_mul] at h1
  have hp := two_pos l
  unfold valL
  clear h
  generalize 2 ^ l = p at *
  rw [List.drop_append_of_le_length (by omega), List.take_append_of_le_length (by rw [List.length_drop]; omega)]
theorem spl_two (l : Nat) : spl (2 ^ (l + 1)) = 2 ^ l := by
  have h1 : 2 ≤ 2 ^ (l + 1) := by rw [Nat.pow_succ]; have := two_pos l; omega
  obtain ⟨k, q1, q2, q3⟩ := spl_pow h1
  have h2 := (Nat.pow_lt_pow_iff_right (show 1 < 2 by decide)).1 q2
  have h3 := (Nat.pow_le_pow_iff_right (show 1 < 2 by decide)).1 q3
  rw [q1, show k = l by omega]
theorem valL_node {L : List ByteArray} {l i : Nat} (h : i < cL L.length (l + 1)) : valL L (l + 1) i = nodeS (valL L l (2 * i)) (valL L l (2 * i + 1)) := by
  have h1 := cL_lt.1 h
  have hp : 2 ^ (l + 1) = 2 ^ l + 2 ^ l := by rw [Nat.pow_succ]; omega
  have e1 : i * 2 ^ (l + 1) = 2 * i * 2 ^ l := by rw [hp, Nat.mul_add, Nat.mul_comm 2 i, Nat.mul_assoc, Nat.two_mul, Nat.mul_add]
  have e2 : (2 * i + 1) * 2 ^ l = 2 * i * 2 ^ l + 2 ^ l := by rw [Nat.add_mul, Nat.one_mul]
  rw [Nat.add_mul, Nat.one_mul, e1, hp] at h1
  have hlen : ((L.drop (i * 2 ^ (l + 1))).take (2 ^ (l + 1))).length = 2 ^ (l + 1) := by rw [List.length_take, List.length_drop, e1, hp]; omega
  unfold valL
  rw [rootR_split (by rw [hlen, hp]; have := two_pos l; omega), hlen, spl_two, e2, e1, List.take_take, hp, Nat.min_eq_left (by omega), List.drop_take, List.drop_drop, show 2 ^ l + 2 ^ l - 2 ^ l = 2 ^ l by omega]
theorem rootR_size (n : Nat) : ∀ L : List ByteArray, L.length = n → 1 ≤ n → (∀ s ∈ L, s.size = 32) → (rootR L).size = 32 := by
  induction n using Nat.strongRecOn with
  | ind n ih =>
    intro L hL hn h
    by_cases h1 : n = 1
    · subst h1
      match L, hL with
      | [x], _ =>
        rw [show rootR [x] = x from rootL_one _ _ _]
        exact h x (List.mem_singleton.2 rfl)
    · have hs := spl_lt (show 2 ≤ n by omega)
      rw [rootR_split (by omega), hL]
      have q1 := ih (spl n) hs.2.1 (L.take (spl n)) (by rw [List.length_take]; omega) hs.1 (fun s hs => h s (List.mem_of_mem_take hs))
      have q2 := ih (n - spl n) (by omega) (L.drop (spl n)) (by rw [List.length_drop]; omega) (by omega) (fun s hs => h s (List.mem_of_mem_drop hs))
      unfold nodeS
      rw [if_pos ⟨q1, q2⟩]
      unfold hnode
      rw [str_size, sha_length]
theorem valL_size {L : List ByteArray} {l i : Nat} (h : i < cL L.length l) (h32 : ∀ s ∈ L, s.size = 32) : (valL L l i).size = 32 := by
  have h1 := cL_lt.1 h
  rw [Nat.add_mul, Nat.one_mul] at h1
  have hp := two_pos l
  exact rootR_size (2 ^ l) _ (by rw [List.length_take, List.length_drop]; omega) hp (fun s hs => h32 s (List.mem_of_mem_drop (List.mem_of_mem_take hs)))
/-- levels up to k have taken the new leaf -/
def cAdd (n k : Nat) : Nat → Nat := fun l => if l < k then n / 2 ^ l + 1 else n / 2 ^ l
theorem cAdd_zero (n : Nat) : cAdd n 0 = cL n := by funext l; unfold cAdd cL; rw [if_neg (by omega)]
theorem cAdd_up (n k : Nat) : upC (cAdd n k) k = cAdd n (k + 1) := by
  funext l
  unfold upC
  by_cases h : l = k
  · subst h
    rw [if_pos rfl]
    unfold cAdd
    rw [if_neg (by omega), if_pos (by omega)]
  · rw [if_neg h]
    unfold cAdd
    by_cases h2 : l < k
    · rw [if_pos h2, if_pos (by omega)]
    · rw [if_neg h2, if_neg (by omega)]
theorem div_succ {n l : Nat} (h : 2 ^ l ∣ n + 1) : n / 2 ^ l + 1 = (n + 1) / 2 ^ l := by
  obtain ⟨q, hq⟩ := h
  have hp := two_pos l
  have hq0 : 0 < q := by
    rcases Nat.eq_zero_or_pos q with e | e
    · rw [e] at hq; omega
    · exact e
  rw [hq, Nat.mul_div_cancel_left _ hp]
  have h1 : n = 2 ^ l * (q - 1) + (2 ^ l - 1) := by
    have : 2 ^ l * q = 2 ^ l * (q - 1) + 2 ^ l := by rw [← Nat.mul_succ]; congr 1; omega
    omega
  rw [h1, Nat.mul_add_div hp, Nat.div_eq_of_lt (by omega)]
  omega
theorem dvd_low {n a b : Nat} (h : 2 ^ b ∣ n) (hab : a ≤ b) : 2 ^ a ∣ n := Nat.dvd_trans (Nat.pow_dvd_pow 2 hab) h
theorem cAdd_all {n z : Nat} (h : 2 ^ z ∣ n + 1) (h2 : ¬ 2 ^ (z + 1) ∣ n + 1) : cAdd n (z + 1) = cL (n + 1) := by
  funext l
  unfold cAdd cL
  by_cases hl : l < z + 1
  · rw [if_pos hl]
    exact div_succ (dvd_low h (by omega))
  · rw [if_neg hl]
    have h3 : ¬ 2 ^ l ∣ n + 1 := fun h4 => h2 (dvd_low h4 (by omega))
    rw [Nat.succ_div, if_neg h3, Nat.add_zero]
theorem cAdd_hm {n l : Nat} (h : 2 ^ l ∣ n + 1) : ∀ k, k < l → (cAdd n l l + 1) * 2 ^ (l - k) ≤ cAdd n l k := by
  intro k hk
  unfold cAdd
  rw [if_neg (by omega), if_pos hk, div_succ h, div_succ (dvd_low h (by omega))]
  have := cL_mono (n + 1) k (l - k)
  unfold cL at this
  rwa [show k + (l - k) = l by omega] at this
theorem cAdd_mono {n z : Nat} (h : 2 ^ z ∣ n + 1) : ∀ k, k ≤ z + 1 → ∀ l j, cAdd n k (l + j) * 2 ^ j ≤ cAdd n k l := by
  intro k
  induction k with
  | zero => intro _; rw [cAdd_zero]; exact cL_mono n
  | succ k ih =>
    intro hk
    rw [← cAdd_up]
    exact upC_mono (ih (by omega)) (cAdd_hm (dvd_low h (by omega)))
/-- the tile that the next node of a level goes to: there, or it begins -/
theorem cAdd_ex {n l h : Nat} (hh : 0 < h) (hd : 2 ^ l ∣ n + 1) : l % h = 0 ∨ exT (cAdd n l) h (l / h) (cAdd n l l / 2 ^ (h - l % h)) := by
  by_cases h0 : l % h = 0
  · exact .inl h0
  · right
    have h1 := lvl_back (h := h) l
    have h2 := Nat.mod_lt l hh
    unfold exT cAdd
    rw [if_neg (by omega), if_pos (by omega), Nat.div_div_eq_div_mul, ← Nat.pow_add, show l + (h - l % h) = l / h * h + h by omega, Nat.pow_add, ← Nat.div_div_eq_div_mul]
    have := Nat.div_mul_le_self (n / 2 ^ (l / h * h)) (2 ^ h)
    omega
end Go.Proofs.YtafookdllnhdaaaDoor
/- Where a node lies: its tile, its level there, its place. -/
namespace Go.Proofs.YtafookdllnhdaaaDoor
open Go.RowKit Go.Scr
set_option linter.unusedVariables false
abbrev bpT (b : Nat) : Value := .pointer (some ⟨b, 0, none⟩)
theorem i64_andm (q k : Nat) (hk : k ≤ 62) : bits .and .i64 (q : Int) (((2 ^ k - 1 : Nat)) : Int) = ((q % 2 ^ k : Nat) : Int) := by
  have hp : 2 ^ k ≤ 2 ^ 62 := Nat.pow_le_pow_right (by decide) hk
  have hp0 := two_pos k
  have h1 : (BitVec.ofInt 64 ((2 ^ k - 1 : Nat) : Int)).toNat = 2 ^ k - 1 := by
    rw [BitVec.toNat_ofInt]
    omega
  have key : (BitVec.ofInt 64 (q : Int) &&& BitVec.ofInt 64 ((2 ^ k - 1 : Nat) : Int)).toNat = ((q : Int) % ((2 ^ 64 : Nat) : Int)).toNat % 2 ^ k := by
    rw [BitVec.toNat_and, BitVec.toNat_ofInt, h1, Nat.and_two_pow_sub_one_eq_mod]
  show IntKind.i64.wrap ((BitVec.ofInt 64 (q : Int) &&& BitVec.ofInt 64 ((2 ^ k - 1 : Nat) : Int)).toNat : Nat) = _
  have hd : ((q : Int) % ((2 ^ 64 : Nat) : Int)).toNat % 2 ^ k = q % 2 ^ k := by
    have h3 : ((q : Int) % ((2 ^ 64 : Nat) : Int)).toNat = q % 2 ^ 64 := by omega
    rw [h3, Nat.mod_mod_of_dvd q (Nat.pow_dvd_pow 2 (by omega : k ≤ 64))]
  have hm := Nat.mod_lt q hp0
  rw [key, hd]
  exact IntWalk.i64_in _ (by omega)
theorem cellB {w : World} {g k : Nat} {cs : Array Value} {T : TypeId} {v : Value} (h : w.heap[g]? = some (.cells cs T (0, 0))) (hk : cs[k]? = some v) : w.cell? ⟨g, k, none⟩ = some v := by
  simp [World.cell?, h, hk]
theorem frozB {w : World} {g k : Nat} {cs : Array Value} {T : TypeId} (h : w.heap[g]? = some (.cells cs T (0, 0))) : w.frozen? ⟨g, k, none⟩ = false := by
  simp [World.frozen?, h]
theorem results_place3 {P : Program} {fn : Func} {a t u : Tmp} {T : TypeId} {tmps : Array Value} {w : World} (h : fn.results = #[.cell a T, .tmp t, .tmp u]) :
    (results fn tmps).run P w = ((asAddr (tmps.getD a undef)).run P w).andThen fun x w' => ((loadVar T x).run P w').andThen fun v w'' => .ok (.tuple #[v, tmps.getD t undef, tmps.getD u undef]) w'' := by
  simp [results, h]
set_option maxRecDepth 100000 in
set_option maxHeartbeats 2000000 in
theorem at_any {w : World} {tb h l i : Nat} {nv mv : Value} {T : TypeId} (hb0 : w.heap[tb]? = some (.cells #[.int .i64 (h : Int), nv, mv] T (0, 0))) (hh : 1 ≤ h) (hh8 : h ≤ 8) (hl : l ≤ 64) (hi : i ≤ 1099511627776) :
    Calls Tryd.prog 69 #[bpT tb, .agg #[.int .i64 (l : Int), .int .i64 (i : Int)]] w fun r w' => r = .returned (.tuple #[keyZ ((l / h : Nat) : Int) ((i / 2 ^ (h - l % h) : Nat) : Int), .int .i64 ((l % h : Nat) : Int), .int .i64 ((i % 2 ^ (h - l % h) : Nat) : Int)]) ∧ Below w.heap.size w w' := by
  have hm := Nat.mod_lt l (show 0 < h by omega)
  have hdl : l / h ≤ l := Nat.div_le_self l h
  obtain ⟨q, hq⟩ : ∃ x, x = l / h := ⟨_, rfl⟩
  obtain ⟨r, hr⟩ : ∃ x, x = l % h := ⟨_, rfl⟩
  obtain ⟨a, ha⟩ : ∃ x, x = h - r := ⟨_, rfl⟩
  rw [← hq, ← hr, ← ha]
  have e1 : (l : Int).tdiv (h : Int) = (q : Int) := by rw [Int.tdiv_eq_ediv_of_nonneg (Int.natCast_nonneg _), hq]; rfl
  have e2 : (l : Int).tmod (h : Int) = (r : Int) := by rw [Int.tmod_eq_emod_of_nonneg (Int.natCast_nonneg _), hr]; rfl
  have e3 : (h : Int) - (r : Int) = (a : Int) := by omega
  have ha8 : a ≤ 8 := by omega
  have ha1 : 1 ≤ a := by omega
  obtain ⟨p, hp⟩ : ∃ x, x = 2 ^ a := ⟨_, rfl⟩
  have hpI : (2 : Int) ^ a = (p : Int) := by rw [hp]; simp
  have hp256 : p ≤ 256 := by rw [hp]; exact Nat.pow_le_pow_right (by decide) ha8
  have hp1 : 1 ≤ p := by rw [hp]; exact two_pos a
  have hb : bits .and .i64 (i : Int) ((p : Int) - 1) = ((i % p : Nat) : Int) := by
    have := i64_andm i a (by omega)
    rw [← hp] at this
    rw [← this]
    congr 1
    omega
  rw [← hp]
  obtain ⟨j, hj⟩ : ∃ x, x = i / p := ⟨_, rfl⟩
  have e4 : (i : Int) / (p : Int) = (j : Int) := by rw [hj]; simp
  have hdj : j ≤ i := by rw [hj]; exact Nat.div_le_self _ _
  obtain ⟨m, hm2⟩ : ∃ x, x = i % p := ⟨_, rfl⟩
  rw [← hj, ← hm2]
  rw [← hm2] at hb
  have hne : (h : Int) ≠ 0 := by omega
  have hq64 : q ≤ 64 := by omega
  have hr8 : r < 8 := by omega
  have HB := Lib.hid hb
  clear hq hr hp hj hm2 hm hdl ha
  go_enter Tryd.func69, Tryd.ntmps69
  go_wp2
  obtain ⟨w2, hw2⟩ : ∃ x, x = (w.alloc (.cells #[.int .i64 (l : Int), .int .i64 (i : Int)] 62)).alloc (.cells #[.int .i64 0, .int .i64 0] 96) := ⟨_, rfl⟩
  have c0 : w2.cell? ⟨tb, 0, none⟩ = some (.int .i64 (h : Int)) := by rw [hw2]; exact cellB (blk_alloc (blk_alloc hb0)) rfl
  have b1 : w2.heap[w.heap.size]? = some (.cells #[.int .i64 (l : Int), .int .i64 (i : Int)] 62 (0, 0)) := by rw [hw2]; exact blk_alloc (heap_alloc_new w _)
  have b2 : w2.heap[w.heap.size + 1]? = some (.cells #[.int .i64 0, .int .i64 0] 96 (0, 0)) := by rw [hw2]; have := heap_alloc_new (w.alloc (.cells #[.int .i64 (l : Int), .int .i64 (i : Int)] 62)) (.cells #[.int .i64 0, .int .i64 0] 96); rwa [show (w.alloc (.cells #[.int .i64 (l : Int), .int .i64 (i : Int)] 62)).heap.size = w.heap.size + 1 by simp] at this
  have c1 : w2.cell? ⟨w.heap.size, 0, none⟩ = some (.int .i64 (l : Int)) := cellB b1 rfl
  have c2 : w2.cell? ⟨w.heap.size, 1, none⟩ = some (.int .i64 (i : Int)) := cellB b1 rfl
  have c3 : w2.cell? ⟨w.heap.size + 1, 0, none⟩ = some (.int .i64 0) := cellB b2 rfl
  have c4 : w2.cell? ⟨w.heap.size + 1, 1, none⟩ = some (.int .i64 0) := cellB b2 rfl
  have f3 : w2.frozen? ⟨w.heap.size + 1, 0, none⟩ = false := frozB b2
  have f4 : w2.frozen? ⟨w.heap.size + 1, 1, none⟩ = false := frozB b2
  have HBE : Hid (Below w.heap.size w w2) := Lib.hid (by rw [hw2]; exact ((Below.refl _ _).alloc (Nat.le_refl _) _).alloc (by simp) _)
  rw [← hw2]
  clear hw2 hb0 b1 b2
  go_quiet (fail)
  go_wp2
  go_quiet (fail)
  go_wp2
  go_region
  all_goals go_wp2
  all_goals (try simp only [Exit.inBlock, Exit.then])
  all_goals refine bodyPost_ret (v := .tuple #[keyZ (q : Int) (j : Int), .int .i64 (r : Int), .int .i64 (m : Int)]) ?_ rfl ⟨rfl, ((below_drewN HBE.out _).setCell (by simp) _).setCell (by simp) _⟩
  all_goals rw [results_place3 rfl]
  all_goals go_simp
  all_goals rfl
end Go.Proofs.YtafookdllnhdaaaDoor
/- The hash of a node that is there. -/
namespace Go.Proofs.YtafookdllnhdaaaDoor
open Go.RowKit Go.Scr
set_option linter.unusedVariables false
theorem TreeJ.below {w w' : World} {tb r h n : Nat} {c : Nat → Nat} {val : Nat → Nat → ByteArray} {ex : Nat → Nat → Prop} {col : Nat → Option (Nat × Nat × Nat)} {G : Nat → Nat → Nat} {V : Nat → Nat → Nat → Value} {es : Array MapEntry} {clk : Nat} (t : TreeJ w tb r h n c val ex col G V es clk) (hb : Below w.heap.size w w') : TreeJ w' tb r h n c val ex col G V es clk :=
  t.keep (fun g hg => hb.block g (t.lo g hg)) hb.size
theorem TreeJ.drewN {w : World} {tb r h n : Nat} {c : Nat → Nat} {val : Nat → Nat → ByteArray} {ex : Nat → Nat → Prop} {col : Nat → Option (Nat × Nat × Nat)} {G : Nat → Nat → Nat} {V : Nat → Nat → Nat → Value} {es : Array MapEntry} {clk : Nat} (t : TreeJ w tb r h n c val ex col G V es clk) (k : Nat) : TreeJ (w.drewN k) tb r h n c val ex col G V es clk :=
  t.keep (fun g hg => rfl) (Nat.le_refl _)
theorem TreeJ.bounds {w : World} {tb r h n : Nat} {c : Nat → Nat} {val : Nat → Nat → ByteArray} {ex : Nat → Nat → Prop} {col : Nat → Option (Nat × Nat × Nat)} {G : Nat → Nat → Nat} {V : Nat → Nat → Nat → Value} {es : Array MapEntry} {clk : Nat} (t : TreeJ w tb r h n c val ex col G V es clk) : 1 ≤ h ∧ h ≤ 8 := t.hh
/-- the row of a node that is there, and the node in it -/
theorem TreeJ.row {w : World} {tb r h n : Nat} {c : Nat → Nat} {val : Nat → Nat → ByteArray} {ex : Nat → Nat → Prop} {col : Nat → Option (Nat × Nat × Nat)} {G : Nat → Nat → Nat} {V : Nat → Nat → Nat → Value} {es : Array MapEntry} {clk : Nat} (t : TreeJ w tb r h n c val ex col G V es clk)
    {l i : Nat} (hi : i < c l) (he : ex (l / h) (i / 2 ^ (h - l % h))) :
    ∃ g k cap, w.cell? ⟨G (l / h) (i / 2 ^ (h - l % h)), l % h, none⟩ = some (.slice (some ⟨g, 0, none⟩) k cap) ∧ i % 2 ^ (h - l % h) < k ∧ w.cell? ⟨g, i % 2 ^ (h - l % h), none⟩ = some (.string (val l i)) := by
  have hm := Nat.mod_lt l (show 0 < h by have := t.hh; omega)
  obtain ⟨q1, q2⟩ := t.out _ _ he
  obtain ⟨q3, q4⟩ := t.inn _ _ (l % h) he hm
  have hc := cnt_at (h := h) hi
  have hr := row_at val (h := h) hi
  obtain ⟨g, cap, cur, e, hb, _, _, hcur⟩ := q3.block (by omega)
  refine ⟨g, _, cap, ?_, hc, ?_⟩
  · rw [← e]
    exact cellB q1 (by simp [hm])
  · refine cellB hb ?_
    have h2 : (cur.toList.take (cntT c h (l / h) (i / 2 ^ (h - l % h)) (l % h)))[i % 2 ^ (h - l % h)]? = some (.string (val l i)) := by rw [hcur, List.getElem?_map, hr]; rfl
    rw [List.getElem?_take_of_lt hc, Array.getElem?_toList] at h2
    exact h2
set_option maxRecDepth 100000 in
set_option maxHeartbeats 2000000 in
theorem node_any {w : World} {tb r h n : Nat} {c : Nat → Nat} {val : Nat → Nat → ByteArray} {ex : Nat → Nat → Prop} {col : Nat → Option (Nat × Nat × Nat)} {G : Nat → Nat → Nat} {V : Nat → Nat → Nat → Value} {es : Array MapEntry} {clk : Nat} (t : TreeJ w tb r h n c val ex col G V es clk)
    {l i : Nat} (hl : l ≤ 64) (hi40 : i ≤ 1099511627776) (hi : i < c l) (he : ex (l / h) (i / 2 ^ (h - l % h))) :
    Calls Tryd.prog 43 #[bpT tb, .agg #[.int .i64 (l : Int), .int .i64 (i : Int)]] w fun o w' => o = .returned (.string (val l i)) ∧ Below w.heap.size w w' := by
  have hm := Nat.mod_lt l (show 0 < h by have := t.hh; omega)
  have hh8 := t.hh.2
  have hh1 := t.hh.1
  have HT := Lib.hid t
  have HA : Hid (∀ w2 : World, TreeJ w2 tb r h n c val ex col G V es clk → Calls Tryd.prog 69 #[bpT tb, .agg #[.int .i64 (l : Int), .int .i64 (i : Int)]] w2 fun r w' => r = .returned (.tuple #[.agg #[.int .i64 ((l / h : Nat) : Int), .int .i64 ((i / 2 ^ (h - l % h) : Nat) : Int)], .int .i64 ((l % h : Nat) : Int), .int .i64 ((i % 2 ^ (h - l % h) : Nat) : Int)]) ∧ Below w2.heap.size w2 w') :=
    Lib.hid fun w2 t2 => at_any t2.box hh1 hh8 hl hi40
  have HR : Hid (∀ w2 : World, TreeJ w2 tb r h n c val ex col G V es clk → w2.cell? ⟨tb, 2, none⟩ = some (.map (some r)) ∧ (∀ k, (Instr.lookup 63 (.map (some r)) (.agg #[.int .i64 ((l / h : Nat) : Int), .int .i64 ((i / 2 ^ (h - l % h) : Nat) : Int)]) false).run Tryd.prog (w2.drewN k) = .ok (.slice (some ⟨G (l / h) (i / 2 ^ (h - l % h)), 0, none⟩) h h) (w2.drewN k)) ∧ ∃ g k cap, w2.cell? ⟨G (l / h) (i / 2 ^ (h - l % h)), l % h, none⟩ = some (.slice (some ⟨g, 0, none⟩) k cap) ∧ i % 2 ^ (h - l % h) < k ∧ w2.cell? ⟨g, i % 2 ^ (h - l % h), none⟩ = some (.string (val l i))) :=
    Lib.hid fun w2 t2 => ⟨cellB t2.box rfl, fun k => (t2.drewN k).look he, t2.row hi he⟩
  clear t he hi
  obtain ⟨s, hs⟩ : ∃ x, x = val l i := ⟨_, rfl⟩
  obtain ⟨q, hq⟩ : ∃ x, x = l / h := ⟨_, rfl⟩
  obtain ⟨j, hj⟩ : ∃ x, x = i / 2 ^ (h - l % h) := ⟨_, rfl⟩
  obtain ⟨m, hm2⟩ : ∃ x, x = i % 2 ^ (h - l % h) := ⟨_, rfl⟩
  obtain ⟨e, he⟩ : ∃ x, x = l % h := ⟨_, rfl⟩
  rw [← hs] at HR ⊢
  rw [← hq, ← hj, ← hm2, ← he] at HA HR
  rw [← he] at hm
  clear hs hq hj hm2 he
  obtain ⟨gq, hgq⟩ : ∃ x, x = G q j := ⟨_, rfl⟩
  rw [← hgq] at HR
  clear hgq
  go_enter Tryd.func43, Tryd.ntmps43
  go_wp2_with (go_at_call 69; refine (HA.out _ (HT.out.below ((Below.refl _ _).alloc (Nat.le_refl _) _))).mono ?_; rintro o w1 ⟨rfl, hb1⟩; have HB1 := Lib.hid hb1; clear hb1)
  obtain ⟨w2, hw2⟩ : ∃ x, x = w1.alloc (.cells #[.int .i64 (q : Int), .int .i64 (j : Int)] 96) := ⟨_, rfl⟩
  have hB1 : Below w.heap.size w w1 := ((Below.refl _ _).alloc (Nat.le_refl _) _).trans (HB1.out.mono (by simp))
  have hs1 := hB1.size
  have HBE : Hid (Below w.heap.size w w2) := Lib.hid (by rw [hw2]; exact hB1.alloc hs1 _)
  have b1 : w2.heap[w1.heap.size]? = some (.cells #[.int .i64 (q : Int), .int .i64 (j : Int)] 96 (0, 0)) := by rw [hw2]; exact heap_alloc_new w1 _
  have c1 : w2.cell? ⟨w1.heap.size, 0, none⟩ = some (.int .i64 (q : Int)) := cellB b1 rfl
  have c2 : w2.cell? ⟨w1.heap.size, 1, none⟩ = some (.int .i64 (j : Int)) := cellB b1 rfl
  obtain ⟨k0, hlk, g, k, cap, k1, k2, k3⟩ := HR.out w2 (HT.out.below HBE.out)
  rw [← hw2]
  clear hw2 hB1 hs1 b1 HB1
  go_quiet (fail)
  go_wp2
  go_ret
  exact ⟨rfl, below_drewN HBE.out _⟩
end Go.Proofs.YtafookdllnhdaaaDoor
