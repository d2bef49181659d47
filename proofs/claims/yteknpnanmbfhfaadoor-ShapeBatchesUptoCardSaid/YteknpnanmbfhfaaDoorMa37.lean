/- Law 8's trees: what each call of ShapeTrees answers, in one shape; what is covered folds to the root. -/
import Derived.Test.YteknpnanmbfhfaaDoorMa36
import Derived.Test.YteknpnanmbfhfaaDoorMa33
namespace Go.Proofs.YteknpnanmbfhfaaDoor
open Go.RowKit Go.Scr Go.Shelf
set_option linter.unusedVariables false
theorem pathT_fits (n : Nat) : ∀ b m, ∀ x ∈ Go.Scr.pathT b n m, b ≤ x.1 ∧ x.1 < x.2 ∧ x.2 ≤ b + n := by
  induction n using Nat.strongRecOn with
  | ind n ih =>
    intro b m x hx
    by_cases h : n ≤ 1
    · rw [pathT_one b m h] at hx; cases hx
    · have hs := spl_lt (show 2 ≤ n by omega)
      by_cases h2 : m < spl n
      · rw [pathT_left b (by omega) h2] at hx
        rcases List.mem_cons.1 hx with rfl | hx
        · show b ≤ b + spl n ∧ b + spl n < b + n ∧ b + n ≤ b + n; omega
        · have := ih (spl n) hs.2.1 b m x hx; omega
      · rw [pathT_right b (by omega) h2] at hx
        rcases List.mem_cons.1 hx with rfl | hx
        · show b ≤ b ∧ b < b + spl n ∧ b + spl n ≤ b + n; omega
        · have := ih (n - spl n) (by omega) (b + spl n) (m - spl n) x hx; omega
theorem proofT_fits (n : Nat) : ∀ b m, 1 ≤ n → m ≤ n → ∀ x ∈ Go.Scr.proofT b n m, b ≤ x.1 ∧ x.1 < x.2 ∧ x.2 ≤ b + n := by
  induction n using Nat.strongRecOn with
  | ind n ih =>
    intro b m hn hm x hx
    by_cases h : m = n
    · subst h
      rw [proofT_end] at hx
      split at hx
      · cases hx
      · rw [List.mem_singleton.1 hx]; show b ≤ b ∧ b < b + m ∧ b + m ≤ b + m; omega
    · by_cases h1 : n ≤ 1
      · rw [Go.Scr.proofT, dif_pos (Or.inr h1)] at hx
        split at hx
        · cases hx
        · rw [List.mem_singleton.1 hx]; show b ≤ b ∧ b < b + n ∧ b + n ≤ b + n; omega
      · have hs := spl_lt (show 2 ≤ n by omega)
        by_cases h2 : m ≤ spl n
        · rw [proofT_left b h (by omega) h2] at hx
          rcases List.mem_cons.1 hx with rfl | hx
          · show b ≤ b + spl n ∧ b + spl n < b + n ∧ b + n ≤ b + n; omega
          · have := ih (spl n) hs.2.1 b m hs.1 h2 x hx; omega
        · rw [proofT_right b h (by omega) h2] at hx
          rcases List.mem_cons.1 hx with rfl | hx
          · show b ≤ b ∧ b < b + spl n ∧ b + spl n ≤ b + n; omega
          · have := ih (n - spl n) (by omega) (b + spl n) (m - spl n) (by omega) (by omega) x hx; omega
theorem pathT_le (n : Nat) : ∀ b m, (Go.Scr.pathT b n m).length ≤ n := by
  induction n using Nat.strongRecOn with
  | ind n ih =>
    intro b m
    by_cases h : n ≤ 1
    · rw [pathT_one b m h]; simp
    · have hs := spl_lt (show 2 ≤ n by omega)
      by_cases h2 : m < spl n
      · rw [pathT_left b (by omega) h2, List.length_cons]
        have := ih (spl n) hs.2.1 b m
        omega
      · rw [pathT_right b (by omega) h2, List.length_cons]
        have := ih (n - spl n) (by omega) (b + spl n) (m - spl n)
        omega
theorem proofT_le (n : Nat) : ∀ b m, 1 ≤ n → m ≤ n → (Go.Scr.proofT b n m).length ≤ n := by
  induction n using Nat.strongRecOn with
  | ind n ih =>
    intro b m hn hm
    by_cases h : m = n
    · subst h
      rw [proofT_end]
      split
      · simp
      · simpa using hn
    · have h1 : 1 < n ∨ n = 1 := by omega
      rcases h1 with h1 | rfl
      · have hs := spl_lt (show 2 ≤ n by omega)
        by_cases h2 : m ≤ spl n
        · rw [proofT_left b h h1 h2, List.length_cons]
          have := ih (spl n) hs.2.1 b m hs.1 h2; omega
        · rw [proofT_right b h h1 h2, List.length_cons]
          have := ih (n - spl n) (by omega) (b + spl n) (m - spl n) (by omega) (by omega); omega
      · rw [Go.Scr.proofT, dif_pos (Or.inr (Nat.le_refl _))]
        split <;> simp
theorem restT_le (look : Nat → Nat → Nat) (n : Nat) : ∀ b, 1 ≤ n → (restT look b n).length ≤ n := by
  induction n using Nat.strongRecOn with
  | ind n ih =>
    intro b hn
    by_cases h0 : look b (b + n) = 0
    · rw [restT_none h0]; simpa using hn
    · by_cases h2 : look b (b + n) = 2
      · rw [restT_all h2]; simp
      · by_cases h : n ≤ 1
        · rw [restT, if_neg h0, if_neg h2, dif_pos h]; simp
        · have hs := spl_lt (show 2 ≤ n by omega)
          rw [restT_some h0 h2 (by omega), List.length_append]
          have h3 := ih _ hs.2.1 b hs.1
          have h4 := ih (n - spl n) (by omega) (b + spl n) (by omega)
          omega
theorem spB_cast {C : List (Nat × Nat)} {n : Nat} (h : ∀ x ∈ C, x.1 < x.2 ∧ x.2 ≤ n) (hn : n ≤ 4096) : SpB (castZ C) := by
  intro x hx
  unfold castZ at hx
  obtain ⟨y, hy, rfl⟩ := List.mem_map.1 hx
  have := h y hy
  show 0 ≤ (y.1 : Int) ∧ (y.1 : Int) ≤ 1099511627776 ∧ 0 ≤ (y.2 : Int) ∧ (y.2 : Int) ≤ 1099511627776
  omega
theorem castZ_length (C : List (Nat × Nat)) : (castZ C).length = C.length := by unfold castZ; rw [List.length_map]
theorem castZ_append (C D : List (Nat × Nat)) : castZ (C ++ D) = castZ C ++ castZ D := by unfold castZ; rw [List.map_append]
theorem castZ_mem {C : List (Nat × Nat)} {b e : Nat} (h : (b, e) ∈ C) : ((b : Int), (e : Int)) ∈ castZ C := List.mem_map.2 ⟨_, h, rfl⟩
theorem held_cast {w : World} {p : Option Addr} {n c m : Nat} {C : List (Nat × Nat)} (h : Held w 29 2 (.slice p n c) n (prsV C)) (hC : ∀ x ∈ C, x.1 < x.2 ∧ x.2 ≤ m) (hm : m ≤ 4096) (hl : C.length ≤ 4096) : n = C.length ∧ SpZ w (.slice p n c) (castZ C) := by
  rw [prsV_cast] at h
  have := held_spz h (spB_cast hC hm) (by rw [castZ_length]; omega)
  rwa [castZ_length] at this
/-- a list of spans that came out new -/
def SpOut (w : World) (C : List (Nat × Nat)) (n : Nat) (r : Ending) (w' : World) : Prop :=
  (∃ p c, r = .returned (.tuple #[.slice p n c, .int .i64 0]) ∧ Held w' 29 2 (.slice p n c) n (prsV C) ∧ ∀ g, (Value.slice p n c).ownBlock = some g → w.heap.size ≤ g) ∧ Below w.heap.size w w'
/-- the hashes of some spans, that came out -/
def TxOut (w : World) (W : List ByteArray) (C : List (Nat × Nat)) (n : Nat) (r : Ending) (w' : World) : Prop :=
  (∃ p c, r = .returned (.tuple #[.slice p n c, .int .i64 0]) ∧ Txts w' (.slice p n c) (C.map (secR W))) ∧ Below w.heap.size w w'
theorem txts_len {w : World} {p : Option Addr} {n c : Nat} {L : List ByteArray} (h : Txts w (.slice p n c) L) : n = L.length := by
  obtain ⟨p', c', h1, _⟩ := h
  cases h1
  rfl
theorem txOut_own {w w' : World} {W : List ByteArray} {C : List (Nat × Nat)} {n : Nat} {L : List ByteArray} {x : Value} {r : Ending} {e : Int} (hn : n = C.length) (h1 : r = .returned (.tuple #[x, .int .i64 e])) (h2 : w'.ownsRow w.heap.size 9 1 x L.length (L.map Value.string)) (h3 : Below w.heap.size w w') (hL : L = C.map (secR W)) (he : e = 0) (hc : C.length ≤ 4096) : TxOut w W C n r w' := by
  subst hL he hn
  have ht := txts_ownR h2 (by rw [List.length_map]; omega)
  obtain ⟨pp, pc, hx, _⟩ := id ht
  rw [List.length_map] at hx
  rw [hx] at h1 ht
  exact ⟨⟨pp, pc, h1, ht⟩, h3⟩
theorem okZ_ris {n : Nat} (R : List Nat) : ∀ last : Int, (∀ x ∈ R, last < (x : Int)) → RisN n R → okZ n last (R.map (fun x : Nat => (x : Int))) = true := by
  induction R with
  | nil => intro last _ _; rfl
  | cons a R ih =>
    intro last h1 h2
    obtain ⟨h3, h4⟩ := h2
    rw [List.pairwise_cons] at h3
    show (decide (last < (a : Int)) && decide ((a : Int) < (n : Int)) && okZ n (a : Int) (R.map _)) = true
    have q1 := h1 a (List.mem_cons_self ..)
    have q2 := h4 a (List.mem_cons_self ..)
    rw [decide_eq_true q1, decide_eq_true (by omega), ih (a : Int) (fun x hx => by have := h3.1 x hx; omega) ⟨h3.2, fun x hx => h4 x (List.mem_cons_of_mem _ hx)⟩]
    rfl
theorem wrongZ_ris {n : Nat} {R : List Nat} (h : RisN n R) (h0 : R ≠ []) (hl : R.length ≤ 256) : wrongZ n (R.map (fun x : Nat => (x : Int))) = false := by
  have hlen : 0 < R.length := List.length_pos_iff.2 h0
  unfold wrongZ
  rw [okZ_ris R (-1) (fun x _ => by omega) h, List.length_map, decide_eq_false (by omega), decide_eq_false (by omega)]
  rfl
theorem tPath {v : Value} {W : List ByteArray} {i k n : Nat} {w : World} (ht : Tabs w) (hv : Txts w v W) (hW : W.length = i) (hr : refusedE W = 0) (hk : k < i) (hn : n = (Go.Scr.pathT 0 i k).reverse.length) :
    Calls Tryd.prog 36 #[v, .int .i64 (k : Int)] w (TxOut w W (Go.Scr.pathT 0 i k).reverse n) := by
  refine (Path_any v W (k : Int) w ht hv).mono ?_
  rintro r w2 ⟨x, h1, h2, h3⟩
  have hE : pathE W (k : Int) = 0 := by unfold pathE; rw [if_neg (by rw [hr]; simp), if_neg (by omega)]
  refine txOut_own hn h1 h2 h3 ?_ hE ?_
  · unfold pathT
    rw [if_pos hE, Int.toNat_natCast]
    have := path_sec W i 0 k hk (by omega)
    rwa [List.drop_zero, List.take_of_length_le (Nat.le_of_eq hW)] at this
  · rw [List.length_reverse]
    have := refused_len hr
    have := pathT_le i 0 k
    omega
theorem tProof {v : Value} {W : List ByteArray} {i m n : Nat} {w : World} (ht : Tabs w) (hv : Txts w v W) (hW : W.length = i) (hr : refusedE W = 0) (h1 : 1 ≤ m) (h2 : m ≤ i) (hn : n = (Go.Scr.proofT 0 i m).reverse.length) :
    Calls Tryd.prog 37 #[v, .int .i64 (m : Int)] w (TxOut w W (Go.Scr.proofT 0 i m).reverse n) := by
  refine (Proof_any v W (m : Int) w ht hv).mono ?_
  rintro r w2 ⟨x, q1, q2, q3⟩
  have hE : proofE W (m : Int) = 0 := by unfold proofE; rw [if_neg (by rw [hr]; simp), if_neg (by omega)]
  refine txOut_own hn q1 q2 q3 ?_ hE ?_
  · unfold proofT
    rw [if_pos hE, Int.toNat_natCast]
    have := proof_sec W i 0 m h1 h2 (by omega)
    rwa [List.drop_zero, List.take_of_length_le (Nat.le_of_eq hW), decide_eq_true (rfl : (0 : Nat) = 0)] at this
  · rw [List.length_reverse]
    have := refused_len hr
    have := proofT_le i 0 m (by omega) h2
    omega
theorem tMany {v zv : Value} {W : List ByteArray} {R : List Nat} {i n : Nat} {w : World} (ht : Tabs w) (hv : Txts w v W) (hz : Ints w zv (R.map (fun x : Nat => (x : Int)))) (hW : W.length = i) (hr : refusedE W = 0) (h1 : 1 ≤ i) (hR : RisN i R) (h0 : R ≠ []) (hl : R.length ≤ 256) (hn : n = (restT (lookZ (R.map (fun x : Nat => (x : Int)))) 0 i).length) :
    Calls Tryd.prog 38 #[v, zv] w (TxOut w W (restT (lookZ (R.map (fun x : Nat => (x : Int)))) 0 i) n) := by
  refine (Many_any v zv W _ w ht hv hz (by rw [List.length_map]; omega)).mono ?_
  rintro r w2 ⟨pl, q1, q2, _, q3⟩
  have hE : manyE W (R.map (fun x : Nat => (x : Int))) = 0 := by
    unfold manyE
    rw [if_neg (by rw [hr]; simp), hW, if_neg (by rw [wrongZ_ris hR h0 hl]; decide)]
  have hT : manyT W (R.map (fun x : Nat => (x : Int))) = (restT (lookZ (R.map (fun x : Nat => (x : Int)))) 0 i).map (secR W) := by
    unfold manyT
    rw [if_pos hE]
    have := many_sec W (R.map (fun x : Nat => (x : Int))) i 0 h1 (by omega)
    rwa [List.drop_zero, List.take_of_length_le (Nat.le_of_eq hW)] at this
  rw [hE] at q1
  rw [hT, List.length_map, ← hn] at q1 q2
  exact ⟨⟨pl, _, q1, q2⟩, q3⟩
theorem sPath {N k n : Nat} (w : World) (h1 : k < N) (h2 : N ≤ 4096) (hn : n = (Go.Scr.pathT 0 N k).reverse.length) :
    Calls Tryd.prog 19 #[.int .i64 (N : Int), .int .i64 (k : Int)] w (SpOut w (Go.Scr.pathT 0 N k).reverse n) := by
  rw [List.length_reverse] at hn
  subst hn
  refine (path_yes N k w h1 (by omega)).mono ?_
  rintro r w2 h
  exact h
theorem sProof {N m n : Nat} (w : World) (h0 : 1 ≤ m) (h1 : m ≤ N) (h2 : N ≤ 4096) (hn : n = (Go.Scr.proofT 0 N m).reverse.length) :
    Calls Tryd.prog 21 #[.int .i64 (m : Int), .int .i64 (N : Int)] w (SpOut w (Go.Scr.proofT 0 N m).reverse n) := by
  rw [List.length_reverse] at hn
  subst hn
  by_cases hM : m = N
  · subst hM
    rw [proofT_end, if_pos rfl]
    refine (proof_eq (m : Int) w (by omega) (by omega)).mono ?_
    rintro r w2 ⟨q1, rfl⟩
    exact ⟨⟨none, 0, q1, ⟨rfl, .inl ⟨rfl, rfl⟩⟩, fun g hg => by cases hg⟩, Below.refl _ _⟩
  · refine (proof_yes m N w h0 (by omega) (by omega)).mono ?_
    rintro r w2 h
    exact h
theorem sBatch {v : Value} {R : List Nat} {N n : Nat} {w : World} (hz : Ints w v (R.map (fun x : Nat => (x : Int)))) (h1 : 1 ≤ N) (h2 : N ≤ 4096) (hR : RisN N R) (h0 : R ≠ []) (hl : R.length ≤ 256) (hn : n = (restT (lookZ (R.map (fun x : Nat => (x : Int)))) 0 N).length) :
    Calls Tryd.prog 31 #[.int .i64 (N : Int), v] w (SpOut w (restT (lookZ (R.map (fun x : Nat => (x : Int)))) 0 N) n) := by
  subst hn
  refine (batch_any (N : Int) _ _ w hz).mono ?_
  rintro r w2 ⟨_, q2, q3⟩
  have := q2 (batE_ok h1 (by omega) hR h0 hl)
  rw [Int.toNat_natCast] at this
  exact ⟨this, q3⟩
theorem sRun {N lo hi n : Nat} (w : World) (h1 : lo < hi) (h2 : hi ≤ N) (h3 : N ≤ 4096) (hn : n = (restT (lookR lo hi) 0 N).length) :
    Calls Tryd.prog 26 #[.int .i64 (N : Int), .agg #[.int .i64 (lo : Int), .int .i64 (hi : Int)]] w (SpOut w (restT (lookR lo hi) 0 N) n) := by
  subst hn
  refine (run_yes N lo hi w h1 h2 (by omega)).mono ?_
  rintro r w2 h
  exact h
/-- leaves as spans -/
def lvN (l : List Nat) : List (Nat × Nat) := l.map fun x => (x, x + 1)
theorem lvN_length (l : List Nat) : (lvN l).length = l.length := by unfold lvN; rw [List.length_map]
theorem lvN_mem {l : List Nat} {x : Nat × Nat} (h : x ∈ lvN l) : x.1 ∈ l ∧ x.2 = x.1 + 1 := by
  unfold lvN at h
  obtain ⟨y, hy, rfl⟩ := List.mem_map.1 h
  exact ⟨hy, rfl⟩
theorem castZ_take {C : List (Nat × Nat)} {R : List Nat} {j rr r1 : Nat} (h : R[j]? = some rr) (h1 : r1 = rr + 1) : castZ (C ++ lvN (R.take (j + 1))) = castZ (C ++ lvN (R.take j)) ++ [((rr : Int), (r1 : Int))] := by
  obtain ⟨hj, rfl⟩ := List.getElem?_eq_some_iff.mp h
  subst h1
  rw [List.take_succ_eq_append_getElem hj]
  unfold lvN
  rw [List.map_append, ← List.append_assoc, castZ_append]
  rfl
theorem castZ_run {C : List (Nat × Nat)} {k t : Nat} (h : k ≤ t) : castZ (C ++ lvN (List.range' k (t + 1 - k))) = castZ (C ++ lvN (List.range' k (t - k))) ++ [((t : Int), (t : Int) + 1)] := by
  rw [show t + 1 - k = t - k + 1 by omega, List.range'_1_concat]
  unfold lvN
  rw [List.map_append, ← List.append_assoc, castZ_append, show k + (t - k) = t by omega]
  rfl
theorem cov_batch {R : List Nat} {N : Nat} (h1 : 1 ≤ N) : CovS (castZ (restT (lookZ (R.map (fun x : Nat => (x : Int)))) 0 N ++ lvN R)) 0 N := by
  refine cov_rest (look := lookZ (R.map (fun x : Nat => (x : Int)))) (reg_lookZ _) N 0 h1 ?_ ?_
  · intro x hx
    exact castZ_mem (List.mem_append.2 (.inl hx))
  · intro i _ _ hi
    refine castZ_mem (b := i) (e := i + 1) (List.mem_append.2 (.inr ?_))
    have hany : (R.map (fun x : Nat => (x : Int))).any (fun z => decide ((i : Int) ≤ z ∧ z < ((i + 1 : Nat) : Int))) = true := by
      cases h : (R.map (fun x : Nat => (x : Int))).any (fun z => decide ((i : Int) ≤ z ∧ z < ((i + 1 : Nat) : Int))) with
      | true => rfl
      | false => exact absurd (show lookZ (R.map (fun x : Nat => (x : Int))) i (i + 1) = 0 by unfold lookZ; rw [h]; rfl) hi
    obtain ⟨z, hz, hz2⟩ := List.any_eq_true.1 hany
    obtain ⟨y, hy, rfl⟩ := List.mem_map.1 hz
    have hz2 := of_decide_eq_true hz2
    obtain rfl : y = i := by omega
    exact List.mem_map.2 ⟨y, hy, rfl⟩
theorem cov_run {lo hi N : Nat} (h1 : 1 ≤ N) (h2 : lo ≤ hi) : CovS (castZ (restT (lookR lo hi) 0 N ++ lvN (List.range' lo (hi - lo)))) 0 N := by
  refine cov_rest (look := lookR lo hi) (reg_lookR lo hi) N 0 h1 ?_ ?_
  · intro x hx
    exact castZ_mem (List.mem_append.2 (.inl hx))
  · intro i _ _ h
    refine castZ_mem (b := i) (e := i + 1) (List.mem_append.2 (.inr ?_))
    unfold lookR at h
    have h3 : ¬ (i + 1 ≤ lo ∨ hi ≤ i) := fun hc => h (by rw [if_pos hc])
    refine List.mem_map.2 ⟨i, ?_, rfl⟩
    rw [List.mem_range'_1]
    omega
theorem secR_size {W : List ByteArray} (hr : refusedE W = 0) (n : Nat) : ∀ b, 1 ≤ n → b + n ≤ W.length → (secR W (b, b + n)).size = 32 := by
  have h32 : ok32 W = true := by
    unfold refusedE at hr
    split at hr
    · cases hr
    · split at hr
      · cases hr
      · rename_i h
        simpa using h
  induction n using Nat.strongRecOn with
  | ind n ih =>
    intro b hn h
    by_cases h1 : n ≤ 1
    · obtain rfl : n = 1 := by omega
      have hlt : b < W.length := by omega
      rw [sec_at, show (W.drop b).take 1 = [W[b]'hlt] by rw [List.drop_eq_getElem_cons hlt]; rfl]
      show (rootL nodeS hempty [W[b]'hlt]).size = 32
      rw [rootL_one]
      unfold ok32 at h32
      exact by simpa using (List.all_eq_true.1 h32) (W[b]'hlt) (List.getElem_mem hlt)
    · have hs := spl_lt (show 2 ≤ n by omega)
      rw [sec_split h (by omega)]
      have q1 := ih (spl n) hs.2.1 b hs.1 (by omega)
      have q2 := ih (n - spl n) (by omega) (b + spl n) (by omega) (by omega)
      rw [show b + spl n + (n - spl n) = b + n by omega] at q2
      unfold nodeS
      rw [if_pos ⟨q1, q2⟩]
      unfold hnode
      rw [str_size, sha_length]
theorem insideZ_all {N : Nat} (h1 : 1 ≤ N) (h2 : N ≤ 4096) : insideZ (N : Int) 0 (N : Int) = true := by
  unfold insideZ
  rw [if_pos (by omega)]
  refine decide_eq_true ?_
  rw [Int.toNat_natCast, Int.toNat_zero, wayT]
  have e : ((0 : Nat), 0 + N) = (0, N) := by rw [Nat.zero_add]
  rw [e]
  exact List.mem_cons_self ..
theorem fold_root {W : List ByteArray} {D : List (Nat × Nat)} {N : Nat} (hr : refusedE W = 0) (hW : W.length = N) (h1 : 1 ≤ N) (hD : ∀ x ∈ D, x.1 < x.2 ∧ x.2 ≤ N) (hl : D.length ≤ 4096) (hc : CovS (castZ D) 0 N) : foldP (N : Int) (castZ D) (D.map (secR W)) 0 (N : Int) = (rootR W, 0) := by
  have hN : N ≤ 4096 := by rw [← hW]; exact refused_len hr
  have hlen : (castZ D).length = (D.map (secR W)).length := by rw [castZ_length, List.length_map]
  have hok : ok32 (D.map (secR W)) = true := by
    unfold ok32
    rw [List.all_eq_true]
    intro s hs
    obtain ⟨x, hx, rfl⟩ := List.mem_map.1 hs
    have h3 := hD x hx
    have := secR_size hr (x.2 - x.1) x.1 (by omega) (by omega)
    rw [show x.1 + (x.2 - x.1) = x.2 by omega] at this
    rw [show secR W x = secR W (x.1, x.2) from rfl, this]
    rfl
  unfold foldP
  rw [if_neg (by omega), if_neg (by rw [← hlen, castZ_length]; simp; omega), hok, if_neg (by decide), insideZ_all h1 hN, if_neg (by decide)]
  have hf := fold_cov (L := W) (S := castZ D) (H := D.map (secR W)) hlen (fun i b e h q1 q2 => by
    unfold castZ at q1
    rw [List.getElem?_map] at q1 q2
    obtain ⟨y, hy, hy2⟩ := Option.map_eq_some_iff.1 q1
    rw [hy] at q2
    have q3 : secR W y = h := Option.some.inj q2
    have q4 : (y.1 : Int) = (b : Int) ∧ (y.2 : Int) = (e : Int) := ⟨congrArg Prod.fst hy2, congrArg Prod.snd hy2⟩
    obtain ⟨y1, y2⟩ := y
    obtain rfl : y1 = b := by have := q4.1; simp only at this; omega
    obtain rfl : y2 = e := by have := q4.2; simp only at this; omega
    exact q3.symm) N 0 (by omega) hc
  unfold foldX at hf
  rw [Nat.zero_add, ← hW, sec_root, hW] at hf
  show foldO (foldT ((N : Int) - 0).toNat (0 : Int).toNat (knK 0 (N : Int) (castZ D) (D.map (secR W)))) = _
  rw [show ((N : Int) - 0).toNat = N by omega, show (0 : Int).toNat = 0 from rfl]
  have hf' : foldT N 0 (knK 0 (N : Int) (castZ D) (D.map (secR W))) = some (rootR W) := hf
  rw [hf']
  rfl
end Go.Proofs.YteknpnanmbfhfaaDoor
