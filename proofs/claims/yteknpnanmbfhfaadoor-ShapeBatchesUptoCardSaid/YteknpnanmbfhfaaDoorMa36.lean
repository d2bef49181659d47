/- Law 8's trees in plain Lean: the hashes of the spans of paths, proofs, batches; what is covered folds to the root. -/
import Derived.Test.YteknpnanmbfhfaaDoorMa31
import Derived.Test.YteknpnanmbfhfaaDoorMa27
import Derived.Test.YteknpnanmbfhfaaDoorMa21
import Derived.Test.YteknpnanmbfhfaaDoorMa35
import Derived.Test.YteknpnanmbfhfaaDoorMa33
namespace Go.Proofs.YteknpnanmbfhfaaDoor
open Go.RowKit Go.Scr Go.Shelf
set_option linter.unusedVariables false
/-- the hash of a span of leaves -/
def secR (L : List ByteArray) (x : Nat × Nat) : ByteArray := rootR ((L.drop x.1).take (x.2 - x.1))
theorem sec_at (L : List ByteArray) (b n : Nat) : secR L (b, b + n) = rootR ((L.drop b).take n) := by
  unfold secR
  show rootR ((L.drop b).take (b + n - b)) = _
  rw [Nat.add_sub_cancel_left]
theorem sec_root (L : List ByteArray) : secR L (0, L.length) = rootR L := by unfold secR; simp
theorem sub_take (L : List ByteArray) {b n k : Nat} (h : k ≤ n) : ((L.drop b).take n).take k = (L.drop b).take k := by rw [List.take_take, Nat.min_eq_left h]
theorem sub_drop (L : List ByteArray) (b n k : Nat) : ((L.drop b).take n).drop k = (L.drop (b + k)).take (n - k) := by rw [List.drop_take, List.drop_drop]
theorem sub_len (L : List ByteArray) {b n : Nat} (h : b + n ≤ L.length) : ((L.drop b).take n).length = n := by rw [List.length_take, List.length_drop]; omega
theorem sec_right (L : List ByteArray) {b n k : Nat} (h : k ≤ n) : secR L (b + k, b + n) = rootR ((L.drop (b + k)).take (n - k)) := by
  rw [show b + n = b + k + (n - k) by omega, sec_at]
theorem sec_split {L : List ByteArray} {b n : Nat} (h : b + n ≤ L.length) (hn : 1 < n) : secR L (b, b + n) = nodeS (secR L (b, b + spl n)) (secR L (b + spl n, b + n)) := by
  have hs := spl_lt (show 2 ≤ n by omega)
  have hl := sub_len L h
  rw [sec_at, sec_at, sec_right L (Nat.le_of_lt hs.2.1), rootR_split (by omega), hl, sub_take L (by omega), sub_drop]
theorem path_sec (L : List ByteArray) (n : Nat) : ∀ b m, m < n → b + n ≤ L.length → pathR m ((L.drop b).take n) = ((Go.Scr.pathT b n m).reverse).map (secR L) := by
  induction n using Nat.strongRecOn with
  | ind n ih =>
    intro b m hm h
    have hl := sub_len L h
    unfold pathR
    rw [pathL]
    by_cases h1 : n ≤ 1
    · rw [dif_pos (by omega), pathT_one b m h1]; rfl
    · have hs := spl_lt (show 2 ≤ n by omega)
      rw [dif_neg (by omega), hl]
      by_cases h2 : m < spl n
      · rw [if_pos h2, pathT_left b (by omega) h2, List.reverse_cons, List.map_append, List.map_singleton, sub_take L (by omega), sub_drop]
        have := ih (spl n) hs.2.1 b m h2 (by omega)
        unfold pathR at this
        rw [this, sec_right L (by omega)]
        rfl
      · rw [if_neg h2, pathT_right b (by omega) h2, List.reverse_cons, List.map_append, List.map_singleton, sub_take L (by omega), sub_drop]
        have := ih (n - spl n) (by omega) (b + spl n) (m - spl n) (by omega) (by omega)
        unfold pathR at this
        rw [this, sec_at]
        rfl
theorem proof_sec (L : List ByteArray) (n : Nat) : ∀ b m, 1 ≤ m → m ≤ n → b + n ≤ L.length → proofR m ((L.drop b).take n) (decide (b = 0)) = ((Go.Scr.proofT b n m).reverse).map (secR L) := by
  induction n using Nat.strongRecOn with
  | ind n ih =>
    intro b m hm hmn h
    have hl := sub_len L h
    unfold proofR
    rw [proofL]
    by_cases h1 : m = n
    · subst h1
      rw [dif_pos (.inl hl.symm), proofT_end]
      by_cases hb : b = 0
      · rw [if_pos (decide_eq_true hb), if_pos hb]; rfl
      · rw [if_neg (by rw [decide_eq_false hb]; decide), if_neg hb, List.reverse_singleton, List.map_singleton, sec_at]; rfl
    · have hs := spl_lt (show 2 ≤ n by omega)
      rw [dif_neg (by omega), hl]
      by_cases h2 : m ≤ spl n
      · rw [if_pos h2, proofT_left b h1 (by omega) h2, List.reverse_cons, List.map_append, List.map_singleton, sub_take L (by omega), sub_drop]
        have := ih (spl n) hs.2.1 b m hm h2 (by omega)
        unfold proofR at this
        rw [this, sec_right L (by omega)]
        rfl
      · rw [if_neg h2, proofT_right b h1 (by omega) h2, List.reverse_cons, List.map_append, List.map_singleton, sub_take L (by omega), sub_drop]
        have := ih (n - spl n) (by omega) (b + spl n) (m - spl n) (by omega) (by omega) (by omega)
        unfold proofR at this
        rw [decide_eq_false (show ¬ b + spl n = 0 by omega)] at this
        rw [this, sec_at]
        rfl
theorem inZ_look (Z : List Int) (b n : Nat) : inZ b n Z = Z.any (fun z => decide ((b : Int) ≤ z ∧ z < ((b + n : Nat) : Int))) := by
  unfold inZ
  congr 1
  funext z
  rw [Bool.decide_and]
  congr 2
theorem many_sec (L : List ByteArray) (Z : List Int) (n : Nat) : ∀ b, 1 ≤ n → b + n ≤ L.length → manyZ b ((L.drop b).take n) Z = (restT (lookZ Z) b n).map (secR L) := by
  induction n using Nat.strongRecOn with
  | ind n ih =>
    intro b hn h
    have hl := sub_len L h
    cases hz : inZ b n Z with
    | false =>
      have hk : lookZ Z b (b + n) = 0 := by
        unfold lookZ
        rw [← inZ_look, hz]
        rfl
      rw [manyZ_out (by rw [hl]; exact hz), restT_none hk, List.map_singleton, sec_at]
    | true =>
      by_cases h1 : n ≤ 1
      · have hk : lookZ Z b (b + n) = 2 := by
          unfold lookZ
          rw [← inZ_look, hz, if_pos rfl, if_pos (by omega)]
        rw [manyZ_one (by rw [hl]; exact hz) (by omega), restT_all hk]
        rfl
      · have hs := spl_lt (show 2 ≤ n by omega)
        have hk : lookZ Z b (b + n) = 1 := by
          unfold lookZ
          rw [← inZ_look, hz, if_pos rfl, if_neg (by omega)]
        rw [manyZ_two (k := spl n) (by rw [hl]) (by rw [hl]; exact hz) (by omega), restT_some (by omega) (by omega) (by omega), List.map_append, sub_take L (by omega), sub_drop, ih (spl n) hs.2.1 b (by omega) (by omega), ih (n - spl n) (by omega) (b + spl n) (by omega) (by omega)]
/-- a subtree is covered: it stands in the list, or both its parts are -/
inductive CovS (S : List (Int × Int)) : Nat → Nat → Prop
  | here {b n : Nat} : 1 ≤ n → ((b : Int), ((b + n : Nat) : Int)) ∈ S → CovS S b n
  | both {b n : Nat} : 1 < n → CovS S b (spl n) → CovS S (b + spl n) (n - spl n) → CovS S b n
theorem within_of_mem {S : List (Int × Int)} {b e lo hi : Nat} (h : ((b : Int), (e : Int)) ∈ S) (h1 : lo ≤ b) (h2 : e ≤ hi) (h3 : b < e) : withinS S lo hi = true := by
  unfold withinS
  exact List.any_eq_true.2 ⟨_, h, decide_eq_true (by show (lo : Int) ≤ (b : Int) ∧ (e : Int) ≤ (hi : Int) ∧ (b : Int) < (e : Int); omega)⟩
theorem CovS.mem {S : List (Int × Int)} {b n : Nat} (h : CovS S b n) : ∃ lo hi : Nat, ((lo : Int), (hi : Int)) ∈ S ∧ b ≤ lo ∧ hi ≤ b + n ∧ lo < hi := by
  induction h with
  | here h1 h2 => exact ⟨_, _, h2, Nat.le_refl _, Nat.le_refl _, by omega⟩
  | @both b n h1 _ _ ih _ =>
    obtain ⟨lo, hi, q1, q2, q3, q4⟩ := ih
    have hs := spl_lt (show 2 ≤ n by omega)
    exact ⟨lo, hi, q1, q2, by omega, q4⟩
theorem idxS_of_mem {S : List (Int × Int)} {b e : Nat} (h : ((b : Int), (e : Int)) ∈ S) : idxS S b e ≠ -1 := by
  unfold idxS
  cases hf : S.findIdx? (hitS b e) with
  | none =>
    rw [List.findIdx?_eq_none_iff] at hf
    have := hf _ h
    unfold hitS at this
    simp at this
  | some i => show (i : Int) ≠ -1; omega
theorem fold_cov {L : List ByteArray} {S : List (Int × Int)} {H : List ByteArray} (hl : S.length = H.length) (hok : ∀ (i : Nat) (b e : Nat) (h : ByteArray), S[i]? = some ((b : Int), (e : Int)) → H[i]? = some h → h = secR L (b, e)) (n : Nat) : ∀ b, b + n ≤ L.length → CovS S b n → foldX S H n b = some (secR L (b, b + n)) := by
  induction n using Nat.strongRecOn with
  | ind n ih =>
    intro b hb hc
    have hn : 1 ≤ n := by cases hc <;> omega
    rcases find_zip hl b (b + n) with ⟨h1, _⟩ | ⟨i, x, h, h1, h2, h3, h4⟩
    · cases hc with
      | here _ hm => exact absurd h1 (idxS_of_mem hm)
      | both hn1 hc1 hc2 =>
        have hs := spl_lt (show 2 ≤ n by omega)
        obtain ⟨lo, hi, q1, q2, q3, q4⟩ := (CovS.both hn1 hc1 hc2).mem
        rw [foldX_go hl hn1 h1 (within_of_mem q1 q2 q3 q4), ih (spl n) hs.2.1 b (by omega) hc1, ih (n - spl n) (by omega) (b + spl n) (by omega) hc2]
        show some (nodeS (secR L (b, b + spl n)) (secR L (b + spl n, b + spl n + (n - spl n)))) = _
        rw [show b + spl n + (n - spl n) = b + n by omega, ← sec_split hb hn1]
    · have hx := List.find?_some h4
      have hx2 : x = ((b : Int), ((b + n : Nat) : Int)) := by
        unfold hitS at hx
        have := of_decide_eq_true hx
        exact Prod.ext this.1 this.2
      rw [hx2] at h2
      rw [foldX_hit hl hn h1 h3, hok i b (b + n) h h2 h3]
theorem cov_leaves {S : List (Int × Int)} (n : Nat) : ∀ b, 1 ≤ n → (∀ i, b ≤ i → i < b + n → ((i : Int), ((i + 1 : Nat) : Int)) ∈ S) → CovS S b n := by
  induction n using Nat.strongRecOn with
  | ind n ih =>
    intro b hn h
    by_cases h1 : n ≤ 1
    · have : n = 1 := by omega
      subst this
      exact .here hn (h b (Nat.le_refl _) (by omega))
    · have hs := spl_lt (show 2 ≤ n by omega)
      exact .both (by omega) (ih (spl n) hs.2.1 b (by omega) (fun i q1 q2 => h i q1 (by omega))) (ih (n - spl n) (by omega) (b + spl n) (by omega) (fun i q1 q2 => h i (by omega) (by omega)))
theorem cov_rest {S : List (Int × Int)} {look : Nat → Nat → Nat} (hreg : ∀ b n, 1 ≤ n → look b (b + n) = 2 → ∀ i, b ≤ i → i < b + n → look i (i + 1) ≠ 0) (n : Nat) : ∀ b, 1 ≤ n → (∀ x ∈ restT look b n, ((x.1 : Int), (x.2 : Int)) ∈ S) → (∀ i, b ≤ i → i < b + n → look i (i + 1) ≠ 0 → ((i : Int), ((i + 1 : Nat) : Int)) ∈ S) → CovS S b n := by
  induction n using Nat.strongRecOn with
  | ind n ih =>
    intro b hn h1 h2
    by_cases h0 : look b (b + n) = 0
    · rw [restT_none h0] at h1
      exact .here hn (h1 (b, b + n) (List.mem_singleton.2 rfl))
    · by_cases hk : look b (b + n) = 2
      · exact cov_leaves n b hn (fun i q1 q2 => h2 i q1 q2 (hreg b n hn hk i q1 q2))
      · by_cases hn1 : n ≤ 1
        · have : n = 1 := by omega
          subst this
          exact .here hn (h2 b (Nat.le_refl _) (by omega) h0)
        · have hs := spl_lt (show 2 ≤ n by omega)
          rw [restT_some h0 hk (by omega)] at h1
          exact .both (by omega) (ih (spl n) hs.2.1 b (by omega) (fun x hx => h1 x (List.mem_append.2 (.inl hx))) (fun i q1 q2 => h2 i q1 (by omega))) (ih (n - spl n) (by omega) (b + spl n) (by omega) (fun x hx => h1 x (List.mem_append.2 (.inr hx))) (fun i q1 q2 => h2 i (by omega) (by omega)))
theorem reg_lookZ (Z : List Int) : ∀ b n, 1 ≤ n → lookZ Z b (b + n) = 2 → ∀ i, b ≤ i → i < b + n → lookZ Z i (i + 1) ≠ 0 := by
  intro b n hn h i q1 q2
  unfold lookZ at h
  split at h
  · split at h
    · have e1 : i = b := by omega
      have e2 : n = 1 := by omega
      subst e1 e2
      unfold lookZ
      rename_i ha _
      rw [if_pos ha]
      split <;> omega
    · omega
  · omega
theorem reg_lookR (lo hi : Nat) : ∀ b n, 1 ≤ n → lookR lo hi b (b + n) = 2 → ∀ i, b ≤ i → i < b + n → lookR lo hi i (i + 1) ≠ 0 := by
  intro b n hn h i q1 q2
  unfold lookR at h ⊢
  split at h
  · omega
  · split at h
    · rw [if_neg (by omega), if_pos (by omega)]; decide
    · omega
end Go.Proofs.YteknpnanmbfhfaaDoor
/- Law 8, walked: folded, hashed. -/
namespace Go.Proofs.YteknpnanmbfhfaaDoor
open Go.RowKit Go.Scr Go.Shelf
set_option linter.unusedVariables false
set_option maxRecDepth 100000 in
set_option maxHeartbeats 1000000 in
theorem folded8_any (v : Value) (L : List ByteArray) (b e : Int) (w : World) (ht : Tabs w) (hv : Txts w v L) :
    Calls Tryd.prog 40 #[v, .agg #[.int .i64 b, .int .i64 e]] w fun r w' => r = .returned (.string (partT L b e)) ∧ Below w.heap.size w w' := by
  obtain ⟨b0, hb0⟩ : ∃ x, x = w.heap.size := ⟨_, rfl⟩
  obtain ⟨w1, hw1⟩ : ∃ x, x = w.alloc (.cells #[.int .i64 b, .int .i64 e] 29) := ⟨_, rfl⟩
  have hbel : Below w.heap.size w w1 := by rw [hw1]; exact (Below.refl _ _).alloc (Nat.le_refl _) _
  have r0 : w1.heap[b0]? = some (.cells #[.int .i64 b, .int .i64 e] 29 (0, 0)) := by rw [hw1, hb0]; exact heap_alloc_new w _
  have d0 : w1.cell? ⟨b0, 0, none⟩ = some (.int .i64 b) := cell_of_row _ _ _ _ _ _ r0
  have d1 : w1.cell? ⟨b0, 1, none⟩ = some (.int .i64 e) := cell_of_row _ _ _ _ _ _ r0
  have CP := Lib.hid (Part_any v L b e w1 (ht.below hbel) (hv.below hbel (Nat.le_refl _)))
  obtain ⟨p, c, rfl, _⟩ := id hv
  obtain ⟨R, hR⟩ : ∃ x, x = partT L b e := ⟨_, rfl⟩
  obtain ⟨E, hE⟩ : ∃ x, x = partE L b e := ⟨_, rfl⟩
  rw [← hR, ← hE] at CP
  rw [← hR]
  obtain ⟨n, hn⟩ : ∃ n, n = L.length := ⟨_, rfl⟩
  rw [← hn] at CP ⊢
  have HW := Lib.hid hw1
  have HB := Lib.hid hb0
  have HBEL := Lib.hid hbel
  clear hw1 hb0 hbel r0 hv ht hR hE hn
  go_enter Tryd.func40, Tryd.ntmps40
  go_upto_region 1 with fail
  rw [← HW.out, ← HB.out]
  go_wp2_with (go_at_call 76; (with_reducible refine CP.out.mono ?_); rintro r w2 ⟨rfl, hb2⟩; have HB2 := Lib.hid hb2; clear hb2)
  go_ret
  exact ⟨rfl, below_onS HBEL.out HB2.out HBEL.out.size⟩
theorem part_sec {L : List ByteArray} (hr : refusedE L = 0) {b e : Nat} (h : b ≤ e) (h2 : e ≤ L.length) : partT L (b : Int) (e : Int) = secR L (b, e) := by
  have hE : partE L (b : Int) (e : Int) = 0 := by unfold partE; rw [if_neg (by omega), if_neg (by omega)]
  unfold partT secR
  rw [if_pos hE, Int.toNat_natCast, show ((e : Int) - (b : Int)).toNat = e - b by omega]
set_option maxRecDepth 100000 in
set_option maxHeartbeats 2000000 in
theorem hashed_any (v vl vw : Value) (L : List ByteArray) (C : List (Nat × Nat)) (w : World) (ht : Tabs w) (hv : Txts w v L) (hl : SpZ w vl (castZ C)) (hw : Txts w vw (C.map (secR L))) (hr : refusedE L = 0) (hC : ∀ x ∈ C, x.1 ≤ x.2 ∧ x.2 ≤ L.length) :
    Calls Tryd.prog 39 #[v, vl, vw] w fun r w' => r = .returned (.bool true) ∧ Below w.heap.size w w' := by
  have HST : Hid (∀ w2, Below w.heap.size w w2 → Tabs w2 ∧ Txts w2 v L ∧ SpZ w2 vl (castZ C) ∧ Txts w2 vw (C.map (secR L))) := Lib.hid (fun w2 h => ⟨ht.below h, hv.below h (Nat.le_refl _), hl.below h (Nat.le_refl _), hw.below h (Nat.le_refl _)⟩)
  obtain ⟨p, c, rfl, a1, a2, _⟩ := id hv
  obtain ⟨q, d, rfl, b1, b2, _⟩ := id hl
  obtain ⟨s, e, rfl, c1, c2, _⟩ := id hw
  obtain ⟨n, hn⟩ : ∃ n, n = L.length := ⟨_, rfl⟩
  obtain ⟨m, hm⟩ : ∃ m, m = C.length := ⟨_, rfl⟩
  have hm1 : (castZ C).length = m := by unfold castZ; rw [List.length_map, hm]
  have hm2 : (C.map (secR L)).length = m := by rw [List.length_map, hm]
  rw [← hn, hm1, hm2] at HST
  rw [← hn] at a1 a2
  rw [hm1] at b1 b2
  rw [hm2] at c1 c2
  rw [← hn, hm1, hm2]
  have HM : Hid (m = C.length) := Lib.hid hm
  have HR : Hid (refusedE L = 0 ∧ ∀ x ∈ C, x.1 ≤ x.2 ∧ x.2 ≤ L.length) := Lib.hid ⟨hr, hC⟩
  have CF : Hid (∀ (w' : World) (b e' : Nat), b ≤ e' → e' ≤ L.length → Tabs w' → Txts w' (.slice p n c) L → Calls Tryd.prog 40 #[.slice p n c, .agg #[.int .i64 (b : Int), .int .i64 (e' : Int)]] w' fun r w2 => r = .returned (.string (secR L (b, e'))) ∧ Below w'.heap.size w' w2) := Lib.hid (fun w' b e' h1 h2 h3 h4 => by
    have := folded8_any _ L (b : Int) (e' : Int) w' h3 h4
    rwa [part_sec hr h1 h2] at this)
  clear ht hv hl hw hr hC hn hm hm1 hm2
  go_enter Tryd.func39, Tryd.ntmps39
  go_wp2_with fail
  go_loopw [7] (fun x wr => ∃ i : Nat, x = .int .i64 (i : Int) ∧ i ≤ m ∧ Hid (Below w.heap.size w wr)) (fun x _ => m - (intOf x).toNat)
  case atStart => exact ⟨0, rfl, by omega, Lib.hid (Below.refl _ _)⟩
  case round =>
    obtain ⟨i, rfl, hi, HI⟩ := hrel
    by_cases hlt : i < m
    · have hl1 : (i : Int) < (m : Int) := by omega
      have hi0 : (0 : Int) ≤ (i : Int) := by omega
      obtain ⟨⟨x, y⟩, hx⟩ : ∃ z, C[i]? = some z := ⟨C[i]'(by have := HM.out; omega), List.getElem?_eq_getElem _⟩
      have hxy := HR.out.2 _ (List.mem_of_getElem? hx)
      obtain ⟨q', d', e1, _, _, _, hq⟩ := (HST.out wr HI.out).2.2.1
      obtain rfl : q' = q := by cases e1; rfl
      obtain ⟨g, o, rfl, k0, k1⟩ := hq i ((x : Int), (y : Int)) (by unfold castZ; rw [List.getElem?_map, hx]; rfl)
      have k0 : wr.cell? ⟨g, o + i * 2, none⟩ = some (.int .i64 (x : Int)) := k0
      have k1 : wr.cell? ⟨g, o + i * 2 + 1, none⟩ = some (.int .i64 (y : Int)) := k1
      have HF := Lib.hid (CF.out wr x y hxy.1 hxy.2 (HST.out wr HI.out).1 (HST.out wr HI.out).2.1)
      obtain ⟨h, hh⟩ : ∃ h, h = secR L (x, y) := ⟨_, rfl⟩
      rw [← hh] at HF
      have HWT : Hid (∀ w2, Below wr.heap.size wr w2 → ∃ a, s = some a ∧ w2.cell? (a.add i) = some (.string h)) := Lib.hid (fun w2 hb2 => by
        obtain ⟨s', _, e2, _, _, hs⟩ := (HST.out w2 (below_onS HI.out hb2 HI.out.size)).2.2.2
        obtain rfl : s' = s := by cases e2; rfl
        obtain ⟨a, ha, hc⟩ := hs i h (by rw [List.getElem?_map, hx, hh]; rfl)
        exact ⟨a, ha, hc⟩)
      have HLT := Lib.hid hlt
      have heq : (h.toList == h.toList) = true := beq_self_eq_true _
      clear hx hxy e1 hq hh hlt
      go_wp2_with (go_at_call 40; (with_reducible refine HF.out.mono ?_); rintro r w2 ⟨rfl, hb2⟩; obtain ⟨sa, rfl, m0⟩ := HWT.out w2 hb2; have HB2 := Lib.hid (below_onS HI.out hb2 HI.out.size); clear hb2)
      refine ⟨⟨i + 1, by simp, HLT.out, HB2⟩, ?_⟩
      show m - ((i : Int) + 1).toNat < m - ((i : Int)).toNat
      have := HLT.out
      omega
    · have hl1 : ¬ (i : Int) < (m : Int) := by omega
      clear hlt
      go_wp2_with fail
      go_ret
      exact ⟨rfl, HI.out⟩
end Go.Proofs.YteknpnanmbfhfaaDoor
/- Law 8's trees: two owned lists of spans that grow one behind the other, beside a box. -/
namespace Go.Proofs.YteknpnanmbfhfaaDoor
open Go.RowKit Go.Scr Go.Shelf
set_option linter.unusedVariables false
structure DX (A wr : World) (bs lo hi : Nat) (P Q : List (Int × Int)) (vd vx : Value) : Prop where
  hd : Held wr 29 2 vd P.length (zprs P)
  hx : Held wr 29 2 vx Q.length (zprs Q)
  od : ∀ g, vd.ownBlock = some g → A.heap.size ≤ g
  ox : ∀ g, vx.ownBlock = some g → A.heap.size ≤ g
  ne : ∀ g, vd.ownBlock = some g → vx.ownBlock ≠ some g
  rb : spRow wr bs lo hi
  nd : vd.ownBlock ≠ some bs
  nx : vx.ownBlock ≠ some bs
  bel : Below A.heap.size A wr
theorem DX.later {A wr w' : World} {bs lo hi : Nat} {P Q : List (Int × Int)} {vd vx : Value} (h : DX A wr bs lo hi P Q vd vx) (hb : Below wr.heap.size wr w') : DX A w' bs lo hi P Q vd vx :=
  ⟨h.hd.below hb, h.hx.below hb, h.od, h.ox, h.ne, h.rb.keep (hb.block _ h.rb.lt), h.nd, h.nx, below_onS h.bel hb h.bel.size⟩
theorem DX.pushD {A wr w2 w5 : World} {bs lo hi : Nat} {P Q : List (Int × Int)} {vd vx v5 : Value} {o : Obj} {x y : Int} (h : DX A wr bs lo hi P Q vd vx) (hb : Below wr.heap.size wr w2)
    (g : Grew 29 2 (w2.alloc o) vd P.length 1 (zprs P) [.int .i64 x, .int .i64 y] v5 w5) : DX A w5 bs lo hi (P ++ [(x, y)]) Q v5 vx := by
  have hgr := grown_alloc g.grown
  have hat := grew_own g
  have h2 := h.later hb
  have hs : wr.heap.size ≤ w2.heap.size := hb.size
  refine ⟨?_, h2.hx.keep fun q hq => hgr.block q (h2.hx.lt hq) (fun e => h.ne q e.symm hq), ?_, h.ox, ?_, h2.rb.keep (hgr.block _ h2.rb.lt (fun e => h.nd e.symm)), ?_, h.nx, h2.bel.grown hgr h2.bel.size h.od⟩
  · rw [List.length_append, zprs_append]
    exact g.held
  · intro q hq
    rcases hat q hq with h3 | h3
    · exact h.od q h3
    · have := h2.bel.size; omega
  · intro q hq hq2
    rcases hat q hq with h3 | h3
    · exact h.ne q h3 hq2
    · have := h.hx.lt hq2; omega
  · intro hq
    rcases hat bs hq with h3 | h3
    · exact h.nd h3
    · have := h.rb.lt; omega
theorem DX.pushX {A wr w2 w5 : World} {bs lo hi : Nat} {P Q : List (Int × Int)} {vd vx v5 : Value} {o : Obj} {x y : Int} (h : DX A wr bs lo hi P Q vd vx) (hb : Below wr.heap.size wr w2)
    (g : Grew 29 2 (w2.alloc o) vx Q.length 1 (zprs Q) [.int .i64 x, .int .i64 y] v5 w5) : DX A w5 bs lo hi P (Q ++ [(x, y)]) vd v5 := by
  have hgr := grown_alloc g.grown
  have hat := grew_own g
  have h2 := h.later hb
  have hs : wr.heap.size ≤ w2.heap.size := hb.size
  refine ⟨h2.hd.keep fun q hq => hgr.block q (h2.hd.lt hq) (fun e => h.ne q hq e.symm), ?_, h.od, ?_, ?_, h2.rb.keep (hgr.block _ h2.rb.lt (fun e => h.nx e.symm)), h.nd, ?_, h2.bel.grown hgr h2.bel.size h.ox⟩
  · rw [List.length_append, zprs_append]
    exact g.held
  · intro q hq
    rcases hat q hq with h3 | h3
    · exact h.ox q h3
    · have := h2.bel.size; omega
  · intro q hq hq2
    rcases hat q hq2 with h3 | h3
    · exact h.ne q hq h3
    · have := h.hd.lt hq; omega
  · intro hq
    rcases hat bs hq with h3 | h3
    · exact h.nx h3
    · have := h.rb.lt; omega
/-- texts of spans -/
structure PtI (A wr : World) (i : Nat) (W : List ByteArray) (v : Value) : Prop where
  hd : Held wr 9 1 v i ((W.take i).map Value.string)
  ow : ∀ g, v.ownBlock = some g → A.heap.size ≤ g
  bel : Below A.heap.size A wr
theorem PtI.push {A wr w2 w5 : World} {i : Nat} {W : List ByteArray} {v v5 : Value} {o : Obj} {s : ByteArray} (h : PtI A wr i W v) (hs : W[i]? = some s) (hb : Below wr.heap.size wr w2) (g : Grew 9 1 (w2.alloc o) v i 1 ((W.take i).map Value.string) [.string s] v5 w5) : PtI A w5 (i + 1) W v5 := by
  have hgr := grown_alloc g.grown
  have hat := grew_own g
  have h2 := below_onS h.bel hb h.bel.size
  obtain ⟨hi, rfl⟩ := List.getElem?_eq_some_iff.mp hs
  refine ⟨?_, ?_, h2.grown hgr h2.size h.ow⟩
  · rw [List.take_succ_eq_append_getElem hi, List.map_append]
    exact g.held
  · intro q hq
    rcases hat q hq with h3 | h3
    · exact h.ow q h3
    · have := h2.size; omega
theorem PtI.nil (A : World) (W : List ByteArray) : PtI A A 0 W (.slice none 0 0) := ⟨⟨rfl, .inl ⟨rfl, rfl⟩⟩, (fun g hg => by cases hg), Below.refl _ _⟩
end Go.Proofs.YteknpnanmbfhfaaDoor
