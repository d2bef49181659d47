/- The document's shape, walked: beside, Run. -/
import Derived.Test.YteknpnanmbfhfaaDoorMa29
namespace Go.Proofs.YteknpnanmbfhfaaDoor
open Go.RowKit Go.Scr Go.Shelf
set_option linter.unusedVariables false
set_option maxRecDepth 100000 in
set_option maxHeartbeats 4000000 in
theorem beside_any (lo hi n : Nat) : ∀ (b : Nat) (w : World), 1 ≤ n → b + n ≤ 1099511627776 →
    Calls Tryd.prog 60 #[spV b (b + n), spV lo hi] w (OutL w (restT (lookR lo hi) b n)) := by
  induction n using Nat.strongRecOn with
  | ind n ih =>
    intro b w hn hbn
    obtain ⟨e, he⟩ : ∃ e, e = b + n := ⟨_, rfl⟩
    obtain ⟨bx, hbx⟩ : ∃ x, x = w.heap.size := ⟨_, rfl⟩
    obtain ⟨w1, hw1⟩ : ∃ x, x = (w.alloc (.cells #[.int .i64 (b : Int), .int .i64 (e : Int)] 29)).alloc (.cells #[.int .i64 (lo : Int), .int .i64 (hi : Int)] 29) := ⟨_, rfl⟩
    have hbel : Below w.heap.size w w1 := by rw [hw1]; exact ((Below.refl _ _).alloc (Nat.le_refl _) _).alloc (by simp) _
    have r0 : spRow w1 bx b e := by rw [hw1, hbx]; exact blk_alloc (heap_alloc_new w _)
    have r1 : spRow w1 (bx + 1) lo hi := by rw [hw1, hbx]; exact heap_alloc_at _ _ _ (by simp)
    obtain ⟨d0, d1, _⟩ := r0.at
    obtain ⟨c0, c1, _⟩ := r1.at
    have HST : Hid (∀ w2, Below w1.heap.size w1 w2 → Below w.heap.size w w2 ∧ spRow w2 bx b e ∧ spRow w2 (bx + 1) lo hi) := Lib.hid (fun w2 h => ⟨below_onS hbel h hbel.size, r0.keep (h.block _ r0.lt), r1.keep (h.block _ r1.lt)⟩)
    rw [← he]
    have HW := Lib.hid hw1
    have HB := Lib.hid hbx
    have HN : Hid (1 ≤ n ∧ b + n ≤ 1099511627776 ∧ e = b + n) := Lib.hid ⟨hn, hbn, he⟩
    have HIH := Lib.hid ih
    have heb : e ≤ 1099511627776 := by omega
    clear hw1 hbx hbel r0 r1 hn hbn he ih
    by_cases h0 : e ≤ lo ∨ hi ≤ b
    · have HR : Hid (restT (lookR lo hi) b n = [(b, e)]) := Lib.hid (by rw [HN.out.2.2]; exact restT_none (by unfold lookR; rw [← HN.out.2.2, if_pos h0]))
      have fin : Hid (∀ w2, w2 = w1 → OutL w (restT (lookR lo hi) b n) (.returned (.slice (some ⟨w2.heap.size, 0, none⟩) 1 1)) (w2.alloc (.cells #[.int .i64 (b : Int), .int .i64 (e : Int)] 29))) := Lib.hid (fun w2 hw2 => by
        have hb2 := (HST.out w1 (Below.refl _ _)).1
        rw [hw2]
        unfold OutL
        rw [HR.out]
        refine ⟨⟨_, _, rfl, held_lit w1 _ 1 (prsV [(b, e)]) rfl (by decide), fun g hg => ?_⟩, hb2.alloc hb2.size _⟩
        cases hg
        exact hb2.size)
      by_cases h1 : (e : Int) ≤ (lo : Int)
      · clear h0
        go_enter Tryd.func60, Tryd.ntmps60
        go_upto_region 1 with fail
        rw [← HW.out, ← HB.out]
        go_wp2_with fail
        go_ret
        exact fin.out w1 rfl
      · have h2 : (hi : Int) ≤ (b : Int) := by omega
        clear h0
        go_enter Tryd.func60, Tryd.ntmps60
        go_upto_region 1 with fail
        rw [← HW.out, ← HB.out]
        go_wp2_with fail
        go_ret
        exact fin.out w1 rfl
    · have h1 : ¬ (e : Int) ≤ (lo : Int) := by omega
      have h2 : ¬ (hi : Int) ≤ (b : Int) := by omega
      by_cases h3 : lo ≤ b ∧ e ≤ hi
      · have HR : Hid (restT (lookR lo hi) b n = []) := Lib.hid (restT_all (by unfold lookR; rw [← HN.out.2.2, if_neg h0, if_pos h3]))
        have h4 : (lo : Int) ≤ (b : Int) := by omega
        have h5 : (e : Int) ≤ (hi : Int) := by omega
        clear h0 h3
        go_enter Tryd.func60, Tryd.ntmps60
        go_upto_region 1 with fail
        rw [← HW.out, ← HB.out]
        go_wp2_with fail
        go_ret
        unfold OutL
        rw [HR.out]
        exact ⟨⟨Option.none, 0, rfl, ⟨rfl, .inl ⟨rfl, rfl⟩⟩, fun g hg => by cases hg⟩, (HST.out _ (Below.refl _ _)).1⟩
      · have hlk : lookR lo hi b (b + n) = 1 := by unfold lookR; rw [← HN.out.2.2, if_neg h0, if_neg h3]
        have hn2 : 1 < n := by have := HN.out; omega
        have hsp := spl_lt (show 2 ≤ n by omega)
        have HR : Hid (restT (lookR lo hi) b n = restT (lookR lo hi) b (spl n) ++ restT (lookR lo hi) (b + spl n) (n - spl n)) := Lib.hid (restT_some (by rw [hlk]; decide) (by rw [hlk]; decide) hn2)
        obtain ⟨md, hmd⟩ : ∃ x, x = b + spl n := ⟨_, rfl⟩
        have CL : Hid (∀ w', Calls Tryd.prog 49 #[.agg #[.int .i64 (b : Int), .int .i64 (e : Int)]] w' fun r w2 => r = .returned (spV b md) ∧ Below w'.heap.size w' w2) := Lib.hid (fun w' => by
          have := rleft_any b e w' (by have := HN.out; omega) (by omega)
          rwa [show e - b = n by have := HN.out; omega, ← hmd] at this)
        have CR : Hid (∀ w', Calls Tryd.prog 50 #[.agg #[.int .i64 (b : Int), .int .i64 (e : Int)]] w' fun r w2 => r = .returned (spV md e) ∧ Below w'.heap.size w' w2) := Lib.hid (fun w' => by
          have := rright_any b e w' (by have := HN.out; omega) (by omega)
          rwa [show e - b = n by have := HN.out; omega, ← hmd] at this)
        obtain ⟨L1, hL1⟩ : ∃ x, x = restT (lookR lo hi) b (spl n) := ⟨_, rfl⟩
        obtain ⟨L2, hL2⟩ : ∃ x, x = restT (lookR lo hi) md (n - spl n) := ⟨_, rfl⟩
        rw [← hmd, ← hL1, ← hL2] at HR
        have C1 : Hid (∀ w', Calls Tryd.prog 60 #[spV b md, .agg #[.int .i64 (lo : Int), .int .i64 (hi : Int)]] w' (OutL w' L1)) := Lib.hid (fun w' => by
          have := HIH.out (spl n) hsp.2.1 b w' hsp.1 (by have := HN.out; omega)
          rwa [← hmd, ← hL1] at this)
        have C2 : Hid (∀ w', Calls Tryd.prog 60 #[spV md e, .agg #[.int .i64 (lo : Int), .int .i64 (hi : Int)]] w' (OutL w' L2)) := Lib.hid (fun w' => by
          have := HIH.out (n - spl n) (by omega) (b + spl n) w' (by omega) (by have := HN.out; omega)
          rwa [show b + spl n + (n - spl n) = e by have := HN.out; omega, ← hmd, ← hL2] at this)
        have hlen : L1.length + L2.length ≤ 1099511627776 := by
          have h1 := restT_length (lookR lo hi) (spl n) b hsp.1
          have h2 := restT_length (lookR lo hi) (n - spl n) md (by omega)
          rw [hL1, hL2]
          have := HN.out
          omega
        have hz1 : (L1.length + L2.length) * 16 ≤ 140737488355328 := by omega
        have hz2 : L1.length + L2.length ≤ 140737488355328 := by omega
        have HONE : Hid (∀ u ∈ prsV L2, u.oneCell' = true) := Lib.hid (prsV_one L2)
        have h34 : (¬ (lo : Int) ≤ (b : Int)) ∨ ((lo : Int) ≤ (b : Int) ∧ ¬ (e : Int) ≤ (hi : Int)) := by omega
        have HCELL : Hid (∀ w', Below w1.heap.size w1 w' → w'.cell? ⟨bx, 0, Option.none⟩ = some (.int .i64 (b : Int)) ∧ w'.cell? ⟨bx, 1, Option.none⟩ = some (.int .i64 (e : Int)) ∧ w'.cell? ⟨bx + 1, 0, Option.none⟩ = some (.int .i64 (lo : Int)) ∧ w'.cell? ⟨bx + 1, 1, Option.none⟩ = some (.int .i64 (hi : Int))) := Lib.hid (fun w' h => by
          obtain ⟨_, k1, k2⟩ := HST.out w' h
          exact ⟨k1.at.1, k1.at.2.1, k2.at.1, k2.at.2.1⟩)
        have HS1 := Lib.hid (HCELL.out w1.drew ((Below.refl _ w1).drew))
        clear h0 h3 hlk hn2 hsp hmd hL1 hL2 hlen
        rcases h34 with h4 | ⟨h4, h5⟩
        · go_enter Tryd.func60, Tryd.ntmps60
          go_upto_region 1 with fail
          rw [← HW.out, ← HB.out]
          go_upto_region 5 with fail
          clear d0 d1 c0 c1
          go_region_held3 (fun w' => w'.cell? ⟨bx, 0, Option.none⟩ = some (.int .i64 (b : Int)) ∧ w'.cell? ⟨bx, 1, Option.none⟩ = some (.int .i64 (e : Int)) ∧ w'.cell? ⟨bx + 1, 0, Option.none⟩ = some (.int .i64 (lo : Int)) ∧ w'.cell? ⟨bx + 1, 1, Option.none⟩ = some (.int .i64 (hi : Int))) (first | exact HS4.out | exact HS3.out | exact HS1.out) (first
            | (go_at_call 49; (with_reducible refine (CL.out _).mono ?_); rintro r w3 ⟨rfl, hb3⟩; have HB3 := Lib.hid (below_onS ((Below.refl w1.heap.size w1).drew) hb3 (Nat.le_refl _)); have HS3 := Lib.hid (HCELL.out w3 HB3.out); clear hb3)
            | (go_at_call 60; (with_reducible refine (C1.out _).mono ?_); rintro r w4 ⟨⟨p4, c4, rfl, hh4, ho4⟩, hb4⟩; have HB4 := Lib.hid (below_onS HB3.out hb4 HB3.out.size); have HS4 := Lib.hid (HCELL.out w4 HB4.out); have HO4 := Lib.hid (And.intro hh4 (And.intro ho4 hb4)); clear hh4 ho4 hb4))
          go_goals
          clear h1 h2 h4
          have HS6 := Lib.hid (HCELL.out w4.drew HB4.out.drew)
          go_upto_region 6 with fail
          go_region_held3 (fun w' => w'.cell? ⟨bx, 0, Option.none⟩ = some (.int .i64 (b : Int)) ∧ w'.cell? ⟨bx, 1, Option.none⟩ = some (.int .i64 (e : Int)) ∧ w'.cell? ⟨bx + 1, 0, Option.none⟩ = some (.int .i64 (lo : Int)) ∧ w'.cell? ⟨bx + 1, 1, Option.none⟩ = some (.int .i64 (hi : Int))) (first | exact HS8.out | exact HS7.out | exact HS6.out) (first
            | (go_at_call 50; (with_reducible refine (CR.out _).mono ?_); rintro r w5 ⟨rfl, hb5⟩; have HB5 := Lib.hid (below_onS HB4.out.drew hb5 HB4.out.drew.size); have HH5 := Lib.hid (Held.below (w := w4.drew) HO4.out.1 hb5); have HS7 := Lib.hid (HCELL.out w5 HB5.out); clear hb5)
            | (go_at_call 60; (with_reducible refine (C2.out _).mono ?_); rintro r w6 ⟨⟨p6, c6, rfl, hh6, ho6⟩, hb6⟩; have HB6 := Lib.hid (below_onS HB5.out hb6 HB5.out.size); have HH6 := Lib.hid (HH5.out.below hb6); have HS8 := Lib.hid (HCELL.out w6 HB6.out); have HO6 := Lib.hid (And.intro hh6 (And.intro ho6 hb6)); clear hh6 ho6 hb6))
          go_goals
          go_wp2_with (first
          | (at_builtin; refine wpList_catH (v := .slice p4 L1.length c4) (u := .slice p6 L2.length c6) rfl _ _ rfl Tryd.underlying31 (.agg #[.int .i64 0, .int .i64 0]) 2 info_spanP rfl (by decide) (prsV L1) (prsV L2) (by simp [Act.eval]) (by simp [Act.eval]) HH6.out HO6.out.1 HONE.out hz1 hz2 ?_; intro v7 w7 hh7 hg7 ho7; obtain ⟨p7, c7, rfl, _⟩ := hh7.cells; have HO7 := Lib.hid (And.intro hh7 (And.intro hg7 ho7)); clear hh7 hg7 ho7))
          go_ret
          have hb0 := (HST.out w1 (Below.refl _ _)).1
          have hb6 := below_onS hb0 HB6.out hb0.size
          have hown4 : ∀ g, (Value.slice p4 L1.length c4).ownBlock = some g → w.heap.size ≤ g := fun g hg => by
            have h1 := HO4.out.2.1 g hg
            have h2 := hb0.size
            have h3 := HB3.out.size
            omega
          have hb7 := hb6.grown HO7.out.2.1 hb6.size hown4
          unfold OutL
          rw [HR.out]
          refine ⟨⟨p7, c7, by rw [List.length_append]; rfl, by rw [List.length_append, prsV_append]; exact HO7.out.1, fun g hg => ?_⟩, hb7⟩
          rw [List.length_append] at hg
          rcases HO7.out.2.2 with h | h
          · exact hown4 g (by rw [← h]; exact hg)
          · rw [hg] at h
            cases h
            exact hb6.size
        · go_enter Tryd.func60, Tryd.ntmps60
          go_upto_region 1 with fail
          rw [← HW.out, ← HB.out]
          go_upto_region 5 with fail
          clear d0 d1 c0 c1
          go_region_held3 (fun w' => w'.cell? ⟨bx, 0, Option.none⟩ = some (.int .i64 (b : Int)) ∧ w'.cell? ⟨bx, 1, Option.none⟩ = some (.int .i64 (e : Int)) ∧ w'.cell? ⟨bx + 1, 0, Option.none⟩ = some (.int .i64 (lo : Int)) ∧ w'.cell? ⟨bx + 1, 1, Option.none⟩ = some (.int .i64 (hi : Int))) (first | exact HS4.out | exact HS3.out | exact HS1.out) (first
            | (go_at_call 49; (with_reducible refine (CL.out _).mono ?_); rintro r w3 ⟨rfl, hb3⟩; have HB3 := Lib.hid (below_onS ((Below.refl w1.heap.size w1).drew) hb3 (Nat.le_refl _)); have HS3 := Lib.hid (HCELL.out w3 HB3.out); clear hb3)
            | (go_at_call 60; (with_reducible refine (C1.out _).mono ?_); rintro r w4 ⟨⟨p4, c4, rfl, hh4, ho4⟩, hb4⟩; have HB4 := Lib.hid (below_onS HB3.out hb4 HB3.out.size); have HS4 := Lib.hid (HCELL.out w4 HB4.out); have HO4 := Lib.hid (And.intro hh4 (And.intro ho4 hb4)); clear hh4 ho4 hb4))
          go_goals
          clear h1 h2 h4 h5
          have HS6 := Lib.hid (HCELL.out w4.drew HB4.out.drew)
          go_upto_region 6 with fail
          go_region_held3 (fun w' => w'.cell? ⟨bx, 0, Option.none⟩ = some (.int .i64 (b : Int)) ∧ w'.cell? ⟨bx, 1, Option.none⟩ = some (.int .i64 (e : Int)) ∧ w'.cell? ⟨bx + 1, 0, Option.none⟩ = some (.int .i64 (lo : Int)) ∧ w'.cell? ⟨bx + 1, 1, Option.none⟩ = some (.int .i64 (hi : Int))) (first | exact HS8.out | exact HS7.out | exact HS6.out) (first
            | (go_at_call 50; (with_reducible refine (CR.out _).mono ?_); rintro r w5 ⟨rfl, hb5⟩; have HB5 := Lib.hid (below_onS HB4.out.drew hb5 HB4.out.drew.size); have HH5 := Lib.hid (Held.below (w := w4.drew) HO4.out.1 hb5); have HS7 := Lib.hid (HCELL.out w5 HB5.out); clear hb5)
            | (go_at_call 60; (with_reducible refine (C2.out _).mono ?_); rintro r w6 ⟨⟨p6, c6, rfl, hh6, ho6⟩, hb6⟩; have HB6 := Lib.hid (below_onS HB5.out hb6 HB5.out.size); have HH6 := Lib.hid (HH5.out.below hb6); have HS8 := Lib.hid (HCELL.out w6 HB6.out); have HO6 := Lib.hid (And.intro hh6 (And.intro ho6 hb6)); clear hh6 ho6 hb6))
          go_goals
          go_wp2_with (first
          | (at_builtin; refine wpList_catH (v := .slice p4 L1.length c4) (u := .slice p6 L2.length c6) rfl _ _ rfl Tryd.underlying31 (.agg #[.int .i64 0, .int .i64 0]) 2 info_spanP rfl (by decide) (prsV L1) (prsV L2) (by simp [Act.eval]) (by simp [Act.eval]) HH6.out HO6.out.1 HONE.out hz1 hz2 ?_; intro v7 w7 hh7 hg7 ho7; obtain ⟨p7, c7, rfl, _⟩ := hh7.cells; have HO7 := Lib.hid (And.intro hh7 (And.intro hg7 ho7)); clear hh7 hg7 ho7))
          go_ret
          have hb0 := (HST.out w1 (Below.refl _ _)).1
          have hb6 := below_onS hb0 HB6.out hb0.size
          have hown4 : ∀ g, (Value.slice p4 L1.length c4).ownBlock = some g → w.heap.size ≤ g := fun g hg => by
            have h1 := HO4.out.2.1 g hg
            have h2 := hb0.size
            have h3 := HB3.out.size
            omega
          have hb7 := hb6.grown HO7.out.2.1 hb6.size hown4
          unfold OutL
          rw [HR.out]
          refine ⟨⟨p7, c7, by rw [List.length_append]; rfl, by rw [List.length_append, prsV_append]; exact HO7.out.1, fun g hg => ?_⟩, hb7⟩
          rw [List.length_append] at hg
          rcases HO7.out.2.2 with h | h
          · exact hown4 g (by rw [← h]; exact hg)
          · rw [hg] at h
            cases h
            exact hb6.size
end Go.Proofs.YteknpnanmbfhfaaDoor
/- The document's Fold in plain Lean: what is known within a subtree, out of the whole list. -/
namespace Go.Scr
def hitS (lo hi : Nat) (x : Int × Int) : Bool := decide (x.1 = (lo : Int) ∧ x.2 = (hi : Int))
def idxS (S : List (Int × Int)) (lo hi : Nat) : Int := match S.findIdx? (hitS lo hi) with
  | some i => i
  | none => -1
theorem idxS_none {S : List (Int × Int)} {lo hi : Nat} (h : ∀ (j : Nat) (x : Int × Int), S[j]? = some x → ¬ (x.1 = (lo : Int) ∧ x.2 = (hi : Int))) : idxS S lo hi = -1 := by
  unfold idxS
  have : S.findIdx? (hitS lo hi) = none := by
    rw [List.findIdx?_eq_none_iff]
    intro x hx
    obtain ⟨j, hj⟩ := List.getElem?_of_mem hx
    exact decide_eq_false (h j x hj)
  rw [this]
theorem idxS_at {S : List (Int × Int)} {lo hi i : Nat} {x : Int × Int} (h : ∀ (j : Nat) (x : Int × Int), j < i → S[j]? = some x → ¬ (x.1 = (lo : Int) ∧ x.2 = (hi : Int))) (hx : S[i]? = some x) (hh : x.1 = (lo : Int) ∧ x.2 = (hi : Int)) : idxS S lo hi = (i : Int) := by
  unfold idxS
  have : S.findIdx? (hitS lo hi) = some i := by
    obtain ⟨hi', rfl⟩ := List.getElem?_eq_some_iff.mp hx
    rw [List.findIdx?_eq_some_iff_getElem]
    exact ⟨hi', decide_eq_true hh, fun j hj => by
      have := h j _ hj (List.getElem?_eq_getElem (by omega))
      simpa [hitS] using this⟩
  rw [this]
theorem zip_find (lo hi : Nat) (hlt : lo < hi) (Z : List ((Int × Int) × ByteArray)) :
    (Z.filterMap fun x => if (lo : Int) ≤ x.1.1 ∧ x.1.2 ≤ (hi : Int) ∧ x.1.1 < x.1.2 then some (x.1.1.toNat, x.1.2.toNat, x.2) else none).find? (hitK lo hi) = (Z.find? fun x => hitS lo hi x.1).map fun x => (lo, hi, x.2) := by
  induction Z with
  | nil => rfl
  | cons y t ih =>
    by_cases hy : y.1.1 = (lo : Int) ∧ y.1.2 = (hi : Int)
    · have h1 : (lo : Int) ≤ y.1.1 ∧ y.1.2 ≤ (hi : Int) ∧ y.1.1 < y.1.2 := by omega
      rw [List.filterMap_cons, if_pos h1, List.find?_cons, List.find?_cons]
      have h2 : hitK lo hi (y.1.1.toNat, y.1.2.toNat, y.2) = true := decide_eq_true (by show y.1.1.toNat = lo ∧ y.1.2.toNat = hi; omega)
      have h3 : hitS lo hi y.1 = true := decide_eq_true hy
      rw [h2, h3]
      simp only [Option.map]
      rw [show y.1.1.toNat = lo by omega, show y.1.2.toNat = hi by omega]
    · have h3 : hitS lo hi y.1 = false := decide_eq_false hy
      by_cases h1 : (lo : Int) ≤ y.1.1 ∧ y.1.2 ≤ (hi : Int) ∧ y.1.1 < y.1.2
      · rw [List.filterMap_cons, if_pos h1, List.find?_cons, List.find?_cons, h3]
        have h2 : hitK lo hi (y.1.1.toNat, y.1.2.toNat, y.2) = false := decide_eq_false (by show ¬ (y.1.1.toNat = lo ∧ y.1.2.toNat = hi); omega)
        rw [h2]
        exact ih
      · rw [List.filterMap_cons, if_neg h1, List.find?_cons, h3]
        exact ih
theorem find_zip {S : List (Int × Int)} {H : List ByteArray} (hl : S.length = H.length) (lo hi : Nat) : (idxS S lo hi = -1 ∧ ((S.zip H).find? fun x => hitS lo hi x.1) = none) ∨ ∃ (i : Nat) (x : Int × Int) (h : ByteArray), idxS S lo hi = (i : Int) ∧ S[i]? = some x ∧ H[i]? = some h ∧ ((S.zip H).find? fun x => hitS lo hi x.1) = some (x, h) := by
  cases hf : S.findIdx? (hitS lo hi) with
  | none =>
    refine .inl ⟨by unfold idxS; rw [hf], ?_⟩
    rw [List.findIdx?_eq_none_iff] at hf
    rw [List.find?_eq_none]
    intro x hx
    have := hf x.1 (List.of_mem_zip hx).1
    simpa using this
  | some i =>
    refine .inr ?_
    have hf' := hf
    rw [List.findIdx?_eq_some_iff_getElem] at hf
    obtain ⟨hi', h1, h2⟩ := hf
    refine ⟨i, S[i], H[i]'(by omega), by unfold idxS; rw [hf'], List.getElem?_eq_getElem _, List.getElem?_eq_getElem _, ?_⟩
    rw [List.find?_eq_some_iff_getElem]
    refine ⟨h1, i, by rw [List.length_zip]; omega, by rw [List.getElem_zip], fun j hj => ?_⟩
    rw [List.getElem_zip]
    simpa using h2 j hj
def withinS (S : List (Int × Int)) (lo hi : Nat) : Bool := S.any fun x => decide ((lo : Int) ≤ x.1 ∧ x.2 ≤ (hi : Int) ∧ x.1 < x.2)
theorem within_knK {S : List (Int × Int)} {H : List ByteArray} (hl : S.length = H.length) (lo hi : Nat) : withinS S lo hi = false ↔ knK (lo : Int) (hi : Int) S H = [] := by
  unfold withinS knK
  rw [List.any_eq_false, List.filterMap_eq_nil_iff]
  constructor
  · intro h x hx
    have := h x.1 (List.of_mem_zip hx).1
    simp only [decide_eq_true_eq] at this
    rw [if_neg this]
  · intro h x hx
    obtain ⟨i, hi'⟩ := List.getElem?_of_mem hx
    obtain ⟨h1, rfl⟩ := List.getElem?_eq_some_iff.mp hi'
    have hm : (S[i], H[i]'(by omega)) ∈ S.zip H := by
      rw [List.mem_iff_getElem]
      exact ⟨i, by rw [List.length_zip]; omega, by rw [List.getElem_zip]⟩
    have := h _ hm
    simp only [decide_eq_true_eq]
    intro hc
    rw [if_pos hc] at this
    cases this
theorem knK_filter {lo hi b e : Nat} (h1 : lo ≤ b) (h2 : e ≤ hi) (S : List (Int × Int)) (H : List ByteArray) : (knK (lo : Int) (hi : Int) S H).filter (inK b e) = knK (b : Int) (e : Int) S H := by
  unfold knK
  induction S.zip H with
  | nil => rfl
  | cons y t ih =>
    rw [List.filterMap_cons, List.filterMap_cons]
    by_cases hc : (b : Int) ≤ y.1.1 ∧ y.1.2 ≤ (e : Int) ∧ y.1.1 < y.1.2
    · rw [if_pos hc, if_pos (by omega), List.filter_cons]
      have hk : inK b e (y.1.1.toNat, y.1.2.toNat, y.2) = true := decide_eq_true (by show b ≤ y.1.1.toNat ∧ y.1.2.toNat ≤ e; omega)
      rw [if_pos hk, ih]
    · rw [if_neg hc]
      by_cases hd : (lo : Int) ≤ y.1.1 ∧ y.1.2 ≤ (hi : Int) ∧ y.1.1 < y.1.2
      · rw [if_pos hd, List.filter_cons, if_neg (by simp only [inK, decide_eq_true_eq]; omega), ih]
      · rw [if_neg hd, ih]
end Go.Scr
namespace Go.Proofs.YteknpnanmbfhfaaDoor
open Go.RowKit Go.Scr Go.Shelf
set_option linter.unusedVariables false
/-- the hash of a subtree, out of a whole list -/
def foldX (S : List (Int × Int)) (H : List ByteArray) (n b : Nat) : Option ByteArray := foldT n b (knK (b : Int) ((b + n : Nat) : Int) S H)
theorem foldX_hit {S : List (Int × Int)} {H : List ByteArray} (hl : S.length = H.length) {n b i : Nat} {h : ByteArray} (hn : 1 ≤ n) (hi : idxS S b (b + n) = (i : Int)) (hh : H[i]? = some h) : foldX S H n b = some h := by
  unfold foldX
  rcases find_zip hl b (b + n) with ⟨h1, _⟩ | ⟨j, x, h', h1, h2, h3, h4⟩
  · omega
  · have : j = i := by omega
    subst this
    rw [hh] at h3
    cases h3
    have := zip_find b (b + n) (by omega) (S.zip H)
    rw [h4] at this
    exact foldT_hit this
theorem foldX_end {S : List (Int × Int)} {H : List ByteArray} (hl : S.length = H.length) {n b : Nat} (hn : 1 ≤ n) (hi : idxS S b (b + n) = -1) (h2 : n ≤ 1 ∨ withinS S b (b + n) = false) : foldX S H n b = none := by
  unfold foldX
  rcases find_zip hl b (b + n) with ⟨h1, h4⟩ | ⟨j, x, h', h1, _⟩
  · have := zip_find b (b + n) (by omega) (S.zip H)
    rw [h4] at this
    refine foldT_end this ?_
    rcases h2 with h | h
    · exact .inr h
    · exact .inl ((within_knK hl b (b + n)).1 h)
  · omega
theorem foldX_go {S : List (Int × Int)} {H : List ByteArray} (hl : S.length = H.length) {n b : Nat} (hn : 1 < n) (hi : idxS S b (b + n) = -1) (h2 : withinS S b (b + n) = true) : foldX S H n b = match foldX S H (spl n) b with
    | none => none
    | some x => match foldX S H (n - spl n) (b + spl n) with
      | none => none
      | some y => some (nodeS x y) := by
  have hsp := spl_lt (show 2 ≤ n by omega)
  unfold foldX
  rcases find_zip hl b (b + n) with ⟨h1, h4⟩ | ⟨j, x, h', h1, _⟩
  · have := zip_find b (b + n) (by omega) (S.zip H)
    rw [h4] at this
    have hk : ¬ (knK (b : Int) ((b + n : Nat) : Int) S H = [] ∨ n ≤ 1) := by
      rintro (h | h)
      · have := (within_knK hl b (b + n)).2 h
        rw [h2] at this
        cases this
      · omega
    rw [foldT_go (show (knK (b : Int) ((b + n : Nat) : Int) S H).find? (hitK b (b + n)) = none from this) hk, knK_filter (Nat.le_refl _) (by omega), knK_filter (by omega) (Nat.le_refl _), show b + spl n + (n - spl n) = b + n by omega]
    generalize foldT (spl n) b _ = A
    generalize foldT (n - spl n) _ _ = B
    cases A <;> cases B <;> rfl
  · omega
end Go.Proofs.YteknpnanmbfhfaaDoor
/- The document's Fold, walked: stands, within. -/
namespace Go.Proofs.YteknpnanmbfhfaaDoor
open Go.RowKit Go.Scr Go.Shelf
set_option linter.unusedVariables false
theorem SpZ.drewN {w : World} {v : Value} {S : List (Int × Int)} (h : SpZ w v S) (k : Nat) : SpZ (w.drewN k) v S := h
theorem span_eqlB (a b : Int) (lo hi : Nat) (w : World) : (binOp .eql 29 (.agg #[.int .i64 a, .int .i64 b]) (.agg #[.int .i64 (lo : Int), .int .i64 (hi : Int)])).run Tryd.prog w = .ok (.bool (hitS lo hi (a, b))) w := by
  rw [span_eql]
  congr 2
  unfold hitS
  rw [Bool.eq_iff_iff, Bool.and_eq_true, beq_iff_eq, beq_iff_eq, decide_eq_true_eq]
set_option maxRecDepth 100000 in
set_option maxHeartbeats 2000000 in
theorem stands_any (lo hi : Nat) (v : Value) (S : List (Int × Int)) (w : World) (hv : SpZ w v S) :
    Calls Tryd.prog 103 #[v, spV lo hi] w fun r w' => r = .returned (.int .i64 (idxS S lo hi)) ∧ Below w.heap.size w w' := by
  obtain ⟨p, c, rfl, s1, s2, s3, s4⟩ := id hv
  obtain ⟨n, hn⟩ : ∃ n, n = S.length := ⟨_, rfl⟩
  obtain ⟨bx, hbx⟩ : ∃ x, x = w.heap.size := ⟨_, rfl⟩
  obtain ⟨w1, hw1⟩ : ∃ x, x = w.alloc (.cells #[.int .i64 (lo : Int), .int .i64 (hi : Int)] 29) := ⟨_, rfl⟩
  have hbel : Below w.heap.size w w1 := by rw [hw1]; exact (Below.refl _ _).alloc (Nat.le_refl _) _
  have r0 : spRow w1 bx lo hi := by rw [hw1, hbx]; exact heap_alloc_new w _
  have HI0 : Hid (spRow w1 bx lo hi ∧ SpZ w1 (.slice p S.length c) S ∧ Below w.heap.size w w1) := Lib.hid ⟨r0, hv.below hbel (Nat.le_refl _), hbel⟩
  have HW := Lib.hid hw1
  have HB := Lib.hid hbx
  have HN := Lib.hid hn
  rw [← hn] at s1 s2
  rw [← hn]
  clear hv s3 s4 hw1 hbx hn r0 hbel
  go_enter Tryd.func103, Tryd.ntmps103
  go_upto_region 1 with fail
  rw [← HW.out, ← HB.out]
  go_wp2_with fail
  go_loopw [5] (fun x wr => ∃ i : Nat, x = .int .i64 (i : Int) ∧ i ≤ n ∧ Hid ((spRow wr bx lo hi ∧ SpZ wr (.slice p S.length c) S ∧ Below w.heap.size w wr) ∧ ∀ (j : Nat) (z : Int × Int), j < i → S[j]? = some z → ¬ (z.1 = (lo : Int) ∧ z.2 = (hi : Int)))) (fun x _ => n - (intOf x).toNat)
  case atStart => exact ⟨0, rfl, by omega, Lib.hid ⟨HI0.out, fun j z hj => by omega⟩⟩
  case round =>
    clear HI0
    obtain ⟨i, rfl, hi', HI⟩ := hrel
    by_cases hlt : i < n
    · have hlti : (i : Int) < (n : Int) := by omega
      have hi0 : (0 : Int) ≤ (i : Int) := by omega
      obtain ⟨⟨za, zb⟩, hz⟩ : ∃ z, S[i]? = some z := ⟨S[i]'(by have := HN.out; omega), List.getElem?_eq_getElem _⟩
      obtain ⟨p', c', hpe, _, _, hzb, hzc⟩ := HI.out.1.2.1
      cases hpe
      obtain ⟨g, og, rfl, k0, k1⟩ := hzc i (za, zb) hz
      obtain ⟨d0, d1, _⟩ := HI.out.1.1.at
      have HZ : Hid (S[i]? = some (za, zb) ∧ i < n) := Lib.hid ⟨hz, hlt⟩
      clear hlt hz hzb hzc
      by_cases hh : za = (lo : Int) ∧ zb = (hi : Int)
      · have hq : ∀ w', (binOp .eql 29 (.agg #[.int .i64 za, .int .i64 zb]) (.agg #[.int .i64 (lo : Int), .int .i64 (hi : Int)])).run Tryd.prog w' = .ok (.bool true) w' := fun w' => by
          rw [span_eqlB, show hitS lo hi (za, zb) = true from decide_eq_true hh]
        have HT : Hid (idxS S lo hi = (i : Int)) := Lib.hid (idxS_at HI.out.2 HZ.out.1 hh)
        clear hh
        go_wp2_with fail
        go_quiet (fail)
        go_wp2_with fail
        go_ret
        exact ⟨by rw [HT.out]; rfl, below_drewN HI.out.1.2.2 nq⟩
      · have hq : ∀ w', (binOp .eql 29 (.agg #[.int .i64 za, .int .i64 zb]) (.agg #[.int .i64 (lo : Int), .int .i64 (hi : Int)])).run Tryd.prog w' = .ok (.bool false) w' := fun w' => by
          rw [span_eqlB, show hitS lo hi (za, zb) = false from decide_eq_false hh]
        have HH := Lib.hid hh
        clear hh
        go_wp2_with fail
        go_quiet (fail)
        go_wp2_with fail
        refine ⟨⟨i + 1, by simp, HZ.out.2, Lib.hid ⟨⟨HI.out.1.1.drewN nq, HI.out.1.2.1.drewN nq, below_drewN HI.out.1.2.2 nq⟩, fun j y hj hy => ?_⟩⟩, ?_⟩
        · rcases Nat.lt_or_ge j i with h | h
          · exact HI.out.2 j y h hy
          · have : j = i := by omega
            subst this
            rw [HZ.out.1] at hy
            cases hy
            exact HH.out
        · show n - ((i : Int) + 1).toNat < n - ((i : Int)).toNat
          have := HZ.out
          omega
    · have hlti : ¬ (i : Int) < (n : Int) := by omega
      have HT : Hid (idxS S lo hi = -1) := Lib.hid (idxS_none (fun j x hx => HI.out.2 j x (by have := (List.getElem?_eq_some_iff.mp hx).1; have := HN.out; omega) hx))
      clear hlt
      go_wp2_with fail
      go_ret
      exact ⟨by rw [HT.out]; rfl, HI.out.1.2.2⟩
set_option maxRecDepth 100000 in
set_option maxHeartbeats 4000000 in
theorem within_any (lo hi : Nat) (v : Value) (S : List (Int × Int)) (w : World) (hv : SpZ w v S) :
    Calls Tryd.prog 104 #[v, spV lo hi] w fun r w' => r = .returned (.bool (withinS S lo hi)) ∧ Below w.heap.size w w' := by
  obtain ⟨p, c, rfl, s1, s2, s3, s4⟩ := id hv
  obtain ⟨n, hn⟩ : ∃ n, n = S.length := ⟨_, rfl⟩
  obtain ⟨bx, hbx⟩ : ∃ x, x = w.heap.size := ⟨_, rfl⟩
  obtain ⟨w1, hw1⟩ : ∃ x, x = w.alloc (.cells #[.int .i64 (lo : Int), .int .i64 (hi : Int)] 29) := ⟨_, rfl⟩
  have hbel : Below w.heap.size w w1 := by rw [hw1]; exact (Below.refl _ _).alloc (Nat.le_refl _) _
  have r0 : spRow w1 bx lo hi := by rw [hw1, hbx]; exact heap_alloc_new w _
  have HI0 : Hid (spRow w1 bx lo hi ∧ SpZ w1 (.slice p S.length c) S ∧ Below w.heap.size w w1) := Lib.hid ⟨r0, hv.below hbel (Nat.le_refl _), hbel⟩
  have HW := Lib.hid hw1
  have HB := Lib.hid hbx
  have HN := Lib.hid hn
  rw [← hn] at s1 s2
  rw [← hn]
  clear hv s3 s4 hw1 hbx hn r0 hbel
  go_enter Tryd.func104, Tryd.ntmps104
  go_upto_region 1 with fail
  rw [← HW.out, ← HB.out]
  go_wp2_with fail
  go_loopw [5] (fun x wr => ∃ i : Nat, x = .int .i64 (i : Int) ∧ i ≤ n ∧ Hid ((spRow wr bx lo hi ∧ SpZ wr (.slice p S.length c) S ∧ Below w.heap.size w wr) ∧ ∀ (j : Nat) (z : Int × Int), j < i → S[j]? = some z → ¬ ((lo : Int) ≤ z.1 ∧ z.2 ≤ (hi : Int) ∧ z.1 < z.2))) (fun x _ => n - (intOf x).toNat)
  case atStart => exact ⟨0, rfl, by omega, Lib.hid ⟨HI0.out, fun j z hj => by omega⟩⟩
  case round =>
    clear HI0
    obtain ⟨i, rfl, hi', HI⟩ := hrel
    by_cases hlt : i < n
    · have hlti : (i : Int) < (n : Int) := by omega
      have hi0 : (0 : Int) ≤ (i : Int) := by omega
      obtain ⟨⟨za, zb⟩, hz⟩ : ∃ z, S[i]? = some z := ⟨S[i]'(by have := HN.out; omega), List.getElem?_eq_getElem _⟩
      obtain ⟨p', c', hpe, _, _, hzb, hzc⟩ := HI.out.1.2.1
      cases hpe
      obtain ⟨g, og, rfl, k0, k1⟩ := hzc i (za, zb) hz
      obtain ⟨d0, d1, _⟩ := HI.out.1.1.at
      have HZ : Hid (S[i]? = some (za, zb) ∧ i < n) := Lib.hid ⟨hz, hlt⟩
      clear hlt hz hzb hzc
      have k0 : wr.cell? ⟨g, og + i * 2, none⟩ = some (.int .i64 za) := k0
      have k1 : wr.cell? ⟨g, og + i * 2 + 1, none⟩ = some (.int .i64 zb) := k1
      by_cases h1 : (lo : Int) ≤ za
      · by_cases h2 : zb ≤ (hi : Int)
        · by_cases h3 : za < zb
          · have HT : Hid (withinS S lo hi = true) := Lib.hid (List.any_eq_true.2 ⟨(za, zb), List.mem_of_getElem? HZ.out.1, decide_eq_true ⟨h1, h2, h3⟩⟩)
            go_wp2_with fail
            go_quiet (fail)
            go_wp2_with fail
            go_ret
            exact ⟨by rw [HT.out]; rfl, below_drewN HI.out.1.2.2 nq⟩
          · have HH : Hid (¬ ((lo : Int) ≤ (za, zb).1 ∧ (za, zb).2 ≤ (hi : Int) ∧ (za, zb).1 < (za, zb).2)) := Lib.hid (fun h => h3 h.2.2)
            go_wp2_with fail
            go_quiet (fail)
            go_wp2_with fail
            refine ⟨⟨i + 1, by simp, HZ.out.2, Lib.hid ⟨⟨HI.out.1.1.drewN nq, HI.out.1.2.1.drewN nq, below_drewN HI.out.1.2.2 nq⟩, fun j y hj hy => ?_⟩⟩, ?_⟩
            · rcases Nat.lt_or_ge j i with h | h
              · exact HI.out.2 j y h hy
              · have : j = i := by omega
                subst this
                rw [HZ.out.1] at hy
                cases hy
                exact HH.out
            · show n - ((i : Int) + 1).toNat < n - ((i : Int)).toNat
              have := HZ.out
              omega
        · have HH : Hid (¬ ((lo : Int) ≤ (za, zb).1 ∧ (za, zb).2 ≤ (hi : Int) ∧ (za, zb).1 < (za, zb).2)) := Lib.hid (fun h => h2 h.2.1)
          have h2' : decide (zb ≤ (hi : Int)) = false := decide_eq_false h2
          go_wp2_with fail
          go_quiet (fail)
          go_wp2_with fail
          refine ⟨⟨i + 1, by simp, HZ.out.2, Lib.hid ⟨⟨HI.out.1.1.drewN nq, HI.out.1.2.1.drewN nq, below_drewN HI.out.1.2.2 nq⟩, fun j y hj hy => ?_⟩⟩, ?_⟩
          · rcases Nat.lt_or_ge j i with h | h
            · exact HI.out.2 j y h hy
            · have : j = i := by omega
              subst this
              rw [HZ.out.1] at hy
              cases hy
              exact HH.out
          · show n - ((i : Int) + 1).toNat < n - ((i : Int)).toNat
            have := HZ.out
            omega
      · have HH : Hid (¬ ((lo : Int) ≤ (za, zb).1 ∧ (za, zb).2 ≤ (hi : Int) ∧ (za, zb).1 < (za, zb).2)) := Lib.hid (fun h => h1 h.1)
        have h1' : decide ((lo : Int) ≤ za) = false := decide_eq_false h1
        go_wp2_with fail
        go_quiet (fail)
        go_wp2_with fail
        refine ⟨⟨i + 1, by simp, HZ.out.2, Lib.hid ⟨⟨HI.out.1.1.drewN nq, HI.out.1.2.1.drewN nq, below_drewN HI.out.1.2.2 nq⟩, fun j y hj hy => ?_⟩⟩, ?_⟩
        · rcases Nat.lt_or_ge j i with h | h
          · exact HI.out.2 j y h hy
          · have : j = i := by omega
            subst this
            rw [HZ.out.1] at hy
            cases hy
            exact HH.out
        · show n - ((i : Int) + 1).toNat < n - ((i : Int)).toNat
          have := HZ.out
          omega
    · have hlti : ¬ (i : Int) < (n : Int) := by omega
      have HT : Hid (withinS S lo hi = false) := Lib.hid (by
        unfold withinS
        rw [List.any_eq_false]
        intro x hx
        obtain ⟨j, hj⟩ := List.getElem?_of_mem hx
        have := HI.out.2 j x (by have := (List.getElem?_eq_some_iff.mp hj).1; have := HN.out; omega) hj
        simpa using this)
      clear hlt
      go_wp2_with fail
      go_ret
      exact ⟨by rw [HT.out]; rfl, HI.out.1.2.2⟩
end Go.Proofs.YteknpnanmbfhfaaDoor
/- The document's Fold, walked: Folds, folded. -/
namespace Go.Proofs.YteknpnanmbfhfaaDoor
open Go.RowKit Go.Scr Go.Shelf
set_option linter.unusedVariables false
set_option maxRecDepth 100000 in
set_option maxHeartbeats 4000000 in
theorem folds_any (v : Value) (S : List (Int × Int)) (H : List ByteArray) (hl : S.length = H.length) (n : Nat) : ∀ (b : Nat) (w : World), 1 ≤ n → b + n ≤ 1099511627776 → SpZ w v S →
    Calls Tryd.prog 85 #[v, spV b (b + n)] w fun r w' => r = .returned (.bool (foldX S H n b).isSome) ∧ Below w.heap.size w w' := by
  induction n using Nat.strongRecOn with
  | ind n ih =>
    intro b w hn hbn hv
    obtain ⟨e, he⟩ : ∃ e, e = b + n := ⟨_, rfl⟩
    obtain ⟨bx, hbx⟩ : ∃ x, x = w.heap.size := ⟨_, rfl⟩
    obtain ⟨w1, hw1⟩ : ∃ x, x = w.alloc (.cells #[.int .i64 (b : Int), .int .i64 (e : Int)] 29) := ⟨_, rfl⟩
    have hbel : Below w.heap.size w w1 := by rw [hw1]; exact (Below.refl _ _).alloc (Nat.le_refl _) _
    have r0 : spRow w1 bx b e := by rw [hw1, hbx]; exact heap_alloc_new w _
    obtain ⟨d0, d1, _⟩ := r0.at
    have HST : Hid (∀ w2, Below w1.heap.size w1 w2 → Below w.heap.size w w2 ∧ spRow w2 bx b e ∧ SpZ w2 v S) := Lib.hid (fun w2 h => by
      have hb2 := below_onS hbel h hbel.size
      exact ⟨hb2, r0.keep (h.block _ r0.lt), hv.below hb2 (Nat.le_refl _)⟩)
    have CS : Hid (Calls Tryd.prog 103 #[v, .agg #[.int .i64 (b : Int), .int .i64 (e : Int)]] w1 fun r w' => r = .returned (.int .i64 (idxS S b e)) ∧ Below w1.heap.size w1 w') := Lib.hid (stands_any b e v S w1 (hv.below hbel (Nat.le_refl _)))
    have hfz := find_zip hl b (b + n)
    have HW := Lib.hid hw1
    have HB := Lib.hid hbx
    have HN : Hid (1 ≤ n ∧ b + n ≤ 1099511627776 ∧ e = b + n ∧ S.length = H.length) := Lib.hid ⟨hn, hbn, he, hl⟩
    have HIH := Lib.hid ih
    have heb : e ≤ 1099511627776 := by omega
    have HV := Lib.hid hv
    obtain ⟨p, c, rfl, _⟩ := id HV.out
    rw [← he] at hfz ⊢
    rcases hfz with ⟨f1, _⟩ | ⟨i, x, h, f1, _, f3, _⟩
    · rw [f1] at CS
      have HF : Hid (idxS S b (b + n) = -1) := Lib.hid (by rw [← he]; exact f1)
      have CW : Hid (∀ w', SpZ w' (.slice p S.length c) S → Calls Tryd.prog 104 #[.slice p S.length c, .agg #[.int .i64 (b : Int), .int .i64 (e : Int)]] w' fun r w2 => r = .returned (.bool (withinS S b e)) ∧ Below w'.heap.size w' w2) := Lib.hid (fun w' h => within_any b e _ S w' h)
      clear hl hw1 hbx hbel r0 hv hn hbn ih f1
      by_cases h2 : n ≤ 1
      · obtain ⟨T, hT⟩ : ∃ T, T = foldX S H n b := ⟨_, rfl⟩
        have HT : Hid (T = none) := Lib.hid (hT.trans (foldX_end HN.out.2.2.2 HN.out.1 HF.out (.inl h2)))
        have hsub : (e : Int) - (b : Int) = 1 := by have := HN.out; omega
        rw [← hT, HT.out]
        clear he h2 hT
        go_enter Tryd.func85, Tryd.ntmps85
        go_upto_region 1 with fail
        rw [← HW.out, ← HB.out]
        go_upto_region 3 with (go_at_call 103; with_reducible refine CS.out.mono ?_; rintro r w2 ⟨rfl, hb2⟩; have HB2 := Lib.hid hb2; clear hb2)
        clear d0 d1
        obtain ⟨k1, k2, k3⟩ := HST.out _ HB2.out
        obtain ⟨d0, d1, _⟩ := k2.at
        have HK := Lib.hid (And.intro k1 (And.intro k2 k3))
        clear k1 k2 k3
        go_wp2_with (go_at_call 104; (with_reducible refine (CW.out _ HK.out.2.2).mono ?_); rintro r w3 ⟨rfl, hb3⟩; obtain ⟨q0, q1, _⟩ := (HK.out.2.1.keep (hb3.block _ HK.out.2.1.lt)).at; have HB3 := Lib.hid hb3; clear hb3)
        go_ret
        exact ⟨rfl, below_onS HK.out.1 HB3.out HK.out.1.size⟩
      · obtain ⟨ln, hln⟩ : ∃ x, x = n := ⟨_, rfl⟩
        have hsub : (e : Int) - (b : Int) = (ln : Int) := by have := HN.out; omega
        have hl1 : ¬ (ln : Int) < 2 := by omega
        have hlb : ln ≤ 1099511627776 := by have := HN.out; omega
        cases hwi : withinS S b e with
        | false =>
          rw [hwi] at CW
          obtain ⟨T, hT⟩ : ∃ T, T = foldX S H n b := ⟨_, rfl⟩
          have HT : Hid (T = none) := Lib.hid (hT.trans (foldX_end HN.out.2.2.2 HN.out.1 HF.out (.inr (by rw [← he]; exact hwi))))
          rw [← hT, HT.out]
          clear he h2 hT hwi hln
          go_enter Tryd.func85, Tryd.ntmps85
          go_upto_region 1 with fail
          rw [← HW.out, ← HB.out]
          go_upto_region 3 with (go_at_call 103; with_reducible refine CS.out.mono ?_; rintro r w2 ⟨rfl, hb2⟩; have HB2 := Lib.hid hb2; clear hb2)
          clear d0 d1
          obtain ⟨k1, k2, k3⟩ := HST.out _ HB2.out
          obtain ⟨d0, d1, _⟩ := k2.at
          have HK := Lib.hid (And.intro k1 (And.intro k2 k3))
          clear k1 k2 k3
          go_wp2_with (go_at_call 104; (with_reducible refine (CW.out _ HK.out.2.2).mono ?_); rintro r w3 ⟨rfl, hb3⟩; obtain ⟨q0, q1, _⟩ := (HK.out.2.1.keep (hb3.block _ HK.out.2.1.lt)).at; have HB3 := Lib.hid hb3; clear hb3)
          go_ret
          exact ⟨rfl, below_onS HK.out.1 HB3.out HK.out.1.size⟩
        | true =>
          rw [hwi] at CW
          have hgo := foldX_go HN.out.2.2.2 (show 1 < n by omega) HF.out (by rw [← he]; exact hwi)
          have hsp := spl_lt (show 2 ≤ n by omega)
          obtain ⟨md, hmd⟩ : ∃ x, x = b + spl n := ⟨_, rfl⟩
          have CL : Hid (∀ w', Calls Tryd.prog 49 #[.agg #[.int .i64 (b : Int), .int .i64 (e : Int)]] w' fun r w2 => r = .returned (spV b md) ∧ Below w'.heap.size w' w2) := Lib.hid (fun w' => by
            have := rleft_any b e w' (by have := HN.out; omega) (by omega)
            rwa [show e - b = n by have := HN.out; omega, ← hmd] at this)
          have CR : Hid (∀ w', Calls Tryd.prog 50 #[.agg #[.int .i64 (b : Int), .int .i64 (e : Int)]] w' fun r w2 => r = .returned (spV md e) ∧ Below w'.heap.size w' w2) := Lib.hid (fun w' => by
            have := rright_any b e w' (by have := HN.out; omega) (by omega)
            rwa [show e - b = n by have := HN.out; omega, ← hmd] at this)
          rw [← hmd] at hgo
          obtain ⟨T1, hT1⟩ : ∃ x, x = foldX S H (spl n) b := ⟨_, rfl⟩
          obtain ⟨T2, hT2⟩ : ∃ x, x = foldX S H (n - spl n) md := ⟨_, rfl⟩
          have C1 : Hid (∀ w', SpZ w' (.slice p S.length c) S → Calls Tryd.prog 85 #[.slice p S.length c, spV b md] w' fun r w2 => r = .returned (.bool T1.isSome) ∧ Below w'.heap.size w' w2) := Lib.hid (fun w' h => by
            have := HIH.out (spl n) hsp.2.1 b w' hsp.1 (by have := HN.out; omega) h
            rwa [← hmd, ← hT1] at this)
          have C2 : Hid (∀ w', SpZ w' (.slice p S.length c) S → Calls Tryd.prog 85 #[.slice p S.length c, spV md e] w' fun r w2 => r = .returned (.bool T2.isSome) ∧ Below w'.heap.size w' w2) := Lib.hid (fun w' h => by
            have := HIH.out (n - spl n) (by omega) md w' (by omega) (by have := HN.out; omega) h
            rwa [show md + (n - spl n) = e by have := HN.out; omega, ← hT2] at this)
          rw [← hT1, ← hT2] at hgo
          obtain ⟨T, hT⟩ : ∃ T, T = foldX S H n b := ⟨_, rfl⟩
          rw [← hT] at hgo ⊢
          clear he h2 hwi hln hsp hmd hT1 hT2 hT
          cases T1 with
          | none =>
            have hgo : T = none := hgo
            subst hgo
            have C1 := Lib.hid (show ∀ w', SpZ w' (.slice p S.length c) S → Calls Tryd.prog 85 #[.slice p S.length c, spV b md] w' (fun r w2 => r = .returned (.bool false) ∧ Below w'.heap.size w' w2) from C1.out)
            go_enter Tryd.func85, Tryd.ntmps85
            go_upto_region 1 with fail
            rw [← HW.out, ← HB.out]
            go_upto_region 3 with (go_at_call 103; with_reducible refine CS.out.mono ?_; rintro r w2 ⟨rfl, hb2⟩; have HB2 := Lib.hid hb2; clear hb2)
            clear d0 d1
            obtain ⟨k1, k2, k3⟩ := HST.out _ HB2.out
            obtain ⟨d0, d1, _⟩ := k2.at
            have HK := Lib.hid (And.intro k1 (And.intro k2 k3))
            clear k1 k2 k3
            go_wp2_with (first
              | (go_at_call 104; (with_reducible refine (CW.out _ HK.out.2.2).mono ?_); rintro r w3 ⟨rfl, hb3⟩; have hr3 := HK.out.2.1.keep (hb3.block _ HK.out.2.1.lt); obtain ⟨q0, q1, _⟩ := hr3.at; have HR3 := Lib.hid hr3; have HV3 := Lib.hid (HK.out.2.2.below hb3 (Nat.le_refl _)); have HB3 := Lib.hid (below_onS HK.out.1 hb3 HK.out.1.size); clear hb3 hr3)
              | (go_at_call 49; (with_reducible refine (CL.out _).mono ?_); rintro r w4 ⟨rfl, hb4⟩; have HV4 := Lib.hid (HV3.out.below hb4 (Nat.le_refl _)); have HB4 := Lib.hid (below_onS HB3.out hb4 HB3.out.size); clear hb4)
              | (go_at_call 85; (with_reducible refine (C1.out _ HV4.out).mono ?_); rintro r w5 ⟨rfl, hb5⟩; have HB5 := Lib.hid (below_onS HB4.out hb5 HB4.out.size); clear hb5))
            go_ret
            exact ⟨rfl, HB5.out⟩
          | some x1 =>
            have hgo2 : T.isSome = T2.isSome := by
              cases T2 with
              | none => rw [show T = none from hgo]
              | some y => rw [show T = some (nodeS x1 y) from hgo]; rfl
            rw [hgo2]
            clear hgo hgo2
            have C1 := Lib.hid (show ∀ w', SpZ w' (.slice p S.length c) S → Calls Tryd.prog 85 #[.slice p S.length c, spV b md] w' (fun r w2 => r = .returned (.bool true) ∧ Below w'.heap.size w' w2) from C1.out)
            obtain ⟨res, hres⟩ : ∃ x, x = T2.isSome := ⟨_, rfl⟩
            rw [← hres] at C2 ⊢
            clear hres
            go_enter Tryd.func85, Tryd.ntmps85
            go_upto_region 1 with fail
            rw [← HW.out, ← HB.out]
            go_upto_region 3 with (go_at_call 103; with_reducible refine CS.out.mono ?_; rintro r w2 ⟨rfl, hb2⟩; have HB2 := Lib.hid hb2; clear hb2)
            clear d0 d1
            obtain ⟨k1, k2, k3⟩ := HST.out _ HB2.out
            obtain ⟨d0, d1, _⟩ := k2.at
            have HK := Lib.hid (And.intro k1 (And.intro k2 k3))
            clear k1 k2 k3
            go_wp2_with (first
              | (go_at_call 104; (with_reducible refine (CW.out _ HK.out.2.2).mono ?_); rintro r w3 ⟨rfl, hb3⟩; have hr3 := HK.out.2.1.keep (hb3.block _ HK.out.2.1.lt); obtain ⟨q0, q1, _⟩ := hr3.at; have HR3 := Lib.hid hr3; have HV3 := Lib.hid (HK.out.2.2.below hb3 (Nat.le_refl _)); have HB3 := Lib.hid (below_onS HK.out.1 hb3 HK.out.1.size); clear hb3 hr3)
              | (go_at_call 49; (with_reducible refine (CL.out _).mono ?_); rintro r w4 ⟨rfl, hb4⟩; have HV4 := Lib.hid (HV3.out.below hb4 (Nat.le_refl _)); have HR4 := Lib.hid (HR3.out.keep (hb4.block _ HR3.out.lt)); have HB4 := Lib.hid (below_onS HB3.out hb4 HB3.out.size); clear hb4)
              | (go_at_call 85; (with_reducible refine (C1.out _ HV4.out).mono ?_); rintro r w5 ⟨rfl, hb5⟩; obtain ⟨y0, y1, _⟩ := (HR4.out.keep (hb5.block _ HR4.out.lt)).at; have HV5 := Lib.hid (HV4.out.below hb5 (Nat.le_refl _)); have HB5 := Lib.hid (below_onS HB4.out hb5 HB4.out.size); clear hb5)
              | (go_at_call 50; (with_reducible refine (CR.out _).mono ?_); rintro r w6 ⟨rfl, hb6⟩; have HV6 := Lib.hid (HV5.out.below hb6 (Nat.le_refl _)); have HB6 := Lib.hid (below_onS HB5.out hb6 HB5.out.size); clear hb6)
              | (go_at_call 85; (with_reducible refine (C2.out _ HV6.out).mono ?_); rintro r w7 ⟨rfl, hb7⟩; have HB7 := Lib.hid (below_onS HB6.out hb7 HB6.out.size); clear hb7))
            go_ret
            exact ⟨rfl, HB7.out⟩
    · rw [f1] at CS
      have hT : foldX S H n b = some h := foldX_hit hl hn (by rw [← he]; exact f1) f3
      have hi0 : (0 : Int) ≤ (i : Int) := by omega
      rw [hT]
      clear hl hw1 hbx hbel r0 hv hn hbn ih f1 hT he
      go_enter Tryd.func85, Tryd.ntmps85
      go_upto_region 1 with fail
      rw [← HW.out, ← HB.out]
      go_wp2_with (go_at_call 103; with_reducible refine CS.out.mono ?_; rintro r w2 ⟨rfl, hb2⟩; have HB2 := Lib.hid hb2; clear hb2)
      go_ret
      exact ⟨rfl, (HST.out _ HB2.out).1⟩
set_option maxRecDepth 100000 in
set_option maxHeartbeats 4000000 in
theorem folded_any (v vh : Value) (S : List (Int × Int)) (H : List ByteArray) (hl : S.length = H.length) (n : Nat) : ∀ (b : Nat) (w : World), 1 ≤ n → b + n ≤ 1099511627776 → SpZ w v S → ∀ h, Txts w vh H → foldX S H n b = some h →
    Calls Tryd.prog 86 #[v, vh, spV b (b + n)] w fun r w' => r = .returned (.string h) ∧ Below w.heap.size w w' := by
  induction n using Nat.strongRecOn with
  | ind n ih =>
    intro b w hn hbn hv h hh hx
    obtain ⟨e, he⟩ : ∃ e, e = b + n := ⟨_, rfl⟩
    obtain ⟨bx, hbx⟩ : ∃ x, x = w.heap.size := ⟨_, rfl⟩
    obtain ⟨w1, hw1⟩ : ∃ x, x = w.alloc (.cells #[.int .i64 (b : Int), .int .i64 (e : Int)] 29) := ⟨_, rfl⟩
    have hbel : Below w.heap.size w w1 := by rw [hw1]; exact (Below.refl _ _).alloc (Nat.le_refl _) _
    have r0 : spRow w1 bx b e := by rw [hw1, hbx]; exact heap_alloc_new w _
    obtain ⟨d0, d1, _⟩ := r0.at
    have HST : Hid (∀ w2, Below w1.heap.size w1 w2 → Below w.heap.size w w2 ∧ spRow w2 bx b e ∧ SpZ w2 v S) := Lib.hid (fun w2 h => by
      have hb2 := below_onS hbel h hbel.size
      exact ⟨hb2, r0.keep (h.block _ r0.lt), hv.below hb2 (Nat.le_refl _)⟩)
    have CS : Hid (Calls Tryd.prog 103 #[v, .agg #[.int .i64 (b : Int), .int .i64 (e : Int)]] w1 fun r w' => r = .returned (.int .i64 (idxS S b e)) ∧ Below w1.heap.size w1 w') := Lib.hid (stands_any b e v S w1 (hv.below hbel (Nat.le_refl _)))
    have hfz := find_zip hl b (b + n)
    have HW := Lib.hid hw1
    have HB := Lib.hid hbx
    have HN : Hid (1 ≤ n ∧ b + n ≤ 1099511627776 ∧ e = b + n ∧ S.length = H.length) := Lib.hid ⟨hn, hbn, he, hl⟩
    have HIH := Lib.hid ih
    have heb : e ≤ 1099511627776 := by omega
    have HV := Lib.hid hv
    obtain ⟨p, c, rfl, _⟩ := id HV.out
    rw [← he] at hfz ⊢
    have HH := Lib.hid hh
    obtain ⟨q, cq, rfl, t1, t2, _⟩ := id HH.out
    rcases hfz with ⟨f1, _⟩ | ⟨i, x, h', f1, _, f3, _⟩
    · rw [f1] at CS
      have hF : idxS S b (b + n) = -1 := by rw [← he]; exact f1
      have hn2 : 1 < n := by
        apply Nat.lt_of_not_le
        intro h2
        rw [foldX_end hl hn hF (.inl h2)] at hx
        cases hx
      have hwi : withinS S b (b + n) = true := by
        cases hwi : withinS S b (b + n) with
        | true => rfl
        | false => rw [foldX_end hl hn hF (.inr hwi)] at hx; cases hx
      have hgo := foldX_go hl hn2 hF hwi
      rw [hx] at hgo
      have hsp := spl_lt (show 2 ≤ n by omega)
      obtain ⟨md, hmd⟩ : ∃ x, x = b + spl n := ⟨_, rfl⟩
      have CL : Hid (∀ w', Calls Tryd.prog 49 #[.agg #[.int .i64 (b : Int), .int .i64 (e : Int)]] w' fun r w2 => r = .returned (spV b md) ∧ Below w'.heap.size w' w2) := Lib.hid (fun w' => by
        have := rleft_any b e w' (by have := HN.out; omega) (by omega)
        rwa [show e - b = n by have := HN.out; omega, ← hmd] at this)
      have CR : Hid (∀ w', Calls Tryd.prog 50 #[.agg #[.int .i64 (b : Int), .int .i64 (e : Int)]] w' fun r w2 => r = .returned (spV md e) ∧ Below w'.heap.size w' w2) := Lib.hid (fun w' => by
        have := rright_any b e w' (by have := HN.out; omega) (by omega)
        rwa [show e - b = n by have := HN.out; omega, ← hmd] at this)
      rw [← hmd] at hgo
      cases hT1 : foldX S H (spl n) b with
      | none => rw [hT1] at hgo; cases hgo
      | some x1 =>
        cases hT2 : foldX S H (n - spl n) md with
        | none => rw [hT1, hT2] at hgo; cases hgo
        | some x2 =>
          rw [hT1, hT2] at hgo
          have hgo : h = nodeS x1 x2 := Option.some.inj hgo
          have C1 : Hid (∀ w', SpZ w' (.slice p S.length c) S → Txts w' (.slice q H.length cq) H → Calls Tryd.prog 86 #[.slice p S.length c, .slice q H.length cq, spV b md] w' fun r w2 => r = .returned (.string x1) ∧ Below w'.heap.size w' w2) := Lib.hid (fun w' h h2 => by
            have := HIH.out (spl n) hsp.2.1 b w' hsp.1 (by have := HN.out; omega) h x1 h2 hT1
            rwa [← hmd] at this)
          have C2 : Hid (∀ w', SpZ w' (.slice p S.length c) S → Txts w' (.slice q H.length cq) H → Calls Tryd.prog 86 #[.slice p S.length c, .slice q H.length cq, spV md e] w' fun r w2 => r = .returned (.string x2) ∧ Below w'.heap.size w' w2) := Lib.hid (fun w' h h2 => by
            have := HIH.out (n - spl n) (by omega) md w' (by omega) (by have := HN.out; omega) h x2 h2 hT2
            rwa [show md + (n - spl n) = e by have := HN.out; omega] at this)
          subst hgo
          have CN := Lib.hid (fun w' => rnode_any x1 x2 w')
          obtain ⟨ne, hne⟩ : ∃ z, z = nodeE x1 x2 := ⟨_, rfl⟩
          obtain ⟨z, hz⟩ : ∃ z, z = nodeS x1 x2 := ⟨_, rfl⟩
          rw [← hne, ← hz] at CN
          rw [← hz]
          clear hl hw1 hbx hbel r0 hv hn hbn ih f1 hx hF hn2 hwi hsp hmd hT1 hT2 hne hz he hh
          go_enter Tryd.func86, Tryd.ntmps86
          go_upto_region 1 with fail
          rw [← HW.out, ← HB.out]
          go_upto_region 4 with (go_at_call 103; with_reducible refine CS.out.mono ?_; rintro r w2 ⟨rfl, hb2⟩; have HB2 := Lib.hid hb2; clear hb2)
          clear d0 d1
          obtain ⟨k1, k2, k3⟩ := HST.out _ HB2.out
          obtain ⟨d0, d1, _⟩ := k2.at
          have HK := Lib.hid (And.intro k1 (And.intro k2 k3))
          clear k1 k2 k3
          go_wp2_with (first
            | (go_at_call 49; (with_reducible refine (CL.out _).mono ?_); rintro r w4 ⟨rfl, hb4⟩; have HB4 := Lib.hid (below_onS HK.out.1 hb4 HK.out.1.size); have HR4 := Lib.hid (HK.out.2.1.keep (hb4.block _ HK.out.2.1.lt)); clear hb4)
            | (go_at_call 86; (with_reducible refine (C1.out _ (HV.out.below HB4.out (Nat.le_refl _)) (HH.out.below HB4.out (Nat.le_refl _))).mono ?_); rintro r w5 ⟨rfl, hb5⟩; obtain ⟨y0, y1, _⟩ := (HR4.out.keep (hb5.block _ HR4.out.lt)).at; have HB5 := Lib.hid (below_onS HB4.out hb5 HB4.out.size); clear hb5)
            | (go_at_call 50; (with_reducible refine (CR.out _).mono ?_); rintro r w6 ⟨rfl, hb6⟩; have HB6 := Lib.hid (below_onS HB5.out hb6 HB5.out.size); clear hb6)
            | (go_at_call 86; (with_reducible refine (C2.out _ (HV.out.below HB6.out (Nat.le_refl _)) (HH.out.below HB6.out (Nat.le_refl _))).mono ?_); rintro r w7 ⟨rfl, hb7⟩; have HB7 := Lib.hid (below_onS HB6.out hb7 HB6.out.size); clear hb7)
            | (go_at_call 44; (with_reducible refine (CN.out _).mono ?_); rintro r w8 ⟨rfl, hb8⟩; have HB8 := Lib.hid (below_onS HB7.out hb8 HB7.out.size); clear hb8))
          go_ret
          exact ⟨rfl, HB8.out⟩
    · rw [f1] at CS
      have hT : foldX S H n b = some h' := foldX_hit hl hn (by rw [← he]; exact f1) f3
      have hhe : h = h' := by rw [hx] at hT; exact Option.some.inj hT
      subst hhe
      have him : i < H.length := (List.getElem?_eq_some_iff.mp f3).1
      obtain ⟨k, hk⟩ : ∃ k, k = H.length := ⟨_, rfl⟩
      rw [← hk] at him t1 t2 ⊢
      have himi : (i : Int) < (k : Int) := by omega
      have hi0 : (0 : Int) ≤ (i : Int) := by omega
      have HF3 := Lib.hid f3
      have HKK := Lib.hid hk
      clear hl hw1 hbx hbel r0 hv hn hbn ih f1 hT he hx hh f3 hk him
      go_enter Tryd.func86, Tryd.ntmps86
      go_upto_region 1 with fail
      rw [← HW.out, ← HB.out]
      go_upto_region 3 with (go_at_call 103; with_reducible refine CS.out.mono ?_; rintro r w2 ⟨rfl, hb2⟩; have HB2 := Lib.hid hb2; clear hb2)
      obtain ⟨q', cq', hqe, _, _, htc⟩ := HH.out.below (HST.out _ HB2.out).1 (Nat.le_refl _)
      cases hqe
      obtain ⟨qa, rfl, hq0⟩ := htc i _ HF3.out
      clear htc
      go_wp2_with fail
      go_ret
      exact ⟨rfl, (HST.out _ HB2.out).1⟩
end Go.Proofs.YteknpnanmbfhfaaDoor
