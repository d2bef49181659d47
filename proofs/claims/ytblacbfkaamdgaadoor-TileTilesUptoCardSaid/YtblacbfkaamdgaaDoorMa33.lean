/- Law 7: TileTiles, walked. -/
import Derived.Test.YtblacbfkaamdgaaDoorMa32
import Derived.Deep.CutBlock
namespace Go.Proofs.YtblacbfkaamdgaaDoor
open Go.RowKit Go.Scr Go.ChangeMaps Go.MapKept
set_option linter.unusedVariables false
set_option maxRecDepth 100000 in
set_option maxHeartbeats 8000000 in
theorem tiletiles_any {W : World} {s0 s1 : Int} {v2 : Value} {Z : List Int} (hB : Bas W W.heap.size) (hz : Ints W v2 Z) (h0 : -9223372036854775808 ≤ s0 ∧ s0 ≤ 9223372036854775807) (h1 : -9223372036854775808 ≤ s1 ∧ s1 ≤ 9223372036854775807) :
    Calls Tryd.prog 3 #[.int .i64 s0, .int .i64 s1, v2] W fun o w' => o = .returned (.bool true) ∧ Below W.heap.size W w' := by
  have CK := Lib.hid (knownT_any hB)
  obtain ⟨M, hM⟩ : ∃ M, M = min Z.length 600 := ⟨_, rfl⟩
  have hM6 : M ≤ 600 := by omega
  obtain ⟨L, hL⟩ : ∃ L, L = (Z.take M).map leafSU := ⟨_, rfl⟩
  have hLM : L.length = M := by rw [hL, List.length_map, List.length_take]; omega
  have CF : Hid (∀ w2 (s : Int), Below W.heap.size W w2 → (-9223372036854775808 ≤ s ∧ s ≤ 9223372036854775807) → Calls Tryd.prog 10 #[.int .i64 s, v2, .int .i64 600] w2 fun o w' => ∃ tb, o = .returned (bpT tb) ∧ TrU w2 w' W.heap.size tb (1 + pickN s 8) L) := Lib.hid (fun w2 s hb2 hs => (filledU_any (mx := 600) (by decide) (hB.below hb2) (ints_belowHK hz hb2 (Nat.le_refl _)) hs).mono (by
    rintro o w' ⟨tb, rfl, hf⟩
    refine ⟨tb, rfl, ?_⟩
    rw [← hM] at hf
    rw [hL]
    exact fiI_tr hf))
  have HB := Lib.hid hB
  have HLM := Lib.hid hLM
  have H1 := Lib.hid h1
  have H0 := Lib.hid h0
  clear hB hz hM hL hLM h0 h1
  go_enter Tryd.func3, Tryd.ntmps3
  go_upto_region 3 with (first
    | (go_at_call 9; with_reducible refine CK.out.mono ?_; rintro o w0 ⟨rfl, h⟩; have HW0 := Lib.hid h; clear h)
    | (go_at_call 10; with_reducible refine (CF.out _ _ HW0.out H0.out).mono ?_; rintro o w1 ⟨ta, rfl, h⟩; have HA1 := Lib.hid h; have HW1 : Hid (Below W.heap.size W w1) := Lib.hid (HW0.out.trans (h.b.mono HW0.out.size)); clear h))
  go_upto_region 6 with (go_at_call 10; with_reducible refine (CF.out _ _ HW1.out H1.out).mono ?_; rintro o w2 ⟨tb, rfl, h⟩; have HA2 := Lib.hid (HA1.out.below h.b); have HB2 := Lib.hid h; have HW2 : Hid (Below W.heap.size W w2) := Lib.hid (HW1.out.trans (h.b.mono HW1.out.size)); clear h)
  have hpa : pickN s0 8 < 8 := by unfold pickN; split <;> exact Nat.mod_lt _ (by decide)
  obtain ⟨h, hh⟩ : ∃ h, h = 1 + pickN s0 8 := ⟨_, rfl⟩
  rw [← hh] at HA2
  have hh1 : 1 ≤ h := by omega
  have hh8 : h ≤ 8 := by omega
  clear hh hpa
  have CHT : Hid (Calls Tryd.prog 11 #[bpT ta] w2 fun o w' => o = .returned (.int .i64 (h : Int)) ∧ w' = w2) := Lib.hid HA2.out.height
  have CS : Hid (∀ w3, Below w2.heap.size w2 w3 → Calls Tryd.prog 12 #[bpT ta] w3 fun o w' => o = .returned (.int .i64 (M : Int)) ∧ w' = w3) := Lib.hid (fun w3 hb3 => by have := (HA2.out.below hb3).size; rwa [HLM.out] at this)
  have CA : Hid (∀ w3, Below w2.heap.size w2 w3 → ∀ l i : Nat, l ≤ 63 → i < cL M l → Calls Tryd.prog 13 #[bpT ta, .agg #[.int .i64 (l : Int), .int .i64 (i : Int)]] w3 fun o w' => o = .returned (.tuple #[.string (valL L l i), .int .i64 0]) ∧ Below w3.heap.size w3 w') := Lib.hid (fun w3 hb3 l i hl hi => by
    have hi2 : i ≤ 600 := by have := Nat.div_le_self M (2 ^ l); unfold cL at hi; omega
    have := (HA2.out.below hb3).hash (l := l) (i := i) hl (by omega)
    rwa [show hashT L.length (valL L) l i = .tuple #[.string (valL L l i), .int .i64 0] from if_pos (by rw [HLM.out]; exact hi)] at this)
  have CB : Hid (∀ w3, Below w2.heap.size w2 w3 → ∀ l i : Nat, l ≤ 63 → i < cL M l → Calls Tryd.prog 13 #[bpT tb, .agg #[.int .i64 (l : Int), .int .i64 (i : Int)]] w3 fun o w' => o = .returned (.tuple #[.string (valL L l i), .int .i64 0]) ∧ Below w3.heap.size w3 w') := Lib.hid (fun w3 hb3 l i hl hi => by
    have hi2 : i ≤ 600 := by have := Nat.div_le_self M (2 ^ l); unfold cL at hi; omega
    have := (HB2.out.below hb3).hash (l := l) (i := i) hl (by omega)
    rwa [show hashT L.length (valL L) l i = .tuple #[.string (valL L l i), .int .i64 0] from if_pos (by rw [HLM.out]; exact hi)] at this)
  have CN : Hid (∀ w3, Below w2.heap.size w2 w3 → ∀ l i : Nat, l ≤ 63 → cL M l ≤ i → i ≤ 600 → Calls Tryd.prog 13 #[bpT ta, .agg #[.int .i64 (l : Int), .int .i64 (i : Int)]] w3 fun o w' => o = .returned (.tuple #[.string ⟨#[]⟩, .int .i64 72]) ∧ Below w3.heap.size w3 w') := Lib.hid (fun w3 hb3 l i hl hi hi6 => by
    have := (HA2.out.below hb3).hash (l := l) (i := i) hl (by omega)
    rwa [show hashT L.length (valL L) l i = .tuple #[.string ⟨#[]⟩, .int .i64 72] from if_neg (by rw [HLM.out]; omega)] at this)
  have CD : Hid (∀ w3, Below w2.heap.size w2 w3 → ∀ l i : Nat, i < cL M (l + 1) → Calls Tryd.prog 14 #[.string (valL L l (2 * i)), .string (valL L l (2 * i + 1))] w3 fun o w' => o = .returned (.tuple #[.string (valL L (l + 1) i), .int .i64 0]) ∧ Below w3.heap.size w3 w') := Lib.hid (fun w3 hb3 l i hi => by
    have hz : ∀ s ∈ L, s.size = 32 := by obtain ⟨_, col, t, _⟩ := HA2.out; exact t.z
    rw [← HLM.out] at hi
    have hc : (i + 1) * 2 ^ (l + 1) ≤ L.length := cL_lt.1 hi
    have e1 : (i + 1) * 2 ^ (l + 1) = (2 * i + 1 + 1) * 2 ^ l := by rw [Nat.pow_succ, Nat.mul_comm (2 ^ l) 2, ← Nat.mul_assoc]; congr 1; omega
    have i2 : 2 * i + 1 < cL L.length l := cL_lt.2 (by rw [← e1]; exact hc)
    have := dnode_any (valL L l (2 * i)) (valL L l (2 * i + 1)) w3 (HB.out.below ((HW2.out.trans (hb3.mono HW2.out.size)))).tabs
    rw [show nodeE (valL L l (2 * i)) (valL L l (2 * i + 1)) = 0 from if_pos ⟨valL_size (by omega) hz, valL_size i2 hz⟩, ← valL_node hi] at this
    exact this)
  have CT : Hid (∀ w3, Below w2.heap.size w2 w3 → ∀ l i : Nat, l % h = 0 → i < cL M l → Calls Tryd.prog 15 #[bpT ta, .int .i64 ((l / h : Nat) : Int), .int .i64 ((i / 2 ^ h : Nat) : Int)] w3 fun o w' => ∃ g m c, o = .returned (.tuple #[.slice (some ⟨g, 0, none⟩) m c, .int .i64 0]) ∧ i % 2 ^ h < m ∧ w'.cell? ⟨g, i % 2 ^ h, none⟩ = some (.string (valL L l i)) ∧ Below w3.heap.size w3 w') := Lib.hid (fun w3 hb3 l i hl hi => (HA2.out.below hb3).tile hl (by rw [HLM.out]; exact hi))
  clear HLM H0 H1 CK CF HW0 HA1 HW1
  go_wp2_with (go_at_call 11; with_reducible refine CHT.out.mono ?_; rintro o w' ⟨rfl, hww⟩; replace hww := hww.symm; subst hww)
  go_loopw [11, 12] (fun m c wr => ∃ l : Nat, c = .int .i64 (l : Int) ∧ m = .int .i64 ((sumT M l : Nat) : Int) ∧ l ≤ 11 ∧ Hid (Below w2.heap.size w2 wr)) (fun _ c _ => 11 - (intOf c).toNat)
  case atStart => exact ⟨0, rfl, rfl, by omega, Lib.hid (Below.refl _ _)⟩
  case round =>
    obtain ⟨l, rfl, rfl, hl, HI⟩ := hrel
    by_cases hlt : l < 11
    · have hli : (l : Int) < 11 := by omega
      have hl63 : l ≤ 63 := by omega
      obtain ⟨p, hp⟩ : ∃ p, p = 2 ^ l := ⟨_, rfl⟩
      have hpI : (2 : Int) ^ l = (p : Int) := by rw [hp]; simp
      obtain ⟨q, hq⟩ : ∃ q, q = M / p := ⟨_, rfl⟩
      have hqI : (M : Int) / (p : Int) = (q : Int) := by rw [hq]; simp
      have hqM : q ≤ 600 := by rw [hq]; have := Nat.div_le_self M p; omega
      have hcl : cL M l = q := by unfold cL; rw [hq, hp]
      have HQ : Hid (cL M l = q ∧ sumT M (l + 1) = sumT M l + q) := Lib.hid ⟨hcl, by rw [← hcl]; rfl⟩
      have hsb := sumT_bound hM6 l
      obtain ⟨S, hS⟩ : ∃ S, S = sumT M l := ⟨_, rfl⟩
      rw [← hS] at HQ hsb ⊢
      have hw0 : (0 : Nat) ≤ q := Nat.zero_le _
      clear hp hq hcl hS
      go_wp2_with fail
      go_loopw [11, 13] (fun m c wr2 => ∃ i : Nat, c = .int .i64 (i : Int) ∧ m = .int .i64 ((S + i : Nat) : Int) ∧ i ≤ q ∧ Hid (Below w2.heap.size w2 wr2)) (fun _ c _ => q - (intOf c).toNat)
      case atStart => exact ⟨0, rfl, rfl, by omega, HI⟩
      case round =>
        clear HI
        obtain ⟨i, rfl, rfl, hiq, HI⟩ := hrel
        by_cases hlt2 : i < q
        · have hli2 : (i : Int) < (q : Int) := by omega
          have HIQ : Hid (i < cL M l) := Lib.hid (by rw [HQ.out.1]; exact hlt2)
          obtain ⟨s, hs⟩ : ∃ s, s = valL L l i := ⟨_, rfl⟩
          obtain ⟨m, hm⟩ : ∃ m, m = S + i := ⟨_, rfl⟩
          have hm1 : m + 1 = S + (i + 1) := by omega
          have hmb : m ≤ 1800 := by omega
          obtain ⟨l1, hl1⟩ : ∃ x, x = l - 1 := ⟨_, rfl⟩
          obtain ⟨i2, hi2⟩ : ∃ x, x = 2 * i := ⟨_, rfl⟩
          obtain ⟨i3, hi3⟩ : ∃ x, x = 2 * i + 1 := ⟨_, rfl⟩
          have hi2I : 2 * (i : Int) = (i2 : Int) := by omega
          have hi3I : (i2 : Int) + 1 = (i3 : Int) := by omega
          have hi2b : i2 ≤ 1200 := by omega
          obtain ⟨s2, hs2⟩ : ∃ s, s = valL L l1 i2 := ⟨_, rfl⟩
          obtain ⟨s3, hs3⟩ : ∃ s, s = valL L l1 i3 := ⟨_, rfl⟩
          have HCA : Hid (∀ w3, Below w2.heap.size w2 w3 → Calls Tryd.prog 13 #[bpT ta, .agg #[.int .i64 (l : Int), .int .i64 (i : Int)]] w3 fun o w' => o = .returned (.tuple #[.string s, .int .i64 0]) ∧ Below w3.heap.size w3 w') := Lib.hid (fun w3 hb3 => by rw [hs]; exact CA.out w3 hb3 l i hl63 HIQ.out)
          have HCB : Hid (∀ w3, Below w2.heap.size w2 w3 → Calls Tryd.prog 13 #[bpT tb, .agg #[.int .i64 (l : Int), .int .i64 (i : Int)]] w3 fun o w' => o = .returned (.tuple #[.string s, .int .i64 0]) ∧ Below w3.heap.size w3 w') := Lib.hid (fun w3 hb3 => by rw [hs]; exact CB.out w3 hb3 l i hl63 HIQ.out)
          have hdbl : 0 < l → i3 < cL M l1 := fun h0 => by
            have h1 := half_le M l1
            have h2 := HIQ.out
            rw [show l = l1 + 1 by omega] at h2
            unfold cL at h2 ⊢
            omega
          have HC2 : Hid (∀ w3, 0 < l → Below w2.heap.size w2 w3 → Calls Tryd.prog 13 #[bpT ta, .agg #[.int .i64 (l1 : Int), .int .i64 (i2 : Int)]] w3 fun o w' => o = .returned (.tuple #[.string s2, .int .i64 0]) ∧ Below w3.heap.size w3 w') := Lib.hid (fun w3 h0 hb3 => by rw [hs2]; exact CA.out w3 hb3 l1 i2 (by omega) (by have := hdbl h0; omega))
          have HC3 : Hid (∀ w3, 0 < l → Below w2.heap.size w2 w3 → Calls Tryd.prog 13 #[bpT ta, .agg #[.int .i64 (l1 : Int), .int .i64 (i3 : Int)]] w3 fun o w' => o = .returned (.tuple #[.string s3, .int .i64 0]) ∧ Below w3.heap.size w3 w') := Lib.hid (fun w3 h0 hb3 => by rw [hs3]; exact CA.out w3 hb3 l1 i3 (by omega) (hdbl h0))
          have HCD : Hid (∀ w3, 0 < l → Below w2.heap.size w2 w3 → Calls Tryd.prog 14 #[.string s2, .string s3] w3 fun o w' => o = .returned (.tuple #[.string s, .int .i64 0]) ∧ Below w3.heap.size w3 w') := Lib.hid (fun w3 h0 hb3 => by
            have := CD.out w3 hb3 l1 i (by rw [show l1 + 1 = l by omega]; exact HIQ.out)
            rw [show l1 + 1 = l by omega, ← hs, ← hi2, ← hs2, show i2 + 1 = i3 by omega, ← hs3] at this
            exact this)
          obtain ⟨r, hr⟩ : ∃ r, r = l % h := ⟨_, rfl⟩
          have hrI : (l : Int).tmod (h : Int) = (r : Int) := by rw [Int.tmod_eq_emod_of_nonneg (Int.natCast_nonneg _), hr]; simp
          obtain ⟨lv, hlv⟩ : ∃ r, r = l / h := ⟨_, rfl⟩
          have hlvI : (l : Int).tdiv (h : Int) = (lv : Int) := by rw [Int.tdiv_eq_ediv_of_nonneg (Int.natCast_nonneg _), hlv]; simp
          have hlvb : lv ≤ 11 := by rw [hlv]; have := Nat.div_le_self l h; omega
          obtain ⟨ph, hph⟩ : ∃ p, p = 2 ^ h := ⟨_, rfl⟩
          have hphI : (2 : Int) ^ h = (ph : Int) := by rw [hph]; simp
          obtain ⟨ix, hix⟩ : ∃ q, q = i / ph := ⟨_, rfl⟩
          have hixI : (i : Int) / (ph : Int) = (ix : Int) := by rw [hix]; simp
          obtain ⟨iy, hiy⟩ : ∃ q, q = ix * ph := ⟨_, rfl⟩
          have hiyI : (ix : Int) * (ph : Int) = (iy : Int) := by rw [hiy]; simp
          obtain ⟨iz, hiz⟩ : ∃ q, q = i % ph := ⟨_, rfl⟩
          have hdm : iy + iz = i := by rw [hiy, hix, hiz, Nat.mul_comm]; exact Nat.div_add_mod i ph
          have hizI : (i : Int) - (iy : Int) = (iz : Int) := by omega
          have hlvw : IntKind.i64.wrap (lv : Int) = (lv : Int) := IntWalk.i64_in _ (by omega)
          have hixb : ix ≤ 600 := by rw [hix]; have := Nat.div_le_self i ph; omega
          have HCT : Hid (∀ w3, r = 0 → Below w2.heap.size w2 w3 → Calls Tryd.prog 15 #[bpT ta, .int .i64 (lv : Int), .int .i64 (ix : Int)] w3 fun o w' => ∃ g m c, o = .returned (.tuple #[.slice (some ⟨g, 0, none⟩) m c, .int .i64 0]) ∧ iz < m ∧ w'.cell? ⟨g, iz, none⟩ = some (.string s) ∧ Below w3.heap.size w3 w') := Lib.hid (fun w3 h0 hb3 => by
            have := CT.out w3 hb3 l i (by rw [← hr]; exact h0) HIQ.out
            rw [← hlv, ← hph, ← hix, ← hiz, ← hs] at this
            exact this)
          have hn0 : ¬ (h : Int) = 0 := by omega
          have hlI : (l = 0 ∧ ¬ (0 : Int) < (l : Int)) ∨ (0 < l ∧ (0 : Int) < (l : Int) ∧ (l : Int) - 1 = (l1 : Int)) := by omega
          have hrI2 : (r = 0 ∧ ((r : Int) == 0) = true) ∨ (¬ r = 0 ∧ ((r : Int) == 0) = false) := by
            by_cases h0 : r = 0
            · exact .inl ⟨h0, by simp [h0]⟩
            · exact .inr ⟨h0, by rw [beq_eq_false_iff_ne]; omega⟩
          have HFI : Hid (i + 1 ≤ q ∧ S + (i + 1) = m + 1) := Lib.hid ⟨hlt2, hm1.symm⟩
          rw [← hm]
          clear hs hm hm1 hl1 hi2 hi3 hs2 hs3 hdbl hr hlv hph hix hiy hiz hdm hlt2
          go_upto_region 18 with (first
            | (go_at_call 12; with_reducible refine (CS.out _ HI.out).mono ?_; rintro o w' ⟨rfl, hww⟩; replace hww := hww.symm; subst hww)
            | (go_at_call 13; with_reducible refine (HCA.out _ HI.out).mono ?_; rintro o w3 ⟨rfl, hb3⟩; have HI3 : Hid (Below w2.heap.size w2 w3) := Lib.hid (HI.out.trans (hb3.mono HI.out.size)); clear hb3)
            | (go_at_call 13; with_reducible refine (HCB.out _ HI3.out).mono ?_; rintro o w4 ⟨rfl, hb4⟩; have HI4 : Hid (Below w2.heap.size w2 w4) := Lib.hid (HI3.out.trans (hb4.mono HI3.out.size)); clear hb4))
          rcases hlI with ⟨_, hlx⟩ | ⟨hl0, hlx, hlx2⟩
          · generalize hlz : (l : Int) = lz at hrI hlvI hlx ⊢
            rcases hrI2 with ⟨hr0, hrx⟩ | ⟨_, hrx⟩
            · go_upto_region 25 with (first
                | (go_at_call 13; with_reducible refine (HC2.out _ hl0 HI4.out).mono ?_; rintro o w5 ⟨rfl, hb5⟩; have HI5 : Hid (Below w2.heap.size w2 w5) := Lib.hid (HI4.out.trans (hb5.mono HI4.out.size)); clear hb5)
                | (go_at_call 13; with_reducible refine (HC3.out _ hl0 HI5.out).mono ?_; rintro o w6 ⟨rfl, hb6⟩; have HI6 : Hid (Below w2.heap.size w2 w6) := Lib.hid (HI5.out.trans (hb6.mono HI5.out.size)); clear hb6)
                | (go_at_call 14; with_reducible refine (HCD.out _ hl0 HI6.out).mono ?_; rintro o w7 ⟨rfl, hb7⟩; have HI7 : Hid (Below w2.heap.size w2 w7) := Lib.hid (HI6.out.trans (hb7.mono HI6.out.size)); clear hb7))
              go_region_with (first
                | (go_at_call 15; with_reducible refine (HCT.out _ hr0 (by first | exact HI7.out.drew | exact HI4.out.drew)).mono ?_; rintro o w8 ⟨g, mm, cc, rfl, hzm, hcell, hb8⟩; have HI8 : Hid (Below w2.heap.size w2 w8) := (by first | exact Lib.hid (HI7.out.drew.trans (hb8.mono HI7.out.drew.size)) | exact Lib.hid (HI4.out.drew.trans (hb8.mono HI4.out.drew.size))); clear hb8))
              have hz1 : ¬ (mm : Int) ≤ (iz : Int) := by omega
              have hz2 : (iz : Int) < (mm : Int) := by omega
              have hz3 : (0 : Int) ≤ (iz : Int) := by omega
              clear hlx hrI hlvI hz1
              go_upto_region 28 with fail
              subst hlz
              go_wp2_with fail
              exact ⟨⟨i + 1, by simp, by rw [HFI.out.2]; simp, HFI.out.1, HI8⟩, by show q - ((i : Int) + 1).toNat < q - (i : Int).toNat; have := HFI.out; omega⟩
            · go_upto_region 28 with (first
                | (go_at_call 13; with_reducible refine (HC2.out _ hl0 HI4.out).mono ?_; rintro o w5 ⟨rfl, hb5⟩; have HI5 : Hid (Below w2.heap.size w2 w5) := Lib.hid (HI4.out.trans (hb5.mono HI4.out.size)); clear hb5)
                | (go_at_call 13; with_reducible refine (HC3.out _ hl0 HI5.out).mono ?_; rintro o w6 ⟨rfl, hb6⟩; have HI6 : Hid (Below w2.heap.size w2 w6) := Lib.hid (HI5.out.trans (hb6.mono HI5.out.size)); clear hb6)
                | (go_at_call 14; with_reducible refine (HCD.out _ hl0 HI6.out).mono ?_; rintro o w7 ⟨rfl, hb7⟩; have HI7 : Hid (Below w2.heap.size w2 w7) := Lib.hid (HI6.out.trans (hb7.mono HI6.out.size)); clear hb7))
              clear hlx hrI hlvI
              subst hlz
              go_wp2_with fail
              exact ⟨⟨i + 1, by simp, by rw [HFI.out.2]; simp, HFI.out.1, HI4⟩, by show q - ((i : Int) + 1).toNat < q - (i : Int).toNat; have := HFI.out; omega⟩
          · generalize hlz : (l : Int) = lz at hrI hlvI hlx hlx2 ⊢
            rcases hrI2 with ⟨hr0, hrx⟩ | ⟨_, hrx⟩
            · go_upto_region 25 with (first
                | (go_at_call 13; with_reducible refine (HC2.out _ hl0 HI4.out).mono ?_; rintro o w5 ⟨rfl, hb5⟩; have HI5 : Hid (Below w2.heap.size w2 w5) := Lib.hid (HI4.out.trans (hb5.mono HI4.out.size)); clear hb5)
                | (go_at_call 13; with_reducible refine (HC3.out _ hl0 HI5.out).mono ?_; rintro o w6 ⟨rfl, hb6⟩; have HI6 : Hid (Below w2.heap.size w2 w6) := Lib.hid (HI5.out.trans (hb6.mono HI5.out.size)); clear hb6)
                | (go_at_call 14; with_reducible refine (HCD.out _ hl0 HI6.out).mono ?_; rintro o w7 ⟨rfl, hb7⟩; have HI7 : Hid (Below w2.heap.size w2 w7) := Lib.hid (HI6.out.trans (hb7.mono HI6.out.size)); clear hb7))
              go_region_with (first
                | (go_at_call 15; with_reducible refine (HCT.out _ hr0 (by first | exact HI7.out.drew | exact HI4.out.drew)).mono ?_; rintro o w8 ⟨g, mm, cc, rfl, hzm, hcell, hb8⟩; have HI8 : Hid (Below w2.heap.size w2 w8) := (by first | exact Lib.hid (HI7.out.drew.trans (hb8.mono HI7.out.drew.size)) | exact Lib.hid (HI4.out.drew.trans (hb8.mono HI4.out.drew.size))); clear hb8))
              have hz1 : ¬ (mm : Int) ≤ (iz : Int) := by omega
              have hz2 : (iz : Int) < (mm : Int) := by omega
              have hz3 : (0 : Int) ≤ (iz : Int) := by omega
              clear hlx hrI hlvI hz1
              go_upto_region 28 with fail
              subst hlz
              go_wp2_with fail
              exact ⟨⟨i + 1, by simp, by rw [HFI.out.2]; simp, HFI.out.1, HI8⟩, by show q - ((i : Int) + 1).toNat < q - (i : Int).toNat; have := HFI.out; omega⟩
            · go_upto_region 28 with (first
                | (go_at_call 13; with_reducible refine (HC2.out _ hl0 HI4.out).mono ?_; rintro o w5 ⟨rfl, hb5⟩; have HI5 : Hid (Below w2.heap.size w2 w5) := Lib.hid (HI4.out.trans (hb5.mono HI4.out.size)); clear hb5)
                | (go_at_call 13; with_reducible refine (HC3.out _ hl0 HI5.out).mono ?_; rintro o w6 ⟨rfl, hb6⟩; have HI6 : Hid (Below w2.heap.size w2 w6) := Lib.hid (HI5.out.trans (hb6.mono HI5.out.size)); clear hb6)
                | (go_at_call 14; with_reducible refine (HCD.out _ hl0 HI6.out).mono ?_; rintro o w7 ⟨rfl, hb7⟩; have HI7 : Hid (Below w2.heap.size w2 w7) := Lib.hid (HI6.out.trans (hb7.mono HI6.out.size)); clear hb7))
              clear hlx hrI hlvI
              subst hlz
              go_wp2_with fail
              exact ⟨⟨i + 1, by simp, by rw [HFI.out.2]; simp, HFI.out.1, HI7⟩, by show q - ((i : Int) + 1).toNat < q - (i : Int).toNat; have := HFI.out; omega⟩
        · obtain rfl : i = q := by omega
          have hni : ¬ (i : Int) < (i : Int) := by omega
          have HCN : Hid (∀ w3, Below w2.heap.size w2 w3 → Calls Tryd.prog 13 #[bpT ta, .agg #[.int .i64 (l : Int), .int .i64 (i : Int)]] w3 fun o w' => o = .returned (.tuple #[.string ⟨#[]⟩, .int .i64 72]) ∧ Below w3.heap.size w3 w') := Lib.hid (fun w3 hb3 => CN.out w3 hb3 l i hl63 (by rw [HQ.out.1]; exact Nat.le_refl _) hqM)
          have HSUM : Hid (sumT M (l + 1) = S + i) := Lib.hid HQ.out.2
          obtain ⟨m, hm⟩ : ∃ m, m = S + i := ⟨_, rfl⟩
          rw [← hm] at HSUM ⊢
          have hmb : m ≤ 1800 := by omega
          have HLT := Lib.hid hlt
          clear hlt2 hm hlt
          go_wp2_with (first
            | (go_at_call 12; with_reducible refine (CS.out _ HI.out).mono ?_; rintro o w' ⟨rfl, hww⟩; replace hww := hww.symm; subst hww)
            | (go_at_call 13; with_reducible refine (HCN.out _ HI.out).mono ?_; rintro o w3 ⟨rfl, hb3⟩; have HI3 := Lib.hid (HI.out.trans (hb3.mono HI.out.size)); clear hb3))
          exact ⟨⟨l + 1, by simp, by rw [HSUM.out], HLT.out, HI3⟩, by show 11 - ((l : Int) + 1).toNat < 11 - (l : Int).toNat; have := HLT.out; omega⟩
    · obtain rfl : l = 11 := by omega
      have hlt2 := fun h1 => sumT_lt (n := M) (k := 11) h1 (Nat.div_eq_of_lt (by omega))
      obtain ⟨S, hS⟩ : ∃ S, S = sumT M 11 := ⟨_, rfl⟩
      rw [← hS] at hlt2 ⊢
      have hSb : S ≤ 1200 := by rw [hS]; exact sumT_bound hM6 11
      clear hS hlt
      by_cases hM0 : M = 0
      · have hlx : ((M : Int) == 0) = true := by simp [hM0]
        have hlt3 : ¬ (S : Int) < 2 * (M : Int) := by omega
        clear hlt2 hM0
        go_wp2_with (go_at_call 12; with_reducible refine (CS.out _ HI.out).mono ?_; rintro o w' ⟨rfl, hww⟩; replace hww := hww.symm; subst hww)
        go_ret
        exact ⟨rfl, HW2.out.trans (HI.out.mono HW2.out.size)⟩
      · have hlt3 : (S : Int) < 2 * (M : Int) := by have := hlt2 (by omega); omega
        clear hlt2 hM0
        go_wp2_with (go_at_call 12; with_reducible refine (CS.out _ HI.out).mono ?_; rintro o w' ⟨rfl, hww⟩; replace hww := hww.symm; subst hww)
        go_ret
        exact ⟨rfl, HW2.out.trans (HI.out.mono HW2.out.size)⟩
end Go.Proofs.YtblacbfkaamdgaaDoor
