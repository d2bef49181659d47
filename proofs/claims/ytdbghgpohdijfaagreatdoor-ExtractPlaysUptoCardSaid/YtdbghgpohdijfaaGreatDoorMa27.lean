/- Layer 3, walked: paths of both. -/
import Derived.Test.YtdbghgpohdijfaaGreatDoorMa20
namespace Go.Proofs.YtdbghgpohdijfaaGreatDoor
open Go.RowKit Go.Scr
set_option linter.unusedVariables false

theorem owns_le {w : World} {base base' size n : Nat} {e : TypeId} {v : Value} {xs : List Value} (h : w.ownsRow base e size v n xs) (hb : base' ≤ base) : w.ownsRow base' e size v n xs := by
  obtain ⟨h1, h2⟩ := h
  refine ⟨h1, ?_⟩
  rcases h2 with h2 | ⟨g, cap, cur, h3, h4, h5⟩
  · exact .inl h2
  · exact .inr ⟨g, cap, cur, h3, by omega, h5⟩
theorem dn_len (n : Nat) : ∀ m, (dn n m).length ≤ n := by
  induction n using Nat.strongRecOn with
  | ind n ih =>
    intro m
    rw [dn]
    split
    · simp
    · have := spl_lt (show 2 ≤ n by omega)
      split
      · have := ih (spl n) (by omega) m
        simp; omega
      · have := ih (n - spl n) (by omega) (m - spl n)
        simp; omega
def pathR (m : Nat) (L : List ByteArray) : List ByteArray := pathL nodeS hempty m L
theorem pathR_len (m : Nat) (L : List ByteArray) : (pathR m L).length ≤ L.length := by
  unfold pathR
  rw [pathL_length nodeS hempty L.length m L rfl]
  exact dn_len _ _
theorem pathR_one {L : List ByteArray} (m : Nat) (h : L.length ≤ 1) : pathR m L = [] := by unfold pathR; rw [pathL, dif_pos h]
theorem pathR_left {L : List ByteArray} {m k : Nat} (hk : k = spl L.length) (h : 2 ≤ L.length) (hm : m < k) : pathR m L = pathR m (L.take k) ++ [rootR (L.drop k)] := by
  subst hk
  unfold pathR rootR
  rw [pathL, dif_neg (by omega), if_pos hm]
theorem pathR_right {L : List ByteArray} {m k : Nat} (hk : k = spl L.length) (h : 2 ≤ L.length) (hm : ¬ m < k) : pathR m L = pathR (m - k) (L.drop k) ++ [rootR (L.take k)] := by
  subst hk
  unfold pathR rootR
  rw [pathL, dif_neg (by omega), if_neg hm]

set_option maxRecDepth 100000 in
set_option maxHeartbeats 2000000 in
theorem pathc_any (n : Nat) : ∀ (m : Nat) (L : List ByteArray) (p : Option Addr) (c : Nat) (r : Nat) (w : World), Txts w (.slice p n c) L → L.length = n → n ≤ 1048576 → m < n → BoxF w r 46 → Tabs w →
    Calls Tryz.prog 46 #[.int .i64 m, .slice p n c, .pointer (some ⟨r, 0, none⟩)] w fun e w' => ∃ x, e = .returned x ∧ w'.ownsRow w.heap.size 9 1 x (pathR m L).length ((pathR m L).map Value.string) ∧ Below w.heap.size w w' := by
  induction n using Nat.strongRecOn with
  | ind n ih =>
    intro m L p c r w hv hL hn hmn hbox ht
    have IH := Lib.hid ih
    have HV := Lib.hid hv
    have HT := Lib.hid ht
    have HBOX := Lib.hid hbox
    have HC := Lib.hid hbox.c
    obtain ⟨p', c', he, hv1, hv2, hv3⟩ := hv
    simp only [Value.slice.injEq] at he
    obtain ⟨rfl, hnl, rfl⟩ := he
    clear ih hnl
    rcases Nat.lt_or_ge n 2 with h1 | h2
    · have hp1 : pathR m L = [] := pathR_one m (by omega)
      rw [hp1]
      have hni : ((n : Int) == 1) = true := beq_iff_eq.2 (by omega)
      clear hv1 hv2 hv3 hp1 hL hbox ht
      go_enter Tryz.func46, Tryz.ntmps46
      go_wp2
      go_ret
      exact ⟨.slice none 0 0, rfl, World.ownsRow_nil w w.heap.size 9 1, Below.refl _ _⟩
    · have hni1 : ((n : Int) == 1) = false := beq_eq_false_iff_ne.2 (by omega)
      have hlen : n ≤ c := by omega
      have HP := Lib.hid (fun w' => parts_any p n c w' (by omega) (by omega) (by omega))
      have hpp := trivial
      have hsp := spl_lt h2
      obtain ⟨k, hk⟩ : ∃ k, k = spl n := ⟨_, rfl⟩
      rw [← hk] at HP hsp
      have hkL : k = spl L.length := by rw [hL]; exact hk
      have hkc : (k : Int) ≤ (c : Int) := by omega
      have hkn : (k : Int) ≤ (n : Int) := by omega
      have hk0 : (0 : Int) ≤ (k : Int) := by omega
      have hnc : (n : Int) ≤ (c : Int) := by omega
      have hck : ¬ (c - k = 0) := by omega
      by_cases hm2 : m < k
      · have hX := pathR_left hkL (by omega) hm2
        obtain ⟨q, hq⟩ : ∃ q, q = (pathR m (L.take k)).length := ⟨_, rfl⟩
        have hqb : q ≤ k := by rw [hq]; have := pathR_len m (L.take k); rw [List.length_take] at this; omega
        obtain ⟨X, hXX⟩ : ∃ X, X = rootR (L.drop k) := ⟨_, rfl⟩
        rw [← hXX] at hX
        have hXl : (pathR m L).length = q + 1 := by rw [hX, List.length_append, ← hq]; rfl
        rw [hXl]
        have HX := Lib.hid (by rw [hX, List.map_append] : (pathR m L).map Value.string = (pathR m (L.take k)).map Value.string ++ [X].map Value.string)
        have HI := Lib.hid (fun w' (h : Below w.heap.size w w') => IH.out k hsp.2.1 m (L.take k) p k r w' ((HV.out.left (by omega)).below h (Nat.le_refl _)) (by rw [List.length_take]; omega) (by omega) hm2 (HBOX.out.below h (Nat.le_refl _)) (HT.out.below h))
        rw [← hq] at HI
        have HR := Lib.hid (fun w' (h : Below w.heap.size w w') => root_any _ _ _ (L.drop k) w' (HT.out.below h) ((HV.out.right (k := k) (by omega)).below h (Nat.le_refl _)) (by rw [List.length_drop]; omega) (by omega))
        rw [← hXX] at HR
        have hmi : (m : Int) < (k : Int) := by omega
        have hq1 : 0 < q + 1 := by omega
        have hq2 : (q + 1) * 16 ≤ 140737488355328 := by omega
        have hq3 : q + 1 ≤ 140737488355328 := by omega
        clear hv1 hv2 hv3 hL hX hXX hXl hk hkL hq hlen hbox ht
        go_enter Tryz.func46, Tryz.ntmps46
        go_wp2_with (first
          | (go_at_call 47; with_reducible refine (HP.out w).mono ?_; rintro e w2 ⟨rfl, hb⟩; have HB2 := Lib.hid hb; have hc2 := (hb.cell (block_lt_of_cell HC.out)).trans HC.out; clear hb)
          | (go_at_call 46; with_reducible refine (HI.out w2 HB2.out).mono ?_; rintro e w3 ⟨x, rfl, hown, hb⟩; have HB3 := Lib.hid (below_from HB2.out hb HB2.out.size); have HO3 := Lib.hid (owns_le hown HB2.out.size); clear hb hown)
          | (go_at_call 45; with_reducible refine (HR.out w3 HB3.out).mono ?_; rintro e w4 ⟨rfl, hb⟩; have HB4 := Lib.hid (below_from HB3.out hb HB3.out.size); have HO4 := Lib.hid (owns_below HO3.out hb (Nat.le_refl _)); clear hb)
          | (at_builtin; refine wpList_appendV rfl _ _ rfl Tryz.underlying22 (.string ⟨#[]⟩) 1 info_str rfl (by decide) ([X].map Value.string) 1 (q + 1) rfl rfl HO4.out rfl rfl (str_one _) HB4.out (Nat.le_refl _) HB4.out.size rfl hq1 hq2 hq3 ?_; intro g' c' w5 hg' hown' hb' hsz' hgr'; have HO5 := Lib.hid hown'; have HB5 := Lib.hid hb'; clear hown' hb' hsz' hgr' hg'))
        go_ret
        exact ⟨_, rfl, by rw [HX.out]; exact HO5.out, HB5.out⟩
      · have hX := pathR_right hkL (by omega) hm2
        obtain ⟨q, hq⟩ : ∃ q, q = (pathR (m - k) (L.drop k)).length := ⟨_, rfl⟩
        have hqb : q ≤ n := by rw [hq]; have := pathR_len (m - k) (L.drop k); rw [List.length_drop] at this; omega
        obtain ⟨X, hXX⟩ : ∃ X, X = rootR (L.take k) := ⟨_, rfl⟩
        rw [← hXX] at hX
        have hXl : (pathR m L).length = q + 1 := by rw [hX, List.length_append, ← hq]; rfl
        rw [hXl]
        have HX := Lib.hid (by rw [hX, List.map_append] : (pathR m L).map Value.string = (pathR (m - k) (L.drop k)).map Value.string ++ [X].map Value.string)
        have HI := Lib.hid (fun w' (h : Below w.heap.size w w') => IH.out (n - k) (by omega) (m - k) (L.drop k) (p.map (·.add k)) (n - k) r w' ((HV.out.right (k := k) (by omega)).below h (Nat.le_refl _)) (by rw [List.length_drop]; omega) (by omega) (by omega) (HBOX.out.below h (Nat.le_refl _)) (HT.out.below h))
        rw [← hq] at HI
        have HR := Lib.hid (fun w' (h : Below w.heap.size w w') => root_any _ _ _ (L.take k) w' (HT.out.below h) ((HV.out.left (by omega)).below h (Nat.le_refl _)) (by rw [List.length_take]; omega) (by omega))
        rw [← hXX] at HR
        have hmi : ¬ ((m : Int) < (k : Int)) := by omega
        obtain ⟨mk, hmk⟩ : ∃ y, y = m - k := ⟨_, rfl⟩
        rw [← hmk] at HI HX
        have hmki : (m : Int) - (k : Int) = (mk : Int) := by omega
        have hmkb : mk ≤ 1048576 := by omega
        have hq1 : 0 < q + 1 := by omega
        have hq2 : (q + 1) * 16 ≤ 140737488355328 := by omega
        have hq3 : q + 1 ≤ 140737488355328 := by omega
        clear hv1 hv2 hv3 hL hX hXX hXl hk hkL hq hlen hmk hbox ht
        go_enter Tryz.func46, Tryz.ntmps46
        go_wp2_with (first
          | (go_at_call 47; with_reducible refine (HP.out w).mono ?_; rintro e w2 ⟨rfl, hb⟩; have HB2 := Lib.hid hb; have hc2 := (hb.cell (block_lt_of_cell HC.out)).trans HC.out; clear hb)
          | (go_at_call 46; with_reducible refine (HI.out w2 HB2.out).mono ?_; rintro e w3 ⟨x, rfl, hown, hb⟩; have HB3 := Lib.hid (below_from HB2.out hb HB2.out.size); have HO3 := Lib.hid (owns_le hown HB2.out.size); clear hb hown)
          | (go_at_call 45; with_reducible refine (HR.out w3 HB3.out).mono ?_; rintro e w4 ⟨rfl, hb⟩; have HB4 := Lib.hid (below_from HB3.out hb HB3.out.size); have HO4 := Lib.hid (owns_below HO3.out hb (Nat.le_refl _)); clear hb)
          | (at_builtin; refine wpList_appendV rfl _ _ rfl Tryz.underlying22 (.string ⟨#[]⟩) 1 info_str rfl (by decide) ([X].map Value.string) 1 (q + 1) rfl rfl HO4.out rfl rfl (str_one _) HB4.out (Nat.le_refl _) HB4.out.size rfl hq1 hq2 hq3 ?_; intro g' c' w5 hg' hown' hb' hsz' hgr'; have HO5 := Lib.hid hown'; have HB5 := Lib.hid hb'; clear hown' hb' hsz' hgr' hg'))
        go_ret
        exact ⟨_, rfl, by rw [HX.out]; exact HO5.out, HB5.out⟩

end Go.Proofs.YtdbghgpohdijfaaGreatDoor
