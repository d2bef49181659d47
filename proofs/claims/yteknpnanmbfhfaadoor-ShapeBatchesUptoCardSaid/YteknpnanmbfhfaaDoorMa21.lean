/- Layer 3, walked: Root, Part of both. -/
import Derived.Test.YteknpnanmbfhfaaDoorMa20
namespace Go.Proofs.YteknpnanmbfhfaaDoor
open Go.RowKit Go.Scr
set_option linter.unusedVariables false

def rootT (L : List ByteArray) : ByteArray := if refusedE L = 0 then rootR L else ⟨#[]⟩
def partE (L : List ByteArray) (b e : Int) : Int := if refusedE L ≠ 0 then refusedE L else if b < 0 ∨ e < b ∨ (L.length : Int) < e then 30 else 0
def partT (L : List ByteArray) (b e : Int) : ByteArray := if partE L b e = 0 then rootR ((L.drop b.toNat).take (e - b).toNat) else ⟨#[]⟩

set_option maxRecDepth 100000 in
set_option maxHeartbeats 400000 in
theorem Root_any (v : Value) (L : List ByteArray) (w : World) (ht : Tabs w) (hv : Txts w v L) :
    Calls Tryd.prog 35 #[v] w fun e w' => e = .returned (.tuple #[.string (rootT L), .int .i64 (refusedE L)]) ∧ Below w.heap.size w w' := by
  have HV := Lib.hid hv
  have HR := Lib.hid (refused_any v L w hv)
  obtain ⟨p, c, rfl, hv1, hv2, hv3⟩ := hv
  obtain ⟨n, hn⟩ : ∃ n, n = L.length := ⟨_, rfl⟩
  rw [← hn] at HV HR hv1 hv2 ⊢
  have hL := hn.symm
  have hC : n ≤ 1048576 → _ := fun h => root_any p n c L w ht HV.out hL h
  obtain ⟨E, hE⟩ : ∃ E, E = refusedE L := ⟨_, rfl⟩
  rw [← hE] at HR ⊢
  by_cases h0 : E = 0
  · have hlen : n ≤ 4096 := by
      rcases Nat.lt_or_ge 4096 n with h | h
      · exfalso
        have : refusedE L = 31 := by unfold refusedE; rw [if_pos (by omega)]
        omega
      · exact h
    have e1 : rootT L = rootR L := by unfold rootT; rw [← hE, if_pos h0]
    rw [e1]
    subst h0
    have HC := Lib.hid (hC (by omega))
    clear hC hE hL hn hv3 e1 ht
    go_enter Tryd.func35, Tryd.ntmps35
    go_wp2_with (first
      | (go_at_call 68; with_reducible refine (HR.out).mono ?_; rintro e w2 ⟨rfl, hw⟩; rw [hw]; clear hw w2)
      | (go_at_call 69; with_reducible refine (HC.out).mono ?_; rintro e w3 ⟨rfl, hb⟩; have HB3 := Lib.hid hb; clear hb))
    go_ret2
    exact ⟨rfl, HB3.out⟩
  · have e1 : rootT L = ⟨#[]⟩ := by unfold rootT; rw [← hE, if_neg h0]
    rw [e1]
    clear hC hE hL hn hv3 e1 ht
    go_enter Tryd.func35, Tryd.ntmps35
    go_wp2_with (go_at_call 68; with_reducible refine (HR.out).mono ?_; rintro e w2 ⟨rfl, hw⟩; rw [hw]; clear hw w2)
    go_ret2
    exact ⟨rfl, Below.refl _ _⟩

set_option maxRecDepth 100000 in
set_option maxHeartbeats 1000000 in
theorem Part_any (v : Value) (L : List ByteArray) (b e : Int) (w : World) (ht : Tabs w) (hv : Txts w v L) :
    Calls Tryd.prog 76 #[v, .agg #[.int .i64 b, .int .i64 e]] w fun r w' => r = .returned (.tuple #[.string (partT L b e), .int .i64 (partE L b e)]) ∧ Below w.heap.size w w' := by
  have HV := Lib.hid hv
  have HT := Lib.hid ht
  have HR := Lib.hid (fun w' (h : Txts w' v L) => refused_any v L w' h)
  have HA : Hid (Below w.heap.size w (w.alloc (.cells #[.int .i64 b, .int .i64 e] 29))) := Lib.hid ((Below.refl _ _).alloc (Nat.le_refl _) _)
  obtain ⟨p, c, rfl, hv1, hv2, hv3⟩ := hv
  obtain ⟨n, hn⟩ : ∃ n, n = L.length := ⟨_, rfl⟩
  rw [← hn] at HV HR hv1 hv2 ⊢
  have hL := hn.symm
  obtain ⟨E, hE⟩ : ∃ E, E = refusedE L := ⟨_, rfl⟩
  rw [← hE] at HR
  by_cases h0 : E = 0
  · have hlen : n ≤ 4096 := by
      rcases Nat.lt_or_ge 4096 n with h | h
      · exfalso
        have : refusedE L = 31 := by unfold refusedE; rw [if_pos (by omega)]
        omega
      · exact h
    by_cases hbad : b < 0 ∨ e < b ∨ (n : Int) < e
    · have e2 : partE L b e = 30 := by unfold partE; rw [← hE, if_neg (by simp [h0]), ← hn, if_pos hbad]
      have e1 : partT L b e = ⟨#[]⟩ := by unfold partT; rw [e2]; rfl
      rw [e1, e2]
      subst h0
      clear hE hL hn hv3 e1 e2 ht
      by_cases hb0 : b < 0
      · clear hbad
        go_enter Tryd.func76, Tryd.ntmps76
        go_wp2_with (go_at_call 68; with_reducible refine (HR.out _ (HV.out.below HA.out (Nat.le_refl _))).mono ?_; rintro e w2 ⟨rfl, hw⟩; rw [hw]; clear hw w2)
        go_ret2
        exact ⟨rfl, HA.out⟩
      · by_cases hb1 : e < b
        · clear hbad
          go_enter Tryd.func76, Tryd.ntmps76
          go_wp2_with (go_at_call 68; with_reducible refine (HR.out _ (HV.out.below HA.out (Nat.le_refl _))).mono ?_; rintro e w2 ⟨rfl, hw⟩; rw [hw]; clear hw w2)
          go_ret2
          exact ⟨rfl, HA.out⟩
        · have hb2 : (n : Int) < e := by omega
          clear hbad
          go_enter Tryd.func76, Tryd.ntmps76
          go_wp2_with (go_at_call 68; with_reducible refine (HR.out _ (HV.out.below HA.out (Nat.le_refl _))).mono ?_; rintro e w2 ⟨rfl, hw⟩; rw [hw]; clear hw w2)
          go_ret2
          exact ⟨rfl, HA.out⟩
    · have e2 : partE L b e = 0 := by unfold partE; rw [← hE, if_neg (by simp [h0]), ← hn, if_neg hbad]
      have e1 : partT L b e = rootR ((L.drop b.toNat).take (e - b).toNat) := by unfold partT; rw [e2]; rfl
      rw [e1, e2]
      subst h0
      obtain ⟨i, rfl⟩ : ∃ i : Nat, b = i := ⟨b.toNat, by omega⟩
      obtain ⟨j, rfl⟩ : ∃ j : Nat, e = j := ⟨e.toNat, by omega⟩
      have hij : i ≤ j := by omega
      have hjn : j ≤ n := by omega
      rw [Int.toNat_natCast, show ((j : Int) - (i : Int)).toNat = j - i by omega]
      have hi0 : ¬ ((i : Int) < 0) := by omega
      have hij2 : ¬ ((j : Int) < (i : Int)) := by omega
      have hjn2 : ¬ ((n : Int) < (j : Int)) := by omega
      have hi00 : (0 : Int) ≤ (i : Int) := by omega
      have hij3 : (i : Int) ≤ (j : Int) := by omega
      have hjc : (j : Int) ≤ (c : Int) := by omega
      obtain ⟨X, hX⟩ : ∃ X, X = rootR ((L.drop i).take (j - i)) := ⟨_, rfl⟩
      rw [← hX]
      by_cases hci : c - i = 0
      · have hji : j - i = 0 := by omega
        have hc1 := fun w1 (hb : Below w.heap.size w w1) => root_any _ _ _ _ w1 (HT.out.below hb) ((⟨p, 0, by rw [List.length_take, hji]; simp, by rw [hji]; simp, by rw [hji]; simp, fun j s h => by rw [hji] at h; simp at h⟩ : Txts w1 (.slice p 0 0) ((L.drop i).take (j - i)))) (by rw [List.length_take, List.length_drop]; omega) (by omega)
        rw [← hX] at hc1
        have HC := Lib.hid hc1
        clear hE hL hn hv3 e1 e2 hc1 hX hbad ht
        go_enter Tryd.func76, Tryd.ntmps76
        go_wp2_with (first
          | (go_at_call 68; with_reducible refine (HR.out _ (HV.out.below HA.out (Nat.le_refl _))).mono ?_; rintro e w2 ⟨rfl, hw⟩; rw [hw]; clear hw w2)
          | (go_at_call 69; with_reducible refine (HC.out _ HA.out).mono ?_; rintro e w3 ⟨rfl, hb⟩; have HB3 := Lib.hid (below_from HA.out hb HA.out.size); clear hb))
        go_ret2
        exact ⟨rfl, HB3.out⟩
      · have hc1 := fun w1 (hb : Below w.heap.size w w1) => root_any _ _ _ _ w1 (HT.out.below hb) (((HV.out.rightC (k := i) (by omega)).cutC (k := j - i) (by omega)).below hb (Nat.le_refl _)) (by rw [List.length_take, List.length_drop]; omega) (by omega)
        rw [← hX] at hc1
        have HC := Lib.hid hc1
        clear hE hL hn hv3 e1 e2 hc1 hX hbad ht
        go_enter Tryd.func76, Tryd.ntmps76
        go_wp2_with (first
          | (go_at_call 68; with_reducible refine (HR.out _ (HV.out.below HA.out (Nat.le_refl _))).mono ?_; rintro e w2 ⟨rfl, hw⟩; rw [hw]; clear hw w2)
          | (go_at_call 69; with_reducible refine (HC.out _ HA.out).mono ?_; rintro e w3 ⟨rfl, hb⟩; have HB3 := Lib.hid (below_from HA.out hb HA.out.size); clear hb))
        go_ret2
        exact ⟨rfl, HB3.out⟩
  · have e2 : partE L b e = E := by unfold partE; rw [← hE, if_pos h0]
    have e1 : partT L b e = ⟨#[]⟩ := by unfold partT; rw [e2, if_neg h0]
    rw [e1, e2]
    clear hE hL hn hv3 e1 e2 ht
    go_enter Tryd.func76, Tryd.ntmps76
    go_wp2_with (go_at_call 68; with_reducible refine (HR.out _ (HV.out.below HA.out (Nat.le_refl _))).mono ?_; rintro e w2 ⟨rfl, hw⟩; rw [hw]; clear hw w2)
    go_ret2
    exact ⟨rfl, HA.out⟩

end Go.Proofs.YteknpnanmbfhfaaDoor
/- Layer 3, walked: paths of both. -/
namespace Go.Proofs.YteknpnanmbfhfaaDoor
open Go.RowKit Go.Scr
set_option linter.unusedVariables false

theorem owns_le {w : World} {base base' size n : Nat} {e : TypeId} {v : Value} {xs : List Value} (h : w.ownsRow base e size v n xs) (hb : base' ≤ base) : w.ownsRow base' e size v n xs := by
  obtain ⟨h1, h2⟩ := h
  refine ⟨h1, ?_⟩
  rcases h2 with h2 | ⟨g, cap, cur, h3, h4, h5⟩
  · exact .inl h2
  · exact .inr ⟨g, cap, cur, h3, by omega, h5⟩
theorem dn_len (n : Nat) : ∀ m, (dn n m).length ≤ n := by
  induction n using Nat.strongRecOn with
  | ind n ih =>
    intro m
    rw [dn]
    split
    · simp
    · have := spl_lt (show 2 ≤ n by omega)
      split
      · have := ih (spl n) (by omega) m
        simp; omega
      · have := ih (n - spl n) (by omega) (m - spl n)
        simp; omega
def pathR (m : Nat) (L : List ByteArray) : List ByteArray := pathL nodeS hempty m L
theorem pathR_len (m : Nat) (L : List ByteArray) : (pathR m L).length ≤ L.length := by
  unfold pathR
  rw [pathL_length nodeS hempty L.length m L rfl]
  exact dn_len _ _
theorem pathR_one {L : List ByteArray} (m : Nat) (h : L.length ≤ 1) : pathR m L = [] := by unfold pathR; rw [pathL, dif_pos h]
theorem pathR_left {L : List ByteArray} {m k : Nat} (hk : k = spl L.length) (h : 2 ≤ L.length) (hm : m < k) : pathR m L = pathR m (L.take k) ++ [rootR (L.drop k)] := by
  subst hk
  unfold pathR rootR
  rw [pathL, dif_neg (by omega), if_pos hm]
theorem pathR_right {L : List ByteArray} {m k : Nat} (hk : k = spl L.length) (h : 2 ≤ L.length) (hm : ¬ m < k) : pathR m L = pathR (m - k) (L.drop k) ++ [rootR (L.take k)] := by
  subst hk
  unfold pathR rootR
  rw [pathL, dif_neg (by omega), if_neg hm]

set_option maxRecDepth 100000 in
set_option maxHeartbeats 2000000 in
theorem pathc_any (n : Nat) : ∀ (m : Nat) (L : List ByteArray) (p : Option Addr) (c : Nat) (r : Nat) (w : World), Txts w (.slice p n c) L → L.length = n → n ≤ 1048576 → m < n → BoxF w r 70 → Tabs w →
    Calls Tryd.prog 70 #[.int .i64 m, .slice p n c, .pointer (some ⟨r, 0, none⟩)] w fun e w' => ∃ x, e = .returned x ∧ w'.ownsRow w.heap.size 9 1 x (pathR m L).length ((pathR m L).map Value.string) ∧ Below w.heap.size w w' := by
  induction n using Nat.strongRecOn with
  | ind n ih =>
    intro m L p c r w hv hL hn hmn hbox ht
    have IH := Lib.hid ih
    have HV := Lib.hid hv
    have HT := Lib.hid ht
    have HBOX := Lib.hid hbox
    have HC := Lib.hid hbox.c
    obtain ⟨p', c', he, hv1, hv2, hv3⟩ := hv
    simp only [Value.slice.injEq] at he
    obtain ⟨rfl, hnl, rfl⟩ := he
    clear ih hnl
    rcases Nat.lt_or_ge n 2 with h1 | h2
    · have hp1 : pathR m L = [] := pathR_one m (by omega)
      rw [hp1]
      have hni : ((n : Int) == 1) = true := beq_iff_eq.2 (by omega)
      clear hv1 hv2 hv3 hp1 hL hbox ht
      go_enter Tryd.func70, Tryd.ntmps70
      go_wp2
      go_ret
      exact ⟨.slice none 0 0, rfl, World.ownsRow_nil w w.heap.size 9 1, Below.refl _ _⟩
    · have hni1 : ((n : Int) == 1) = false := beq_eq_false_iff_ne.2 (by omega)
      have hlen : n ≤ c := by omega
      have HP := Lib.hid (fun w' => parts_any p n c w' (by omega) (by omega) (by omega))
      have hpp := trivial
      have hsp := spl_lt h2
      obtain ⟨k, hk⟩ : ∃ k, k = spl n := ⟨_, rfl⟩
      rw [← hk] at HP hsp
      have hkL : k = spl L.length := by rw [hL]; exact hk
      have hkc : (k : Int) ≤ (c : Int) := by omega
      have hkn : (k : Int) ≤ (n : Int) := by omega
      have hk0 : (0 : Int) ≤ (k : Int) := by omega
      have hnc : (n : Int) ≤ (c : Int) := by omega
      have hck : ¬ (c - k = 0) := by omega
      by_cases hm2 : m < k
      · have hX := pathR_left hkL (by omega) hm2
        obtain ⟨q, hq⟩ : ∃ q, q = (pathR m (L.take k)).length := ⟨_, rfl⟩
        have hqb : q ≤ k := by rw [hq]; have := pathR_len m (L.take k); rw [List.length_take] at this; omega
        obtain ⟨X, hXX⟩ : ∃ X, X = rootR (L.drop k) := ⟨_, rfl⟩
        rw [← hXX] at hX
        have hXl : (pathR m L).length = q + 1 := by rw [hX, List.length_append, ← hq]; rfl
        rw [hXl]
        have HX := Lib.hid (by rw [hX, List.map_append] : (pathR m L).map Value.string = (pathR m (L.take k)).map Value.string ++ [X].map Value.string)
        have HI := Lib.hid (fun w' (h : Below w.heap.size w w') => IH.out k hsp.2.1 m (L.take k) p k r w' ((HV.out.left (by omega)).below h (Nat.le_refl _)) (by rw [List.length_take]; omega) (by omega) hm2 (HBOX.out.below h (Nat.le_refl _)) (HT.out.below h))
        rw [← hq] at HI
        have HR := Lib.hid (fun w' (h : Below w.heap.size w w') => root_any _ _ _ (L.drop k) w' (HT.out.below h) ((HV.out.right (k := k) (by omega)).below h (Nat.le_refl _)) (by rw [List.length_drop]; omega) (by omega))
        rw [← hXX] at HR
        have hmi : (m : Int) < (k : Int) := by omega
        have hq1 : 0 < q + 1 := by omega
        have hq2 : (q + 1) * 16 ≤ 140737488355328 := by omega
        have hq3 : q + 1 ≤ 140737488355328 := by omega
        clear hv1 hv2 hv3 hL hX hXX hXl hk hkL hq hlen hbox ht
        go_enter Tryd.func70, Tryd.ntmps70
        go_wp2_with (first
          | (go_at_call 71; with_reducible refine (HP.out w).mono ?_; rintro e w2 ⟨rfl, hb⟩; have HB2 := Lib.hid hb; have hc2 := (hb.cell (block_lt_of_cell HC.out)).trans HC.out; clear hb)
          | (go_at_call 70; with_reducible refine (HI.out w2 HB2.out).mono ?_; rintro e w3 ⟨x, rfl, hown, hb⟩; have HB3 := Lib.hid (below_from HB2.out hb HB2.out.size); have HO3 := Lib.hid (owns_le hown HB2.out.size); clear hb hown)
          | (go_at_call 69; with_reducible refine (HR.out w3 HB3.out).mono ?_; rintro e w4 ⟨rfl, hb⟩; have HB4 := Lib.hid (below_from HB3.out hb HB3.out.size); have HO4 := Lib.hid (owns_below HO3.out hb (Nat.le_refl _)); clear hb)
          | (at_builtin; refine wpList_appendV rfl _ _ rfl Tryd.underlying50 (.string ⟨#[]⟩) 1 info_str rfl (by decide) ([X].map Value.string) 1 (q + 1) rfl rfl HO4.out rfl rfl (str_one _) HB4.out (Nat.le_refl _) HB4.out.size rfl hq1 hq2 hq3 ?_; intro g' c' w5 hg' hown' hb' hsz' hgr'; have HO5 := Lib.hid hown'; have HB5 := Lib.hid hb'; clear hown' hb' hsz' hgr' hg'))
        go_ret
        exact ⟨_, rfl, by rw [HX.out]; exact HO5.out, HB5.out⟩
      · have hX := pathR_right hkL (by omega) hm2
        obtain ⟨q, hq⟩ : ∃ q, q = (pathR (m - k) (L.drop k)).length := ⟨_, rfl⟩
        have hqb : q ≤ n := by rw [hq]; have := pathR_len (m - k) (L.drop k); rw [List.length_drop] at this; omega
        obtain ⟨X, hXX⟩ : ∃ X, X = rootR (L.take k) := ⟨_, rfl⟩
        rw [← hXX] at hX
        have hXl : (pathR m L).length = q + 1 := by rw [hX, List.length_append, ← hq]; rfl
        rw [hXl]
        have HX := Lib.hid (by rw [hX, List.map_append] : (pathR m L).map Value.string = (pathR (m - k) (L.drop k)).map Value.string ++ [X].map Value.string)
        have HI := Lib.hid (fun w' (h : Below w.heap.size w w') => IH.out (n - k) (by omega) (m - k) (L.drop k) (p.map (·.add k)) (n - k) r w' ((HV.out.right (k := k) (by omega)).below h (Nat.le_refl _)) (by rw [List.length_drop]; omega) (by omega) (by omega) (HBOX.out.below h (Nat.le_refl _)) (HT.out.below h))
        rw [← hq] at HI
        have HR := Lib.hid (fun w' (h : Below w.heap.size w w') => root_any _ _ _ (L.take k) w' (HT.out.below h) ((HV.out.left (by omega)).below h (Nat.le_refl _)) (by rw [List.length_take]; omega) (by omega))
        rw [← hXX] at HR
        have hmi : ¬ ((m : Int) < (k : Int)) := by omega
        obtain ⟨mk, hmk⟩ : ∃ y, y = m - k := ⟨_, rfl⟩
        rw [← hmk] at HI HX
        have hmki : (m : Int) - (k : Int) = (mk : Int) := by omega
        have hmkb : mk ≤ 1048576 := by omega
        have hq1 : 0 < q + 1 := by omega
        have hq2 : (q + 1) * 16 ≤ 140737488355328 := by omega
        have hq3 : q + 1 ≤ 140737488355328 := by omega
        clear hv1 hv2 hv3 hL hX hXX hXl hk hkL hq hlen hmk hbox ht
        go_enter Tryd.func70, Tryd.ntmps70
        go_wp2_with (first
          | (go_at_call 71; with_reducible refine (HP.out w).mono ?_; rintro e w2 ⟨rfl, hb⟩; have HB2 := Lib.hid hb; have hc2 := (hb.cell (block_lt_of_cell HC.out)).trans HC.out; clear hb)
          | (go_at_call 70; with_reducible refine (HI.out w2 HB2.out).mono ?_; rintro e w3 ⟨x, rfl, hown, hb⟩; have HB3 := Lib.hid (below_from HB2.out hb HB2.out.size); have HO3 := Lib.hid (owns_le hown HB2.out.size); clear hb hown)
          | (go_at_call 69; with_reducible refine (HR.out w3 HB3.out).mono ?_; rintro e w4 ⟨rfl, hb⟩; have HB4 := Lib.hid (below_from HB3.out hb HB3.out.size); have HO4 := Lib.hid (owns_below HO3.out hb (Nat.le_refl _)); clear hb)
          | (at_builtin; refine wpList_appendV rfl _ _ rfl Tryd.underlying50 (.string ⟨#[]⟩) 1 info_str rfl (by decide) ([X].map Value.string) 1 (q + 1) rfl rfl HO4.out rfl rfl (str_one _) HB4.out (Nat.le_refl _) HB4.out.size rfl hq1 hq2 hq3 ?_; intro g' c' w5 hg' hown' hb' hsz' hgr'; have HO5 := Lib.hid hown'; have HB5 := Lib.hid hb'; clear hown' hb' hsz' hgr' hg'))
        go_ret
        exact ⟨_, rfl, by rw [HX.out]; exact HO5.out, HB5.out⟩

end Go.Proofs.YteknpnanmbfhfaaDoor
/- Layer 3, walked: proofs of both. -/
namespace Go.Proofs.YteknpnanmbfhfaaDoor
open Go.RowKit Go.Scr
set_option linter.unusedVariables false

theorem toldR_le (s : Nat) : ∀ f whole, 1 ≤ f → f ≤ s → toldN f s whole ≤ s := by
  induction s using Nat.strongRecOn with
  | ind s ih =>
    intro f whole h1 h2
    by_cases h : f = s
    · subst h; rw [toldN_same]; split <;> omega
    · have hs := spl_lt (show 2 ≤ s by omega)
      by_cases hle : f ≤ spl s
      · rw [toldN_left whole h (by omega) hle]
        have := ih (spl s) hs.2.1 f whole h1 hle
        omega
      · rw [toldN_right whole h (by omega) hle]
        have := ih (s - spl s) (by omega) (f - spl s) false (by omega) (by omega)
        omega
def proofR (m : Nat) (L : List ByteArray) (b : Bool) : List ByteArray := proofL nodeS hempty m L b
theorem proofR_len {m : Nat} {L : List ByteArray} (b : Bool) (h1 : 1 ≤ m) (h2 : m ≤ L.length) : (proofR m L b).length ≤ L.length := by
  unfold proofR
  rw [proofL_length nodeS hempty L.length m L b rfl]
  exact toldR_le _ _ _ h1 h2
theorem proofR_same {L : List ByteArray} {m : Nat} (h : m = L.length) (b : Bool) : proofR m L b = if b then [] else [rootR L] := by
  unfold proofR rootR
  rw [proofL, dif_pos (Or.inl h)]
theorem proofR_left {L : List ByteArray} {m k : Nat} (b : Bool) (hk : k = spl L.length) (h : 2 ≤ L.length) (hne : m ≠ L.length) (hm : m ≤ k) : proofR m L b = proofR m (L.take k) b ++ [rootR (L.drop k)] := by
  subst hk
  unfold proofR rootR
  rw [proofL, dif_neg (by omega), if_pos hm]
theorem proofR_right {L : List ByteArray} {m k : Nat} (b : Bool) (hk : k = spl L.length) (h : 2 ≤ L.length) (hne : m ≠ L.length) (hm : ¬ m ≤ k) : proofR m L b = proofR (m - k) (L.drop k) false ++ [rootR (L.take k)] := by
  subst hk
  unfold proofR rootR
  rw [proofL, dif_neg (by omega), if_neg hm]
theorem owns_one {w : World} {T : Nat} {X : ByteArray} {B : Nat} (hB : B ≤ w.heap.size) : (w.alloc (.cells #[.string X] T)).ownsRow B T 1 (.slice (some ⟨w.heap.size, 0, none⟩) 1 1) 1 ([X].map Value.string) :=
  ⟨rfl, Or.inr ⟨w.heap.size, 1, #[.string X], rfl, hB, heap_alloc_new w _, Nat.le_refl _, by unfold maxLen; decide, rfl, rfl⟩⟩

set_option maxRecDepth 100000 in
set_option maxHeartbeats 2000000 in
theorem proofc_any (n : Nat) : ∀ (m : Nat) (L : List ByteArray) (b : Bool) (p : Option Addr) (c : Nat) (r : Nat) (w : World), Txts w (.slice p n c) L → L.length = n → n ≤ 1048576 → 1 ≤ m → m ≤ n → BoxF w r 72 → Tabs w →
    Calls Tryd.prog 72 #[.int .i64 m, .slice p n c, .bool b, .pointer (some ⟨r, 0, none⟩)] w fun e w' => ∃ x, e = .returned x ∧ w'.ownsRow w.heap.size 9 1 x (proofR m L b).length ((proofR m L b).map Value.string) ∧ Below w.heap.size w w' := by
  induction n using Nat.strongRecOn with
  | ind n ih =>
    intro m L b p c r w hv hL hn h1 hmn hbox ht
    have IH := Lib.hid ih
    have HV := Lib.hid hv
    have HT := Lib.hid ht
    have HBOX := Lib.hid hbox
    have HC := Lib.hid hbox.c
    obtain ⟨p', c', he, hv1, hv2, hv3⟩ := hv
    simp only [Value.slice.injEq] at he
    obtain ⟨rfl, hnl, rfl⟩ := he
    clear ih hnl
    by_cases heq : m = n
    · have hp1 := proofR_same (L := L) (m := m) (by omega) b
      rw [hp1]
      have hmi : ((m : Int) == (n : Int)) = true := beq_iff_eq.2 (by omega)
      cases b with
      | true =>
        clear hv1 hv2 hv3 hp1 hL heq hbox ht
        go_enter Tryd.func72, Tryd.ntmps72
        go_wp2
        go_ret
        exact ⟨.slice none 0 0, rfl, World.ownsRow_nil w w.heap.size 9 1, Below.refl _ _⟩
      | false =>
        have HR := Lib.hid (root_any p n c L w HT.out HV.out hL (by omega))
        clear hv1 hv2 hv3 hp1 hL heq hbox ht
        go_enter Tryd.func72, Tryd.ntmps72
        go_wp2_with (go_at_call 69; with_reducible refine (HR.out).mono ?_; rintro e w4 ⟨rfl, hb⟩; have HB4 := Lib.hid hb; clear hb)
        go_ret
        exact ⟨_, rfl, owns_one HB4.out.size, HB4.out.alloc HB4.out.size _⟩
    · have h2 : 2 ≤ n := by omega
      have hmi : ((m : Int) == (n : Int)) = false := beq_eq_false_iff_ne.2 (by omega)
      have hlen : n ≤ c := by omega
      have HP := Lib.hid (fun w' => parts_any p n c w' (by omega) (by omega) (by omega))
      have hpp := trivial
      have hsp := spl_lt h2
      obtain ⟨k, hk⟩ : ∃ k, k = spl n := ⟨_, rfl⟩
      rw [← hk] at HP hsp
      have hkL : k = spl L.length := by rw [hL]; exact hk
      have hkc : (k : Int) ≤ (c : Int) := by omega
      have hkn : (k : Int) ≤ (n : Int) := by omega
      have hk0 : (0 : Int) ≤ (k : Int) := by omega
      have hnc : (n : Int) ≤ (c : Int) := by omega
      have hck : ¬ (c - k = 0) := by omega
      by_cases hm2 : m ≤ k
      · have hX := proofR_left b hkL (by omega) (by omega) hm2
        obtain ⟨q, hq⟩ : ∃ q, q = (proofR m (L.take k) b).length := ⟨_, rfl⟩
        have hqb : q ≤ k := by rw [hq]; have := proofR_len (m := m) (L := L.take k) b h1 (by rw [List.length_take]; omega); rw [List.length_take] at this; omega
        obtain ⟨X, hXX⟩ : ∃ X, X = rootR (L.drop k) := ⟨_, rfl⟩
        rw [← hXX] at hX
        have hXl : (proofR m L b).length = q + 1 := by rw [hX, List.length_append, ← hq]; rfl
        rw [hXl]
        have HX := Lib.hid (by rw [hX, List.map_append] : (proofR m L b).map Value.string = (proofR m (L.take k) b).map Value.string ++ [X].map Value.string)
        have HI := Lib.hid (fun w' (h : Below w.heap.size w w') => IH.out k hsp.2.1 m (L.take k) b p k r w' ((HV.out.left (by omega)).below h (Nat.le_refl _)) (by rw [List.length_take]; omega) (by omega) h1 hm2 (HBOX.out.below h (Nat.le_refl _)) (HT.out.below h))
        rw [← hq] at HI
        have HR := Lib.hid (fun w' (h : Below w.heap.size w w') => root_any _ _ _ (L.drop k) w' (HT.out.below h) ((HV.out.right (k := k) (by omega)).below h (Nat.le_refl _)) (by rw [List.length_drop]; omega) (by omega))
        rw [← hXX] at HR
        have hmki : (m : Int) ≤ (k : Int) := by omega
        have hq1 : 0 < q + 1 := by omega
        have hq2 : (q + 1) * 16 ≤ 140737488355328 := by omega
        have hq3 : q + 1 ≤ 140737488355328 := by omega
        clear hv1 hv2 hv3 hL hX hXX hXl hk hkL hq hlen heq hbox ht
        go_enter Tryd.func72, Tryd.ntmps72
        go_wp2_with (first
          | (go_at_call 71; with_reducible refine (HP.out w).mono ?_; rintro e w2 ⟨rfl, hb⟩; have HB2 := Lib.hid hb; have hc2 := (hb.cell (block_lt_of_cell HC.out)).trans HC.out; clear hb)
          | (go_at_call 72; with_reducible refine (HI.out w2 HB2.out).mono ?_; rintro e w3 ⟨x, rfl, hown, hb⟩; have HB3 := Lib.hid (below_from HB2.out hb HB2.out.size); have HO3 := Lib.hid (owns_le hown HB2.out.size); clear hb hown)
          | (go_at_call 69; with_reducible refine (HR.out w3 HB3.out).mono ?_; rintro e w4 ⟨rfl, hb⟩; have HB4 := Lib.hid (below_from HB3.out hb HB3.out.size); have HO4 := Lib.hid (owns_below HO3.out hb (Nat.le_refl _)); clear hb)
          | (at_builtin; refine wpList_appendV rfl _ _ rfl Tryd.underlying50 (.string ⟨#[]⟩) 1 info_str rfl (by decide) ([X].map Value.string) 1 (q + 1) rfl rfl HO4.out rfl rfl (str_one _) HB4.out (Nat.le_refl _) HB4.out.size rfl hq1 hq2 hq3 ?_; intro g' c' w5 hg' hown' hb' hsz' hgr'; have HO5 := Lib.hid hown'; have HB5 := Lib.hid hb'; clear hown' hb' hsz' hgr' hg'))
        go_ret
        exact ⟨_, rfl, by rw [HX.out]; exact HO5.out, HB5.out⟩
      · have hX := proofR_right b hkL (by omega) (by omega) hm2
        obtain ⟨q, hq⟩ : ∃ q, q = (proofR (m - k) (L.drop k) false).length := ⟨_, rfl⟩
        have hqb : q ≤ n := by rw [hq]; have := proofR_len (m := m - k) (L := L.drop k) false (by omega) (by rw [List.length_drop]; omega); rw [List.length_drop] at this; omega
        obtain ⟨X, hXX⟩ : ∃ X, X = rootR (L.take k) := ⟨_, rfl⟩
        rw [← hXX] at hX
        have hXl : (proofR m L b).length = q + 1 := by rw [hX, List.length_append, ← hq]; rfl
        rw [hXl]
        have HX := Lib.hid (by rw [hX, List.map_append] : (proofR m L b).map Value.string = (proofR (m - k) (L.drop k) false).map Value.string ++ [X].map Value.string)
        have HI := Lib.hid (fun w' (h : Below w.heap.size w w') => IH.out (n - k) (by omega) (m - k) (L.drop k) false (p.map (·.add k)) (n - k) r w' ((HV.out.right (k := k) (by omega)).below h (Nat.le_refl _)) (by rw [List.length_drop]; omega) (by omega) (by omega) (by omega) (HBOX.out.below h (Nat.le_refl _)) (HT.out.below h))
        rw [← hq] at HI
        have HR := Lib.hid (fun w' (h : Below w.heap.size w w') => root_any _ _ _ (L.take k) w' (HT.out.below h) ((HV.out.left (by omega)).below h (Nat.le_refl _)) (by rw [List.length_take]; omega) (by omega))
        rw [← hXX] at HR
        have hmki : ¬ ((m : Int) ≤ (k : Int)) := by omega
        obtain ⟨mk, hmk⟩ : ∃ y, y = m - k := ⟨_, rfl⟩
        rw [← hmk] at HI HX
        have hmkj : (m : Int) - (k : Int) = (mk : Int) := by omega
        have hmkb : mk ≤ 1048576 := by omega
        have hq1 : 0 < q + 1 := by omega
        have hq2 : (q + 1) * 16 ≤ 140737488355328 := by omega
        have hq3 : q + 1 ≤ 140737488355328 := by omega
        clear hv1 hv2 hv3 hL hX hXX hXl hk hkL hq hlen hmk heq hbox ht
        go_enter Tryd.func72, Tryd.ntmps72
        go_wp2_with (first
          | (go_at_call 71; with_reducible refine (HP.out w).mono ?_; rintro e w2 ⟨rfl, hb⟩; have HB2 := Lib.hid hb; have hc2 := (hb.cell (block_lt_of_cell HC.out)).trans HC.out; clear hb)
          | (go_at_call 72; with_reducible refine (HI.out w2 HB2.out).mono ?_; rintro e w3 ⟨x, rfl, hown, hb⟩; have HB3 := Lib.hid (below_from HB2.out hb HB2.out.size); have HO3 := Lib.hid (owns_le hown HB2.out.size); clear hb hown)
          | (go_at_call 69; with_reducible refine (HR.out w3 HB3.out).mono ?_; rintro e w4 ⟨rfl, hb⟩; have HB4 := Lib.hid (below_from HB3.out hb HB3.out.size); have HO4 := Lib.hid (owns_below HO3.out hb (Nat.le_refl _)); clear hb)
          | (at_builtin; refine wpList_appendV rfl _ _ rfl Tryd.underlying50 (.string ⟨#[]⟩) 1 info_str rfl (by decide) ([X].map Value.string) 1 (q + 1) rfl rfl HO4.out rfl rfl (str_one _) HB4.out (Nat.le_refl _) HB4.out.size rfl hq1 hq2 hq3 ?_; intro g' c' w5 hg' hown' hb' hsz' hgr'; have HO5 := Lib.hid hown'; have HB5 := Lib.hid hb'; clear hown' hb' hsz' hgr' hg'))
        go_ret
        exact ⟨_, rfl, by rw [HX.out]; exact HO5.out, HB5.out⟩

end Go.Proofs.YteknpnanmbfhfaaDoor
/- Layer 3, walked: Path, Proof of both. -/
namespace Go.Proofs.YteknpnanmbfhfaaDoor
open Go.RowKit Go.Scr
set_option linter.unusedVariables false

def pathE (L : List ByteArray) (z : Int) : Int := if refusedE L ≠ 0 then refusedE L else if z < 0 ∨ (L.length : Int) ≤ z then 30 else 0
def pathT (L : List ByteArray) (z : Int) : List ByteArray := if pathE L z = 0 then pathR z.toNat L else []
def proofE (L : List ByteArray) (z : Int) : Int := if refusedE L ≠ 0 then refusedE L else if z < 1 ∨ (L.length : Int) < z then 31 else 0
def proofT (L : List ByteArray) (z : Int) : List ByteArray := if proofE L z = 0 then proofR z.toNat L true else []
theorem refused_len {L : List ByteArray} (h : refusedE L = 0) : L.length ≤ 4096 := by
  rcases Nat.lt_or_ge 4096 L.length with h1 | h1
  · exfalso
    have : refusedE L = 31 := by unfold refusedE; rw [if_pos h1]
    omega
  · exact h1

set_option maxRecDepth 100000 in
set_option maxHeartbeats 1000000 in
theorem Path_any (v : Value) (L : List ByteArray) (z : Int) (w : World) (ht : Tabs w) (hv : Txts w v L) :
    Calls Tryd.prog 36 #[v, .int .i64 z] w fun e w' => ∃ x, e = .returned (.tuple #[x, .int .i64 (pathE L z)]) ∧ w'.ownsRow w.heap.size 9 1 x (pathT L z).length ((pathT L z).map Value.string) ∧ Below w.heap.size w w' := by
  have HV := Lib.hid hv
  have HT := Lib.hid ht
  have HR := Lib.hid (refused_any v L w hv)
  obtain ⟨p, c, rfl, hv1, hv2, hv3⟩ := hv
  obtain ⟨n, hn⟩ : ∃ n, n = L.length := ⟨_, rfl⟩
  rw [← hn] at HV HR hv1 hv2 ⊢
  have hL := hn.symm
  obtain ⟨E, hE⟩ : ∃ E, E = refusedE L := ⟨_, rfl⟩
  rw [← hE] at HR
  by_cases h0 : E = 0
  · have hlen : n ≤ 4096 := by rw [hn]; exact refused_len (by rw [← hE]; exact h0)
    by_cases hbad : z < 0 ∨ (n : Int) ≤ z
    · have e2 : pathE L z = 30 := by unfold pathE; rw [← hE, if_neg (by simp [h0]), ← hn, if_pos hbad]
      have e1 : pathT L z = [] := by unfold pathT; rw [e2]; rfl
      rw [e1, e2]
      subst h0
      clear hE hL hn hv3 e1 e2 ht
      by_cases hb0 : z < 0
      · clear hbad
        go_enter Tryd.func36, Tryd.ntmps36
        go_wp2_with (go_at_call 68; with_reducible refine (HR.out).mono ?_; rintro e w2 ⟨rfl, hw⟩; rw [hw]; clear hw w2)
        go_ret2
        exact ⟨.slice none 0 0, rfl, World.ownsRow_nil w w.heap.size 9 1, Below.refl _ _⟩
      · have hb2 : (n : Int) ≤ z := by omega
        clear hbad
        go_enter Tryd.func36, Tryd.ntmps36
        go_wp2_with (go_at_call 68; with_reducible refine (HR.out).mono ?_; rintro e w2 ⟨rfl, hw⟩; rw [hw]; clear hw w2)
        go_ret2
        exact ⟨.slice none 0 0, rfl, World.ownsRow_nil w w.heap.size 9 1, Below.refl _ _⟩
    · obtain ⟨i, rfl⟩ : ∃ i : Nat, z = i := ⟨z.toNat, by omega⟩
      have e2 : pathE L i = 0 := by unfold pathE; rw [← hE, if_neg (by simp [h0]), ← hn, if_neg hbad]
      have e1 : pathT L i = pathR i L := by unfold pathT; rw [e2, if_pos rfl, Int.toNat_natCast]
      rw [e1, e2]
      subst h0
      have hb0 : ¬ (i : Int) < 0 := by omega
      have hb1 : ¬ (n : Int) ≤ (i : Int) := by omega
      have HC := Lib.hid (fun (w1 : World) (hb : Below w.heap.size w w1) (hx : BoxF w1 w.heap.size 70) => pathc_any n i L p c w.heap.size w1 (HV.out.below hb (Nat.le_refl _)) hL (by omega) (by omega) hx (HT.out.below hb))
      have hst := store_func Tryd.prog w 97 70 #[.pointer (some ⟨w.heap.size, 0, none⟩)]
      have HX : Hid (BoxF (w.alloc (.cells #[.func (.func 70) #[] #[.pointer (some ⟨w.heap.size, 0, none⟩)]] 97)) w.heap.size 70) := Lib.hid ⟨_, heap_alloc_new w _⟩
      have HB : Hid (Below w.heap.size w (w.alloc (.cells #[.func (.func 70) #[] #[.pointer (some ⟨w.heap.size, 0, none⟩)]] 97))) := Lib.hid ((Below.refl _ _).alloc (Nat.le_refl _) _)
      clear hE hL hn hv3 e1 e2 hbad ht
      go_enter Tryd.func36, Tryd.ntmps36
      go_wp2_with (first
        | (go_at_call 68; with_reducible refine (HR.out).mono ?_; rintro e w2 ⟨rfl, hw⟩; rw [hw]; clear hw w2)
        | (go_at_call 70; with_reducible refine (HC.out _ HB.out HX.out).mono ?_; rintro e w3 ⟨x, rfl, hown, hb⟩; have HB3 := Lib.hid (below_from HB.out hb HB.out.size); have HO3 := Lib.hid (owns_le hown HB.out.size); clear hb hown))
      go_ret2
      exact ⟨x, rfl, HO3.out, HB3.out⟩
  · have e2 : pathE L z = E := by unfold pathE; rw [← hE, if_pos h0]
    have e1 : pathT L z = [] := by unfold pathT; rw [e2, if_neg h0]
    rw [e1, e2]
    clear hE hL hn hv3 e1 e2 ht
    go_enter Tryd.func36, Tryd.ntmps36
    go_wp2_with (go_at_call 68; with_reducible refine (HR.out).mono ?_; rintro e w2 ⟨rfl, hw⟩; rw [hw]; clear hw w2)
    go_ret2
    exact ⟨.slice none 0 0, rfl, World.ownsRow_nil w w.heap.size 9 1, Below.refl _ _⟩

set_option maxRecDepth 100000 in
set_option maxHeartbeats 1000000 in
theorem Proof_any (v : Value) (L : List ByteArray) (z : Int) (w : World) (ht : Tabs w) (hv : Txts w v L) :
    Calls Tryd.prog 37 #[v, .int .i64 z] w fun e w' => ∃ x, e = .returned (.tuple #[x, .int .i64 (proofE L z)]) ∧ w'.ownsRow w.heap.size 9 1 x (proofT L z).length ((proofT L z).map Value.string) ∧ Below w.heap.size w w' := by
  have HV := Lib.hid hv
  have HT := Lib.hid ht
  have HR := Lib.hid (refused_any v L w hv)
  obtain ⟨p, c, rfl, hv1, hv2, hv3⟩ := hv
  obtain ⟨n, hn⟩ : ∃ n, n = L.length := ⟨_, rfl⟩
  rw [← hn] at HV HR hv1 hv2 ⊢
  have hL := hn.symm
  obtain ⟨E, hE⟩ : ∃ E, E = refusedE L := ⟨_, rfl⟩
  rw [← hE] at HR
  by_cases h0 : E = 0
  · have hlen : n ≤ 4096 := by rw [hn]; exact refused_len (by rw [← hE]; exact h0)
    by_cases hbad : z < 1 ∨ (n : Int) < z
    · have e2 : proofE L z = 31 := by unfold proofE; rw [← hE, if_neg (by simp [h0]), ← hn, if_pos hbad]
      have e1 : proofT L z = [] := by unfold proofT; rw [e2]; rfl
      rw [e1, e2]
      subst h0
      clear hE hL hn hv3 e1 e2 ht
      by_cases hb0 : z < 1
      · clear hbad
        go_enter Tryd.func37, Tryd.ntmps37
        go_wp2_with (go_at_call 68; with_reducible refine (HR.out).mono ?_; rintro e w2 ⟨rfl, hw⟩; rw [hw]; clear hw w2)
        go_ret2
        exact ⟨.slice none 0 0, rfl, World.ownsRow_nil w w.heap.size 9 1, Below.refl _ _⟩
      · have hb2 : (n : Int) < z := by omega
        clear hbad
        go_enter Tryd.func37, Tryd.ntmps37
        go_wp2_with (go_at_call 68; with_reducible refine (HR.out).mono ?_; rintro e w2 ⟨rfl, hw⟩; rw [hw]; clear hw w2)
        go_ret2
        exact ⟨.slice none 0 0, rfl, World.ownsRow_nil w w.heap.size 9 1, Below.refl _ _⟩
    · obtain ⟨i, rfl⟩ : ∃ i : Nat, z = i := ⟨z.toNat, by omega⟩
      have e2 : proofE L i = 0 := by unfold proofE; rw [← hE, if_neg (by simp [h0]), ← hn, if_neg hbad]
      have e1 : proofT L i = proofR i L true := by unfold proofT; rw [e2, if_pos rfl, Int.toNat_natCast]
      rw [e1, e2]
      subst h0
      have hb0 : ¬ (i : Int) < 1 := by omega
      have hb1 : ¬ (n : Int) < (i : Int) := by omega
      have HC := Lib.hid (fun (w1 : World) (hb : Below w.heap.size w w1) (hx : BoxF w1 w.heap.size 72) => proofc_any n i L true p c w.heap.size w1 (HV.out.below hb (Nat.le_refl _)) hL (by omega) (by omega) (by omega) hx (HT.out.below hb))
      have hst := store_func Tryd.prog w 100 72 #[.pointer (some ⟨w.heap.size, 0, none⟩)]
      have HX : Hid (BoxF (w.alloc (.cells #[.func (.func 72) #[] #[.pointer (some ⟨w.heap.size, 0, none⟩)]] 100)) w.heap.size 72) := Lib.hid ⟨_, heap_alloc_new w _⟩
      have HB : Hid (Below w.heap.size w (w.alloc (.cells #[.func (.func 72) #[] #[.pointer (some ⟨w.heap.size, 0, none⟩)]] 100))) := Lib.hid ((Below.refl _ _).alloc (Nat.le_refl _) _)
      clear hE hL hn hv3 e1 e2 hbad ht
      go_enter Tryd.func37, Tryd.ntmps37
      go_wp2_with (first
        | (go_at_call 68; with_reducible refine (HR.out).mono ?_; rintro e w2 ⟨rfl, hw⟩; rw [hw]; clear hw w2)
        | (go_at_call 72; with_reducible refine (HC.out _ HB.out HX.out).mono ?_; rintro e w3 ⟨x, rfl, hown, hb⟩; have HB3 := Lib.hid (below_from HB.out hb HB.out.size); have HO3 := Lib.hid (owns_le hown HB.out.size); clear hb hown))
      go_ret2
      exact ⟨x, rfl, HO3.out, HB3.out⟩
  · have e2 : proofE L z = E := by unfold proofE; rw [← hE, if_pos h0]
    have e1 : proofT L z = [] := by unfold proofT; rw [e2, if_neg h0]
    rw [e1, e2]
    clear hE hL hn hv3 e1 e2 ht
    go_enter Tryd.func37, Tryd.ntmps37
    go_wp2_with (go_at_call 68; with_reducible refine (HR.out).mono ?_; rintro e w2 ⟨rfl, hw⟩; rw [hw]; clear hw w2)
    go_ret2
    exact ⟨.slice none 0 0, rfl, World.ownsRow_nil w w.heap.size 9 1, Below.refl _ _⟩

end Go.Proofs.YteknpnanmbfhfaaDoor
/- Layer 3, walked: BinarySearch of numbers. -/
namespace Go.Proofs.YteknpnanmbfhfaaDoor
open Go.RowKit Go.Scr
set_option linter.unusedVariables false

theorem pair_lt {Z : List Int} (h : Z.Pairwise (· < ·)) {a b : Nat} {x y : Int} (hab : a < b) (hx : Z[a]? = some x) (hy : Z[b]? = some y) : x < y := by
  obtain ⟨h1, rfl⟩ := List.getElem?_eq_some_iff.mp hx
  obtain ⟨h2, rfl⟩ := List.getElem?_eq_some_iff.mp hy
  exact (List.pairwise_iff_getElem.mp h) a b h1 h2 hab
set_option maxRecDepth 100000 in
set_option maxHeartbeats 400000 in
theorem isnan_any (x : Int) (w : World) :
    Calls Tryd.prog 107 #[.int .i64 x] w fun e w' => e = .returned (.bool false) ∧ w' = w := by
  go_enter Tryd.func107, Tryd.ntmps107
  go_wp2
  go_ret
  exact ⟨rfl, rfl⟩
set_option maxRecDepth 100000 in
set_option maxHeartbeats 400000 in
theorem isnan2_any (x : Int) (w : World) :
    Calls Tryd.prog 93 #[.int .i64 x] w fun e w' => e = .returned (.bool false) ∧ w' = w := by
  go_enter Tryd.func93, Tryd.ntmps93
  go_wp2
  go_ret
  exact ⟨rfl, rfl⟩
set_option maxRecDepth 100000 in
set_option maxHeartbeats 400000 in
theorem less_any (x y : Int) (w : World) :
    Calls Tryd.prog 92 #[.int .i64 x, .int .i64 y] w fun e w' => e = .returned (.bool (decide (x < y))) ∧ w' = w := by
  have H1 := Lib.hid (fun w' => isnan_any x w')
  have H2 := Lib.hid (fun w' => isnan_any y w')
  go_enter Tryd.func92, Tryd.ntmps92
  go_wp2_with (first
    | (go_at_call 107; with_reducible refine (H1.out _).mono ?_; rintro r wx ⟨rfl, hw⟩; rw [hw]; clear hw wx)
    | (go_at_call 107; with_reducible refine (H2.out _).mono ?_; rintro r wx ⟨rfl, hw⟩; rw [hw]; clear hw wx))
  go_ret
  exact ⟨rfl, rfl⟩

/-- where a search ends: all before are less, all from there on are not -/
def binR (Z : List Int) (x : Int) (n : Nat) (e : Ending) : Prop := ∃ (at_ : Nat) (b : Bool), e = .returned (.tuple #[.int .i64 at_, .bool b]) ∧ at_ ≤ n ∧ (∀ j z, j < at_ → Z[j]? = some z → z < x) ∧ (∀ j z, at_ ≤ j → Z[j]? = some z → x ≤ z)

set_option maxRecDepth 100000 in
set_option maxHeartbeats 1000000 in
theorem binsearch_any (v : Value) (Z : List Int) (x : Int) (w : World) (hv : Ints w v Z) (hs : Z.Pairwise (· < ·)) (hl : Z.length ≤ 1048576) :
    Calls Tryd.prog 65 #[v, .int .i64 x] w fun e w' => binR Z x Z.length e ∧ w' = w := by
  obtain ⟨p, c, rfl, hv1, hv2, hv4, hv3⟩ := hv
  obtain ⟨n, hn⟩ : ∃ n, n = Z.length := ⟨_, rfl⟩
  rw [← hn] at hv1 hv2 hl ⊢
  have HN := Lib.hid hn
  have HV := Lib.hid hv3
  have HS := Lib.hid hs
  have HL := Lib.hid (fun a w' => less_any a x w')
  have HX := Lib.hid (fun w' => isnan2_any x w')
  have HY := Lib.hid (fun a w' => isnan2_any a w')
  clear hn hv3 hv4 hs hv2
  go_enter Tryd.func65, Tryd.ntmps65
  go_wp2
  go_loop [7, 8] (fun a b => ∃ i j : Nat, i ≤ j ∧ j ≤ n ∧ a = .int .i64 i ∧ b = .int .i64 j ∧ Hid ((∀ t z, t < i → Z[t]? = some z → z < x) ∧ (∀ t z, j ≤ t → Z[t]? = some z → x ≤ z))) (fun a b => (intOf b).toNat - (intOf a).toNat)
  case atStart => exact ⟨0, n, by omega, by omega, rfl, rfl, Lib.hid ⟨fun t z h => by omega, fun t z h hz => by rw [List.getElem?_eq_none (by have := HN.out; omega)] at hz; cases hz⟩⟩
  case round =>
    obtain ⟨i, j, hij, hjn, rfl, rfl, hinv⟩ := hrel
    by_cases hlt : i < j
    · have hlti : (i : Int) < (j : Int) := by omega
      obtain ⟨h, hh⟩ : ∃ h, h = (i + j) / 2 := ⟨_, rfl⟩
      have hhn : h < n := by omega
      obtain ⟨z, hz⟩ : ∃ z, Z[h]? = some z := ⟨Z[h]'(by have := HN.out; omega), List.getElem?_eq_getElem _⟩
      obtain ⟨a, rfl, hc⟩ := HV.out h z hz
      have hsum : ((i : Int) + (j : Int)) / 2 = (h : Int) := by omega
      have hhi : (h : Int) < (n : Int) := by omega
      have hh0 : (0 : Int) ≤ (h : Int) := by omega
      have hib : i ≤ 1048576 := by omega
      have hjb : j ≤ 1048576 := by omega
      have hhb : h ≤ 1048576 := by omega
      have HZ := Lib.hid hz
      have HH := Lib.hid hh
      have HLT := Lib.hid hlt
      clear hh hz hlt
      by_cases hzx : z < x
      · go_wp2_with (go_at_call 92; with_reducible refine (HL.out z _).mono ?_; rintro r wx ⟨rfl, hw⟩; rw [hw]; clear hw wx)
        refine ⟨⟨h + 1, j, by have := HH.out; have := HLT.out; omega, hjn, by go_num, rfl, Lib.hid ⟨fun t y ht hy => ?_, hinv.out.2⟩⟩, (by show (j : Int).toNat - ((h : Int) + 1).toNat < (j : Int).toNat - (i : Int).toNat; have := HH.out; have := HLT.out; omega)⟩
        rcases Nat.lt_or_ge t h with h1 | h1
        · have := pair_lt HS.out h1 hy HZ.out; omega
        · have : t = h := by omega
          subst this
          rw [HZ.out] at hy
          cases hy
          exact hzx
      · go_wp2_with (go_at_call 92; with_reducible refine (HL.out z _).mono ?_; rintro r wx ⟨rfl, hw⟩; rw [hw]; clear hw wx)
        refine ⟨⟨i, h, by have := HH.out; have := HLT.out; omega, by omega, rfl, rfl, Lib.hid ⟨hinv.out.1, fun t y ht hy => ?_⟩⟩, (by show (h : Int).toNat - (i : Int).toNat < (j : Int).toNat - (i : Int).toNat; have := HH.out; have := HLT.out; omega)⟩
        rcases Nat.lt_or_ge h t with h1 | h1
        · have := pair_lt HS.out h1 HZ.out hy; omega
        · have : t = h := by omega
          subst this
          rw [HZ.out] at hy
          cases hy
          omega
    · have hlti : ¬ ((i : Int) < (j : Int)) := by omega
      have hij2 : i = j := by omega
      subst hij2
      have HINV := Lib.hid hinv.out
      clear hlt hij
      by_cases hin : i < n
      · have hini : (i : Int) < (n : Int) := by omega
        have hi0 : (0 : Int) ≤ (i : Int) := by omega
        obtain ⟨z, hz⟩ : ∃ z, Z[i]? = some z := ⟨Z[i]'(by have := HN.out; omega), List.getElem?_eq_getElem _⟩
        obtain ⟨a, rfl, hc⟩ := HV.out i z hz
        clear hz hinv
        by_cases hzx : z = x
        · have e1 : (z == x) = true := beq_iff_eq.2 hzx
          clear hzx
          go_wp2_with (first
            | (go_at_call 93; with_reducible refine (HX.out _).mono ?_; rintro r wx ⟨rfl, hw⟩; rw [hw]; clear hw wx)
            | (go_at_call 93; with_reducible refine (HY.out z _).mono ?_; rintro r wx ⟨rfl, hw⟩; rw [hw]; clear hw wx))
          go_ret2
          exact ⟨⟨i, _, rfl, hjn, HINV.out.1, HINV.out.2⟩, rfl⟩
        · have e1 : (z == x) = false := beq_eq_false_iff_ne.2 hzx
          clear hzx
          go_wp2_with (first
            | (go_at_call 93; with_reducible refine (HX.out _).mono ?_; rintro r wx ⟨rfl, hw⟩; rw [hw]; clear hw wx)
            | (go_at_call 93; with_reducible refine (HY.out z _).mono ?_; rintro r wx ⟨rfl, hw⟩; rw [hw]; clear hw wx))
          go_ret2
          exact ⟨⟨i, _, rfl, hjn, HINV.out.1, HINV.out.2⟩, rfl⟩
      · have hini : ¬ ((i : Int) < (n : Int)) := by omega
        clear hinv
        go_wp2_with fail
        go_ret2
        exact ⟨⟨i, _, rfl, hjn, HINV.out.1, HINV.out.2⟩, rfl⟩
end Go.Proofs.YteknpnanmbfhfaaDoor
