/- Layer 3, walked: Root, Part of both. -/
import Derived.Test.YtejdpahgofhioaaDoorRec4
namespace Go.Proofs.YtejdpahgofhioaaDoor
open Go.RowKit Go.Scr
set_option linter.unusedVariables false

def rootT (L : List ByteArray) : ByteArray := if refusedE L = 0 then rootR L else ⟨#[]⟩
def partE (L : List ByteArray) (b e : Int) : Int := if refusedE L ≠ 0 then refusedE L else if b < 0 ∨ e < b ∨ (L.length : Int) < e then 30 else 0
def partT (L : List ByteArray) (b e : Int) : ByteArray := if partE L b e = 0 then rootR ((L.drop b.toNat).take (e - b).toNat) else ⟨#[]⟩

set_option maxRecDepth 100000 in
set_option maxHeartbeats 400000 in
theorem Root_any (v : Value) (L : List ByteArray) (w : World) (ht : Tabs w) (hv : Txts w v L) :
    Calls Tryd.prog 19 #[v] w fun e w' => e = .returned (.tuple #[.string (rootT L), .int .i64 (refusedE L)]) ∧ Below w.heap.size w w' := by
  have HV := Lib.hid hv
  have HR := Lib.hid (refused_any v L w hv)
  obtain ⟨p, c, rfl, hv1, hv2, hv3⟩ := hv
  obtain ⟨n, hn⟩ : ∃ n, n = L.length := ⟨_, rfl⟩
  rw [← hn] at HV HR hv1 hv2 ⊢
  have hL := hn.symm
  have hC : n ≤ 1048576 → _ := fun h => root_any p n c L w ht HV.out hL h
  obtain ⟨E, hE⟩ : ∃ E, E = refusedE L := ⟨_, rfl⟩
  rw [← hE] at HR ⊢
  by_cases h0 : E = 0
  · have hlen : n ≤ 4096 := by
      rcases Nat.lt_or_ge 4096 n with h | h
      · exfalso
        have : refusedE L = 31 := by unfold refusedE; rw [if_pos (by omega)]
        omega
      · exact h
    have e1 : rootT L = rootR L := by unfold rootT; rw [← hE, if_pos h0]
    rw [e1]
    subst h0
    have HC := Lib.hid (hC (by omega))
    clear hC hE hL hn hv3 e1 ht
    go_enter Tryd.func19, Tryd.ntmps19
    go_wp2_with (first
      | (go_at_call 68; with_reducible refine (HR.out).mono ?_; rintro e w2 ⟨rfl, hw⟩; rw [hw]; clear hw w2)
      | (go_at_call 69; with_reducible refine (HC.out).mono ?_; rintro e w3 ⟨rfl, hb⟩; have HB3 := Lib.hid hb; clear hb))
    go_ret2
    exact ⟨rfl, HB3.out⟩
  · have e1 : rootT L = ⟨#[]⟩ := by unfold rootT; rw [← hE, if_neg h0]
    rw [e1]
    clear hC hE hL hn hv3 e1 ht
    go_enter Tryd.func19, Tryd.ntmps19
    go_wp2_with (go_at_call 68; with_reducible refine (HR.out).mono ?_; rintro e w2 ⟨rfl, hw⟩; rw [hw]; clear hw w2)
    go_ret2
    exact ⟨rfl, Below.refl _ _⟩

set_option maxRecDepth 100000 in
set_option maxHeartbeats 400000 in
theorem Rootr_any (v : Value) (L : List ByteArray) (w : World) (hv : Txts w v L) :
    Calls Tryd.prog 20 #[v] w fun e w' => e = .returned (.tuple #[.string (rootT L), .int .i64 (refusedE L)]) ∧ Below w.heap.size w w' := by
  have HV := Lib.hid hv
  have HR := Lib.hid (wrongr_any v L w hv)
  obtain ⟨p, c, rfl, hv1, hv2, hv3⟩ := hv
  obtain ⟨n, hn⟩ : ∃ n, n = L.length := ⟨_, rfl⟩
  rw [← hn] at HV HR hv1 hv2 ⊢
  have hL := hn.symm
  have hC : n ≤ 1048576 → _ := fun h => R_any n L p c w HV.out hL h
  obtain ⟨E, hE⟩ : ∃ E, E = refusedE L := ⟨_, rfl⟩
  rw [← hE] at HR ⊢
  by_cases h0 : E = 0
  · have hlen : n ≤ 4096 := by
      rcases Nat.lt_or_ge 4096 n with h | h
      · exfalso
        have : refusedE L = 31 := by unfold refusedE; rw [if_pos (by omega)]
        omega
      · exact h
    have e1 : rootT L = rootR L := by unfold rootT; rw [← hE, if_pos h0]
    rw [e1]
    subst h0
    have HC := Lib.hid (hC (by omega))
    clear hC hE hL hn hv3 e1
    go_enter Tryd.func20, Tryd.ntmps20
    go_wp2_with (first
      | (go_at_call 70; with_reducible refine (HR.out).mono ?_; rintro e w2 ⟨rfl, hw⟩; rw [hw]; clear hw w2)
      | (go_at_call 71; with_reducible refine (HC.out).mono ?_; rintro e w3 ⟨rfl, hb⟩; have HB3 := Lib.hid hb; clear hb))
    go_ret2
    exact ⟨rfl, HB3.out⟩
  · have e1 : rootT L = ⟨#[]⟩ := by unfold rootT; rw [← hE, if_neg h0]
    rw [e1]
    clear hC hE hL hn hv3 e1
    go_enter Tryd.func20, Tryd.ntmps20
    go_wp2_with (go_at_call 70; with_reducible refine (HR.out).mono ?_; rintro e w2 ⟨rfl, hw⟩; rw [hw]; clear hw w2)
    go_ret2
    exact ⟨rfl, Below.refl _ _⟩

set_option maxRecDepth 100000 in
set_option maxHeartbeats 1000000 in
theorem Part_any (v : Value) (L : List ByteArray) (b e : Int) (w : World) (ht : Tabs w) (hv : Txts w v L) :
    Calls Tryd.prog 21 #[v, .agg #[.int .i64 b, .int .i64 e]] w fun r w' => r = .returned (.tuple #[.string (partT L b e), .int .i64 (partE L b e)]) ∧ Below w.heap.size w w' := by
  have HV := Lib.hid hv
  have HT := Lib.hid ht
  have HR := Lib.hid (fun w' (h : Txts w' v L) => refused_any v L w' h)
  have HA : Hid (Below w.heap.size w (w.alloc (.cells #[.int .i64 b, .int .i64 e] 27))) := Lib.hid ((Below.refl _ _).alloc (Nat.le_refl _) _)
  obtain ⟨p, c, rfl, hv1, hv2, hv3⟩ := hv
  obtain ⟨n, hn⟩ : ∃ n, n = L.length := ⟨_, rfl⟩
  rw [← hn] at HV HR hv1 hv2 ⊢
  have hL := hn.symm
  obtain ⟨E, hE⟩ : ∃ E, E = refusedE L := ⟨_, rfl⟩
  rw [← hE] at HR
  by_cases h0 : E = 0
  · have hlen : n ≤ 4096 := by
      rcases Nat.lt_or_ge 4096 n with h | h
      · exfalso
        have : refusedE L = 31 := by unfold refusedE; rw [if_pos (by omega)]
        omega
      · exact h
    by_cases hbad : b < 0 ∨ e < b ∨ (n : Int) < e
    · have e2 : partE L b e = 30 := by unfold partE; rw [← hE, if_neg (by simp [h0]), ← hn, if_pos hbad]
      have e1 : partT L b e = ⟨#[]⟩ := by unfold partT; rw [e2]; rfl
      rw [e1, e2]
      subst h0
      clear hE hL hn hv3 e1 e2 ht
      by_cases hb0 : b < 0
      · clear hbad
        go_enter Tryd.func21, Tryd.ntmps21
        go_wp2_with (go_at_call 68; with_reducible refine (HR.out _ (HV.out.below HA.out (Nat.le_refl _))).mono ?_; rintro e w2 ⟨rfl, hw⟩; rw [hw]; clear hw w2)
        go_ret2
        exact ⟨rfl, HA.out⟩
      · by_cases hb1 : e < b
        · clear hbad
          go_enter Tryd.func21, Tryd.ntmps21
          go_wp2_with (go_at_call 68; with_reducible refine (HR.out _ (HV.out.below HA.out (Nat.le_refl _))).mono ?_; rintro e w2 ⟨rfl, hw⟩; rw [hw]; clear hw w2)
          go_ret2
          exact ⟨rfl, HA.out⟩
        · have hb2 : (n : Int) < e := by omega
          clear hbad
          go_enter Tryd.func21, Tryd.ntmps21
          go_wp2_with (go_at_call 68; with_reducible refine (HR.out _ (HV.out.below HA.out (Nat.le_refl _))).mono ?_; rintro e w2 ⟨rfl, hw⟩; rw [hw]; clear hw w2)
          go_ret2
          exact ⟨rfl, HA.out⟩
    · have e2 : partE L b e = 0 := by unfold partE; rw [← hE, if_neg (by simp [h0]), ← hn, if_neg hbad]
      have e1 : partT L b e = rootR ((L.drop b.toNat).take (e - b).toNat) := by unfold partT; rw [e2]; rfl
      rw [e1, e2]
      subst h0
      obtain ⟨i, rfl⟩ : ∃ i : Nat, b = i := ⟨b.toNat, by omega⟩
      obtain ⟨j, rfl⟩ : ∃ j : Nat, e = j := ⟨e.toNat, by omega⟩
      have hij : i ≤ j := by omega
      have hjn : j ≤ n := by omega
      rw [Int.toNat_natCast, show ((j : Int) - (i : Int)).toNat = j - i by omega]
      have hi0 : ¬ ((i : Int) < 0) := by omega
      have hij2 : ¬ ((j : Int) < (i : Int)) := by omega
      have hjn2 : ¬ ((n : Int) < (j : Int)) := by omega
      have hi00 : (0 : Int) ≤ (i : Int) := by omega
      have hij3 : (i : Int) ≤ (j : Int) := by omega
      have hjc : (j : Int) ≤ (c : Int) := by omega
      obtain ⟨X, hX⟩ : ∃ X, X = rootR ((L.drop i).take (j - i)) := ⟨_, rfl⟩
      rw [← hX]
      by_cases hci : c - i = 0
      · have hji : j - i = 0 := by omega
        have hc1 := fun w1 (hb : Below w.heap.size w w1) => root_any _ _ _ _ w1 (HT.out.below hb) ((⟨p, 0, by rw [List.length_take, hji]; simp, by rw [hji]; simp, by rw [hji]; simp, fun j s h => by rw [hji] at h; simp at h⟩ : Txts w1 (.slice p 0 0) ((L.drop i).take (j - i)))) (by rw [List.length_take, List.length_drop]; omega) (by omega)
        rw [← hX] at hc1
        have HC := Lib.hid hc1
        clear hE hL hn hv3 e1 e2 hc1 hX hbad ht
        go_enter Tryd.func21, Tryd.ntmps21
        go_wp2_with (first
          | (go_at_call 68; with_reducible refine (HR.out _ (HV.out.below HA.out (Nat.le_refl _))).mono ?_; rintro e w2 ⟨rfl, hw⟩; rw [hw]; clear hw w2)
          | (go_at_call 69; with_reducible refine (HC.out _ HA.out).mono ?_; rintro e w3 ⟨rfl, hb⟩; have HB3 := Lib.hid (below_from HA.out hb HA.out.size); clear hb))
        go_ret2
        exact ⟨rfl, HB3.out⟩
      · have hc1 := fun w1 (hb : Below w.heap.size w w1) => root_any _ _ _ _ w1 (HT.out.below hb) (((HV.out.rightC (k := i) (by omega)).cutC (k := j - i) (by omega)).below hb (Nat.le_refl _)) (by rw [List.length_take, List.length_drop]; omega) (by omega)
        rw [← hX] at hc1
        have HC := Lib.hid hc1
        clear hE hL hn hv3 e1 e2 hc1 hX hbad ht
        go_enter Tryd.func21, Tryd.ntmps21
        go_wp2_with (first
          | (go_at_call 68; with_reducible refine (HR.out _ (HV.out.below HA.out (Nat.le_refl _))).mono ?_; rintro e w2 ⟨rfl, hw⟩; rw [hw]; clear hw w2)
          | (go_at_call 69; with_reducible refine (HC.out _ HA.out).mono ?_; rintro e w3 ⟨rfl, hb⟩; have HB3 := Lib.hid (below_from HA.out hb HA.out.size); clear hb))
        go_ret2
        exact ⟨rfl, HB3.out⟩
  · have e2 : partE L b e = E := by unfold partE; rw [← hE, if_pos h0]
    have e1 : partT L b e = ⟨#[]⟩ := by unfold partT; rw [e2, if_neg h0]
    rw [e1, e2]
    clear hE hL hn hv3 e1 e2 ht
    go_enter Tryd.func21, Tryd.ntmps21
    go_wp2_with (go_at_call 68; with_reducible refine (HR.out _ (HV.out.below HA.out (Nat.le_refl _))).mono ?_; rintro e w2 ⟨rfl, hw⟩; rw [hw]; clear hw w2)
    go_ret2
    exact ⟨rfl, HA.out⟩

set_option maxRecDepth 100000 in
set_option maxHeartbeats 1000000 in
theorem Partr_any (v : Value) (L : List ByteArray) (b e : Int) (w : World) (hv : Txts w v L) :
    Calls Tryd.prog 22 #[v, .agg #[.int .i64 b, .int .i64 e]] w fun r w' => r = .returned (.tuple #[.string (partT L b e), .int .i64 (partE L b e)]) ∧ Below w.heap.size w w' := by
  have HV := Lib.hid hv
  have HT := Lib.hid trivial
  have HR := Lib.hid (fun w' (h : Txts w' v L) => wrongr_any v L w' h)
  have HA : Hid (Below w.heap.size w (w.alloc (.cells #[.int .i64 b, .int .i64 e] 27))) := Lib.hid ((Below.refl _ _).alloc (Nat.le_refl _) _)
  obtain ⟨p, c, rfl, hv1, hv2, hv3⟩ := hv
  obtain ⟨n, hn⟩ : ∃ n, n = L.length := ⟨_, rfl⟩
  rw [← hn] at HV HR hv1 hv2 ⊢
  have hL := hn.symm
  obtain ⟨E, hE⟩ : ∃ E, E = refusedE L := ⟨_, rfl⟩
  rw [← hE] at HR
  by_cases h0 : E = 0
  · have hlen : n ≤ 4096 := by
      rcases Nat.lt_or_ge 4096 n with h | h
      · exfalso
        have : refusedE L = 31 := by unfold refusedE; rw [if_pos (by omega)]
        omega
      · exact h
    by_cases hbad : b < 0 ∨ e < b ∨ (n : Int) < e
    · have e2 : partE L b e = 30 := by unfold partE; rw [← hE, if_neg (by simp [h0]), ← hn, if_pos hbad]
      have e1 : partT L b e = ⟨#[]⟩ := by unfold partT; rw [e2]; rfl
      rw [e1, e2]
      subst h0
      clear hE hL hn hv3 e1 e2
      by_cases hb0 : b < 0
      · clear hbad
        go_enter Tryd.func22, Tryd.ntmps22
        go_wp2_with (go_at_call 70; with_reducible refine (HR.out _ (HV.out.below HA.out (Nat.le_refl _))).mono ?_; rintro e w2 ⟨rfl, hw⟩; rw [hw]; clear hw w2)
        go_ret2
        exact ⟨rfl, HA.out⟩
      · by_cases hb1 : e < b
        · clear hbad
          go_enter Tryd.func22, Tryd.ntmps22
          go_wp2_with (go_at_call 70; with_reducible refine (HR.out _ (HV.out.below HA.out (Nat.le_refl _))).mono ?_; rintro e w2 ⟨rfl, hw⟩; rw [hw]; clear hw w2)
          go_ret2
          exact ⟨rfl, HA.out⟩
        · have hb2 : (n : Int) < e := by omega
          clear hbad
          go_enter Tryd.func22, Tryd.ntmps22
          go_wp2_with (go_at_call 70; with_reducible refine (HR.out _ (HV.out.below HA.out (Nat.le_refl _))).mono ?_; rintro e w2 ⟨rfl, hw⟩; rw [hw]; clear hw w2)
          go_ret2
          exact ⟨rfl, HA.out⟩
    · have e2 : partE L b e = 0 := by unfold partE; rw [← hE, if_neg (by simp [h0]), ← hn, if_neg hbad]
      have e1 : partT L b e = rootR ((L.drop b.toNat).take (e - b).toNat) := by unfold partT; rw [e2]; rfl
      rw [e1, e2]
      subst h0
      obtain ⟨i, rfl⟩ : ∃ i : Nat, b = i := ⟨b.toNat, by omega⟩
      obtain ⟨j, rfl⟩ : ∃ j : Nat, e = j := ⟨e.toNat, by omega⟩
      have hij : i ≤ j := by omega
      have hjn : j ≤ n := by omega
      rw [Int.toNat_natCast, show ((j : Int) - (i : Int)).toNat = j - i by omega]
      have hi0 : ¬ ((i : Int) < 0) := by omega
      have hij2 : ¬ ((j : Int) < (i : Int)) := by omega
      have hjn2 : ¬ ((n : Int) < (j : Int)) := by omega
      have hi00 : (0 : Int) ≤ (i : Int) := by omega
      have hij3 : (i : Int) ≤ (j : Int) := by omega
      have hjc : (j : Int) ≤ (c : Int) := by omega
      obtain ⟨X, hX⟩ : ∃ X, X = rootR ((L.drop i).take (j - i)) := ⟨_, rfl⟩
      rw [← hX]
      by_cases hci : c - i = 0
      · have hji : j - i = 0 := by omega
        have hc1 := fun w1 (hb : Below w.heap.size w w1) => R_any _ _ _ _ w1 ((⟨p, 0, by rw [List.length_take, hji]; simp, by rw [hji]; simp, by rw [hji]; simp, fun j s h => by rw [hji] at h; simp at h⟩ : Txts w1 (.slice p 0 0) ((L.drop i).take (j - i)))) (by rw [List.length_take, List.length_drop]; omega) (by omega)
        rw [← hX] at hc1
        have HC := Lib.hid hc1
        clear hE hL hn hv3 e1 e2 hc1 hX hbad
        go_enter Tryd.func22, Tryd.ntmps22
        go_wp2_with (first
          | (go_at_call 70; with_reducible refine (HR.out _ (HV.out.below HA.out (Nat.le_refl _))).mono ?_; rintro e w2 ⟨rfl, hw⟩; rw [hw]; clear hw w2)
          | (go_at_call 71; with_reducible refine (HC.out _ HA.out).mono ?_; rintro e w3 ⟨rfl, hb⟩; have HB3 := Lib.hid (below_from HA.out hb HA.out.size); clear hb))
        go_ret2
        exact ⟨rfl, HB3.out⟩
      · have hc1 := fun w1 (hb : Below w.heap.size w w1) => R_any _ _ _ _ w1 (((HV.out.rightC (k := i) (by omega)).cutC (k := j - i) (by omega)).below hb (Nat.le_refl _)) (by rw [List.length_take, List.length_drop]; omega) (by omega)
        rw [← hX] at hc1
        have HC := Lib.hid hc1
        clear hE hL hn hv3 e1 e2 hc1 hX hbad
        go_enter Tryd.func22, Tryd.ntmps22
        go_wp2_with (first
          | (go_at_call 70; with_reducible refine (HR.out _ (HV.out.below HA.out (Nat.le_refl _))).mono ?_; rintro e w2 ⟨rfl, hw⟩; rw [hw]; clear hw w2)
          | (go_at_call 71; with_reducible refine (HC.out _ HA.out).mono ?_; rintro e w3 ⟨rfl, hb⟩; have HB3 := Lib.hid (below_from HA.out hb HA.out.size); clear hb))
        go_ret2
        exact ⟨rfl, HB3.out⟩
  · have e2 : partE L b e = E := by unfold partE; rw [← hE, if_pos h0]
    have e1 : partT L b e = ⟨#[]⟩ := by unfold partT; rw [e2, if_neg h0]
    rw [e1, e2]
    clear hE hL hn hv3 e1 e2
    go_enter Tryd.func22, Tryd.ntmps22
    go_wp2_with (go_at_call 70; with_reducible refine (HR.out _ (HV.out.below HA.out (Nat.le_refl _))).mono ?_; rintro e w2 ⟨rfl, hw⟩; rw [hw]; clear hw w2)
    go_ret2
    exact ⟨rfl, HA.out⟩
end Go.Proofs.YtejdpahgofhioaaDoor
