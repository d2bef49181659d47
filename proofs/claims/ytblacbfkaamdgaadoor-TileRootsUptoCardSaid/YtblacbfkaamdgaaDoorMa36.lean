/- Layer 3, walked: refused, wrong; root; R. -/
import Derived.Test.YtblacbfkaamdgaaDoorMa18
import Derived.Test.YtblacbfkaamdgaaDoorMa11
namespace Go.Proofs.YtblacbfkaamdgaaDoor
open Go.RowKit Go.Scr
set_option linter.unusedVariables false

/-- has each text 32 bytes? -/
def ok32 (L : List ByteArray) : Bool := L.all fun s => s.size == 32
theorem ok32_take {L : List ByteArray} {k : Nat} {s : ByteArray} (h : L[k]? = some s) : ok32 (L.take (k + 1)) = (ok32 (L.take k) && (s.size == 32)) := by
  obtain ⟨hk, rfl⟩ := List.getElem?_eq_some_iff.mp h
  unfold ok32
  rw [List.take_succ_eq_append_getElem hk, List.all_append]
  simp
theorem ok32_bad {L : List ByteArray} {k : Nat} {s : ByteArray} (h : L[k]? = some s) (hs : s.size ≠ 32) : ok32 L = false := by
  unfold ok32
  rw [List.all_eq_false]
  exact ⟨s, List.mem_of_getElem? h, by simpa using hs⟩
def refusedE (L : List ByteArray) : Int := if 4096 < L.length then 31 else if ok32 L = false then 32 else 0

set_option maxRecDepth 100000 in
set_option maxHeartbeats 400000 in
theorem refused1_any (s : ByteArray) (w : World) :
    Calls Tryd.prog 96 #[.string s] w fun e w' => e = .returned (.bool (!(s.size == 32))) ∧ w' = w := by
  go_enter Tryd.func96, Tryd.ntmps96
  go_wp2
  go_ret
  refine ⟨?_, rfl⟩
  show Ending.returned (.bool ((s.size : Int) != 32)) = .returned (.bool (!(s.size == 32)))
  by_cases h : s.size = 32
  · have e1 : ((s.size : Int) != 32) = false := by rw [bne_eq_false_iff_eq]; omega
    have e2 : (s.size == 32) = true := beq_iff_eq.2 h
    rw [e1, e2]; rfl
  · have e1 : ((s.size : Int) != 32) = true := by rw [bne_iff_ne]; omega
    have e2 : (s.size == 32) = false := beq_eq_false_iff_ne.2 h
    rw [e1, e2]; rfl

set_option maxRecDepth 100000 in
set_option maxHeartbeats 1000000 in
theorem indexfunc_any (v : Value) (L : List ByteArray) (w : World) (hv : Txts w v L) :
    Calls Tryd.prog 108 #[v, .func (.func 96) #[] #[]] w fun e w' => ∃ z : Int, e = .returned (.int .i64 z) ∧ (ok32 L = true → z = -1) ∧ (ok32 L = false → 0 ≤ z) ∧ w' = w := by
  obtain ⟨p, c, rfl, hv1, hv2, hv3⟩ := hv
  obtain ⟨n, hn⟩ : ∃ n, n = L.length := ⟨_, rfl⟩
  rw [← hn] at hv1 ⊢
  have HN := Lib.hid hn
  have HV := Lib.hid hv3
  have hnb : n ≤ 281474976710656 := by omega
  clear hn hv2 hv3 hv1
  go_enter Tryd.func108, Tryd.ntmps108
  go_wp2
  go_loop [8] (fun q => ∃ k : Nat, k ≤ n ∧ q = .int .i64 k ∧ Hid (ok32 (L.take k) = true)) (fun q => n - (intOf q).toNat)
  case atStart => exact ⟨0, by omega, rfl, Lib.hid rfl⟩
  case round =>
    obtain ⟨k, hk, rfl, hall⟩ := hrel
    by_cases hlt : k < n
    · obtain ⟨s, hs⟩ : ∃ s, L[k]? = some s := ⟨L[k]'(by rw [← HN.out]; exact hlt), List.getElem?_eq_getElem _⟩
      obtain ⟨a, rfl, hc⟩ := HV.out k s hs
      have HS := Lib.hid hs
      clear hs
      have HC := Lib.hid (refused1_any s w)
      by_cases h32 : s.size = 32
      · rw [show (!(s.size == 32)) = false by simp [h32]] at HC
        have HALL := Lib.hid (by rw [ok32_take HS.out, hall.out]; simp [h32] : ok32 (L.take (k + 1)) = true)
        clear h32
        go_wp2_with (go_at_call 96; with_reducible refine (HC.out).mono ?_; rintro e w2 ⟨rfl, hw⟩; rw [hw]; clear hw w2)
        exact ⟨⟨k + 1, by omega, rfl, HALL⟩, (by show n - ((k : Int) + 1).toNat < n - (k : Int).toNat; omega)⟩
      · rw [show (!(s.size == 32)) = true by simp [h32]] at HC
        have HBAD := Lib.hid (ok32_bad HS.out h32)
        clear h32
        go_wp2_with (go_at_call 96; with_reducible refine (HC.out).mono ?_; rintro e w2 ⟨rfl, hw⟩; rw [hw]; clear hw w2)
        go_ret
        exact ⟨(k : Int), rfl, (fun h => (by rw [HBAD.out] at h; cases h)), (fun _ => Int.natCast_nonneg k), rfl⟩
    · have HK := Lib.hid (by have := hall.out; rwa [show k = n by omega, HN.out, List.take_length] at this : ok32 L = true)
      go_wp2
      go_ret
      exact ⟨-1, rfl, fun _ => rfl, fun h => (by rw [HK.out] at h; cases h), rfl⟩

set_option maxRecDepth 100000 in
set_option maxHeartbeats 400000 in
theorem containsfunc_any (v : Value) (L : List ByteArray) (w : World) (hv : Txts w v L) :
    Calls Tryd.prog 95 #[v, .func (.func 96) #[] #[]] w fun e w' => e = .returned (.bool (!ok32 L)) ∧ w' = w := by
  have HI := Lib.hid (indexfunc_any v L w hv)
  obtain ⟨p, c, rfl, hv1, hv2, hv3⟩ := hv
  obtain ⟨b, hb⟩ : ∃ b, b = ok32 L := ⟨_, rfl⟩
  rw [← hb] at HI ⊢
  clear hv1 hv2 hv3 hb
  cases b with
  | true =>
    go_enter Tryd.func95, Tryd.ntmps95
    go_wp2_with (go_at_call 108; with_reducible refine (HI.out).mono ?_; rintro e w2 ⟨z, rfl, hz, _, hw⟩; rw [hw]; clear hw w2; have hz2 := hz rfl; clear hz; subst hz2)
    go_ret
    exact ⟨rfl, rfl⟩
  | false =>
    go_enter Tryd.func95, Tryd.ntmps95
    go_wp2_with (go_at_call 108; with_reducible refine (HI.out).mono ?_; rintro e w2 ⟨z, rfl, _, hz, hw⟩; rw [hw]; clear hw w2; have hz2 : (0 : Int) ≤ z := hz rfl; clear hz)
    go_ret
    exact ⟨rfl, rfl⟩

set_option maxRecDepth 100000 in
set_option maxHeartbeats 400000 in
theorem refused_any (v : Value) (L : List ByteArray) (w : World) (hv : Txts w v L) :
    Calls Tryd.prog 69 #[v] w fun e w' => e = .returned (.int .i64 (refusedE L)) ∧ w' = w := by
  have HI := Lib.hid (containsfunc_any v L w hv)
  obtain ⟨p, c, rfl, hv1, hv2, hv3⟩ := hv
  obtain ⟨n, hn⟩ : ∃ n, n = L.length := ⟨_, rfl⟩
  unfold refusedE
  rw [← hn] at HI hv1 hv2 ⊢
  obtain ⟨b, hb⟩ : ∃ b, b = ok32 L := ⟨_, rfl⟩
  rw [← hb] at HI ⊢
  clear hv3 hn hb
  by_cases hbig : 4096 < n
  · rw [if_pos hbig]
    have hi : (4096 : Int) < (n : Int) := by omega
    clear hbig
    go_enter Tryd.func69, Tryd.ntmps69
    go_wp2
    go_ret
    exact ⟨rfl, rfl⟩
  · rw [if_neg hbig]
    have hi : ¬ ((4096 : Int) < (n : Int)) := by omega
    clear hbig
    cases b with
    | true =>
      go_enter Tryd.func69, Tryd.ntmps69
      go_wp2_with (go_at_call 95; with_reducible refine (HI.out).mono ?_; rintro e w2 ⟨rfl, hw⟩; rw [hw]; clear hw w2)
      go_ret
      exact ⟨rfl, rfl⟩
    | false =>
      go_enter Tryd.func69, Tryd.ntmps69
      go_wp2_with (go_at_call 95; with_reducible refine (HI.out).mono ?_; rintro e w2 ⟨rfl, hw⟩; rw [hw]; clear hw w2)
      go_ret
      exact ⟨rfl, rfl⟩

end Go.Proofs.YtblacbfkaamdgaaDoor
/- Layer 3, walked: root, R; Root of both. -/
namespace Go.Proofs.YtblacbfkaamdgaaDoor
open Go.RowKit Go.Scr
set_option linter.unusedVariables false

theorem Txts.cutC {w : World} {p : Option Addr} {n c k : Nat} {L : List ByteArray} (h : Txts w (.slice p n c) L) (hk : k ≤ n) : Txts w (.slice p k c) (L.take k) := by
  obtain ⟨q, c', he, h1, h2, h3⟩ := h
  simp only [Value.slice.injEq] at he
  obtain ⟨rfl, hn, rfl⟩ := he
  refine ⟨p, c, by rw [List.length_take, Nat.min_eq_left (by omega)], by rw [List.length_take]; omega, by rw [List.length_take]; omega, fun j s hs => h3 j s ?_⟩
  rw [List.getElem?_take] at hs
  split at hs
  · exact hs
  · cases hs
theorem Txts.rightC {w : World} {p : Option Addr} {n c k : Nat} {L : List ByteArray} (h : Txts w (.slice p n c) L) (hk : k ≤ n) : Txts w (.slice (p.map (·.add k)) (n - k) (c - k)) (L.drop k) := by
  obtain ⟨q, c', he, h1, h2, h3⟩ := h
  simp only [Value.slice.injEq] at he
  obtain ⟨rfl, hn, rfl⟩ := he
  refine ⟨_, c - k, by rw [List.length_drop, hn], by rw [List.length_drop]; omega, by rw [List.length_drop]; omega, fun j s hs => ?_⟩
  rw [List.getElem?_drop] at hs
  obtain ⟨a, ha, hc⟩ := h3 (k + j) s hs
  exact ⟨a.add k, by rw [ha]; rfl, by rw [Addr.add_add]; exact hc⟩

theorem store_func (P : Program) (w : World) (T F : Nat) (cap : Array Value) :
    (store ⟨w.heap.size, 0, none⟩ (.func (.func F) #[] cap)).run P (w.alloc (.cells #[.nilFunc] T)) = .ok () (w.alloc (.cells #[.func (.func F) #[] cap] T)) := by
  have h := heap_alloc_new w (.cells #[.nilFunc] T)
  have hc := cell_of_one h
  have hf := free_of_one h
  rw [run_store _ _ _ _ _ rfl, hc]
  simp only [hf, Bool.false_eq_true, if_false]
  rw [World.setCell_alloc_at _ _ _ _ _ rfl]
  rfl
set_option maxRecDepth 100000 in
set_option maxHeartbeats 400000 in
theorem root_any (p : Option Addr) (n c : Nat) (L : List ByteArray) (w : World) (ht : Tabs w) (hv : Txts w (.slice p n c) L) (hL : L.length = n) (hn : n ≤ 1048576) :
    Calls Tryd.prog 70 #[.slice p n c] w fun e w' => e = .returned (.string (rootR L)) ∧ Below w.heap.size w w' := by
  have HT := Lib.hid ht
  have HV := Lib.hid hv
  have HC := Lib.hid (fun (w1 : World) (hb : Below w.heap.size w w1) (hx : BoxF w1 w.heap.size 97) => rootc_any n L p c w.heap.size w1 (HV.out.below hb (Nat.le_refl _)) hL hn hx (HT.out.below hb))
  have hst := store_func Tryd.prog w 109 97 #[.pointer (some ⟨w.heap.size, 0, none⟩)]
  have HX : Hid (BoxF (w.alloc (.cells #[.func (.func 97) #[] #[.pointer (some ⟨w.heap.size, 0, none⟩)]] 109)) w.heap.size 97) := Lib.hid ⟨_, heap_alloc_new w _⟩
  have HB : Hid (Below w.heap.size w (w.alloc (.cells #[.func (.func 97) #[] #[.pointer (some ⟨w.heap.size, 0, none⟩)]] 109))) := Lib.hid ((Below.refl _ _).alloc (Nat.le_refl _) _)
  clear hv ht hL
  go_enter Tryd.func70, Tryd.ntmps70
  go_wp2_with (go_at_call 97; with_reducible refine (HC.out _ HB.out HX.out).mono ?_; rintro e w2 ⟨rfl, hb⟩; have HB2 := Lib.hid (below_from HB.out hb HB.out.size); clear hb)
  go_ret
  exact ⟨rfl, HB2.out⟩

end Go.Proofs.YtblacbfkaamdgaaDoor
/- Layer 3, walked: Root, Part of both. -/
namespace Go.Proofs.YtblacbfkaamdgaaDoor
open Go.RowKit Go.Scr
set_option linter.unusedVariables false

def rootT (L : List ByteArray) : ByteArray := if refusedE L = 0 then rootR L else ⟨#[]⟩
def partE (L : List ByteArray) (b e : Int) : Int := if refusedE L ≠ 0 then refusedE L else if b < 0 ∨ e < b ∨ (L.length : Int) < e then 30 else 0
def partT (L : List ByteArray) (b e : Int) : ByteArray := if partE L b e = 0 then rootR ((L.drop b.toNat).take (e - b).toNat) else ⟨#[]⟩

set_option maxRecDepth 100000 in
set_option maxHeartbeats 400000 in
theorem Root_any (v : Value) (L : List ByteArray) (w : World) (ht : Tabs w) (hv : Txts w v L) :
    Calls Tryd.prog 27 #[v] w fun e w' => e = .returned (.tuple #[.string (rootT L), .int .i64 (refusedE L)]) ∧ Below w.heap.size w w' := by
  have HV := Lib.hid hv
  have HR := Lib.hid (refused_any v L w hv)
  obtain ⟨p, c, rfl, hv1, hv2, hv3⟩ := hv
  obtain ⟨n, hn⟩ : ∃ n, n = L.length := ⟨_, rfl⟩
  rw [← hn] at HV HR hv1 hv2 ⊢
  have hL := hn.symm
  have hC : n ≤ 1048576 → _ := fun h => root_any p n c L w ht HV.out hL h
  obtain ⟨E, hE⟩ : ∃ E, E = refusedE L := ⟨_, rfl⟩
  rw [← hE] at HR ⊢
  by_cases h0 : E = 0
  · have hlen : n ≤ 4096 := by
      rcases Nat.lt_or_ge 4096 n with h | h
      · exfalso
        have : refusedE L = 31 := by unfold refusedE; rw [if_pos (by omega)]
        omega
      · exact h
    have e1 : rootT L = rootR L := by unfold rootT; rw [← hE, if_pos h0]
    rw [e1]
    subst h0
    have HC := Lib.hid (hC (by omega))
    clear hC hE hL hn hv3 e1 ht
    go_enter Tryd.func27, Tryd.ntmps27
    go_wp2_with (first
      | (go_at_call 69; with_reducible refine (HR.out).mono ?_; rintro e w2 ⟨rfl, hw⟩; rw [hw]; clear hw w2)
      | (go_at_call 70; with_reducible refine (HC.out).mono ?_; rintro e w3 ⟨rfl, hb⟩; have HB3 := Lib.hid hb; clear hb))
    go_ret2
    exact ⟨rfl, HB3.out⟩
  · have e1 : rootT L = ⟨#[]⟩ := by unfold rootT; rw [← hE, if_neg h0]
    rw [e1]
    clear hC hE hL hn hv3 e1 ht
    go_enter Tryd.func27, Tryd.ntmps27
    go_wp2_with (go_at_call 69; with_reducible refine (HR.out).mono ?_; rintro e w2 ⟨rfl, hw⟩; rw [hw]; clear hw w2)
    go_ret2
    exact ⟨rfl, Below.refl _ _⟩

set_option maxRecDepth 100000 in
set_option maxHeartbeats 1000000 in
theorem Part_any (v : Value) (L : List ByteArray) (b e : Int) (w : World) (ht : Tabs w) (hv : Txts w v L) :
    Calls Tryd.prog 32 #[v, .agg #[.int .i64 b, .int .i64 e]] w fun r w' => r = .returned (.tuple #[.string (partT L b e), .int .i64 (partE L b e)]) ∧ Below w.heap.size w w' := by
  have HV := Lib.hid hv
  have HT := Lib.hid ht
  have HR := Lib.hid (fun w' (h : Txts w' v L) => refused_any v L w' h)
  have HA : Hid (Below w.heap.size w (w.alloc (.cells #[.int .i64 b, .int .i64 e] 56))) := Lib.hid ((Below.refl _ _).alloc (Nat.le_refl _) _)
  obtain ⟨p, c, rfl, hv1, hv2, hv3⟩ := hv
  obtain ⟨n, hn⟩ : ∃ n, n = L.length := ⟨_, rfl⟩
  rw [← hn] at HV HR hv1 hv2 ⊢
  have hL := hn.symm
  obtain ⟨E, hE⟩ : ∃ E, E = refusedE L := ⟨_, rfl⟩
  rw [← hE] at HR
  by_cases h0 : E = 0
  · have hlen : n ≤ 4096 := by
      rcases Nat.lt_or_ge 4096 n with h | h
      · exfalso
        have : refusedE L = 31 := by unfold refusedE; rw [if_pos (by omega)]
        omega
      · exact h
    by_cases hbad : b < 0 ∨ e < b ∨ (n : Int) < e
    · have e2 : partE L b e = 30 := by unfold partE; rw [← hE, if_neg (by simp [h0]), ← hn, if_pos hbad]
      have e1 : partT L b e = ⟨#[]⟩ := by unfold partT; rw [e2]; rfl
      rw [e1, e2]
      subst h0
      clear hE hL hn hv3 e1 e2 ht
      by_cases hb0 : b < 0
      · clear hbad
        go_enter Tryd.func32, Tryd.ntmps32
        go_wp2_with (go_at_call 69; with_reducible refine (HR.out _ (HV.out.below HA.out (Nat.le_refl _))).mono ?_; rintro e w2 ⟨rfl, hw⟩; rw [hw]; clear hw w2)
        go_ret2
        exact ⟨rfl, HA.out⟩
      · by_cases hb1 : e < b
        · clear hbad
          go_enter Tryd.func32, Tryd.ntmps32
          go_wp2_with (go_at_call 69; with_reducible refine (HR.out _ (HV.out.below HA.out (Nat.le_refl _))).mono ?_; rintro e w2 ⟨rfl, hw⟩; rw [hw]; clear hw w2)
          go_ret2
          exact ⟨rfl, HA.out⟩
        · have hb2 : (n : Int) < e := by omega
          clear hbad
          go_enter Tryd.func32, Tryd.ntmps32
          go_wp2_with (go_at_call 69; with_reducible refine (HR.out _ (HV.out.below HA.out (Nat.le_refl _))).mono ?_; rintro e w2 ⟨rfl, hw⟩; rw [hw]; clear hw w2)
          go_ret2
          exact ⟨rfl, HA.out⟩
    · have e2 : partE L b e = 0 := by unfold partE; rw [← hE, if_neg (by simp [h0]), ← hn, if_neg hbad]
      have e1 : partT L b e = rootR ((L.drop b.toNat).take (e - b).toNat) := by unfold partT; rw [e2]; rfl
      rw [e1, e2]
      subst h0
      obtain ⟨i, rfl⟩ : ∃ i : Nat, b = i := ⟨b.toNat, by omega⟩
      obtain ⟨j, rfl⟩ : ∃ j : Nat, e = j := ⟨e.toNat, by omega⟩
      have hij : i ≤ j := by omega
      have hjn : j ≤ n := by omega
      rw [Int.toNat_natCast, show ((j : Int) - (i : Int)).toNat = j - i by omega]
      have hi0 : ¬ ((i : Int) < 0) := by omega
      have hij2 : ¬ ((j : Int) < (i : Int)) := by omega
      have hjn2 : ¬ ((n : Int) < (j : Int)) := by omega
      have hi00 : (0 : Int) ≤ (i : Int) := by omega
      have hij3 : (i : Int) ≤ (j : Int) := by omega
      have hjc : (j : Int) ≤ (c : Int) := by omega
      obtain ⟨X, hX⟩ : ∃ X, X = rootR ((L.drop i).take (j - i)) := ⟨_, rfl⟩
      rw [← hX]
      by_cases hci : c - i = 0
      · have hji : j - i = 0 := by omega
        have hc1 := fun w1 (hb : Below w.heap.size w w1) => root_any _ _ _ _ w1 (HT.out.below hb) ((⟨p, 0, by rw [List.length_take, hji]; simp, by rw [hji]; simp, by rw [hji]; simp, fun j s h => by rw [hji] at h; simp at h⟩ : Txts w1 (.slice p 0 0) ((L.drop i).take (j - i)))) (by rw [List.length_take, List.length_drop]; omega) (by omega)
        rw [← hX] at hc1
        have HC := Lib.hid hc1
        clear hE hL hn hv3 e1 e2 hc1 hX hbad ht
        go_enter Tryd.func32, Tryd.ntmps32
        go_wp2_with (first
          | (go_at_call 69; with_reducible refine (HR.out _ (HV.out.below HA.out (Nat.le_refl _))).mono ?_; rintro e w2 ⟨rfl, hw⟩; rw [hw]; clear hw w2)
          | (go_at_call 70; with_reducible refine (HC.out _ HA.out).mono ?_; rintro e w3 ⟨rfl, hb⟩; have HB3 := Lib.hid (below_from HA.out hb HA.out.size); clear hb))
        go_ret2
        exact ⟨rfl, HB3.out⟩
      · have hc1 := fun w1 (hb : Below w.heap.size w w1) => root_any _ _ _ _ w1 (HT.out.below hb) (((HV.out.rightC (k := i) (by omega)).cutC (k := j - i) (by omega)).below hb (Nat.le_refl _)) (by rw [List.length_take, List.length_drop]; omega) (by omega)
        rw [← hX] at hc1
        have HC := Lib.hid hc1
        clear hE hL hn hv3 e1 e2 hc1 hX hbad ht
        go_enter Tryd.func32, Tryd.ntmps32
        go_wp2_with (first
          | (go_at_call 69; with_reducible refine (HR.out _ (HV.out.below HA.out (Nat.le_refl _))).mono ?_; rintro e w2 ⟨rfl, hw⟩; rw [hw]; clear hw w2)
          | (go_at_call 70; with_reducible refine (HC.out _ HA.out).mono ?_; rintro e w3 ⟨rfl, hb⟩; have HB3 := Lib.hid (below_from HA.out hb HA.out.size); clear hb))
        go_ret2
        exact ⟨rfl, HB3.out⟩
  · have e2 : partE L b e = E := by unfold partE; rw [← hE, if_pos h0]
    have e1 : partT L b e = ⟨#[]⟩ := by unfold partT; rw [e2, if_neg h0]
    rw [e1, e2]
    clear hE hL hn hv3 e1 e2 ht
    go_enter Tryd.func32, Tryd.ntmps32
    go_wp2_with (go_at_call 69; with_reducible refine (HR.out _ (HV.out.below HA.out (Nat.le_refl _))).mono ?_; rintro e w2 ⟨rfl, hw⟩; rw [hw]; clear hw w2)
    go_ret2
    exact ⟨rfl, HA.out⟩

end Go.Proofs.YtblacbfkaamdgaaDoor
