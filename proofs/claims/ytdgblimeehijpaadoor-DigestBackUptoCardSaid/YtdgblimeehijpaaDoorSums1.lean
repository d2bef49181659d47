/- What the law of sums reckons first: weights, joined texts. -/
import Derived.Test.YtdgblimeehijpaaDoorCuts
namespace Go.Proofs.YtdgblimeehijpaaDoor
open Go.RowKit Go.Scr
set_option linter.unusedVariables false

set_option maxRecDepth 100000 in
set_option maxHeartbeats 400000 in
theorem addsUp_any (n m : Nat) (w : World) (hn : n ≤ 1073741824) (hm : m ≤ 1073741823) :
    Calls Tryd.prog 29 #[.int .i64 n, .int .i64 m] w fun e w' => e = .returned (.int .i64 ((n + m : Nat) : Int)) ∧ w' = w := by
  have h1 : ¬ ((2147483647 : Int) < (n : Int)) := by omega
  have h2 : ¬ ((2147483647 : Int) < (m : Int)) := by omega
  go_enter Tryd.func29, Tryd.ntmps29
  go_wp2
  go_ret
  exact ⟨rfl, rfl⟩

theorem cat_le (L : List ByteArray) : ∀ s ∈ L, s.size ≤ (cat L).length := by
  intro s hs
  obtain ⟨i, hi, rfl⟩ := List.getElem_of_mem hs
  have h1 := cat_take (List.getElem?_eq_getElem hi)
  have h2 := cat_take_le L (i + 1)
  rw [h1, List.length_append] at h2
  have : L[i].data.toList.length = L[i].size := by simp
  omega

set_option maxRecDepth 100000 in
set_option maxHeartbeats 1000000 in
theorem weigh_any (v : Value) (L : List ByteArray) (w : World) (hv : Txts w v L) (hb : L.length + (cat L).length ≤ 1048576) :
    Calls Tryd.prog 30 #[v] w fun e w' => e = .returned (.int .i64 ((L.length + (cat L).length : Nat) : Int)) ∧ Below w.heap.size w w' := by
  obtain ⟨p, c, rfl, hv1, hv2, hv3⟩ := hv
  obtain ⟨n, hn⟩ : ∃ n, n = L.length := ⟨_, rfl⟩
  rw [← hn] at hv1 hb ⊢
  have HN := Lib.hid hn
  have HV := Lib.hid hv3
  have hnb : n ≤ 1048576 := by omega
  have hadd := fun w => addsUp_any 0 n w (by omega) (by omega)
  rw [Nat.zero_add] at hadd
  have HADD := Lib.hid hadd
  clear hv3 hv2 hv1 hn hadd
  go_enter Tryd.func30, Tryd.ntmps30
  go_wp2_with (go_at_call 29; refine (HADD.out _).mono ?_; rintro r w1 ⟨rfl, hw1⟩; rw [hw1]; clear hw1 w1)
  go_loopw [3, 4] (fun x q wr => ∃ (k t : Nat), k ≤ n ∧ q = .int .i64 k ∧ x = .int .i64 t ∧ Hid (t = n + (cat (L.take k)).length) ∧ Below w.heap.size w wr) (fun _ q _ => n - (intOf q).toNat)
  case atStart => exact ⟨0, n, by omega, rfl, rfl, rfl, Below.refl _ _⟩
  case round =>
    obtain ⟨k, t, hk, rfl, rfl, ht, hbel⟩ := hrel
    have HTT := Lib.hid ht.out
    have htb : t ≤ 1048576 := by have := cat_take_le L k; have := HTT.out; omega
    have HBEL := Lib.hid hbel
    clear ht hbel
    have hle : (t : Int) ≤ 2147483647 := by omega
    by_cases hlt : k < n
    · obtain ⟨s, hs⟩ : ∃ s, L[k]? = some s := ⟨L[k]'(by rw [← HN.out]; exact hlt), List.getElem?_eq_getElem _⟩
      obtain ⟨a, rfl, hc⟩ := HV.out k s hs
      have hcell : wr.cell? (a.add k) = some (.string s) := (HBEL.out.cell (block_lt_of_cell hc)).trans hc
      have hsz : s.size ≤ 1048576 := by have := cat_le L s (List.mem_of_getElem? hs); omega
      have hct := cat_take hs
      have hadd := fun w => addsUp_any t s.size w (by omega) (by omega)
      have HADD2 := Lib.hid hadd
      have HCT := Lib.hid hct
      have hks : (k : Int) < (n : Int) := by omega
      clear hs hc hct hadd
      go_wp2_with (go_at_call 29; refine (HADD2.out _).mono ?_; rintro r w2 ⟨rfl, rfl⟩)
      refine ⟨⟨k + 1, t + s.size, by omega, rfl, rfl, ?_, HBEL.out⟩, (by show n - ((k : Int) + 1).toNat < n - (k : Int).toNat; omega)⟩
      show _ = _
      rw [HCT.out, HTT.out, List.length_append]
      simp
      omega
    · have hkn : ¬ ((k : Int) < (n : Int)) := by omega
      have htt : t = n + (cat L).length := by rw [HTT.out, show k = n by omega, HN.out, List.take_length]
      have HT2 := Lib.hid htt
      clear htt
      go_wp2
      go_ret
      exact ⟨(show Ending.returned (Value.int .i64 (t : Int)) = _ from ret_int (by have := HT2.out; omega)), HBEL.out⟩

set_option maxRecDepth 100000 in
set_option maxHeartbeats 1000000 in
theorem joined_any (v : Value) (L : List ByteArray) (w : World) (hv : Txts w v L) (hb : L.length + (cat L).length ≤ 8388608) :
    Calls Tryd.prog 31 #[v] w fun e w' => e = .returned (.string (str (cat L))) ∧ Below w.heap.size w w' := by
  obtain ⟨p, c, rfl, hv1, hv2, hv3⟩ := hv
  obtain ⟨n, hn⟩ : ∃ n, n = L.length := ⟨_, rfl⟩
  rw [← hn] at hv1 hb ⊢
  have HN := Lib.hid hn
  have HV := Lib.hid hv3
  have hnb : n ≤ 8388608 := by omega
  obtain ⟨e0, he0⟩ : ∃ e0 : ByteArray, e0 = ⟨#[]⟩ := ⟨_, rfl⟩
  clear hv3 hv2 hv1 hn
  go_enter Tryd.func31, Tryd.ntmps31
  go_wp2_with fail
  go_loopw [3, 4] (fun x q wr => ∃ (k : Nat) (y : ByteArray), k ≤ n ∧ q = .int .i64 k ∧ x = .string y ∧ y.data.toList = cat (L.take k) ∧ Below w.heap.size w wr) (fun _ q _ => n - (intOf q).toNat)
  case atStart => exact ⟨0, ⟨#[]⟩, by omega, rfl, rfl, rfl, Below.refl _ _⟩
  case round =>
    obtain ⟨k, y, hk, rfl, rfl, hy, hbel⟩ := hrel
    have HY := Lib.hid hy
    have hyb : y.size ≤ 8388608 := by
      have h1 := cat_take_le L k
      have h2 : y.size = y.data.toList.length := by simp
      rw [h2, hy]
      omega
    have HBEL := Lib.hid hbel
    clear hy hbel
    by_cases hlt : k < n
    · obtain ⟨s, hs⟩ : ∃ s, L[k]? = some s := ⟨L[k]'(by rw [← HN.out]; exact hlt), List.getElem?_eq_getElem _⟩
      obtain ⟨a, rfl, hc⟩ := HV.out k s hs
      have hcell : wr.cell? (a.add k) = some (.string s) := (HBEL.out.cell (block_lt_of_cell hc)).trans hc
      have hsz : s.size ≤ 8388608 := by have := cat_le L s (List.mem_of_getElem? hs); omega
      have hct := cat_take hs
      have HCT := Lib.hid hct
      have hks : (k : Int) < (n : Int) := by omega
      have hsum : y.size + s.size ≤ 16777216 := by omega
      clear hs hc hct
      go_wp2_with fail
      refine ⟨⟨k + 1, y ++ s, by omega, rfl, rfl, ?_, HBEL.out⟩, (by show n - ((k : Int) + 1).toNat < n - (k : Int).toNat; omega)⟩
      rw [ByteArray.data_append, Array.toList_append, HY.out, HCT.out]
    · have hkn : ¬ ((k : Int) < (n : Int)) := by omega
      have hyy : y = str (cat L) := by
        apply ByteArray.ext
        have h := HY.out
        rw [show k = n by omega, HN.out, List.take_length] at h
        simp [str, ← h]
      have HYY := Lib.hid hyy
      clear hyy
      go_wp2
      go_ret
      exact ⟨by rw [← HYY.out]; rfl, HBEL.out⟩
end Go.Proofs.YtdgblimeehijpaaDoor
