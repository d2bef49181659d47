/- DigestHashers: what a script weighs; the law's walk. -/
import Derived.Test.YtmkeifhfjhknjaaDoorHsh0
import Derived.Test.YtmkeifhfjhknjaaDoorOps3
import Derived.Test.YtmkeifhfjhknjaaDoorPic1
import Derived.Test.YtmkeifhfjhknjaaDoorKnow1
import Derived.Test.YtmkeifhfjhknjaaDoorRef3
import Derived.Deep.CutBlock
import Derived.Deep.RegionHeld3
namespace Go.Proofs.YtmkeifhfjhknjaaDoor
open Go.RowKit Go.Scr
set_option linter.unusedVariables false

theorem add3 (a : Addr) (k j : Nat) : a.add (k + j) = (a.add k).add j := by
  unfold Addr.add
  split <;> split <;> split <;> simp_all <;> omega
theorem ret_intO {a b : Nat} (h : a = b) : Ending.returned (Value.int .i64 (a : Int)) = Ending.returned (Value.int .i64 (b : Int)) := by rw [h]
set_option maxRecDepth 100000 in
set_option maxHeartbeats 1000000 in
theorem sweigh_any (v : Value) (L : List (Int × Int × ByteArray)) (w : World) (hv : Ops w v L) (hb : L.length + opsW L ≤ 1048576) :
    Calls Tryd.prog 8 #[v] w fun e w' => e = .returned (.int .i64 ((L.length + opsW L : Nat) : Int)) ∧ Below w.heap.size w w' := by
  obtain ⟨p, c, rfl, hv1, hv2, hv3⟩ := hv
  obtain ⟨n, hn⟩ : ∃ n, n = L.length := ⟨_, rfl⟩
  rw [← hn] at hv1 hb ⊢
  have HN := Lib.hid hn
  have HV := Lib.hid hv3
  have hnb : n ≤ 1048576 := by omega
  have hadd := fun w => addsUp_any 0 n w (by omega) (by omega)
  rw [Nat.zero_add] at hadd
  have HADD := Lib.hid hadd
  clear hv3 hv2 hv1 hn hadd
  go_enter Tryd.func8, Tryd.ntmps8
  go_wp2_with (go_at_call 19; refine (HADD.out _).mono ?_; rintro r w1 ⟨rfl, hw1⟩; rw [hw1]; clear hw1 w1)
  go_loopw [3, 4] (fun x q wr => ∃ (k t : Nat), k ≤ n ∧ q = .int .i64 k ∧ x = .int .i64 t ∧ Hid (t = n + opsW (L.take k)) ∧ Below w.heap.size w wr) (fun _ q _ => n - (intOf q).toNat)
  case atStart => exact ⟨0, n, by omega, rfl, rfl, rfl, Below.refl _ _⟩
  case round =>
    obtain ⟨k, t, hk, rfl, rfl, ht, hbel⟩ := hrel
    have HTT := Lib.hid ht.out
    have htb : t ≤ 1048576 := by have := opsW_le L k; have := HTT.out; omega
    have HBEL := Lib.hid hbel
    clear ht hbel
    have hle : (t : Int) ≤ 2147483647 := by omega
    by_cases hlt : k < n
    · obtain ⟨⟨kd, on, s⟩, hs⟩ : ∃ s, L[k]? = some s := ⟨L[k]'(by rw [← HN.out]; exact hlt), List.getElem?_eq_getElem _⟩
      obtain ⟨_, _, a, rfl, hc0, hc1, hc⟩ := HV.out k kd on s hs
      have hcell : wr.cell? ⟨(a.add (k * 3)).block, (a.add (k * 3)).off + 2, none⟩ = some (.string s) := by
        have h := (HBEL.out.cell (block_lt_of_cell hc)).trans hc
        rwa [add3] at h
      have hct := opsW_take hs
      have hsz : s.size ≤ 1048576 := by have := opsW_le L (k + 1); have hct' : opsW (L.take (k + 1)) = opsW (L.take k) + s.size := hct; omega
      have hadd := fun w => addsUp_any t s.size w (by omega) (by omega)
      have HADD2 := Lib.hid hadd
      have HCT : Hid (opsW (L.take (k + 1)) = opsW (L.take k) + s.size) := Lib.hid hct
      have hks : (k : Int) < (n : Int) := by omega
      clear hs hc hct hadd hc0 hc1
      go_wp2_with (go_at_call 19; refine (HADD2.out _).mono ?_; rintro r w2 ⟨rfl, rfl⟩)
      refine ⟨⟨k + 1, t + s.size, by omega, rfl, rfl, ?_, HBEL.out⟩, (by show n - ((k : Int) + 1).toNat < n - (k : Int).toNat; omega)⟩
      show _ = _
      rw [HCT.out, HTT.out]
      omega
    · have hkn : ¬ ((k : Int) < (n : Int)) := by omega
      have htt : t = n + opsW L := by rw [HTT.out, show k = n by omega, HN.out, List.take_length]
      have HT2 := Lib.hid htt
      clear htt
      go_wp2
      go_ret
      exact ⟨(show Ending.returned (Value.int .i64 (t : Int)) = _ from ret_intO (by have := HT2.out; omega)), HBEL.out⟩
end Go.Proofs.YtmkeifhfjhknjaaDoor
