/- scrivenerlaw11: the same lists? -/
import Derived.Test.YtafookdllnhdaaaDoorMa12
import Derived.BigQuiet
import Derived.LoopTactic
import Derived.Deep.CutBlock
namespace Go.Proofs.YtafookdllnhdaaaDoor
open Go.RowKit Go.Scr
set_option linter.unusedVariables false
theorem textU_ne {a b : ByteArray} (h : a ≠ b) : (a.toList == b.toList) = false := by
  refine beq_eq_false_iff_ne.2 fun h2 => h ?_
  rw [ByteArray.toList_eq, ByteArray.toList_eq] at h2
  exact ByteArray.ext (Array.toList_inj.mp h2)
theorem textU_same (a : ByteArray) : (a.toList == a.toList) = true := beq_self_eq_true _
set_option maxRecDepth 100000 in
set_option maxHeartbeats 1000000 in
theorem sameU_any (v v2 : Value) (L M : List ByteArray) (w : World) (hv : Txts w v L) (hv2 : Txts w v2 M) (hl : L.length ≤ 1048576) (hl2 : M.length ≤ 1048576) :
    Calls Tryd.prog 24 #[v, v2] w fun e w' => e = .returned (.bool (decide (L = M))) ∧ Below w.heap.size w w' := by
  obtain ⟨p, c, rfl, hv1, hv2', hv3⟩ := hv
  obtain ⟨p2, c2, rfl, hw1, hw2', hw3⟩ := hv2
  obtain ⟨n, hn⟩ : ∃ n, n = L.length := ⟨_, rfl⟩
  obtain ⟨m, hm⟩ : ∃ m, m = M.length := ⟨_, rfl⟩
  rw [← hn] at hv1 hl ⊢
  rw [← hm] at hw1 hl2 ⊢
  have HNL := Lib.hid hn
  have HML := Lib.hid hm
  have HP := Lib.hid hv3
  have HP2 := Lib.hid hw3
  clear hn hm hv1 hv2' hv3 hw1 hw2' hw3
  by_cases hnm : n = m
  · have HNM := Lib.hid hnm
    have e0 : ((n : Int) == (m : Int)) = true := beq_iff_eq.2 (by omega)
    clear hnm
    go_enter Tryd.func24, Tryd.ntmps24
    go_wp2
    go_loopw [5] (fun q wr => ∃ i : Nat, i ≤ n ∧ q = .int .i64 i ∧ Hid (∀ j, j < i → L[j]? = M[j]?) ∧ Below w.heap.size w wr) (fun q _ => n - (intOf q).toNat)
    case atStart => exact ⟨0, by omega, rfl, Lib.hid (fun j h => absurd h (by omega)), Below.refl _ _⟩
    case round =>
      obtain ⟨i, hi, rfl, hinv, hbel⟩ := hrel
      have HBEL := Lib.hid hbel
      have HINV := Lib.hid hinv.out
      clear hbel hinv
      by_cases hlt : i < n
      · have hl8 : (i : Int) < (n : Int) := by omega
        have him : (i : Int) < (m : Int) := by have := HNM.out; omega
        obtain ⟨s, hs⟩ : ∃ s, L[i]? = some s := ⟨L[i]'(by rw [← HNL.out]; exact hlt), List.getElem?_eq_getElem _⟩
        obtain ⟨t, ht⟩ : ∃ s, M[i]? = some s := ⟨M[i]'(by rw [← HML.out, ← HNM.out]; exact hlt), List.getElem?_eq_getElem _⟩
        obtain ⟨a, rfl, hc⟩ := HP.out i s hs
        obtain ⟨b, rfl, hd⟩ := HP2.out i t ht
        have hcell1 : wr.cell? (a.add i) = some (.string s) := (HBEL.out.cell (block_lt_of_cell hc)).trans hc
        have hcell2 : wr.cell? (b.add i) = some (.string t) := (HBEL.out.cell (block_lt_of_cell hd)).trans hd
        have HS := Lib.hid hs
        have HT := Lib.hid ht
        clear hs ht hc hd
        by_cases hst : s = t
        · have e1 : (s.toList == t.toList) = true := by rw [hst]; exact textU_same _
          have HST := Lib.hid hst
          clear hst
          go_upto_region 6 with fail
          go_quiet (fail)
          have HBEL2 : Hid (Below w.heap.size w (wr.drewN nq)) := below_drewN HBEL.out nq
          generalize wr.drewN nq = wx at *
          go_wp2_with fail
          refine ⟨⟨i + 1, by omega, rfl, Lib.hid (fun j hj => ?_), HBEL2.out⟩, (by show n - ((i : Int) + 1).toNat < n - (i : Int).toNat; omega)⟩
          rcases Nat.lt_or_ge j i with h1 | h1
          · exact HINV.out j h1
          · have : j = i := by omega
            subst this
            rw [HS.out, HT.out, HST.out]
        · have e1 : (s.toList == t.toList) = false := textU_ne hst
          have HST := Lib.hid hst
          clear hst
          go_upto_region 6 with fail
          go_quiet (fail)
          have HBEL2 : Hid (Below w.heap.size w (wr.drewN nq)) := below_drewN HBEL.out nq
          generalize wr.drewN nq = wx at *
          go_wp2_with fail
          go_ret
          have hd : decide (L = M) = false := decide_eq_false (by
            intro he
            have h1 := HS.out
            rw [he, HT.out] at h1
            exact HST.out (Option.some.inj h1).symm)
          exact ⟨by rw [hd]; rfl, HBEL2.out⟩
      · have hl8 : ¬ ((i : Int) < (n : Int)) := by omega
        go_wp2_with fail
        go_ret
        have hd : decide (L = M) = true := decide_eq_true (by
          refine List.ext_getElem? fun j => ?_
          rcases Nat.lt_or_ge j i with h1 | h1
          · exact HINV.out j h1
          · rw [List.getElem?_eq_none (by have := HNL.out; omega), List.getElem?_eq_none (by have := HML.out; have := HNM.out; omega)])
        exact ⟨by rw [hd]; rfl, HBEL.out⟩
  · have e0 : ((n : Int) == (m : Int)) = false := beq_eq_false_iff_ne.2 (by omega)
    have e1 : decide (L = M) = false := decide_eq_false (by intro h; apply hnm; rw [HNL.out, HML.out, h])
    rw [e1]
    clear hnm e1
    go_enter Tryd.func24, Tryd.ntmps24
    go_wp2
    go_ret
    exact ⟨rfl, Below.refl _ _⟩
end Go.Proofs.YtafookdllnhdaaaDoor
