/- frontier's ranges of any width: push, right, Join (printed by gen_fs4.py). -/
import Derived.Test.YtdbghgpohdijfaaDoorMa61
import Derived.Test.YtdbghgpohdijfaaDoorMa39
namespace Go.Proofs.YtdbghgpohdijfaaDoor
open Go.RowKit Go.Scr Go.ChangeMaps Go.MapKept
set_option linter.unusedVariables false
end Go.Proofs.YtdbghgpohdijfaaDoor
/- frontier.filled and right: what is refused (printed by gen_fs5.py). -/
namespace Go.Proofs.YtdbghgpohdijfaaDoor
open Go.RowKit Go.Scr Go.ChangeMaps Go.MapKept
set_option linter.unusedVariables false
set_option maxRecDepth 100000 in
set_option maxHeartbeats 4000000 in
theorem ffilledW_bad {w : World} {B b e : Nat} {v : Value} {val : Nat → Nat → ByteArray} (hB : Bas w B) (hbe : b ≤ e) (he : e ≤ 1099511627776) (hv : Txts w v (nodesA val b e)) (h32 : ok32 (nodesA val b e) = false) :
    Calls Tryd.prog 95 #[.int .i64 (b : Int), .int .i64 (e : Int), v] w fun o w' => o = .returned (.tuple #[.slice none 0 0, .int .i64 52]) ∧ Below w.heap.size w w' := by
  have CC := Lib.hid (fcutW_any hB hbe he)
  have HV := Lib.hid hv
  have hnl := nodesA_len val b e
  have hnn : (bareA b e).length ≤ 4096 := Nat.le_trans (by unfold bareA; rw [rowA_length]; exact cutA_80 he) (show 80 ≤ 4096 by decide)
  obtain ⟨p, c, rfl, hv1, hv2, _⟩ := hv
  obtain ⟨n, hn⟩ : ∃ n, n = (bareA b e).length := ⟨_, rfl⟩
  rw [hnl, ← hn] at HV hv1 hv2 ⊢
  have HF : Hid ((bareA b e).length = n ∧ (nodesA val b e).length = n ∧ ok32 (nodesA val b e) = false ∧ fillA val b e 0 = bareA b e ∧ fillA val b e n = rowA val b e) := Lib.hid ⟨hn.symm, by rw [hnl, hn], h32, fillA_zero val b e, by rw [hn]; exact fillA_all val b e⟩
  have hn4 : n ≤ 4096 := by omega
  clear hB hbe he h32 hnl hnn hn hv1
  go_enter Tryd.func95, Tryd.ntmps95
  go_upto_region 2 with (go_at_call 126; refine CC.out.mono ?_; rintro o w1 ⟨u, rfl, hu⟩; have HU := Lib.hid hu; clear hu)
  obtain ⟨q, d, rfl, _⟩ := HU.out.h.cells
  rw [HF.out.1] at HU ⊢
  have HI0 : Hid (PcI w w1 (.slice q n d) (fillA val b e 0)) := Lib.hid (by rw [HF.out.2.2.2.1]; exact HU.out)
  go_wp2_with fail
  go_loopw [21] (fun k wr => ∃ i : Nat, k = .int .i64 (i : Int) ∧ i ≤ n ∧ Hid (PcI w wr (.slice q n d) (fillA val b e i)) ∧ Hid (ok32 ((nodesA val b e).take i) = true)) (fun k _ => n - (intOf k).toNat)
  case atStart => exact ⟨0, rfl, Nat.zero_le _, HI0, Lib.hid rfl⟩
  case round =>
    clear HI0
    obtain ⟨i, rfl, hi, HI, HOK⟩ := hrel
    by_cases hlt : i < n
    · have hli : (i : Int) < (n : Int) := by omega
      have hi0 : (0 : Int) ≤ (i : Int) := by omega
      obtain ⟨s, hs⟩ : ∃ s, (nodesA val b e)[i]? = some s := ⟨(nodesA val b e)[i]'(by have := HF.out; omega), List.getElem?_eq_getElem _⟩
      obtain ⟨a, rfl, hac⟩ := txts_cellF HV.out hs
      have hcell := hac wr HI.out.b
      by_cases hs32 : s.size = 32
      case neg =>
        have hsz : ¬ (s.size : Int) = 32 := by omega
        have HB := Lib.hid HI.out.b
        clear hs32 hs hac hlt
        go_wp2_with fail
        go_ret2
        exact ⟨rfl, HB.out⟩
      have hsz : (s.size : Int) = 32 := by omega
      have HOK2 : Hid (ok32 ((nodesA val b e).take (i + 1)) = true) := Lib.hid (by rw [ok32_take hs, HOK.out]; simp [hs32])
      obtain ⟨x, hx, hnx⟩ := fillA_next hs
      have hlen : (fillA val b e i).length = n := by
        have := HI.out.h.cells
        obtain ⟨p', c', hpe, _⟩ := this
        injection hpe with e1 e2 e3
        exact e2.symm
      obtain ⟨g, rfl, hg⟩ := held_cellP HI.out.h (by omega)
      obtain ⟨_, _, x2⟩ := pcV_get hx
      have hcx := hg _ _ x2
      have hfz : wr.frozen? ⟨g, i * 3 + 1 + 1, none⟩ = false := by
        rcases HI.out.h.2 with ⟨e0, _⟩ | ⟨g', cap, cur, e0, hgb, _⟩
        · exact nomatch e0
        · injection e0 with e1 e2 e3
          injection e1 with e1
          injection e1 with e1
          subst e1
          exact frozB hgb
      have HNX : Hid (PcI w (wr.setCell ⟨g, i * 3 + 2, none⟩ (.string s)) (.slice (some ⟨g, 0, none⟩) n d) (fillA val b e (i + 1))) := Lib.hid (by rw [hnx]; exact HI.out.set rfl hx)
      have HLT := Lib.hid hlt
      clear hs32 hlt hs hac hx hnx hlen hg x2
      go_wp2_with fail
      exact ⟨⟨i + 1, by simp, HLT.out, HNX, HOK2⟩, by show n - ((i : Int) + 1).toNat < n - (i : Int).toNat; have := HLT.out; omega⟩
    · obtain rfl : i = n := by omega
      have h1 := HOK.out
      rw [List.take_of_length_le (by have := HF.out.2.1; omega), HF.out.2.2.1] at h1
      cases h1
set_option maxRecDepth 100000 in
set_option maxHeartbeats 4000000 in
theorem ffilledW_len {w : World} {B b e : Nat} {v : Value} {H : List ByteArray} (hB : Bas w B) (hbe : b ≤ e) (he : e ≤ 1099511627776) (hv : Txts w v H) (hn : H.length ≠ (cutA b e).length) :
    Calls Tryd.prog 95 #[.int .i64 (b : Int), .int .i64 (e : Int), v] w fun o w' => o = .returned (.tuple #[.slice none 0 0, .int .i64 50]) ∧ Below w.heap.size w w' := by
  have CC := Lib.hid (fcutW_any hB hbe he)
  obtain ⟨p, c, rfl, hv1, hv2, _⟩ := hv
  obtain ⟨m, hm⟩ : ∃ n, n = (bareA b e).length := ⟨_, rfl⟩
  have hm2 : m = (cutA b e).length := by rw [hm]; unfold bareA; rw [rowA_length]
  obtain ⟨n, hn1⟩ : ∃ n, n = H.length := ⟨_, rfl⟩
  rw [← hn1] at hv1 ⊢
  have hmn : ((m : Int) == (n : Int)) = false := beq_eq_false_iff_ne.2 (by omega)
  have hmn2 : ¬ (m : Int) = (n : Int) := by omega
  have HM := Lib.hid hm
  clear hB hbe he hn hm hm2 hn1 hv1 hv2
  go_enter Tryd.func95, Tryd.ntmps95
  go_upto_region 2 with (go_at_call 126; refine CC.out.mono ?_; rintro o w1 ⟨u, rfl, hu⟩; have HU := Lib.hid hu; clear hu)
  obtain ⟨q, d, rfl, _⟩ := HU.out.h.cells
  rw [← HM.out] at HU ⊢
  go_wp2_with fail
  go_ret2
  exact ⟨rfl, HU.out.b⟩
/-- what is wrong with a range: nothing, its form, its hashes -/
def rgE (b e : Int) (H : List ByteArray) : Int := if b < 0 ∨ e < b ∨ 1099511627776 < e then 50 else if H.length ≠ (cutA b.toNat e.toNat).length then 50 else if ok32 H = false then 52 else 0
theorem rgE_ok {b e : Int} {H : List ByteArray} (h : rgE b e H = 0) : ∃ n m : Nat, b = n ∧ e = m ∧ n ≤ m ∧ m ≤ 1099511627776 ∧ H.length = (cutA n m).length ∧ ∀ s ∈ H, s.size = 32 := by
  unfold rgE at h
  split at h
  · omega
  · split at h
    · omega
    · split at h
      · omega
      · rename_i h1 h2 h3
        refine ⟨b.toNat, e.toNat, by omega, by omega, by omega, by omega, Classical.byContradiction h2, fun s hs => ?_⟩
        have h3 : ok32 H = true := by simpa using h3
        unfold ok32 at h3
        rw [List.all_eq_true] at h3
        simpa using h3 s hs
theorem row_of_nodes {val val' : Nat → Nat → ByteArray} {b e : Nat} (h : nodesA val b e = nodesA val' b e) : rowA val b e = rowA val' b e := by
  unfold nodesA rowA at h
  rw [List.map_map, List.map_map] at h
  unfold rowA
  rw [List.map_inj_left] at h ⊢
  intro x hx
  have h1 : val x.1 x.2 = val' x.1 x.2 := h x hx
  rw [h1]
end Go.Proofs.YtdbghgpohdijfaaDoor
