/- Law 5: which of n things, a leaf, numbered leaves. -/
import Derived.Test.YtdbghgpohdijfaaDoorMa29
import Derived.Test.YtdbghgpohdijfaaDoorMa30
import Derived.Test.YtdbghgpohdijfaaDoorMa12
import Derived.Deep.CutBlock
import Derived.BigQuiet
import Derived.LoopTactic
namespace Go.Proofs.YtdbghgpohdijfaaDoor
open Go.RowKit Go.Scr Go.ChangeMaps Go.MapKept
set_option linter.unusedVariables false
set_option maxRecDepth 100000 in
set_option maxHeartbeats 400000 in
theorem pickU_any (c : Int) (n : Nat) (w : World) (hn : 0 < n) (hn2 : n ≤ 9223372036854775807) (hc : -9223372036854775808 ≤ c ∧ c ≤ 9223372036854775807) :
    Calls Tryd.prog 49 #[.int .i64 c, .int .i64 n] w fun e w' => e = .returned (.int .i64 ((pickN c n : Nat) : Int)) ∧ w' = w := by
  have hn0 : ¬ ((n : Int) = 0) := by omega
  obtain ⟨m, hm⟩ : ∃ m, m = pickN c n := ⟨_, rfl⟩
  rw [← hm]
  by_cases h : c < 0
  · obtain ⟨k, hk⟩ : ∃ k : Nat, (k : Int) = -(c + 1) := ⟨(-(c + 1)).toNat, by omega⟩
    have e1 : -(c + 1) = (k : Int) := hk.symm
    have hkm : m = k % n := by rw [hm]; unfold pickN; rw [if_pos h, ← hk]; rfl
    have e2 : (k : Int).tmod (n : Int) = (m : Int) := by rw [Int.tmod_eq_emod_of_nonneg (Int.natCast_nonneg _), hkm]; rfl
    have hk2 : k ≤ 9223372036854775807 := by omega
    clear hm hk hkm
    go_enter Tryd.func49, Tryd.ntmps49
    go_wp2
    go_ret
    exact ⟨rfl, rfl⟩
  · obtain ⟨k, hk⟩ : ∃ k : Nat, (k : Int) = c := ⟨c.toNat, by omega⟩
    have hkm : m = k % n := by rw [hm]; unfold pickN; rw [if_neg h, ← hk]; rfl
    subst hk
    have e2 : (k : Int).tmod (n : Int) = (m : Int) := by rw [Int.tmod_eq_emod_of_nonneg (Int.natCast_nonneg _), hkm]; rfl
    have h' : ¬ ((k : Int) < 0) := by omega
    clear hm hkm
    go_enter Tryd.func49, Tryd.ntmps49
    go_wp2
    go_ret
    exact ⟨rfl, rfl⟩
theorem byte_intU (c : Int) : c % 256 = ((UInt8.ofNat (c % 256).toNat).toNat : Int) := by
  have h1 : 0 ≤ c % 256 := Int.emod_nonneg _ (by decide)
  have h2 : c % 256 < 256 := Int.emod_lt_of_pos _ (by decide)
  rw [UInt8.toNat_ofNat', Nat.mod_eq_of_lt (by omega)]
  omega
theorem step_belowRU {B : Nat} {w : World} {g i : Nat} (u : Value) (hB : B ≤ g) (hBw : B ≤ w.heap.size) : Below B w (w.setCell ⟨g, i, none⟩ u) := below_only (Below.refl B w) (only_setCell (p := ⟨g, i, none⟩) (only_refl w (some g)) (Or.inl rfl) u) hBw hB
def leafLU (c : Int) : List UInt8 := ((List.replicate 32 (0 : UInt8)).set 0 (UInt8.ofNat (c % 256).toNat)).set 31 (UInt8.ofNat (c / 256 % 256).toNat)
def leafSU (c : Int) : ByteArray := str (leafLU c)
theorem leafSU_size (c : Int) : (leafSU c).size = 32 := by unfold leafSU; rw [str_size]; simp [leafLU]
theorem bytesV_setU (l : List UInt8) (i : Nat) (a : UInt8) : ((bytesV l).toArray).setIfInBounds i (.int .u8 (a.toNat : Int)) = (bytesV (l.set i a)).toArray := by
  unfold bytesV
  simp [List.map_set]

def made32bU : Array Value := madeCells #[Value.int .u8 0] 32
theorem made32bU_eq : made32bU = (bytesV (List.replicate 32 0)).toArray := madeCells_bytes 32
set_option maxRecDepth 100000 in
set_option maxHeartbeats 1000000 in
theorem leafU_any (c : Int) (w : World) :
    Calls Tryd.prog 48 #[.int .i64 c] w fun e w' => e = .returned (.string (leafSU c)) ∧ Below w.heap.size w w' := by
  obtain ⟨a, ha⟩ : ∃ a : UInt8, a = UInt8.ofNat (c % 256).toNat := ⟨_, rfl⟩
  obtain ⟨b, hb⟩ : ∃ b : UInt8, b = UInt8.ofNat (c / 256 % 256).toNat := ⟨_, rfl⟩
  have e1 : c % 256 = (a.toNat : Int) := by rw [ha]; exact byte_intU c
  obtain ⟨d, hd⟩ : ∃ d, d = c / 256 := ⟨_, rfl⟩
  have e2 : d % 256 = (b.toNat : Int) := by rw [hb, hd]; exact byte_intU _
  have HS := Lib.hid (by unfold leafSU leafLU; rw [← ha, ← hb] : leafSU c = str (((List.replicate 32 (0 : UInt8)).set 0 a).set 31 b))
  have hmk : (Instr.makeSlice 135 (.int .i64 32) (.int .i64 32)).run Tryd.prog w = .ok (.slice (some ⟨w.heap.size, 0, none⟩) 32 32) (w.alloc (.cells made32bU 5)) := make_bytes (P := Tryd.prog) 135 5 Tryd.underlying135 info_u8 32 32 (by omega) (by omega) w
  have hd2 := hd.symm
  clear ha hb hd
  go_enter Tryd.func48, Tryd.ntmps48
  go_upto_region 2 with fail
  obtain ⟨l0, hl0⟩ : ∃ l0, l0 = List.replicate 32 (0 : UInt8) := ⟨_, rfl⟩
  have HL0 := Lib.hid hl0
  have hb0 : (w.alloc (.cells made32bU 5)).heap[w.heap.size]? = some (.cells (bytesV l0).toArray 5 (0, 0)) := by rw [hl0, ← made32bU_eq]; exact heap_alloc_new w _
  have hbel : Below w.heap.size w (w.alloc (.cells made32bU 5)) := (Below.refl _ _).alloc (Nat.le_refl _) _
  have hsz : w.heap.size ≤ (w.alloc (.cells made32bU 5)).heap.size := by simp
  have hl32 : l0.length = 32 := by rw [hl0]; simp
  clear hmk hl0
  obtain ⟨g, hg⟩ : ∃ g, g = w.heap.size := ⟨_, rfl⟩
  rw [← hg] at hb0 hbel hsz
  rw [← hg]
  have HG := Lib.hid hg
  generalize w.alloc (.cells made32bU 5) = w1 at hb0 hbel hsz ⊢
  have hc0 : w1.cell? ⟨g, 0, none⟩ = some (.int .u8 ((l0[0]'(by omega)).toNat : Int)) := by rw [cell_of_row w1 g 0 _ _ _ hb0]; simp [bytesV, hl32]
  have hf0 := frozen_of_row w1 g 0 _ _ hb0
  have hb1 : (w1.setCell ⟨g, 0, none⟩ (.int .u8 (a.toNat : Int))).heap[g]? = some (.cells (bytesV (l0.set 0 a)).toArray 5 (0, 0)) := by rw [← bytesV_setU]; exact blk_set hb0 0 _
  have HB1 := Lib.hid hb1
  have HBEL1 := Lib.hid (hbel.trans (step_belowRU (g := g) (i := 0) (.int .u8 (a.toNat : Int)) (Nat.le_refl g) hsz))
  clear hb1 hg
  go_upto_region 3 with fail
  clear hc0 hf0 e1 hbel hb0
  have hsz2 : g ≤ (w1.setCell ⟨g, 0, none⟩ (.int .u8 (a.toNat : Int))).heap.size := by simpa using hsz
  generalize w1.setCell ⟨g, 0, none⟩ (.int .u8 (a.toNat : Int)) = w2 at HB1 HBEL1 hsz2 ⊢
  have hc1 : w2.cell? ⟨g, 31, none⟩ = some (.int .u8 (((l0.set 0 a)[31]'(by simp; omega)).toNat : Int)) := by rw [cell_of_row w2 g 31 _ _ _ HB1.out]; simp [bytesV, hl32]
  have hf1 := frozen_of_row w2 g 31 _ _ HB1.out
  have hb2 : (w2.setCell ⟨g, 31, none⟩ (.int .u8 (b.toNat : Int))).heap[g]? = some (.cells (bytesV ((l0.set 0 a).set 31 b)).toArray 5 (0, 0)) := by rw [← bytesV_setU]; exact blk_set HB1.out 31 _
  have HB2 := Lib.hid hb2
  have HBEL2 := Lib.hid (HBEL1.out.trans (step_belowRU (g := g) (i := 31) (.int .u8 (b.toNat : Int)) (Nat.le_refl g) hsz2))
  have hcv := own_string (P := Tryd.prog) (D := 9) (S := 135) (c := 32) Tryd.underlying135 und_u8 und_string (own_of_blk (n := 32) HB2.out (by simp [hl32]) (by simp [hl32]))
  clear hb2
  go_wp2
  go_ret
  exact ⟨by rw [HS.out, ← HL0.out]; rfl, by rw [← HG.out]; exact HBEL2.out⟩
theorem partL_pairF {a b : ByteArray} : partL [a, b] 0 2 = nodeS a b := by
  rw [partL_two (m := 1) (by decide) (by simp) (spl_of (n := 2 - 0) (i := 0) (by decide) (by decide)).symm]
  unfold partL
  simp only [List.drop_succ_cons, List.drop_zero, List.take_succ_cons, List.take_zero, Nat.zero_add, Nat.sub_zero, Nat.reduceSub]
  rw [show rootR [a] = a from rootL_one _ _ _, show rootR [b] = b from rootL_one _ _ _]
theorem ints_cellF {w : World} {p : Option Addr} {n c : Nat} {Z : List Int} (h : Ints w (.slice p n c) Z) {i : Nat} {z : Int} (hz : Z[i]? = some z) : ∃ a, p = some a ∧ ∀ w', Below w.heap.size w w' → w'.cell? (a.add i) = some (.int .i64 z) := by
  obtain ⟨p', c', hpe, _, _, _, hq⟩ := h
  obtain rfl : p = p' := by cases hpe; rfl
  obtain ⟨a, ha, hcell⟩ := hq i z hz
  exact ⟨a, ha, fun w' hb => (hb.cell (block_lt_of_cell hcell)).trans hcell⟩
def numT (Z : List Int) (m : Nat) : List ByteArray := (Z.take m).map leafSU
theorem numT_len (Z : List Int) (m : Nat) : (numT Z m).length = min m Z.length := by unfold numT; rw [List.length_map, List.length_take]
theorem numT_32 {Z : List Int} {m : Nat} {s : ByteArray} (h : s ∈ numT Z m) : s.size = 32 := by
  unfold numT at h
  obtain ⟨z, _, rfl⟩ := List.mem_map.1 h
  exact leafSU_size z
set_option maxRecDepth 100000 in
set_option maxHeartbeats 2000000 in
theorem numbered_any {w : World} {v : Value} {Z : List Int} {mx : Nat} (hz : Ints w v Z) (hmx : mx ≤ 600) :
    Calls Tryd.prog 42 #[v, .int .i64 (mx : Int)] w fun o w' => ∃ u, o = .returned u ∧ LfI w w' u (min mx Z.length) (numT Z (min mx Z.length)) := by
  have HZ := Lib.hid hz
  obtain ⟨pz, cz, rfl, hz1, hz2, _, _⟩ := hz
  obtain ⟨nz, hnz⟩ : ∃ n, n = Z.length := ⟨_, rfl⟩
  rw [← hnz] at HZ hz1 hz2 ⊢
  obtain ⟨M, hM⟩ : ∃ M, M = min mx nz := ⟨_, rfl⟩
  have hMx : M ≤ 600 := by omega
  have HNN : Hid (nz = Z.length ∧ M = min mx nz) := Lib.hid ⟨hnz, hM⟩
  rw [← hM]
  clear hz1 hnz hM
  have HI0 : Hid (LfI w w (.slice none 0 0) 0 (numT Z 0)) := Lib.hid ⟨Below.refl _ _, ⟨rfl, .inl ⟨rfl, rfl⟩⟩, fun g hg => nomatch hg⟩
  go_enter Tryd.func42, Tryd.ntmps42
  go_wp2_with fail
  go_loopw [5, 6] (fun l k wr => ∃ (i : Nat) (p : Option Addr) (c : Nat), k = .int .i64 (i : Int) ∧ l = .slice p i c ∧ i ≤ M ∧ Hid (LfI w wr (.slice p i c) i (numT Z i))) (fun _ k _ => M - (intOf k).toNat)
  case atStart => exact ⟨0, none, 0, rfl, rfl, Nat.zero_le _, HI0⟩
  case round =>
    clear HI0
    obtain ⟨i, p, c, rfl, rfl, hi, HI⟩ := hrel
    by_cases hlt : i < M
    · have hlz : (i : Int) < (nz : Int) := by have := HNN.out; omega
      have hlm : (i : Int) < (mx : Int) := by have := HNN.out; omega
      have hi0 : (0 : Int) ≤ (i : Int) := by omega
      obtain ⟨z, hzi⟩ : ∃ z, Z[i]? = some z := ⟨Z[i]'(by have := HNN.out; omega), List.getElem?_eq_getElem _⟩
      obtain ⟨a, rfl, hac⟩ := ints_cellF HZ.out hzi
      have hcell := hac wr HI.out.b
      obtain ⟨s, hs⟩ : ∃ s, s = leafSU z := ⟨_, rfl⟩
      have CL : Hid (∀ w3, Calls Tryd.prog 48 #[.int .i64 z] w3 fun e w' => e = .returned (.string s) ∧ Below w3.heap.size w3 w') := Lib.hid (fun w3 => by rw [hs]; exact leafU_any z w3)
      have HTK : Hid (numT Z (i + 1) = numT Z i ++ [s]) := Lib.hid (by unfold numT; rw [List.take_add_one, hzi, hs, List.map_append]; rfl)
      have HONE : Hid (∀ u ∈ [Value.string s], u.oneCell' = true) := Lib.hid (fun u hu => by rw [List.mem_singleton.1 hu]; rfl)
      have hl1 : (i + 1) * 16 ≤ 140737488355328 := by omega
      have hl2 : i + 1 ≤ 140737488355328 := by omega
      have HLT := Lib.hid hlt
      clear hlt hs hzi hac
      go_wp2_with (first
        | (go_at_call 48; with_reducible refine (CL.out _).mono ?_; rintro o w4 ⟨rfl, hb4⟩; have HI4 := Lib.hid (HI.out.below hb4); have HHD := Lib.hid HI4.out.h; clear hb4 hcell)
        | (at_builtin; refine wpList_grew (v := .slice p i c) rfl _ _ rfl Tryd.underlying22 (.string ⟨#[]⟩) 1 info_strT rfl (by decide) [.string s] 1 (by simp [Act.eval]) (by simp [Act.eval]) HHD.out rfl rfl (by decide) HONE.out hl1 hl2 ?_; intro v5 w5 hg5; obtain ⟨p5, c5, rfl, _⟩ := hg5.held.cells; have HI5 := Lib.hid (HI4.out.push hg5); clear hg5))
      exact ⟨⟨i + 1, p5, c5, by simp, rfl, HLT.out, Lib.hid (by rw [HTK.out]; exact HI5.out)⟩, by show M - ((i : Int) + 1).toNat < M - (i : Int).toNat; have := HLT.out; omega⟩
    · obtain rfl : i = M := by omega
      go_upto_region 3 with fail
      go_cut [15] from 7 to 15 (fun b wx => b = .bool false ∧ wx = wr)
      case first =>
        by_cases hzz : i < nz
        · have hzi : (i : Int) < (nz : Int) := by omega
          have hz3 : ¬ (i : Int) < (mx : Int) := by have := HNN.out; omega
          clear hzz
          go_wp2_with fail
          go_meet
          exact ⟨rfl, rfl⟩
        · have hzi : ¬ (i : Int) < (nz : Int) := by omega
          clear hzz
          go_wp2_with fail
          go_meet
          exact ⟨rfl, rfl⟩
      case rest =>
        obtain ⟨rfl, hww⟩ := hcut
        subst hww
        clear hlt
        go_wp2_with fail
        go_ret
        exact ⟨_, rfl, HI.out⟩
end Go.Proofs.YtdbghgpohdijfaaDoor
/- scrivenerlaw5: the same lists? -/
namespace Go.Proofs.YtdbghgpohdijfaaDoor
open Go.RowKit Go.Scr
set_option linter.unusedVariables false
theorem textW_ne {a b : ByteArray} (h : a ≠ b) : (a.toList == b.toList) = false := by
  refine beq_eq_false_iff_ne.2 fun h2 => h ?_
  rw [ByteArray.toList_eq, ByteArray.toList_eq] at h2
  exact ByteArray.ext (Array.toList_inj.mp h2)
theorem textW_same (a : ByteArray) : (a.toList == a.toList) = true := beq_self_eq_true _
set_option maxRecDepth 100000 in
set_option maxHeartbeats 1000000 in
theorem sameW_any (v v2 : Value) (L M : List ByteArray) (w : World) (hv : Txts w v L) (hv2 : Txts w v2 M) (hl : L.length ≤ 1048576) (hl2 : M.length ≤ 1048576) :
    Calls Tryd.prog 25 #[v, v2] w fun e w' => e = .returned (.bool (decide (L = M))) ∧ Below w.heap.size w w' := by
  obtain ⟨p, c, rfl, hv1, hv2', hv3⟩ := hv
  obtain ⟨p2, c2, rfl, hw1, hw2', hw3⟩ := hv2
  obtain ⟨n, hn⟩ : ∃ n, n = L.length := ⟨_, rfl⟩
  obtain ⟨m, hm⟩ : ∃ m, m = M.length := ⟨_, rfl⟩
  rw [← hn] at hv1 hl ⊢
  rw [← hm] at hw1 hl2 ⊢
  have HNL := Lib.hid hn
  have HML := Lib.hid hm
  have HP := Lib.hid hv3
  have HP2 := Lib.hid hw3
  clear hn hm hv1 hv2' hv3 hw1 hw2' hw3
  by_cases hnm : n = m
  · have HNM := Lib.hid hnm
    have e0 : ((n : Int) == (m : Int)) = true := beq_iff_eq.2 (by omega)
    clear hnm
    go_enter Tryd.func25, Tryd.ntmps25
    go_wp2
    go_loopw [5] (fun q wr => ∃ i : Nat, i ≤ n ∧ q = .int .i64 i ∧ Hid (∀ j, j < i → L[j]? = M[j]?) ∧ Below w.heap.size w wr) (fun q _ => n - (intOf q).toNat)
    case atStart => exact ⟨0, by omega, rfl, Lib.hid (fun j h => absurd h (by omega)), Below.refl _ _⟩
    case round =>
      obtain ⟨i, hi, rfl, hinv, hbel⟩ := hrel
      have HBEL := Lib.hid hbel
      have HINV := Lib.hid hinv.out
      clear hbel hinv
      by_cases hlt : i < n
      · have hl8 : (i : Int) < (n : Int) := by omega
        have him : (i : Int) < (m : Int) := by have := HNM.out; omega
        obtain ⟨s, hs⟩ : ∃ s, L[i]? = some s := ⟨L[i]'(by rw [← HNL.out]; exact hlt), List.getElem?_eq_getElem _⟩
        obtain ⟨t, ht⟩ : ∃ s, M[i]? = some s := ⟨M[i]'(by rw [← HML.out, ← HNM.out]; exact hlt), List.getElem?_eq_getElem _⟩
        obtain ⟨a, rfl, hc⟩ := HP.out i s hs
        obtain ⟨b, rfl, hd⟩ := HP2.out i t ht
        have hcell1 : wr.cell? (a.add i) = some (.string s) := (HBEL.out.cell (block_lt_of_cell hc)).trans hc
        have hcell2 : wr.cell? (b.add i) = some (.string t) := (HBEL.out.cell (block_lt_of_cell hd)).trans hd
        have HS := Lib.hid hs
        have HT := Lib.hid ht
        clear hs ht hc hd
        by_cases hst : s = t
        · have e1 : (s.toList == t.toList) = true := by rw [hst]; exact textW_same _
          have HST := Lib.hid hst
          clear hst
          go_upto_region 6 with fail
          go_quiet (fail)
          have HBEL2 : Hid (Below w.heap.size w (wr.drewN nq)) := below_drewN HBEL.out nq
          generalize wr.drewN nq = wx at *
          go_wp2_with fail
          refine ⟨⟨i + 1, by omega, rfl, Lib.hid (fun j hj => ?_), HBEL2.out⟩, (by show n - ((i : Int) + 1).toNat < n - (i : Int).toNat; omega)⟩
          rcases Nat.lt_or_ge j i with h1 | h1
          · exact HINV.out j h1
          · have : j = i := by omega
            subst this
            rw [HS.out, HT.out, HST.out]
        · have e1 : (s.toList == t.toList) = false := textW_ne hst
          have HST := Lib.hid hst
          clear hst
          go_upto_region 6 with fail
          go_quiet (fail)
          have HBEL2 : Hid (Below w.heap.size w (wr.drewN nq)) := below_drewN HBEL.out nq
          generalize wr.drewN nq = wx at *
          go_wp2_with fail
          go_ret
          have hd : decide (L = M) = false := decide_eq_false (by
            intro he
            have h1 := HS.out
            rw [he, HT.out] at h1
            exact HST.out (Option.some.inj h1).symm)
          exact ⟨by rw [hd]; rfl, HBEL2.out⟩
      · have hl8 : ¬ ((i : Int) < (n : Int)) := by omega
        go_wp2_with fail
        go_ret
        have hd : decide (L = M) = true := decide_eq_true (by
          refine List.ext_getElem? fun j => ?_
          rcases Nat.lt_or_ge j i with h1 | h1
          · exact HINV.out j h1
          · rw [List.getElem?_eq_none (by have := HNL.out; omega), List.getElem?_eq_none (by have := HML.out; have := HNM.out; omega)])
        exact ⟨by rw [hd]; rfl, HBEL.out⟩
  · have e0 : ((n : Int) == (m : Int)) = false := beq_eq_false_iff_ne.2 (by omega)
    have e1 : decide (L = M) = false := decide_eq_false (by intro h; apply hnm; rw [HNL.out, HML.out, h])
    rw [e1]
    clear hnm e1
    go_enter Tryd.func25, Tryd.ntmps25
    go_wp2
    go_ret
    exact ⟨rfl, Below.refl _ _⟩
end Go.Proofs.YtdbghgpohdijfaaDoor
