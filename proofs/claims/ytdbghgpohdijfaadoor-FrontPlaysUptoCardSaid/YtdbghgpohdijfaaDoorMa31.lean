/- Law 5: which of n things, a leaf, numbered leaves. -/
import Derived.Test.YtdbghgpohdijfaaDoorMa29
import Derived.Test.YtdbghgpohdijfaaDoorMa30
import Derived.Test.YtdbghgpohdijfaaDoorMa12
import Derived.Deep.CutBlock
import Derived.BigQuiet
import Derived.LoopTactic
namespace Go.Proofs.YtdbghgpohdijfaaDoor
open Go.RowKit Go.Scr Go.ChangeMaps Go.MapKept
set_option linter.unusedVariables false
set_option maxRecDepth 100000 in
set_option maxHeartbeats 400000 in
theorem pickU_any (c : Int) (n : Nat) (w : World) (hn : 0 < n) (hn2 : n ≤ 9223372036854775807) (hc : -9223372036854775808 ≤ c ∧ c ≤ 9223372036854775807) :
    Calls Tryd.prog 49 #[.int .i64 c, .int .i64 n] w fun e w' => e = .returned (.int .i64 ((pickN c n : Nat) : Int)) ∧ w' = w := by
  have hn0 : ¬ ((n : Int) = 0) := by omega
  obtain ⟨m, hm⟩ : ∃ m, m = pickN c n := ⟨_, rfl⟩
  rw [← hm]
  by_cases h : c < 0
  · obtain ⟨k, hk⟩ : ∃ k : Nat, (k : Int) = -(c + 1) := ⟨(-(c + 1)).toNat, by omega⟩
    have e1 : -(c + 1) = (k : Int) := hk.symm
    have hkm : m = k % n := by rw [hm]; unfold pickN; rw [if_pos h, ← hk]; rfl
    have e2 : (k : Int).tmod (n : Int) = (m : Int) := by rw [Int.tmod_eq_emod_of_nonneg (Int.natCast_nonneg _), hkm]; rfl
    have hk2 : k ≤ 9223372036854775807 := by omega
    clear hm hk hkm
    go_enter Tryd.func49, Tryd.ntmps49
    go_wp2
    go_ret
    exact ⟨rfl, rfl⟩
  · obtain ⟨k, hk⟩ : ∃ k : Nat, (k : Int) = c := ⟨c.toNat, by omega⟩
    have hkm : m = k % n := by rw [hm]; unfold pickN; rw [if_neg h, ← hk]; rfl
    subst hk
    have e2 : (k : Int).tmod (n : Int) = (m : Int) := by rw [Int.tmod_eq_emod_of_nonneg (Int.natCast_nonneg _), hkm]; rfl
    have h' : ¬ ((k : Int) < 0) := by omega
    clear hm hkm
    go_enter Tryd.func49, Tryd.ntmps49
    go_wp2
    go_ret
    exact ⟨rfl, rfl⟩
theorem byte_intU (c : Int) : c % 256 = ((UInt8.ofNat (c % 256).toNat).toNat : Int) := by
  have h1 : 0 ≤ c % 256 := Int.emod_nonneg _ (by decide)
  have h2 : c % 256 < 256 := Int.emod_lt_of_pos _ (by decide)
  rw [UInt8.toNat_ofNat', Nat.mod_eq_of_lt (by omega)]
  omega
theorem step_belowRU {B : Nat} {w : World} {g i : Nat} (u : Value) (hB : B ≤ g) (hBw : B ≤ w.heap.size) : Below B w (w.setCell ⟨g, i, none⟩ u) := below_only (Below.refl B w) (only_setCell (p := ⟨g, i, none⟩) (only_refl w (some g)) (Or.inl rfl) u) hBw hB
def leafLU (c : Int) : List UInt8 := ((List.replicate 32 (0 : UInt8)).set 0 (UInt8.ofNat (c % 256).toNat)).set 31 (UInt8.ofNat (c / 256 % 256).toNat)
def leafSU (c : Int) : ByteArray := str (leafLU c)
theorem leafSU_size (c : Int) : (leafSU c).size = 32 := by unfold leafSU; rw [str_size]; simp [leafLU]
theorem bytesV_setU (l : List UInt8) (i : Nat) (a : UInt8) : ((bytesV l).toArray).setIfInBounds i (.int .u8 (a.toNat : Int)) = (bytesV (l.set i a)).toArray := by
  unfold bytesV
  simp [List.map_set]

def made32bU : Array Value := madeCells #[Value.int .u8 0] 32
theorem made32bU_eq : made32bU = (bytesV (List.replicate 32 0)).toArray := madeCells_bytes 32
set_option maxRecDepth 100000 in
set_option maxHeartbeats 1000000 in
theorem leafU_any (c : Int) (w : World) :
    Calls Tryd.prog 48 #[.int .i64 c] w fun e w' => e = .returned (.string (leafSU c)) ∧ Below w.heap.size w w' := by
  obtain ⟨a, ha⟩ : ∃ a : UInt8, a = UInt8.ofNat (c % 256).toNat := ⟨_, rfl⟩
  obtain ⟨b, hb⟩ : ∃ b : UInt8, b = UInt8.ofNat (c / 256 % 256).toNat := ⟨_, rfl⟩
  have e1 : c % 256 = (a.toNat : Int) := by rw [ha]; exact byte_intU c
  obtain ⟨d, hd⟩ : ∃ d, d = c / 256 := ⟨_, rfl⟩
  have e2 : d % 256 = (b.toNat : Int) := by rw [hb, hd]; exact byte_intU _
  have HS := Lib.hid (by unfold leafSU leafLU; rw [← ha, ← hb] : leafSU c = str (((List.replicate 32 (0 : UInt8)).set 0 a).set 31 b))
  have hmk : (Instr.makeSlice 135 (.int .i64 32) (.int .i64 32)).run Tryd.prog w = .ok (.slice (some ⟨w.heap.size, 0, none⟩) 32 32) (w.alloc (.cells made32bU 5)) := make_bytes (P := Tryd.prog) 135 5 Tryd.underlying135 info_u8 32 32 (by omega) (by omega) w
  have hd2 := hd.symm
  clear ha hb hd
  go_enter Tryd.func48, Tryd.ntmps48
  go_upto_region 2 with fail
  obtain ⟨l0, hl0⟩ : ∃ l0, l0 = List.replicate 32 (0 : UInt8) := ⟨_, rfl⟩
  have HL0 := Lib.hid hl0
  have hb0 : (w.alloc (.cells made32bU 5)).heap[w.heap.size]? = some (.cells (bytesV l0).toArray 5 (0, 0)) := by rw [hl0, ← made32bU_eq]; exact heap_alloc_new w _
  have hbel : Below w.heap.size w (w.alloc (.cells made32bU 5)) := (Below.refl _ _).alloc (Nat.le_refl _) _
  have hsz : w.heap.size ≤ (w.alloc (.cells made32bU 5)).heap.size := by simp
  have hl32 : l0.length = 32 := by rw [hl0]; simp
  clear hmk hl0
  obtain ⟨g, hg⟩ : ∃ g, g = w.heap.size := ⟨_, rfl⟩
  rw [← hg] at hb0 hbel hsz
  rw [← hg]
  have HG := Lib.hid hg
  generalize w.alloc (.cells made32bU 5) = w1 at hb0 hbel hsz ⊢
  have hc0 : w1.cell? ⟨g, 0, none⟩ = some (.int .u8 ((l0[0]'(by omega)).toNat : Int)) := by rw [cell_of_row w1 g 0 _ _ _ hb0]; simp [bytesV, hl32]
  have hf0 := frozen_of_row w1 g 0 _ _ hb0
  have hb1 : (w1.setCell ⟨g, 0, none⟩ (.int .u8 (a.toNat : Int))).heap[g]? = some (.cells (bytesV (l0.set 0 a)).toArray 5 (0, 0)) := by rw [← bytesV_setU]; exact blk_set hb0 0 _
  have HB1 := Lib.hid hb1
  have HBEL1 := Lib.hid (hbel.trans (step_belowRU (g := g) (i := 0) (.int .u8 (a.toNat : Int)) (Nat.le_refl g) hsz))
  clear hb1 hg
  go_upto_region 3 with fail
  clear hc0 hf0 e1 hbel hb0
  have hsz2 : g ≤ (w1.setCell ⟨g, 0, none⟩ (.int .u8 (a.toNat : Int))).heap.size := by simpa using hsz
  generalize w1.setCell ⟨g, 0, none⟩ (.int .u8 (a.toNat : Int)) = w2 at HB1 HBEL1 hsz2 ⊢
  have hc1 : w2.cell? ⟨g, 31, none⟩ = some (.int .u8 (((l0.set 0 a)[31]'(by simp; omega)).toNat : Int)) := by rw [cell_of_row w2 g 31 _ _ _ HB1.out]; simp [bytesV, hl32]
  have hf1 := frozen_of_row w2 g 31 _ _ HB1.out
  have hb2 : (w2.setCell ⟨g, 31, none⟩ (.int .u8 (b.toNat : Int))).heap[g]? = some (.cells (bytesV ((l0.set 0 a).set 31 b)).toArray 5 (0, 0)) := by rw [← bytesV_setU]; exact blk_set HB1.out 31 _
  have HB2 := Lib.hid hb2
  have HBEL2 := Lib.hid (HBEL1.out.trans (step_belowRU (g := g) (i := 31) (.int .u8 (b.toNat : Int)) (Nat.le_refl g) hsz2))
  have hcv := own_string (P := Tryd.prog) (D := 9) (S := 135) (c := 32) Tryd.underlying135 und_u8 und_string (own_of_blk (n := 32) HB2.out (by simp [hl32]) (by simp [hl32]))
  clear hb2
  go_wp2
  go_ret
  exact ⟨by rw [HS.out, ← HL0.out]; rfl, by rw [← HG.out]; exact HBEL2.out⟩
theorem partL_pairF {a b : ByteArray} : partL [a, b] 0 2 = nodeS a b := by
  rw [partL_two (m := 1) (by decide) (by simp) (spl_of (n := 2 - 0) (i := 0) (by decide) (by decide)).symm]
  unfold partL
  simp only [List.drop_succ_cons, List.drop_zero, List.take_succ_cons, List.take_zero, Nat.zero_add, Nat.sub_zero, Nat.reduceSub]
  rw [show rootR [a] = a from rootL_one _ _ _, show rootR [b] = b from rootL_one _ _ _]
end Go.Proofs.YtdbghgpohdijfaaDoor
/- scrivenerlaw5: the same lists? -/
namespace Go.Proofs.YtdbghgpohdijfaaDoor
open Go.RowKit Go.Scr
set_option linter.unusedVariables false
end Go.Proofs.YtdbghgpohdijfaaDoor
