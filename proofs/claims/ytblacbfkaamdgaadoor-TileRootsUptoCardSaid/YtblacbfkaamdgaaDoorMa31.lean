/- Law 7: which of n things, a leaf, a tree with leaves. -/
import Derived.Test.YtblacbfkaamdgaaDoorMa26
import Derived.Test.YtblacbfkaamdgaaDoorMa12
namespace Go.Proofs.YtblacbfkaamdgaaDoor
open Go.RowKit Go.Scr Go.ChangeMaps Go.MapKept
set_option linter.unusedVariables false
set_option maxRecDepth 100000 in
set_option maxHeartbeats 400000 in
theorem pickU_any (c : Int) (n : Nat) (w : World) (hn : 0 < n) (hn2 : n ≤ 9223372036854775807) (hc : -9223372036854775808 ≤ c ∧ c ≤ 9223372036854775807) :
    Calls Tryd.prog 17 #[.int .i64 c, .int .i64 n] w fun e w' => e = .returned (.int .i64 ((pickN c n : Nat) : Int)) ∧ w' = w := by
  have hn0 : ¬ ((n : Int) = 0) := by omega
  obtain ⟨m, hm⟩ : ∃ m, m = pickN c n := ⟨_, rfl⟩
  rw [← hm]
  by_cases h : c < 0
  · obtain ⟨k, hk⟩ : ∃ k : Nat, (k : Int) = -(c + 1) := ⟨(-(c + 1)).toNat, by omega⟩
    have e1 : -(c + 1) = (k : Int) := hk.symm
    have hkm : m = k % n := by rw [hm]; unfold pickN; rw [if_pos h, ← hk]; rfl
    have e2 : (k : Int).tmod (n : Int) = (m : Int) := by rw [Int.tmod_eq_emod_of_nonneg (Int.natCast_nonneg _), hkm]; rfl
    have hk2 : k ≤ 9223372036854775807 := by omega
    clear hm hk hkm
    go_enter Tryd.func17, Tryd.ntmps17
    go_wp2
    go_ret
    exact ⟨rfl, rfl⟩
  · obtain ⟨k, hk⟩ : ∃ k : Nat, (k : Int) = c := ⟨c.toNat, by omega⟩
    have hkm : m = k % n := by rw [hm]; unfold pickN; rw [if_neg h, ← hk]; rfl
    subst hk
    have e2 : (k : Int).tmod (n : Int) = (m : Int) := by rw [Int.tmod_eq_emod_of_nonneg (Int.natCast_nonneg _), hkm]; rfl
    have h' : ¬ ((k : Int) < 0) := by omega
    clear hm hkm
    go_enter Tryd.func17, Tryd.ntmps17
    go_wp2
    go_ret
    exact ⟨rfl, rfl⟩
theorem byte_intU (c : Int) : c % 256 = ((UInt8.ofNat (c % 256).toNat).toNat : Int) := by
  have h1 : 0 ≤ c % 256 := Int.emod_nonneg _ (by decide)
  have h2 : c % 256 < 256 := Int.emod_lt_of_pos _ (by decide)
  rw [UInt8.toNat_ofNat', Nat.mod_eq_of_lt (by omega)]
  omega
theorem step_belowRU {B : Nat} {w : World} {g i : Nat} (u : Value) (hB : B ≤ g) (hBw : B ≤ w.heap.size) : Below B w (w.setCell ⟨g, i, none⟩ u) := below_only (Below.refl B w) (only_setCell (p := ⟨g, i, none⟩) (only_refl w (some g)) (Or.inl rfl) u) hBw hB
def leafLU (c : Int) : List UInt8 := ((List.replicate 32 (0 : UInt8)).set 0 (UInt8.ofNat (c % 256).toNat)).set 31 (UInt8.ofNat (c / 256 % 256).toNat)
def leafSU (c : Int) : ByteArray := str (leafLU c)
theorem leafSU_size (c : Int) : (leafSU c).size = 32 := by unfold leafSU; rw [str_size]; simp [leafLU]
theorem bytesV_setU (l : List UInt8) (i : Nat) (a : UInt8) : ((bytesV l).toArray).setIfInBounds i (.int .u8 (a.toNat : Int)) = (bytesV (l.set i a)).toArray := by
  unfold bytesV
  simp [List.map_set]

def made32bU : Array Value := madeCells #[Value.int .u8 0] 32
theorem made32bU_eq : made32bU = (bytesV (List.replicate 32 0)).toArray := madeCells_bytes 32
set_option maxRecDepth 100000 in
set_option maxHeartbeats 1000000 in
theorem leafU_any (c : Int) (w : World) :
    Calls Tryd.prog 25 #[.int .i64 c] w fun e w' => e = .returned (.string (leafSU c)) ∧ Below w.heap.size w w' := by
  obtain ⟨a, ha⟩ : ∃ a : UInt8, a = UInt8.ofNat (c % 256).toNat := ⟨_, rfl⟩
  obtain ⟨b, hb⟩ : ∃ b : UInt8, b = UInt8.ofNat (c / 256 % 256).toNat := ⟨_, rfl⟩
  have e1 : c % 256 = (a.toNat : Int) := by rw [ha]; exact byte_intU c
  obtain ⟨d, hd⟩ : ∃ d, d = c / 256 := ⟨_, rfl⟩
  have e2 : d % 256 = (b.toNat : Int) := by rw [hb, hd]; exact byte_intU _
  have HS := Lib.hid (by unfold leafSU leafLU; rw [← ha, ← hb] : leafSU c = str (((List.replicate 32 (0 : UInt8)).set 0 a).set 31 b))
  have hmk : (Instr.makeSlice 106 (.int .i64 32) (.int .i64 32)).run Tryd.prog w = .ok (.slice (some ⟨w.heap.size, 0, none⟩) 32 32) (w.alloc (.cells made32bU 5)) := make_bytes (P := Tryd.prog) 106 5 Tryd.underlying106 info_u8 32 32 (by omega) (by omega) w
  have hd2 := hd.symm
  clear ha hb hd
  go_enter Tryd.func25, Tryd.ntmps25
  go_upto_region 2 with fail
  obtain ⟨l0, hl0⟩ : ∃ l0, l0 = List.replicate 32 (0 : UInt8) := ⟨_, rfl⟩
  have HL0 := Lib.hid hl0
  have hb0 : (w.alloc (.cells made32bU 5)).heap[w.heap.size]? = some (.cells (bytesV l0).toArray 5 (0, 0)) := by rw [hl0, ← made32bU_eq]; exact heap_alloc_new w _
  have hbel : Below w.heap.size w (w.alloc (.cells made32bU 5)) := (Below.refl _ _).alloc (Nat.le_refl _) _
  have hsz : w.heap.size ≤ (w.alloc (.cells made32bU 5)).heap.size := by simp
  have hl32 : l0.length = 32 := by rw [hl0]; simp
  clear hmk hl0
  obtain ⟨g, hg⟩ : ∃ g, g = w.heap.size := ⟨_, rfl⟩
  rw [← hg] at hb0 hbel hsz
  rw [← hg]
  have HG := Lib.hid hg
  generalize w.alloc (.cells made32bU 5) = w1 at hb0 hbel hsz ⊢
  have hc0 : w1.cell? ⟨g, 0, none⟩ = some (.int .u8 ((l0[0]'(by omega)).toNat : Int)) := by rw [cell_of_row w1 g 0 _ _ _ hb0]; simp [bytesV, hl32]
  have hf0 := frozen_of_row w1 g 0 _ _ hb0
  have hb1 : (w1.setCell ⟨g, 0, none⟩ (.int .u8 (a.toNat : Int))).heap[g]? = some (.cells (bytesV (l0.set 0 a)).toArray 5 (0, 0)) := by rw [← bytesV_setU]; exact blk_set hb0 0 _
  have HB1 := Lib.hid hb1
  have HBEL1 := Lib.hid (hbel.trans (step_belowRU (g := g) (i := 0) (.int .u8 (a.toNat : Int)) (Nat.le_refl g) hsz))
  clear hb1 hg
  go_upto_region 3 with fail
  clear hc0 hf0 e1 hbel hb0
  have hsz2 : g ≤ (w1.setCell ⟨g, 0, none⟩ (.int .u8 (a.toNat : Int))).heap.size := by simpa using hsz
  generalize w1.setCell ⟨g, 0, none⟩ (.int .u8 (a.toNat : Int)) = w2 at HB1 HBEL1 hsz2 ⊢
  have hc1 : w2.cell? ⟨g, 31, none⟩ = some (.int .u8 (((l0.set 0 a)[31]'(by simp; omega)).toNat : Int)) := by rw [cell_of_row w2 g 31 _ _ _ HB1.out]; simp [bytesV, hl32]
  have hf1 := frozen_of_row w2 g 31 _ _ HB1.out
  have hb2 : (w2.setCell ⟨g, 31, none⟩ (.int .u8 (b.toNat : Int))).heap[g]? = some (.cells (bytesV ((l0.set 0 a).set 31 b)).toArray 5 (0, 0)) := by rw [← bytesV_setU]; exact blk_set HB1.out 31 _
  have HB2 := Lib.hid hb2
  have HBEL2 := Lib.hid (HBEL1.out.trans (step_belowRU (g := g) (i := 31) (.int .u8 (b.toNat : Int)) (Nat.le_refl g) hsz2))
  have hcv := own_string (P := Tryd.prog) (D := 9) (S := 106) (c := 32) Tryd.underlying106 und_u8 und_string (own_of_blk (n := 32) HB2.out (by simp [hl32]) (by simp [hl32]))
  clear hb2
  go_wp2
  go_ret
  exact ⟨by rw [HS.out, ← HL0.out]; rfl, by rw [← HG.out]; exact HBEL2.out⟩
structure FiI (w wr : World) (B tb h : Nat) (Z : List Int) (i : Nat) : Prop where
  b : Below w.heap.size w wr
  t : ∃ col, TreeU wr B tb h ((Z.take i).map leafSU) col ∧ ∀ g, col g ≠ none → w.heap.size ≤ g
set_option maxRecDepth 100000 in
set_option maxHeartbeats 4000000 in
theorem filledU_any {w : World} {B mx : Nat} (hmx : mx ≤ 600) {c : Int} {v : Value} {Z : List Int} (hB : Bas w B) (hz : Ints w v Z) (hc : -9223372036854775808 ≤ c ∧ c ≤ 9223372036854775807) :
    Calls Tryd.prog 10 #[.int .i64 c, v, .int .i64 (mx : Int)] w fun o w' => ∃ tb, o = .returned (bpT tb) ∧ FiI w w' B tb (1 + pickN c 8) Z (min Z.length mx) := by
  have hp8 : pickN c 8 < 8 := by unfold pickN; split <;> exact Nat.mod_lt _ (by decide)
  have hz0 := hz
  obtain ⟨p, cp, rfl, hz1, hz2, hz3, hz4⟩ := hz
  obtain ⟨m, hm⟩ : ∃ m, m = pickN c 8 := ⟨_, rfl⟩
  have CP := Lib.hid (pickU_any c 8 w (by decide) (by decide) hc)
  rw [← hm] at CP hp8 ⊢
  have CN : Hid (Calls Tryd.prog 16 #[.int .i64 (1 + (m : Int))] w fun o w' => ∃ tb col, o = .returned (.tuple #[bpT tb, .int .i64 0]) ∧ TreeU w' B tb (1 + m) [] col ∧ Below w.heap.size w w' ∧ (∀ g, col g ≠ none → w.heap.size ≤ g)) := Lib.hid (by
    have := tnew_any (w := w) (B := B) (h := 1 + m) hB.le (by omega)
    rwa [show ((1 + m : Nat) : Int) = 1 + (m : Int) by omega] at this)
  have HZ : Hid (Ints w (.slice p Z.length cp) Z ∧ Bas w B) := Lib.hid ⟨hz0, hB⟩
  obtain ⟨n, hn⟩ : ∃ n, n = Z.length := ⟨_, rfl⟩
  obtain ⟨M, hM⟩ : ∃ M, M = min Z.length mx := ⟨_, rfl⟩
  have HN : Hid (n = Z.length ∧ M = min Z.length mx ∧ M ≤ n ∧ M ≤ mx) := Lib.hid ⟨hn, hM, by omega, by omega⟩
  rw [← hM]
  rw [← hn]
  rw [← hn] at hz2
  clear hz0 hz1 hz3 hz4 hc hm hB hn hM
  go_enter Tryd.func10, Tryd.ntmps10
  go_wp2_with (first
    | (go_at_call 17; refine CP.out.mono ?_; rintro o w' ⟨rfl, hww⟩; replace hww := hww.symm; subst hww)
    | (go_at_call 16; refine CN.out.mono ?_; rintro o w1 ⟨tb, col0, rfl, ht, hb, hl⟩; have HI0 : Hid (FiI w w1 B tb (1 + m) Z 0) := Lib.hid ⟨hb, col0, ht, hl⟩; clear ht hb hl))
  go_loopw [9] (fun k wr => ∃ i : Nat, k = .int .i64 (i : Int) ∧ i ≤ M ∧ Hid (FiI w wr B tb (1 + m) Z i)) (fun k _ => M - (intOf k).toNat)
  case atStart => exact ⟨0, rfl, Nat.zero_le _, HI0⟩
  case round =>
    clear HI0
    obtain ⟨i, rfl, hi, HI⟩ := hrel
    by_cases hlt : i < M
    · have hin : (i : Int) < (n : Int) := by have := HN.out; omega
      have hi3 : (i : Int) < (mx : Int) := by have := HN.out; omega
      have hi0 : (0 : Int) ≤ (i : Int) := by omega
      obtain ⟨z, hx⟩ : ∃ z, Z[i]? = some z := ⟨Z[i]'(by have := HN.out; omega), List.getElem?_eq_getElem _⟩
      have hzi := ints_belowHK HZ.out.1 HI.out.b (Nat.le_refl _)
      obtain ⟨p', c', hpe, _, _, _, hq⟩ := hzi
      cases hpe
      obtain ⟨a, rfl, hcell⟩ := hq i z hx
      have CL := Lib.hid (leafU_any z)
      have CA : Hid (∀ w3, Below wr.heap.size wr w3 → Calls Tryd.prog 26 #[bpT tb, .string (leafSU z)] w3 fun o w' => o = .returned (.int .i64 0) ∧ FiI w w' B tb (1 + m) Z (i + 1)) := Lib.hid (fun w3 hb3 => by
        obtain ⟨hb, col, t, hl⟩ := HI.out
        have hb4 := hb.trans (hb3.mono hb.size)
        have hlen : ((Z.take i).map leafSU).length = i := by rw [List.length_map, List.length_take]; have := HN.out; omega
        refine (add_any (x := leafSU z) (t.below hb3) (HZ.out.2.below (hb4.mono HZ.out.2.le)) (leafSU_size z) (by rw [hlen]; have := HN.out; omega)).mono ?_
        rintro o w' ⟨rfl, col', t', hc', hq'⟩
        have hs := hb.size
        have hs3 := hb3.size
        refine ⟨rfl, hb4.trans (hc'.low hl hb4.size), col', ?_, low_of' hl hb4.size hq'⟩
        rw [List.take_add_one, hx, List.map_append]
        exact t')
      have HLT := Lib.hid hlt
      clear hx hlt hq
      go_wp2_with (first
        | (go_at_call 25; refine (CL.out _).mono ?_; rintro o w3 ⟨rfl, hb3⟩; have HB3 := Lib.hid hb3; clear hb3)
        | (go_at_call 26; refine (CA.out _ HB3.out).mono ?_; rintro o w4 ⟨rfl, hf⟩; have HF := Lib.hid hf; clear hf))
      exact ⟨⟨i + 1, by simp, HLT.out, HF⟩, by show M - ((i : Int) + 1).toNat < M - (i : Int).toNat; have := HLT.out; omega⟩
    · obtain rfl : i = M := by omega
      clear hlt hi
      by_cases hn3 : n ≤ mx
      · have hni : ¬ (i : Int) < (n : Int) := by have := HN.out; omega
        clear hn3
        go_wp2_with fail
        go_ret
        exact ⟨tb, rfl, HI.out⟩
      · have hni : (i : Int) < (n : Int) := by have := HN.out; omega
        have hi3 : (i : Int) = (mx : Int) := by have := HN.out; omega
        have hi4 : ¬ (i : Int) < (mx : Int) := by omega
        clear hn3 hi3
        go_wp2_with fail
        go_ret
        exact ⟨tb, rfl, HI.out⟩
end Go.Proofs.YtblacbfkaamdgaaDoor
