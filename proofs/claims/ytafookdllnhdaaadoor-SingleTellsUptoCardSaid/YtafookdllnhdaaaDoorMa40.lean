/- Law 11: which of n things, a leaf, a tree with leaves. -/
import Derived.Test.YtafookdllnhdaaaDoorMa26
import Derived.Test.YtafookdllnhdaaaDoorMa12
namespace Go.Proofs.YtafookdllnhdaaaDoor
open Go.RowKit Go.Scr Go.ChangeMaps Go.MapKept
set_option linter.unusedVariables false
set_option maxRecDepth 100000 in
set_option maxHeartbeats 400000 in
theorem pickU_any (c : Int) (n : Nat) (w : World) (hn : 0 < n) (hn2 : n ≤ 9223372036854775807) (hc : -9223372036854775808 ≤ c ∧ c ≤ 9223372036854775807) :
    Calls Tryd.prog 49 #[.int .i64 c, .int .i64 n] w fun e w' => e = .returned (.int .i64 ((pickN c n : Nat) : Int)) ∧ w' = w := by
  have hn0 : ¬ ((n : Int) = 0) := by omega
  obtain ⟨m, hm⟩ : ∃ m, m = pickN c n := ⟨_, rfl⟩
  rw [← hm]
  by_cases h : c < 0
  · obtain ⟨k, hk⟩ : ∃ k : Nat, (k : Int) = -(c + 1) := ⟨(-(c + 1)).toNat, by omega⟩
    have e1 : -(c + 1) = (k : Int) := hk.symm
    have hkm : m = k % n := by rw [hm]; unfold pickN; rw [if_pos h, ← hk]; rfl
    have e2 : (k : Int).tmod (n : Int) = (m : Int) := by rw [Int.tmod_eq_emod_of_nonneg (Int.natCast_nonneg _), hkm]; rfl
    have hk2 : k ≤ 9223372036854775807 := by omega
    clear hm hk hkm
    go_enter Tryd.func49, Tryd.ntmps49
    go_wp2
    go_ret
    exact ⟨rfl, rfl⟩
  · obtain ⟨k, hk⟩ : ∃ k : Nat, (k : Int) = c := ⟨c.toNat, by omega⟩
    have hkm : m = k % n := by rw [hm]; unfold pickN; rw [if_neg h, ← hk]; rfl
    subst hk
    have e2 : (k : Int).tmod (n : Int) = (m : Int) := by rw [Int.tmod_eq_emod_of_nonneg (Int.natCast_nonneg _), hkm]; rfl
    have h' : ¬ ((k : Int) < 0) := by omega
    clear hm hkm
    go_enter Tryd.func49, Tryd.ntmps49
    go_wp2
    go_ret
    exact ⟨rfl, rfl⟩
theorem byte_intU (c : Int) : c % 256 = ((UInt8.ofNat (c % 256).toNat).toNat : Int) := by
  have h1 : 0 ≤ c % 256 := Int.emod_nonneg _ (by decide)
  have h2 : c % 256 < 256 := Int.emod_lt_of_pos _ (by decide)
  rw [UInt8.toNat_ofNat', Nat.mod_eq_of_lt (by omega)]
  omega
theorem step_belowRU {B : Nat} {w : World} {g i : Nat} (u : Value) (hB : B ≤ g) (hBw : B ≤ w.heap.size) : Below B w (w.setCell ⟨g, i, none⟩ u) := below_only (Below.refl B w) (only_setCell (p := ⟨g, i, none⟩) (only_refl w (some g)) (Or.inl rfl) u) hBw hB
def leafLU (c : Int) : List UInt8 := ((List.replicate 32 (0 : UInt8)).set 0 (UInt8.ofNat (c % 256).toNat)).set 31 (UInt8.ofNat (c / 256 % 256).toNat)
def leafSU (c : Int) : ByteArray := str (leafLU c)
theorem leafSU_size (c : Int) : (leafSU c).size = 32 := by unfold leafSU; rw [str_size]; simp [leafLU]
theorem bytesV_setU (l : List UInt8) (i : Nat) (a : UInt8) : ((bytesV l).toArray).setIfInBounds i (.int .u8 (a.toNat : Int)) = (bytesV (l.set i a)).toArray := by
  unfold bytesV
  simp [List.map_set]

def made32bU : Array Value := madeCells #[Value.int .u8 0] 32
theorem made32bU_eq : made32bU = (bytesV (List.replicate 32 0)).toArray := madeCells_bytes 32
set_option maxRecDepth 100000 in
set_option maxHeartbeats 1000000 in
theorem leafU_any (c : Int) (w : World) :
    Calls Tryd.prog 18 #[.int .i64 c] w fun e w' => e = .returned (.string (leafSU c)) ∧ Below w.heap.size w w' := by
  obtain ⟨a, ha⟩ : ∃ a : UInt8, a = UInt8.ofNat (c % 256).toNat := ⟨_, rfl⟩
  obtain ⟨b, hb⟩ : ∃ b : UInt8, b = UInt8.ofNat (c / 256 % 256).toNat := ⟨_, rfl⟩
  have e1 : c % 256 = (a.toNat : Int) := by rw [ha]; exact byte_intU c
  obtain ⟨d, hd⟩ : ∃ d, d = c / 256 := ⟨_, rfl⟩
  have e2 : d % 256 = (b.toNat : Int) := by rw [hb, hd]; exact byte_intU _
  have HS := Lib.hid (by unfold leafSU leafLU; rw [← ha, ← hb] : leafSU c = str (((List.replicate 32 (0 : UInt8)).set 0 a).set 31 b))
  have hmk : (Instr.makeSlice 82 (.int .i64 32) (.int .i64 32)).run Tryd.prog w = .ok (.slice (some ⟨w.heap.size, 0, none⟩) 32 32) (w.alloc (.cells made32bU 5)) := make_bytes (P := Tryd.prog) 82 5 Tryd.underlying82 info_u8 32 32 (by omega) (by omega) w
  have hd2 := hd.symm
  clear ha hb hd
  go_enter Tryd.func18, Tryd.ntmps18
  go_upto_region 2 with fail
  obtain ⟨l0, hl0⟩ : ∃ l0, l0 = List.replicate 32 (0 : UInt8) := ⟨_, rfl⟩
  have HL0 := Lib.hid hl0
  have hb0 : (w.alloc (.cells made32bU 5)).heap[w.heap.size]? = some (.cells (bytesV l0).toArray 5 (0, 0)) := by rw [hl0, ← made32bU_eq]; exact heap_alloc_new w _
  have hbel : Below w.heap.size w (w.alloc (.cells made32bU 5)) := (Below.refl _ _).alloc (Nat.le_refl _) _
  have hsz : w.heap.size ≤ (w.alloc (.cells made32bU 5)).heap.size := by simp
  have hl32 : l0.length = 32 := by rw [hl0]; simp
  clear hmk hl0
  obtain ⟨g, hg⟩ : ∃ g, g = w.heap.size := ⟨_, rfl⟩
  rw [← hg] at hb0 hbel hsz
  rw [← hg]
  have HG := Lib.hid hg
  generalize w.alloc (.cells made32bU 5) = w1 at hb0 hbel hsz ⊢
  have hc0 : w1.cell? ⟨g, 0, none⟩ = some (.int .u8 ((l0[0]'(by omega)).toNat : Int)) := by rw [cell_of_row w1 g 0 _ _ _ hb0]; simp [bytesV, hl32]
  have hf0 := frozen_of_row w1 g 0 _ _ hb0
  have hb1 : (w1.setCell ⟨g, 0, none⟩ (.int .u8 (a.toNat : Int))).heap[g]? = some (.cells (bytesV (l0.set 0 a)).toArray 5 (0, 0)) := by rw [← bytesV_setU]; exact blk_set hb0 0 _
  have HB1 := Lib.hid hb1
  have HBEL1 := Lib.hid (hbel.trans (step_belowRU (g := g) (i := 0) (.int .u8 (a.toNat : Int)) (Nat.le_refl g) hsz))
  clear hb1 hg
  go_upto_region 3 with fail
  clear hc0 hf0 e1 hbel hb0
  have hsz2 : g ≤ (w1.setCell ⟨g, 0, none⟩ (.int .u8 (a.toNat : Int))).heap.size := by simpa using hsz
  generalize w1.setCell ⟨g, 0, none⟩ (.int .u8 (a.toNat : Int)) = w2 at HB1 HBEL1 hsz2 ⊢
  have hc1 : w2.cell? ⟨g, 31, none⟩ = some (.int .u8 (((l0.set 0 a)[31]'(by simp; omega)).toNat : Int)) := by rw [cell_of_row w2 g 31 _ _ _ HB1.out]; simp [bytesV, hl32]
  have hf1 := frozen_of_row w2 g 31 _ _ HB1.out
  have hb2 : (w2.setCell ⟨g, 31, none⟩ (.int .u8 (b.toNat : Int))).heap[g]? = some (.cells (bytesV ((l0.set 0 a).set 31 b)).toArray 5 (0, 0)) := by rw [← bytesV_setU]; exact blk_set HB1.out 31 _
  have HB2 := Lib.hid hb2
  have HBEL2 := Lib.hid (HBEL1.out.trans (step_belowRU (g := g) (i := 31) (.int .u8 (b.toNat : Int)) (Nat.le_refl g) hsz2))
  have hcv := own_string (P := Tryd.prog) (D := 9) (S := 82) (c := 32) Tryd.underlying82 und_u8 und_string (own_of_blk (n := 32) HB2.out (by simp [hl32]) (by simp [hl32]))
  clear hb2
  go_wp2
  go_ret
  exact ⟨by rw [HS.out, ← HL0.out]; rfl, by rw [← HG.out]; exact HBEL2.out⟩
structure FiI (w wr : World) (B tb h : Nat) (Z : List Int) (i : Nat) : Prop where
  b : Below w.heap.size w wr
  t : ∃ col, TreeU wr B tb h ((Z.take i).map leafSU) col ∧ ∀ g, col g ≠ none → w.heap.size ≤ g
set_option maxRecDepth 100000 in
set_option maxHeartbeats 4000000 in
theorem filledU_any {w : World} {B : Nat} {c : Int} {v : Value} {Z : List Int} (hB : Bas w B) (hz : Ints w v Z) (hc : -9223372036854775808 ≤ c ∧ c ≤ 9223372036854775807) :
    Calls Tryd.prog 16 #[.int .i64 c, v] w fun o w' => ∃ tb, o = .returned (bpT tb) ∧ FiI w w' B tb (1 + pickN c 8) Z (min Z.length 300) := by
  have hp8 : pickN c 8 < 8 := by unfold pickN; split <;> exact Nat.mod_lt _ (by decide)
  have hz0 := hz
  obtain ⟨p, cp, rfl, hz1, hz2, hz3, hz4⟩ := hz
  obtain ⟨m, hm⟩ : ∃ m, m = pickN c 8 := ⟨_, rfl⟩
  have CP := Lib.hid (pickU_any c 8 w (by decide) (by decide) hc)
  rw [← hm] at CP hp8 ⊢
  have CN : Hid (Calls Tryd.prog 6 #[.int .i64 (1 + (m : Int))] w fun o w' => ∃ tb col, o = .returned (.tuple #[bpT tb, .int .i64 0]) ∧ TreeU w' B tb (1 + m) [] col ∧ Below w.heap.size w w' ∧ (∀ g, col g ≠ none → w.heap.size ≤ g)) := Lib.hid (by
    have := tnew_any (w := w) (B := B) (h := 1 + m) hB.le (by omega)
    rwa [show ((1 + m : Nat) : Int) = 1 + (m : Int) by omega] at this)
  have HZ : Hid (Ints w (.slice p Z.length cp) Z ∧ Bas w B) := Lib.hid ⟨hz0, hB⟩
  obtain ⟨n, hn⟩ : ∃ n, n = Z.length := ⟨_, rfl⟩
  obtain ⟨M, hM⟩ : ∃ M, M = min Z.length 300 := ⟨_, rfl⟩
  have HN : Hid (n = Z.length ∧ M = min Z.length 300 ∧ M ≤ n ∧ M ≤ 300) := Lib.hid ⟨hn, hM, by omega, by omega⟩
  rw [← hM]
  rw [← hn]
  rw [← hn] at hz2
  clear hz0 hz1 hz3 hz4 hc hm hB hn hM
  go_enter Tryd.func16, Tryd.ntmps16
  go_wp2_with (first
    | (go_at_call 49; refine CP.out.mono ?_; rintro o w' ⟨rfl, hww⟩; replace hww := hww.symm; subst hww)
    | (go_at_call 6; refine CN.out.mono ?_; rintro o w1 ⟨tb, col0, rfl, ht, hb, hl⟩; have HI0 : Hid (FiI w w1 B tb (1 + m) Z 0) := Lib.hid ⟨hb, col0, ht, hl⟩; clear ht hb hl))
  go_loopw [7] (fun k wr => ∃ i : Nat, k = .int .i64 (i : Int) ∧ i ≤ M ∧ Hid (FiI w wr B tb (1 + m) Z i)) (fun k _ => M - (intOf k).toNat)
  case atStart => exact ⟨0, rfl, Nat.zero_le _, HI0⟩
  case round =>
    clear HI0
    obtain ⟨i, rfl, hi, HI⟩ := hrel
    by_cases hlt : i < M
    · have hin : (i : Int) < (n : Int) := by have := HN.out; omega
      have hi3 : (i : Int) < 300 := by have := HN.out; omega
      have hi0 : (0 : Int) ≤ (i : Int) := by omega
      obtain ⟨z, hx⟩ : ∃ z, Z[i]? = some z := ⟨Z[i]'(by have := HN.out; omega), List.getElem?_eq_getElem _⟩
      have hzi := ints_belowHK HZ.out.1 HI.out.b (Nat.le_refl _)
      obtain ⟨p', c', hpe, _, _, _, hq⟩ := hzi
      cases hpe
      obtain ⟨a, rfl, hcell⟩ := hq i z hx
      have CL := Lib.hid (leafU_any z)
      have CA : Hid (∀ w3, Below wr.heap.size wr w3 → Calls Tryd.prog 19 #[bpT tb, .string (leafSU z)] w3 fun o w' => o = .returned (.int .i64 0) ∧ FiI w w' B tb (1 + m) Z (i + 1)) := Lib.hid (fun w3 hb3 => by
        obtain ⟨hb, col, t, hl⟩ := HI.out
        have hb4 := hb.trans (hb3.mono hb.size)
        have hlen : ((Z.take i).map leafSU).length = i := by rw [List.length_map, List.length_take]; have := HN.out; omega
        refine (add_any (x := leafSU z) (t.below hb3) (HZ.out.2.below (hb4.mono HZ.out.2.le)) (leafSU_size z) (by rw [hlen]; have := HN.out; omega)).mono ?_
        rintro o w' ⟨rfl, col', t', hc', hq'⟩
        have hs := hb.size
        have hs3 := hb3.size
        refine ⟨rfl, hb4.trans (hc'.low hl hb4.size), col', ?_, low_of' hl hb4.size hq'⟩
        rw [List.take_add_one, hx, List.map_append]
        exact t')
      have HLT := Lib.hid hlt
      clear hx hlt hq
      go_wp2_with (first
        | (go_at_call 18; refine (CL.out _).mono ?_; rintro o w3 ⟨rfl, hb3⟩; have HB3 := Lib.hid hb3; clear hb3)
        | (go_at_call 19; refine (CA.out _ HB3.out).mono ?_; rintro o w4 ⟨rfl, hf⟩; have HF := Lib.hid hf; clear hf))
      exact ⟨⟨i + 1, by simp, HLT.out, HF⟩, by show M - ((i : Int) + 1).toNat < M - (i : Int).toNat; have := HLT.out; omega⟩
    · obtain rfl : i = M := by omega
      clear hlt hi
      by_cases hn3 : n ≤ 300
      · have hni : ¬ (i : Int) < (n : Int) := by have := HN.out; omega
        clear hn3
        go_wp2_with fail
        go_ret
        exact ⟨tb, rfl, HI.out⟩
      · have hni : (i : Int) < (n : Int) := by have := HN.out; omega
        have hi3 : (i : Int) = 300 := by have := HN.out; omega
        have hi4 : ¬ (i : Int) < 300 := by omega
        clear hn3 hi3
        go_wp2_with fail
        go_ret
        exact ⟨tb, rfl, HI.out⟩
end Go.Proofs.YtafookdllnhdaaaDoor
/- Law 11: the first calls whose answers are known. -/
namespace Go.Proofs.YtafookdllnhdaaaDoor
open Go.RowKit Go.Scr Go.ChangeMaps Go.MapKept
set_option linter.unusedVariables false
theorem incl_at {w : World} {B tb h N k : Nat} {L : List ByteArray} {col : Col} (t : TreeU w B tb h L col) (hB : Bas w B) (hk : k < N) (hN : N ≤ L.length) (hL : L.length ≤ 4096) :
    Calls Tryd.prog 22 #[bpT tb, .int .i64 (N : Int), .int .i64 (k : Int)] w fun r w' => ∃ v, r = .returned (.tuple #[v, .int .i64 0]) ∧ AlI w w' L (Go.Scr.pathT 0 N k).reverse (Go.Scr.pathT 0 N k).reverse.length v :=
  incl_any t hB hk hN hL rfl (by rw [List.length_reverse]; have := pathT_leK N 0 k; omega) (fun x hx => by have := pathT_fitsK N 0 k x (List.mem_reverse.1 hx); omega)
theorem cons_at {w : World} {B tb h N k : Nat} {L : List ByteArray} {col : Col} (t : TreeU w B tb h L col) (hB : Bas w B) (hk0 : 1 ≤ k) (hk : k ≤ N) (hN : N ≤ L.length) (hL : L.length ≤ 4096) :
    Calls Tryd.prog 23 #[bpT tb, .int .i64 (k : Int), .int .i64 (N : Int)] w fun r w' => ∃ v, r = .returned (.tuple #[v, .int .i64 0]) ∧ AlI w w' L (Go.Scr.proofT 0 N k).reverse (Go.Scr.proofT 0 N k).reverse.length v :=
  cons_any t hB hk0 hk hN hL rfl (by rw [List.length_reverse]; have := proofT_leK N 0 k (by omega) hk; omega) (fun x hx => by have := proofT_fitsK N 0 k (by omega) hk x (List.mem_reverse.1 hx); omega)
theorem spl2 : spl 2 = 1 := spl_two 0
theorem path_two : (Go.Scr.pathT 0 2 0).reverse = [(1, 2)] := by
  rw [pathT_left 0 (by decide) (by rw [spl2]; decide), spl2, pathT_one _ _ (by decide)]; rfl
theorem proof_two : (Go.Scr.proofT 0 2 1).reverse = [(1, 2)] := by
  rw [proofT_left 0 (by decide) (by decide) (by rw [spl2]; decide), spl2, proofT_end]; rfl
theorem part_snd (a b : ByteArray) : partsL [a, b] [(1, 2)] = [b] := by
  unfold partsL partL
  show [rootR [b]] = [b]
  rw [show rootR [b] = b from rootL_one _ _ _]
theorem ints_two (w : World) : Ints (w.alloc (.cells #[.int .i64 1, .int .i64 2] 3)) (.slice (some ⟨w.heap.size, 0, none⟩) 2 2) [1, 2] := by
  refine ⟨_, 2, rfl, by decide, by decide, by decide, fun j z hj => ⟨_, rfl, ?_⟩⟩
  match j, hj with
  | 0, hj => cases hj; exact cellB (heap_alloc_new w _) rfl
  | 1, hj => cases hj; exact cellB (heap_alloc_new w _) rfl
  | j + 2, hj => simp at hj
/-- what came out of one hash -/
theorem AlI.one {w w' : World} {L : List ByteArray} {C : List (Nat × Nat)} {v : Value} {s : ByteArray} (h : AlI w w' L C C.length v) (hC : partsL L C = [s]) : ∃ g cap, v = .slice (some ⟨g, 0, none⟩) 1 cap ∧ w.heap.size ≤ g ∧ g < w'.heap.size ∧ w'.cell? ⟨g, 0, none⟩ = some (.string s) := by
  have hl : C.length = 1 := by have := congrArg List.length hC; simpa [partsL] using this
  have hd := h.hd
  rw [List.take_length, hC, hl] at hd
  obtain ⟨g, cap, cur, rfl, hg, _, _, h4⟩ := hd.block (by decide)
  refine ⟨g, cap, rfl, h.ow g rfl, blk_lt hg, cellB hg ?_⟩
  have : (cur.toList.take 1)[0]? = some (Value.string s) := by rw [h4]; rfl
  rw [List.getElem?_take_of_lt (by decide), Array.getElem?_toList] at this
  exact this
set_option maxRecDepth 100000 in
set_option maxHeartbeats 4000000 in
theorem knownU_any {w : World} {B : Nat} (hB : Bas w B) : Calls Tryd.prog 15 #[] w fun o w' => o = .returned (.bool true) ∧ Below w.heap.size w w' := by
  have CF : Hid (Calls Tryd.prog 16 #[.int .i64 0, .slice (some ⟨w.heap.size, 0, none⟩) 2 2] (w.alloc (.cells #[.int .i64 1, .int .i64 2] 3)) fun o w' => ∃ tb, o = .returned (bpT tb) ∧ FiI (w.alloc (.cells #[.int .i64 1, .int .i64 2] 3)) w' B tb (1 + pickN 0 8) [1, 2] 2) :=
    Lib.hid (filledU_any (hB.below ((Below.refl _ _).alloc hB.le _)) (ints_two w) (by decide))
  have HB := Lib.hid hB
  clear hB
  obtain ⟨wa, hwa⟩ : ∃ x, x = w.alloc (.cells #[.int .i64 1, .int .i64 2] 3) := ⟨_, rfl⟩
  rw [← hwa] at CF
  have HBA : Hid (Below w.heap.size w wa) := Lib.hid (by rw [hwa]; exact (Below.refl _ _).alloc (Nat.le_refl _) _)
  have HWA := Lib.hid hwa
  clear hwa
  go_enter Tryd.func15, Tryd.ntmps15
  go_upto_region 6 with (first
    | (go_at_call 16; rw [← HWA.out]; refine CF.out.mono ?_; rintro o w1 ⟨tb, rfl, hf⟩; have HF := Lib.hid hf; clear hf)
    | (go_at_call 22; have ci : Calls Tryd.prog 22 #[bpT tb, .int .i64 ((2 : Nat) : Int), .int .i64 ((0 : Nat) : Int)] w1 fun r w' => ∃ g cap, r = .returned (.tuple #[.slice (some ⟨g, 0, none⟩) 1 cap, .int .i64 0]) ∧ Below w1.heap.size w1 w' ∧ w1.heap.size ≤ g ∧ g < w'.heap.size ∧ w'.cell? ⟨g, 0, none⟩ = some (.string (leafSU 2)) := (by
        obtain ⟨hb, col, t, hl⟩ := HF.out
        refine (incl_at (N := 2) (k := 0) t (HB.out.below ((HBA.out.mono HB.out.le).trans (hb.mono (Nat.le_trans HB.out.le HBA.out.size)))) (by decide) (by simp) (by simp)).mono ?_
        rintro r w' ⟨v, rfl, ha⟩
        obtain ⟨g, cap, rfl, h1, h2, h3⟩ := ha.one (s := leafSU 2) (by rw [path_two]; exact part_snd _ _)
        exact ⟨g, cap, rfl, ha.b, h1, h2, h3⟩); refine ci.mono ?_; rintro o w2 ⟨g1, cap1, rfl, hb2, hg1, hg2, k1⟩; have H2 := Lib.hid (And.intro hb2 (And.intro hg1 hg2)); clear ci hb2 hg1 hg2)
    | (go_at_call 23; have ci : Calls Tryd.prog 23 #[bpT tb, .int .i64 ((1 : Nat) : Int), .int .i64 ((2 : Nat) : Int)] w2 fun r w' => ∃ g cap, r = .returned (.tuple #[.slice (some ⟨g, 0, none⟩) 1 cap, .int .i64 0]) ∧ Below w2.heap.size w2 w' ∧ w2.heap.size ≤ g ∧ g < w'.heap.size ∧ w'.cell? ⟨g, 0, none⟩ = some (.string (leafSU 2)) := (by
        obtain ⟨hb, col, t, hl⟩ := HF.out
        have hb1 := (HBA.out.mono HB.out.le).trans (hb.mono (Nat.le_trans HB.out.le HBA.out.size))
        refine (cons_at (N := 2) (k := 1) (t.below H2.out.1) (HB.out.below (hb1.trans (H2.out.1.mono (Nat.le_trans HB.out.le hb1.size)))) (by decide) (by decide) (by simp) (by simp)).mono ?_
        rintro r w' ⟨v, rfl, ha⟩
        obtain ⟨g, cap, rfl, h1, h2, h3⟩ := ha.one (s := leafSU 2) (by rw [proof_two]; exact part_snd _ _)
        exact ⟨g, cap, rfl, ha.b, h1, h2, h3⟩); refine ci.mono ?_; rintro o w3 ⟨g2, cap2, rfl, hb3, hg1, hg2, k2⟩; have k1' : w3.cell? ⟨g1, 0, none⟩ = some (.string (leafSU 2)) := (hb3.cell H2.out.2.2).trans k1; have H3 := Lib.hid (And.intro hb3 (And.intro hg1 hg2)); clear ci hb3 hg1 hg2 k1))
  have CL := Lib.hid (leafU_any 2)
  have HS1 : Hid (w3.drew.cell? ⟨g1, 0, none⟩ = some (.string (leafSU 2)) ∧ w3.drew.cell? ⟨g2, 0, none⟩ = some (.string (leafSU 2))) := Lib.hid ⟨k1', k2⟩
  have HSX : Hid (∀ w5, Below w3.heap.size w3.drew w5 → w5.cell? ⟨g1, 0, none⟩ = some (.string (leafSU 2)) ∧ w5.cell? ⟨g2, 0, none⟩ = some (.string (leafSU 2))) := Lib.hid (fun w5 hb5 => ⟨(hb5.cell (p := ⟨g1, 0, none⟩) (Nat.lt_of_lt_of_le H2.out.2.2 H3.out.1.size)).trans k1', (hb5.cell (p := ⟨g2, 0, none⟩) H3.out.2.2).trans k2⟩)
  have HB0 : Hid (Below w3.heap.size w3.drew w3.drew) := Lib.hid (Below.refl _ _)
  have HBW : Hid (∀ w5, Below w3.heap.size w3.drew w5 → Below w.heap.size w w5) := Lib.hid (fun w5 hb5 => by
    have hb1 := HBA.out.trans (HF.out.b.mono HBA.out.size)
    have hb2 := hb1.trans (H2.out.1.mono hb1.size)
    have hb3 := hb2.trans (H3.out.1.mono hb2.size)
    exact hb3.drew.trans (hb5.mono hb3.size))
  obtain ⟨s, hs⟩ : ∃ s, s = leafSU 2 := ⟨_, rfl⟩
  rw [← hs] at CL HS1 HSX
  clear k1' k2 hs
  go_region_held3 (fun w' => w'.cell? ⟨g1, 0, none⟩ = some (.string s) ∧ w'.cell? ⟨g2, 0, none⟩ = some (.string s)) (first | exact HS1.out | exact HS5.out) (first
    | (go_at_call 18; refine (CL.out _).mono ?_; rintro o w5 ⟨rfl, hb5⟩; have HB5 : Hid (Below w3.heap.size w3.drew w5) := (by first | exact Lib.hid (HB5x.out.trans (hb5.mono HB5x.out.size)) | exact Lib.hid hb5); have HB5x := HB5; have HS5 := Lib.hid (HSX.out _ HB5.out); clear hb5))
  all_goals go_wp2
  all_goals go_ret
  all_goals exact ⟨by simp, HBW.out _ HB5x.out⟩
end Go.Proofs.YtafookdllnhdaaaDoor
