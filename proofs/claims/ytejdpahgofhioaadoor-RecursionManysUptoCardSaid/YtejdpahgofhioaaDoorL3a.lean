/- The law 3's leaf, node, walked. -/
import Derived.Test.YtejdpahgofhioaaDoorRec8
namespace Go.Proofs.YtejdpahgofhioaaDoor
open Go.RowKit Go.Scr
set_option linter.unusedVariables false

theorem byte_int (c : Int) : c % 256 = ((UInt8.ofNat (c % 256).toNat).toNat : Int) := by
  have h1 : 0 ≤ c % 256 := Int.emod_nonneg _ (by decide)
  have h2 : c % 256 < 256 := Int.emod_lt_of_pos _ (by decide)
  rw [UInt8.toNat_ofNat', Nat.mod_eq_of_lt (by omega)]
  omega
theorem step_belowR {B : Nat} {w : World} {g i : Nat} (u : Value) (hB : B ≤ g) (hBw : B ≤ w.heap.size) : Below B w (w.setCell ⟨g, i, none⟩ u) := below_only (Below.refl B w) (only_setCell (p := ⟨g, i, none⟩) (only_refl w (some g)) (Or.inl rfl) u) hBw hB
def leafL (c : Int) : List UInt8 := ((List.replicate 32 (0 : UInt8)).set 0 (UInt8.ofNat (c % 256).toNat)).set 31 (UInt8.ofNat (c / 256 % 256).toNat)
def leafS (c : Int) : ByteArray := str (leafL c)
theorem leafS_size (c : Int) : (leafS c).size = 32 := by unfold leafS; rw [str_size]; simp [leafL]
theorem bytesV_set (l : List UInt8) (i : Nat) (a : UInt8) : ((bytesV l).toArray).setIfInBounds i (.int .u8 (a.toNat : Int)) = (bytesV (l.set i a)).toArray := by
  unfold bytesV
  simp [List.map_set]

def made32b : Array Value := madeCells #[Value.int .u8 0] 32
theorem made32b_eq : made32b = (bytesV (List.replicate 32 0)).toArray := madeCells_bytes 32
set_option maxRecDepth 100000 in
set_option maxHeartbeats 1000000 in
theorem leaf3_any (c : Int) (w : World) :
    Calls Tryd.prog 67 #[.int .i64 c] w fun e w' => e = .returned (.string (leafS c)) ∧ Below w.heap.size w w' := by
  obtain ⟨a, ha⟩ : ∃ a : UInt8, a = UInt8.ofNat (c % 256).toNat := ⟨_, rfl⟩
  obtain ⟨b, hb⟩ : ∃ b : UInt8, b = UInt8.ofNat (c / 256 % 256).toNat := ⟨_, rfl⟩
  have e1 : c % 256 = (a.toNat : Int) := by rw [ha]; exact byte_int c
  obtain ⟨d, hd⟩ : ∃ d, d = c / 256 := ⟨_, rfl⟩
  have e2 : d % 256 = (b.toNat : Int) := by rw [hb, hd]; exact byte_int _
  have HS := Lib.hid (by unfold leafS leafL; rw [← ha, ← hb] : leafS c = str (((List.replicate 32 (0 : UInt8)).set 0 a).set 31 b))
  have hmk : (Instr.makeSlice 82 (.int .i64 32) (.int .i64 32)).run Tryd.prog w = .ok (.slice (some ⟨w.heap.size, 0, none⟩) 32 32) (w.alloc (.cells made32b 5)) := make_bytes (P := Tryd.prog) 82 5 Tryd.underlying82 info_u8 32 32 (by omega) (by omega) w
  have hd2 := hd.symm
  clear ha hb hd
  go_enter Tryd.func67, Tryd.ntmps67
  go_upto_region 2 with fail
  obtain ⟨l0, hl0⟩ : ∃ l0, l0 = List.replicate 32 (0 : UInt8) := ⟨_, rfl⟩
  have HL0 := Lib.hid hl0
  have hb0 : (w.alloc (.cells made32b 5)).heap[w.heap.size]? = some (.cells (bytesV l0).toArray 5 (0, 0)) := by rw [hl0, ← made32b_eq]; exact heap_alloc_new w _
  have hbel : Below w.heap.size w (w.alloc (.cells made32b 5)) := (Below.refl _ _).alloc (Nat.le_refl _) _
  have hsz : w.heap.size ≤ (w.alloc (.cells made32b 5)).heap.size := by simp
  have hl32 : l0.length = 32 := by rw [hl0]; simp
  clear hmk hl0
  obtain ⟨g, hg⟩ : ∃ g, g = w.heap.size := ⟨_, rfl⟩
  rw [← hg] at hb0 hbel hsz
  rw [← hg]
  have HG := Lib.hid hg
  generalize w.alloc (.cells made32b 5) = w1 at hb0 hbel hsz ⊢
  have hc0 : w1.cell? ⟨g, 0, none⟩ = some (.int .u8 ((l0[0]'(by omega)).toNat : Int)) := by rw [cell_of_row w1 g 0 _ _ _ hb0]; simp [bytesV, hl32]
  have hf0 := frozen_of_row w1 g 0 _ _ hb0
  have hb1 : (w1.setCell ⟨g, 0, none⟩ (.int .u8 (a.toNat : Int))).heap[g]? = some (.cells (bytesV (l0.set 0 a)).toArray 5 (0, 0)) := by rw [← bytesV_set]; exact blk_set hb0 0 _
  have HB1 := Lib.hid hb1
  have HBEL1 := Lib.hid (hbel.trans (step_belowR (g := g) (i := 0) (.int .u8 (a.toNat : Int)) (Nat.le_refl g) hsz))
  clear hb1 hg
  go_upto_region 3 with fail
  clear hc0 hf0 e1 hbel hb0
  have hsz2 : g ≤ (w1.setCell ⟨g, 0, none⟩ (.int .u8 (a.toNat : Int))).heap.size := by simpa using hsz
  generalize w1.setCell ⟨g, 0, none⟩ (.int .u8 (a.toNat : Int)) = w2 at HB1 HBEL1 hsz2 ⊢
  have hc1 : w2.cell? ⟨g, 31, none⟩ = some (.int .u8 (((l0.set 0 a)[31]'(by simp; omega)).toNat : Int)) := by rw [cell_of_row w2 g 31 _ _ _ HB1.out]; simp [bytesV, hl32]
  have hf1 := frozen_of_row w2 g 31 _ _ HB1.out
  have hb2 : (w2.setCell ⟨g, 31, none⟩ (.int .u8 (b.toNat : Int))).heap[g]? = some (.cells (bytesV ((l0.set 0 a).set 31 b)).toArray 5 (0, 0)) := by rw [← bytesV_set]; exact blk_set HB1.out 31 _
  have HB2 := Lib.hid hb2
  have HBEL2 := Lib.hid (HBEL1.out.trans (step_belowR (g := g) (i := 31) (.int .u8 (b.toNat : Int)) (Nat.le_refl g) hsz2))
  have hcv := own_string (P := Tryd.prog) (D := 9) (S := 82) (c := 32) Tryd.underlying82 und_u8 und_string (own_of_blk (n := 32) HB2.out (by simp [hl32]) (by simp [hl32]))
  clear hb2
  go_wp2
  go_ret
  exact ⟨by rw [HS.out, ← HL0.out]; rfl, by rw [← HG.out]; exact HBEL2.out⟩

set_option maxRecDepth 100000 in
set_option maxHeartbeats 400000 in
theorem node3_any (l r : ByteArray) (w : World) (ht : Tabs w) :
    Calls Tryd.prog 40 #[.string l, .string r] w fun e w' => e = .returned (.string (nodeS l r)) ∧ Below w.heap.size w w' := by
  have HT := Lib.hid ht
  clear ht
  go_enter Tryd.func40, Tryd.ntmps40
  go_wp2_with (go_at_call 85; with_reducible refine (dnode_any l r _ HT.out).mono ?_; rintro e w2 ⟨rfl, hb⟩; have HB := Lib.hid hb; clear hb)
  go_ret
  exact ⟨rfl, HB.out⟩

theorem spl3R : spl 3 = 2 := spl_two 1 (by decide) (by decide)
theorem spl2R : spl 2 = 1 := spl_two 0 (by decide) (by decide)
theorem spl9R : spl 9 = 8 := spl_two 3 (by decide) (by decide)
theorem rootR_one (a : ByteArray) : rootR [a] = a := rootL_one _ _ _
theorem rootR_two (a b : ByteArray) : rootR [a, b] = nodeS a b := by
  rw [rootR_split (by simp)]
  rw [show ([a, b] : List ByteArray).length = 2 from rfl, spl2R]
  exact (congr (congrArg nodeS (rootR_one a)) (rootR_one b))
theorem rootR_three (a b c : ByteArray) : rootR [a, b, c] = nodeS (nodeS a b) c := by
  rw [rootR_split (by simp)]
  rw [show ([a, b, c] : List ByteArray).length = 3 from rfl, spl3R]
  exact (congr (congrArg nodeS (rootR_two a b)) (rootR_one c))
theorem pathR_three (a b c : ByteArray) : pathR 2 [a, b, c] = [nodeS a b] := by
  rw [pathR_right (k := 2) (by rw [show ([a, b, c] : List ByteArray).length = 3 from rfl, spl3R]) (by simp) (by omega)]
  rw [pathR_one _ (by simp)]
  show [] ++ [rootR [a, b]] = _
  rw [rootR_two]; rfl

set_option maxRecDepth 100000 in
set_option maxHeartbeats 2000000 in
theorem known3_any (w : World) (ht : Tabs w) :
    Calls Tryd.prog 15 #[] w fun e w' => e = .returned (.bool true) ∧ Below w.heap.size w w' := by
  have HT := Lib.hid ht
  have HB0 := Lib.hid (Below.refl w.heap.size w)
  have s2 : ∀ w', Calls Tryd.prog 16 #[.int .i64 2] w' fun e w'' => e = .returned (.int .i64 1) ∧ w'' = w' := by
    have h : splitS ((2 : Nat) : Int) = 1 := by rw [splitS_nat (by decide), spl2R]; rfl
    intro w'; have := split_any ((2 : Nat) : Int) w' (by decide); rw [h] at this; exact this
  have s3 : ∀ w', Calls Tryd.prog 16 #[.int .i64 3] w' fun e w'' => e = .returned (.int .i64 2) ∧ w'' = w' := by
    have h : splitS ((3 : Nat) : Int) = 2 := by rw [splitS_nat (by decide), spl3R]; rfl
    intro w'; have := split_any ((3 : Nat) : Int) w' (by decide); rw [h] at this; exact this
  have s9 : ∀ w', Calls Tryd.prog 16 #[.int .i64 9] w' fun e w'' => e = .returned (.int .i64 8) ∧ w'' = w' := by
    have h : splitS ((9 : Nat) : Int) = 8 := by rw [splitS_nat (by decide), spl9R]; rfl
    intro w'; have := split_any ((9 : Nat) : Int) w' (by decide); rw [h] at this; exact this
  have l1 := fun w => leaf3_any 1 w
  have l2 := fun w => leaf3_any 2 w
  have l3 := fun w => leaf3_any 3 w
  have z1 := leafS_size 1
  have z2 := leafS_size 2
  have z3 := leafS_size 3
  generalize leafS 1 = a at l1 z1
  generalize leafS 2 = b at l2 z2
  generalize leafS 3 = c at l3 z3
  have hok : ok32 [a, b, c] = true := by simp [ok32, z1, z2, z3]
  have hre : refusedE [a, b, c] = 0 := by unfold refusedE; rw [if_neg (by simp), if_neg (by rw [hok]; decide)]
  obtain ⟨n1, hn1⟩ : ∃ n, n = nodeS a b := ⟨_, rfl⟩
  obtain ⟨n2, hn2⟩ : ∃ n, n = nodeS n1 c := ⟨_, rfl⟩
  have hn1s : n1.size = 32 := by rw [hn1]; unfold nodeS; rw [if_pos ⟨z1, z2⟩]; unfold hnode; rw [str_size, sha_length]
  have hn2s : n2.size = 32 := by rw [hn2]; unfold nodeS; rw [if_pos ⟨hn1s, z3⟩]; unfold hnode; rw [str_size, sha_length]
  have hn2i : (n2.size : Int) = 32 := by omega
  have hroot : rootT [a, b, c] = n2 := by unfold rootT; rw [if_pos hre, rootR_three, hn2, hn1]
  have hpe : pathE [a, b, c] 2 = 0 := by unfold pathE; rw [if_neg (by simp [hre]), if_neg (by simp)]
  have hpt : pathT [a, b, c] 2 = [n1] := by unfold pathT; rw [if_pos hpe, hn1]; exact pathR_three a b c
  have htx : ∀ w : World, Txts (w.alloc (.cells #[.string a, .string b, .string c] 9)) (.slice (some ⟨w.heap.size, 0, none⟩) 3 3) [a, b, c] := fun w => txts_alloc w 9 [a, b, c] (by simp)
  have cr := fun w (h : Tabs w) x (ht : Txts w x [a, b, c]) => Root_any x [a, b, c] w h ht
  rw [hroot, hre] at cr
  have cp := fun w (h : Tabs w) x (ht : Txts w x [a, b, c]) => (Path_any x [a, b, c] 2 w h ht).mono (R' := fun e w' => ∃ g cap, e = .returned (.tuple #[.slice (some ⟨g, 0, none⟩) 1 cap, .int .i64 0]) ∧ w'.ownsRow w.heap.size 9 1 (.slice (some ⟨g, 0, none⟩) 1 cap) 1 ([n1].map Value.string) ∧ Below w.heap.size w w') (fun e w' h => by
    obtain ⟨x, rfl, hown, hb⟩ := h
    rw [hpt, hpe] at *
    rcases hown.2 with ⟨_, h0⟩ | ⟨g, cap, cur, hx, _⟩
    · cases h0
    · subst hx
      exact ⟨g, cap, rfl, hown, hb⟩)
  have d1 := fun w h => node3_any a b w h
  have d2 := fun w h => node3_any n1 c w h
  rw [← hn1] at d1
  rw [← hn2] at d2
  have S2 := Lib.hid s2
  have S3 := Lib.hid s3
  have S9 := Lib.hid s9
  have C1 := Lib.hid l1
  have C2 := Lib.hid l2
  have C3 := Lib.hid l3
  have HTX := Lib.hid htx
  have CR := Lib.hid cr
  have CP := Lib.hid cp
  have D1 := Lib.hid d1
  have D2 := Lib.hid d2
  clear s2 s3 s9 l1 l2 l3 htx cr cp d1 d2 hn1 hn2 hn1s hn2s hroot hpe hpt hok hre z1 z2 z3 ht
  go_enter Tryd.func15, Tryd.ntmps15
  go_wp2_with (first
    | (go_at_call 16; with_reducible refine (S2.out _).mono ?_; rintro r wx ⟨rfl, hw⟩; rw [hw]; clear hw wx)
    | (go_at_call 16; with_reducible refine (S9.out _).mono ?_; rintro r wx ⟨rfl, hw⟩; rw [hw]; clear hw wx)
    | (go_at_call 16; with_reducible refine (S3.out _).mono ?_; rintro r wx ⟨rfl, hw⟩; rw [hw]; clear hw wx)
    | (go_at_call 67; with_reducible refine (C1.out w).mono ?_; rintro r w1 ⟨rfl, hb⟩; have HB1 := Lib.hid hb; clear hb)
    | (go_at_call 67; with_reducible refine (C2.out w1).mono ?_; rintro r w2 ⟨rfl, hb⟩; have HB2 := Lib.hid (below_from HB1.out hb HB1.out.size); clear hb)
    | (go_at_call 67; with_reducible refine (C3.out w2).mono ?_; rintro r w3 ⟨rfl, hb⟩; have HB3 := Lib.hid (below_from HB2.out hb HB2.out.size); clear hb; have HBA := Lib.hid (HB3.out.alloc HB3.out.size (.cells #[.string a, .string b, .string c] 9)); have HXA := Lib.hid (HTX.out w3))
    | (go_at_call 19; with_reducible refine (CR.out _ (HT.out.below HBA.out) _ HXA.out).mono ?_; rintro r w4 ⟨rfl, hb⟩; have HB4 := Lib.hid (below_from HBA.out hb HBA.out.size); have HX4 := Lib.hid (HXA.out.below hb (Nat.le_refl _)); clear hb)
    | (go_at_call 25; with_reducible refine (CP.out _ (HT.out.below HB4.out) _ HX4.out).mono ?_; rintro r w5 ⟨g, cap, rfl, hown, hb⟩; have HB5 := Lib.hid (below_from HB4.out hb HB4.out.size); have HO5 := Lib.hid hown; clear hb hown)
    | (go_at_call 67; with_reducible refine (C1.out w5).mono ?_; rintro r w6 ⟨rfl, hb⟩; have HB6 := Lib.hid (below_from HB5.out hb HB5.out.size); have HO6 := Lib.hid (owns_below HO5.out hb (Nat.le_refl _)); clear hb)
    | (go_at_call 67; with_reducible refine (C2.out w6).mono ?_; rintro r w7 ⟨rfl, hb⟩; have HB7 := Lib.hid (below_from HB6.out hb HB6.out.size); have HO7 := Lib.hid (owns_below HO6.out hb (Nat.le_refl _)); clear hb)
    | (go_at_call 40; with_reducible refine (D1.out w7 (HT.out.below HB7.out)).mono ?_; rintro r w8 ⟨rfl, hb⟩; have HB8 := Lib.hid (below_from HB7.out hb HB7.out.size); have HO8 := Lib.hid (owns_below HO7.out hb (Nat.le_refl _)); clear hb)
    | (go_at_call 67; with_reducible refine (C3.out w8).mono ?_; rintro r w9 ⟨rfl, hb⟩; have HB9 := Lib.hid (below_from HB8.out hb HB8.out.size); have HO9 := Lib.hid (owns_below HO8.out hb (Nat.le_refl _)); clear hb)
    | (go_at_call 40; with_reducible refine (D2.out w9 (HT.out.below HB9.out)).mono ?_; rintro r w10 ⟨rfl, hb⟩; have HB10 := Lib.hid (below_from HB9.out hb HB9.out.size); have HO10 := Lib.hid (owns_below HO9.out hb (Nat.le_refl _)); clear hb; have hcell := (owns_cell HO10.out (j := 0) (by decide)).trans (show ([n1].map Value.string)[0]? = some (.string n1) from rfl)))
  go_ret
  exact ⟨rfl, HB10.out⟩
end Go.Proofs.YtejdpahgofhioaaDoor
