/- DigestNodes: the law's walk. -/
import Derived.Test.YtdgblimeehijpaaDoorKnow1
namespace Go.Proofs.YtdgblimeehijpaaDoor
open Go.RowKit Go.Scr
set_option linter.unusedVariables false

def thirtyS (s : ByteArray) : ByteArray := if 32 < s.size then s.extract 0 32 else s ++ str (List.replicate (32 - s.size) 0)
theorem thirtyS_size (s : ByteArray) : (thirtyS s).size = 32 := by
  unfold thirtyS
  split
  · rw [ByteArray.size_extract]; omega
  · rw [ByteArray.size_append, str_size]; simp; omega

set_option maxRecDepth 100000 in
set_option maxHeartbeats 400000 in
theorem thirty_any (s : ByteArray) (w : World) :
    Calls Tryd.prog 18 #[.string s] w fun e w' => e = .returned (.string (thirtyS s)) ∧ Below w.heap.size w w' := by
  by_cases h : 32 < s.size
  · have hs : thirtyS s = s.extract 0 32 := if_pos h
    rw [hs]
    have h' : (32 : Int) < (s.size : Int) := by omega
    have h2 : (32 : Int) ≤ (s.size : Int) := by omega
    clear hs
    go_enter Tryd.func18, Tryd.ntmps18
    go_wp2
    go_ret
    exact ⟨rfl, Below.refl _ _⟩
  · obtain ⟨z, hz⟩ : ∃ z, z = 32 - s.size := ⟨_, rfl⟩
    obtain ⟨Z, hZ⟩ : ∃ Z, Z = str (List.replicate z 0) := ⟨_, rfl⟩
    have hs : thirtyS s = s ++ Z := by unfold thirtyS; rw [if_neg h, hZ, hz]
    rw [hs]
    have h' : ¬ ((32 : Int) < (s.size : Int)) := by omega
    have hzz : (32 : Int) - (s.size : Int) = (z : Int) := by omega
    have hzb : z ≤ 32 := by omega
    have hmk := make_bytes (P := Tryd.prog) 52 5 Tryd.underlying52 bu8 z z (by omega) (by omega) w
    rw [madeCells_bytes] at hmk
    have hown := own_made w w.heap.size 5 z z (List.replicate z 0) (by simp) (Nat.le_refl _) (Nat.le_refl _) (by omega)
    rw [List.take_of_length_le (by simp)] at hown
    have hcv := own_string (P := Tryd.prog) (D := 9) (S := 52) Tryd.underlying52 bund8 bundS hown
    change _ = Result.ok (Value.string (str (List.replicate z 0))) _ at hcv
    rw [← hZ] at hcv
    have hZs : Z.size = z := by rw [hZ, str_size]; simp
    have hb1 : s.size + Z.size ≤ 64 := by omega
    have HW := Lib.hid (((Below.refl w.heap.size w).alloc (Nat.le_refl _) (.cells (bytesV (List.replicate z 0)).toArray 5)))
    clear hs hz hZ hown hZs
    go_enter Tryd.func18, Tryd.ntmps18
    go_wp2
    go_ret
    exact ⟨rfl, HW.out⟩

set_option maxRecDepth 100000 in
set_option maxHeartbeats 1000000 in
theorem dnodes_any (l r : ByteArray) (w : World) (ht : Tabs w) :
    Calls Tryd.prog 5 #[.string l, .string r] w fun e w' => e = .returned (.bool true) ∧ Below w.heap.size w w' := by
  have HT := Lib.hid ht
  have HB0 := Lib.hid (Below.refl w.heap.size w)
  obtain ⟨L, hL⟩ : ∃ L, L = thirtyS l := ⟨_, rfl⟩
  obtain ⟨R, hR⟩ : ∃ R, R = thirtyS r := ⟨_, rfl⟩
  have cl := fun w => thirty_any l w
  have cr := fun w => thirty_any r w
  rw [← hL] at cl
  rw [← hR] at cr
  have hLs : L.size = 32 := by rw [hL]; exact thirtyS_size l
  have hRs : R.size = 32 := by rw [hR]; exact thirtyS_size r
  obtain ⟨a, ha⟩ : ∃ a, a = nodeS l r := ⟨_, rfl⟩
  obtain ⟨ae, hae⟩ : ∃ a, a = nodeE l r := ⟨_, rfl⟩
  obtain ⟨b, hb⟩ : ∃ a, a = nodeS L R := ⟨_, rfl⟩
  have hbe : nodeE L R = 0 := if_pos ⟨hLs, hRs⟩
  obtain ⟨c, hc⟩ : ∃ a, a = nodeS L r := ⟨_, rfl⟩
  obtain ⟨ce, hce⟩ : ∃ a, a = nodeE L r := ⟨_, rfl⟩
  have d1 := fun w h => dnode_any l r w h
  have d2 := fun w => rnode_any l r w
  have d3 := fun w h => dnode_any L R w h
  have d4 := fun w => rnode_any L R w
  have d5 := fun w h => dnode_any L r w h
  have d6 := fun w => rnode_any L r w
  rw [← ha, ← hae] at d1 d2
  rw [← hb, hbe] at d3 d4
  rw [← hc, ← hce] at d5 d6
  have CL := Lib.hid cl
  have CR := Lib.hid cr
  have D1 := Lib.hid d1
  have D2 := Lib.hid d2
  have D3 := Lib.hid d3
  have D4 := Lib.hid d4
  have D5 := Lib.hid d5
  have D6 := Lib.hid d6
  clear ht cl cr hL hR hLs hRs ha hae hb hbe hc hce d1 d2 d3 d4 d5 d6
  go_enter Tryd.func5, Tryd.ntmps5
  go_wp2_with (first
    | (go_at_call 15; with_reducible refine (known1_any w HT.out).mono ?_; rintro r w1 ⟨rfl, hb⟩; have HB1 := Lib.hid (below_from HB0.out hb HB0.out.size); clear hb)
    | (go_at_call 16; with_reducible refine (D1.out w1 (HT.out.below HB1.out)).mono ?_; rintro r w2 ⟨rfl, hb⟩; have HB2 := Lib.hid (below_from HB1.out hb HB1.out.size); clear hb)
    | (go_at_call 17; with_reducible refine (D2.out w2).mono ?_; rintro r w3 ⟨rfl, hb⟩; have HB3 := Lib.hid (below_from HB2.out hb HB2.out.size); clear hb)
    | (go_at_call 18; with_reducible refine (CL.out w3).mono ?_; rintro r w4 ⟨rfl, hb⟩; have HB4 := Lib.hid (below_from HB3.out hb HB3.out.size); clear hb)
    | (go_at_call 18; with_reducible refine (CR.out w4).mono ?_; rintro r w5 ⟨rfl, hb⟩; have HB5 := Lib.hid (below_from HB4.out hb HB4.out.size); clear hb)
    | (go_at_call 16; with_reducible refine (D3.out w5 (HT.out.below HB5.out)).mono ?_; rintro r w6 ⟨rfl, hb⟩; have HB6 := Lib.hid (below_from HB5.out hb HB5.out.size); clear hb)
    | (go_at_call 18; with_reducible refine (CL.out w6).mono ?_; rintro r w7 ⟨rfl, hb⟩; have HB7 := Lib.hid (below_from HB6.out hb HB6.out.size); clear hb)
    | (go_at_call 18; with_reducible refine (CR.out w7).mono ?_; rintro r w8 ⟨rfl, hb⟩; have HB8 := Lib.hid (below_from HB7.out hb HB7.out.size); clear hb)
    | (go_at_call 17; with_reducible refine (D4.out w8).mono ?_; rintro r w9 ⟨rfl, hb⟩; have HB9 := Lib.hid (below_from HB8.out hb HB8.out.size); clear hb)
    | (go_at_call 18; with_reducible refine (CL.out w9).mono ?_; rintro r w10 ⟨rfl, hb⟩; have HB10 := Lib.hid (below_from HB9.out hb HB9.out.size); clear hb)
    | (go_at_call 16; with_reducible refine (D5.out w10 (HT.out.below HB10.out)).mono ?_; rintro r w11 ⟨rfl, hb⟩; have HB11 := Lib.hid (below_from HB10.out hb HB10.out.size); clear hb)
    | (go_at_call 18; with_reducible refine (CL.out w11).mono ?_; rintro r w12 ⟨rfl, hb⟩; have HB12 := Lib.hid (below_from HB11.out hb HB11.out.size); clear hb)
    | (go_at_call 17; with_reducible refine (D6.out w12).mono ?_; rintro r w13 ⟨rfl, hb⟩; have HB13 := Lib.hid (below_from HB12.out hb HB12.out.size); clear hb))
  go_ret
  exact ⟨rfl, HB13.out⟩
end Go.Proofs.YtdgblimeehijpaaDoor
