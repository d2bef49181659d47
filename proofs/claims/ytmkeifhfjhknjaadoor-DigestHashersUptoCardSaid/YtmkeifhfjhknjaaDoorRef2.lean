/- The reference's big, filled and Sum, walked. -/
import Derived.Test.YtmkeifhfjhknjaaDoorRef1
import Derived.Test.YtmkeifhfjhknjaaDoorMark
import Derived.Deep.RegionWith
namespace Go.Proofs.YtmkeifhfjhknjaaDoor
open Go.RowKit Go.Scr
set_option linter.unusedVariables false

theorem rinfo_u8 : (Tryd.prog.info? 5).map (fun i => (i.zero, i.size, i.bytes)) = some (some (.int .u8 0), 1, 1) := by kernel_rfl
theorem rund_u8 : Tryd.prog.underlying 5 = some (.int .u8) := by kernel_rfl
theorem rund_string : Tryd.prog.underlying 9 = some .string := by kernel_rfl

set_option maxRecDepth 100000 in
set_option maxHeartbeats 1000000 in
theorem big_any (n many : Nat) (w : World) (hn : n < 9223372036854775808) (hm : 1 ≤ many) (hm8 : many ≤ 8) :
    Calls Tryd.prog 29 #[.int .i64 n, .int .i64 many] w fun e w' => e = .returned (.string ⟨(bigN n many).toArray⟩) ∧ Below w.heap.size w w' := by
  have hmk := make_bytes (P := Tryd.prog) 41 5 Tryd.underlying41 rinfo_u8 many many (Nat.le_refl _) (by omega)
  go_enter Tryd.func29, Tryd.ntmps29
  go_wp2_with fail
  obtain ⟨B, hB⟩ : ∃ B, B = w.heap.size := ⟨_, rfl⟩
  have hb0 : (w.alloc (.cells (madeCells #[.int .u8 0] many) 5)).heap[B]? = some (.cells (bytesV (bigPart n many 0)).toArray 5 (0, 0)) := by
    rw [heap_alloc_at _ _ _ hB, madeCells_bytes, bigPart_zero]
  have hbe : Below B w (w.alloc (.cells (madeCells #[.int .u8 0] many) 5)) := (Below.refl _ _).alloc (by omega) _
  rw [← hB]
  generalize w.alloc (.cells (madeCells #[.int .u8 0] many) 5) = w1 at hb0 hbe ⊢
  have HB0 := Lib.hid hb0
  have HBE := Lib.hid hbe
  have HBQ := Lib.hid hB
  clear hb0 hbe hB hmk
  go_loopw [6] (fun v wr => ∃ i : Nat, i ≤ many ∧ v = .int .i64 i ∧ wr.heap[B]? = some (.cells (bytesV (bigPart n many i)).toArray 5 (0, 0)) ∧ Below B w wr) (fun v _ => many - (intOf v).toNat)
  case atStart => exact ⟨0, by omega, rfl, HB0.out, HBE.out⟩
  case round =>
    clear HB0 HBE
    obtain ⟨i, hi, rfl, hb, hbe⟩ := hrel
    by_cases hlt : i < many
    · have hpl := bigPart_length n many i hi
      have hz := frozen_of_row wr B (many - 1 - i) _ _ hb
      obtain ⟨v, hv⟩ : ∃ v, (bytesV (bigPart n many i)).toArray[many - 1 - i]? = some v := by
        rw [List.getElem?_toArray]
        exact ⟨_, List.getElem?_eq_getElem (by rw [bytesV_length, hpl]; omega)⟩
      have hc := (cell_of_row wr B (many - 1 - i) _ _ _ hb).trans hv
      have HP : Hid ((bytesV (bigPart n many i)).toArray.setIfInBounds (many - 1 - i) (.int .u8 ((UInt8.ofNat (n / 2 ^ (8 * i))).toNat : Int)) = (bytesV (bigPart n many (i + 1))).toArray) := by
        show _ = _
        rw [← bigPart_step n many i hlt, List.setIfInBounds_toArray]
        simp [bytesV, List.map_set]
      have HB := Lib.hid hb
      have HBE := Lib.hid hbe
      clear hb hbe hpl hv
      go_wp2
      go_roundw
      case rel =>
        have e : ((n : Int) / 2 ^ (8 * i) % 256) = ((UInt8.ofNat (n / 2 ^ (8 * i))).toNat : Int) := by rw [← byte_cell]; simp
        refine ⟨i + 1, by omega, by go_num, ?_, HBE.out.setCell (Nat.le_refl _) _⟩
        rw [e, ← HP.out]
        exact blk_set HB.out _ _
      case measure => simp [intOf]; omega
    · have hi' : i = many := by omega
      rw [hi', bigPart_all] at hb
      have hcv := own_string (P := Tryd.prog) Tryd.underlying41 rund_u8 rund_string (own_of_blk hb (n := many) (bigN_length n many).symm (by rw [bigN_length]; omega))
      have HBE := Lib.hid hbe
      clear hb hbe hi'
      go_wp2
      go_ret
      exact ⟨rfl, by rw [← HBQ.out]; exact HBE.out⟩

theorem big8_any (n : Nat) (w : World) (hn : n < 9223372036854775808) :
    Calls Tryd.prog 29 #[.int .i64 n, .int .i64 8] w fun e w' => e = .returned (.string ⟨(be8 n).toArray⟩) ∧ Below w.heap.size w w' := by
  have h := big_any n 8 w hn (by omega) (by omega)
  rw [bigN_8] at h
  exact h
theorem big4_any (n : Nat) (w : World) (hn : n < 9223372036854775808) :
    Calls Tryd.prog 29 #[.int .i64 n, .int .i64 4] w fun e w' => e = .returned (.string ⟨(be4 n).toArray⟩) ∧ Below w.heap.size w w' := by
  have h := big_any n 4 w hn (by omega) (by omega)
  rw [bigN_4] at h
  exact h
set_option maxRecDepth 100000 in
set_option maxHeartbeats 1000000 in
theorem filled_any (s : ByteArray) (w : World) (hl : s.size ≤ 140737488355200) :
    Calls Tryd.prog 26 #[.string s] w fun e w' => e = .returned (.string ⟨(s.data.toList ++ filling s.data.toList.length).toArray⟩) ∧ Below w.heap.size w w' := by
  obtain ⟨v0, w1, hcv, ⟨c0, rfl⟩, hown, hbel, hsz⟩ := own_of_string (P := Tryd.prog) w 9 41 5 s rund_string Tryd.underlying41 rund_u8 (by simp only [maxLen]; omega)
  obtain ⟨L, hL⟩ : ∃ L, L = s.data.toList.length := ⟨_, rfl⟩
  have hsL : s.size = L := by rw [hL]; simp
  have HO := Lib.hid hown
  have HB := Lib.hid hbel
  have HL := Lib.hid hL
  have HSL := Lib.hid hsL
  have HSZ := Lib.hid hsz
  obtain ⟨B, hB⟩ : ∃ B, B = w.heap.size := ⟨_, rfl⟩
  have HBQ := Lib.hid hB
  clear hown hbel hL hsL hsz hB
  go_enter Tryd.func26, Tryd.ntmps26
  go_wp2_with (at_builtin; refine wpList_appendM rfl _ _ rfl Tryd.underlying41 rinfo_u8 [128] (s.size + 1) rfl rfl HO.out rfl rfl HB.out (Nat.le_refl _) (by have := HSZ.out; omega) (by simp) (by omega) (by omega) ?_; intro g1 c1 w2 hown2 hb2 hsz2; have HO2 := Lib.hid hown2; have HB2 := Lib.hid hb2; clear hown2 hb2)
  obtain ⟨Z, hZ⟩ : ∃ Z, Z = zer L := ⟨_, rfl⟩
  have hZ64 : Z < 64 := hZ ▸ zer_lt L
  have HZ := Lib.hid hZ
  have hLs : L ≤ 140737488355200 := by have := HSL.out; omega
  clear hZ hcv
  have hBw : w.heap.size + 1 ≤ w2.heap.size := by have := HSZ.out; omega
  go_loopw [4] (fun v wr => ∃ k g c : Nat, k ≤ Z ∧ v = .slice (some ⟨g, 0, none⟩) (s.size + 1 + k) c ∧ OwnM wr w.heap.size 5 v (s.data.toList ++ (128 :: List.replicate k 0)) ∧ Below w.heap.size w wr ∧ w.heap.size + 1 ≤ wr.heap.size) (fun v _ => s.size + 65 - (match v with | .slice _ n _ => n | _ => 0))
  case atStart => exact ⟨0, g1, c1, Nat.zero_le _, rfl, HO2.out, HB2.out, hBw⟩
  case round =>
    clear HO2 HB2 hBw hsz2
    obtain ⟨k, g, c, hk, rfl, hown, hbel, hszr⟩ := hrel
    by_cases hkz : k < Z
    · have hd := zer_more L k (by rw [← HZ.out]; exact hkz)
      have hd' : (s.size + 1 + k) % 64 ≠ 56 := by have := HSL.out; omega
      have HOWN := Lib.hid hown
      have HBEL := Lib.hid hbel
      clear hown hbel hd
      have HLen : Hid (s.size + 1 + k + 1 = (s.data.toList ++ (128 :: List.replicate k 0)).length + [0].length) := by
        show _ = _
        have := HSL.out; have := HL.out
        simp; omega
      go_wp2_with (at_builtin; refine wpList_appendM rfl _ _ rfl Tryd.underlying41 rinfo_u8 [0] (s.size + 1 + k + 1) rfl rfl HOWN.out rfl rfl HBEL.out (Nat.le_refl _) (by omega) HLen.out (by omega) (by omega) ?_; intro g' c' w' hown' hb' hsz'; have HOWN' := Lib.hid hown'; have HB' := Lib.hid hb'; clear hown' hb')
      go_roundw
      case rel =>
        refine ⟨k + 1, g', c', by omega, rfl, ?_, HB'.out, by omega⟩
        rw [List.replicate_succ']
        simpa using HOWN'.out
      case measure => simp; omega
    · have HK := Lib.hid (show k = Z by omega)
      have hd1 : (s.size + 1 + k) % 64 ≤ 56 := by have := zer_done L; have := HZ.out; have := HK.out; have := HSL.out; subst_vars; omega
      have hd2 : 56 ≤ (s.size + 1 + k) % 64 := by have := zer_done L; have := HZ.out; have := HK.out; have := HSL.out; subst_vars; omega
      have HOWN := Lib.hid hown
      have HBEL := Lib.hid hbel
      clear hown hbel
      go_wp2_with fail
      obtain ⟨M, hM⟩ : ∃ M, M = 8 * s.size := ⟨_, rfl⟩
      have hMw : IntKind.i64.wrap (8 * (s.size : Int)) = (M : Int) := by rw [wrap_i64_id _ (by omega) (by omega)]; omega
      have hMb : M < 9223372036854775808 := by omega
      have HM := Lib.hid hM
      clear hM
      obtain ⟨X, hX⟩ : ∃ X : ByteArray, X = ⟨(s.data.toList ++ (128 :: List.replicate k 0)).toArray⟩ := ⟨_, rfl⟩
      have hcv1 := (show OwnM wr.drew w.heap.size 5 (.slice (some ⟨g, 0, none⟩) (s.size + 1 + k) c) (s.data.toList ++ (128 :: List.replicate k 0)) from HOWN.out).string (P := Tryd.prog) (S := 41) (D := 9) Tryd.underlying41 rund_u8 rund_string
      rw [← hX] at hcv1
      have hXs : X.size ≤ 140737488356000 := by
        rw [hX]
        show (s.data.toList ++ (128 :: List.replicate k 0)).toArray.size ≤ _
        have := HL.out; have := HSL.out
        simp; omega
      obtain ⟨Y, hY⟩ : ∃ Y : ByteArray, Y = ⟨(be8 M).toArray⟩ := ⟨_, rfl⟩
      have hYs : Y.size ≤ 8 := by
        rw [hY]
        show (be8 M).toArray.size ≤ _
        simp [be8_length]
      have hbig := fun W => big8_any M W hMb
      rw [← hY] at hbig
      have HBIG := Lib.hid hbig
      have HX := Lib.hid hX
      have HY := Lib.hid hY
      clear hX hY hbig
      go_region_with (go_at_call 29; refine (HBIG.out _).mono ?_; rintro e w' ⟨rfl, hb'⟩; have hcv2 := (OwnM.below (w := wr.drew) HOWN.out hb' (fun k hk => (OwnM.lt HOWN.out k hk).2)).string (P := Tryd.prog) (S := 41) (D := 9) Tryd.underlying41 rund_u8 rund_string; rw [← HX.out] at hcv2; have HB' := Lib.hid hb'; clear hb')
      all_goals
        go_wp2_with fail
        go_ret
        refine ⟨?_, ⟨HB'.out.os.trans HBEL.out.os, HB'.out.tape.trans HBEL.out.tape, HB'.out.output.trans HBEL.out.output, Nat.le_trans HBEL.out.size HB'.out.size, fun q hq => (HB'.out.block q (Nat.lt_of_lt_of_le hq (by show w.heap.size ≤ wr.heap.size; omega))).trans (HBEL.out.block q hq)⟩⟩
        have e : X ++ Y = ⟨(s.data.toList ++ filling s.data.toList.length).toArray⟩ := by
          rw [HX.out, HY.out, HK.out, HZ.out, HM.out, HSL.out, ← HL.out]
          apply ByteArray.ext
          rw [ByteArray.data_append]
          simp [filling]
        rw [← e]
        rfl
end Go.Proofs.YtmkeifhfjhknjaaDoor
