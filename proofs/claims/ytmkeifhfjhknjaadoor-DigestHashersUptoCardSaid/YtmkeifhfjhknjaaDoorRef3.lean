/- The reference's Sum, walked. -/
import Derived.Test.YtmkeifhfjhknjaaDoorRef2
import Derived.Test.YtmkeifhfjhknjaaDoorWalk
namespace Go.Proofs.YtmkeifhfjhknjaaDoor
open Go.RowKit Go.Scr
set_option linter.unusedVariables false

theorem below_from {B : Nat} {a b c : World} (h : Below B a b) (g : Below b.heap.size b c) (hb : B ≤ b.heap.size) : Below B a c :=
  ⟨g.os.trans h.os, g.tape.trans h.tape, g.output.trans h.output, Nat.le_trans h.size g.size, fun q hq => (g.block q (Nat.lt_of_lt_of_le hq hb)).trans (h.block q hq)⟩

theorem rflat_step (S : List Nat) (n : Nat) (h : n < S.length) : (S.take (n + 1)).flatMap be4 = (S.take n).flatMap be4 ++ be4 (S.getD n 0) := by
  rw [List.take_succ_eq_append_getElem h, List.flatMap_append]
  simp [List.getD_eq_getElem?_getD, h]
theorem rflat_length (S : List Nat) : (S.flatMap be4).length = 4 * S.length := by
  induction S with
  | nil => rfl
  | cons a S ih => rw [List.flatMap_cons, List.length_append, ih]; simp [be4]; omega
set_option maxRecDepth 100000 in
set_option maxHeartbeats 1000000 in
theorem rsum_any (s : ByteArray) (w : World) (hl : s.size ≤ 140737488355200) :
    Calls Tryd.prog 14 #[.string s] w fun e w' => e = .returned (.string ⟨(sha s.data.toList).toArray⟩) ∧ Below w.heap.size w w' := by
  have hfill := filled_any s w hl
  obtain ⟨m, hm⟩ : ∃ m : ByteArray, m = ⟨(s.data.toList ++ filling s.data.toList.length).toArray⟩ := ⟨_, rfl⟩
  obtain ⟨N, hN⟩ : ∃ N, N = m.size / 64 := ⟨_, rfl⟩
  have hms : m.size = s.size + (9 + zer s.size) := by
    rw [hm]
    show (s.data.toList ++ filling s.data.toList.length).toArray.size = _
    simp [filling_length]
  have hz1 := zer_lt s.size
  have hz2 := zer_done s.size
  have hmN : m.size = 64 * N := by omega
  have hNb : N ≤ 2199023255560 := by omega
  have hsha : sha s.data.toList = (blocks N Hs m.data.toList).flatMap be4 := by
    rw [hN]
    unfold sha absorb
    rw [hm]
    show _ = List.flatMap be4 (blocks ((s.data.toList ++ filling s.data.toList.length).toArray.size / 64) _ _)
    simp
  rw [← hm] at hfill
  have HF := Lib.hid hfill
  have HMN := Lib.hid hmN
  have HSHA := Lib.hid hsha
  clear hfill hm hN hms hz1 hz2 hmN hsha
  go_enter Tryd.func14, Tryd.ntmps14
  have hz8 := zero_8
  go_wp2_with (first
    | (go_at_call 26; refine HF.out.mono ?_; rintro e w1 ⟨rfl, hb1⟩; have HB1 := Lib.hid hb1; clear hb1)
    | (go_at_call 27; refine (begins_any _).mono ?_; rintro e w2 ⟨rfl, hb2⟩; have HB2 := Lib.hid hb2; clear hb2)
    | (refine wpList_store_row rfl 56 (.tmp 4) (.tmp 10) rfl w2.heap.size (agg8 Hs) rfl rfl 56 z8 (heap_alloc_new w2 _) (by rw [agg8_size rfl]; exact info_8) (by rw [agg8_size rfl]; rfl) (agg8_one Hs) ?_
       rw [setRow_alloc]))
  obtain ⟨B, hB⟩ : ∃ B, B = w2.heap.size := ⟨_, rfl⟩
  rw [← hB]
  have hr0 : (w2.alloc (.cells (agg8 Hs) 56)).heap[B]? = some (.cells (agg8 Hs) 56 (0, 0)) := by rw [hB]; exact heap_alloc_new w2 _
  have hbel0 : Below w.heap.size w (w2.alloc (.cells (agg8 Hs) 56)) := ((below_from HB1.out HB2.out HB1.out.size)).alloc (Nat.le_trans HB1.out.size HB2.out.size) _
  have hBw : w.heap.size ≤ B := by rw [hB]; exact Nat.le_trans HB1.out.size HB2.out.size
  generalize w2.alloc (.cells (agg8 Hs) 56) = w3 at *
  have HR0 := Lib.hid hr0
  have HBEL0 := Lib.hid hbel0
  clear hr0 hbel0 hB HB1 HB2 hz8
  go_loopw [5] (fun v wr => ∃ i p : Nat, i ≤ N ∧ Hid (p = 64 * i) ∧ v = .int .i64 p ∧ wr.heap[B]? = some (.cells (agg8 (blocks i Hs m.data.toList)) 56 (0, 0)) ∧ Below w.heap.size w wr) (fun v _ => 64 * N - (intOf v).toNat)
  case atStart => exact ⟨0, 0, by omega, Lib.hid rfl, rfl, HR0.out, HBEL0.out⟩
  case round =>
    clear HR0 HBEL0
    obtain ⟨i, p, hi, HP, rfl, hr, hbel⟩ := hrel
    have hst := blocks_St i Hs_St m.data.toList
    obtain ⟨st, hst'⟩ : ∃ st, st = blocks i Hs m.data.toList := ⟨_, rfl⟩
    rw [← hst'] at hr hst
    have HST := Lib.hid hst'
    have HS := Lib.hid hst
    have HR := Lib.hid hr
    have HBEL := Lib.hid hbel
    clear hst' hst hr hbel
    by_cases hlt : i < N
    · have hp64 : p + 64 ≤ m.size := by have := HP.out; have := HMN.out; omega
      have hp0 : (p : Int) < (m.size : Int) := by omega
      have hps : m.size < 140737488355841 := by have := HMN.out; omega
      go_wp2_with fail
      have hwr : IntKind.i64.wrap ((p : Int) + 64) = ((p + 64 : Nat) : Int) := by rw [wrap_i64_id _ (by omega) (by omega)]; omega
      have hc1 : (0 : Int) ≤ (p : Int) := by omega
      have hc2 : (p : Int) ≤ ((p + 64 : Nat) : Int) := by omega
      have hc3 : ((p + 64 : Nat) : Int) ≤ (m.size : Int) := by omega
      obtain ⟨X, hX⟩ : ∃ X : ByteArray, X = m.extract p (p + 64) := ⟨_, rfl⟩
      have hXs : X.size = 64 := by rw [hX, ByteArray.size_extract]; omega
      have hXl : X.data.toList = (m.data.toList.drop p).take 64 := by
        rw [hX, ByteArray.data_extract, Array.toList_extract, List.extract_eq_take_drop]
        congr 1; omega
      have HX := Lib.hid hX
      have HXL := Lib.hid hXl
      clear hXl hX
      have hz8 := zero_8
      refine wp_region_still_tail 6 (by kernel_rfl) (by kernel_rfl) ?_
      simp only [List.take_succ_cons, List.take_zero, List.drop_succ_cons, List.drop_zero]
      change wpStill _ _ wr.drew _ _ _
      refine still_load_row rfl 56 (.tmp 4) rfl B rfl 56 (agg8 st) (0, 0) _ HR.out und_8 rfl (by rw [agg8_size HS.out.1]; exact info_8) ?_
      have hd1 : (p : Int) ≤ (p : Int) + 64 := by omega
      have hd2 : (p : Int) + 64 ≤ (m.size : Int) := by omega
      have hd3 : ((p : Int) + 64).toNat = p + 64 := by omega
      have hd4 : (0 : Int) ≤ (p : Int) + 64 := by omega
      repeat still_step
      refine wpStill_nil ?_
      change wpList _ _ _ _ _ wr.drew
      rw [← HX.out]
      clear hd1 hd2 hd3 hd4 hwr hc1 hc2 hc3 hz8
      go_wp2_with (first
        | (go_at_call 28; refine (rblock_any st X _ HS.out hXs).mono ?_; rintro e w4 ⟨rfl, hb4⟩; have HB4 := Lib.hid hb4; have hr4 : w4.heap[B]? = some (.cells (agg8 st) 56 (0, 0)) := (hb4.block B (row_lt HR.out)).trans HR.out; have hst4 : (blockN st X.data.toList).length = 8 := (blockN_St _ HS.out).1; clear hb4)
        | ((with_reducible refine wpList_store_row (o := ⟨none, _, _, _, _, _⟩) rfl 56 (.tmp 4) (.tmp 23) rfl B (agg8 (blockN st X.data.toList)) ?_ ?_ 56 (agg8 st) ?_ ?_ ?_ ?_ ?_); rfl; rfl; exact hr4; (rw [agg8_size hst4]; exact info_8); (rw [agg8_size hst4, agg8_size HS.out.1]); exact agg8_one _))
      case roundEnd =>
        refine ⟨⟨i + 1, p + 64, by omega, Lib.hid (by have := HP.out; omega), by rfl, ?_, ?_⟩, ?_⟩
        · rw [blk_row hr4, blocks_end, ← HST.out, HXL.out, HP.out]
        · exact below_setRow (below_from HBEL.out.drew HB4.out HBEL.out.size) hBw _
        · show 64 * N - ((p : Int) + 64).toNat < 64 * N - (p : Int).toNat
          have := HP.out; omega
    · have hpN : ¬ ((p : Int) < (m.size : Int)) := by have := HP.out; have := HMN.out; omega
      have HIN := Lib.hid (show i = N by omega)
      go_wp2_with fail
      clear hpN
      have hlen : st.length = 8 := HS.out.1
      have HLEN := Lib.hid hlen
      obtain ⟨e0, he0⟩ : ∃ e0 : ByteArray, e0 = ⟨#[]⟩ := ⟨_, rfl⟩
      rw [← he0]
      have HE0 := Lib.hid he0
      clear he0 hlen
      go_loopw [6, 7] (fun o v wr => ∃ (k : Nat) (x : ByteArray), k ≤ 8 ∧ v = .int .i64 k ∧ o = .string x ∧ x.data.toList = (st.take k).flatMap be4 ∧ wr.heap[B]? = some (.cells (agg8 st) 56 (0, 0)) ∧ Below w.heap.size w wr) (fun _ v _ => 8 - (intOf v).toNat)
      case atStart => exact ⟨0, e0, by omega, rfl, rfl, by rw [HE0.out]; rfl, HR.out, HBEL.out⟩
      case round =>
        clear HR HBEL
        obtain ⟨k, x, hk, rfl, rfl, hx, hr, hbel⟩ := hrel
        have HXE := Lib.hid hx
        have HR := Lib.hid hr
        have HBEL := Lib.hid hbel
        clear hx hr hbel
        by_cases hk8 : k < 8
        · have hxs : x.size ≤ 64 := by
            show x.data.size ≤ 64
            rw [← Array.length_toList, HXE.out, rflat_length]
            simp; omega
          obtain ⟨y, hy⟩ : ∃ y, y = st.getD k 0 := ⟨_, rfl⟩
          have hcell : wr.cell? ⟨B, k, none⟩ = some (.int .i64 (y : Int)) := by
            rw [cell_of_row wr B k _ _ _ HR.out, agg8_get HLEN.out hk8, hy]
          have hylt : y < 9223372036854775808 := by have := HS.out.get_lt k; omega
          obtain ⟨Y, hY⟩ : ∃ Y : ByteArray, Y = ⟨(be4 y).toArray⟩ := ⟨_, rfl⟩
          have hYs : Y.size ≤ 8 := by
            rw [hY]
            show (be4 y).toArray.size ≤ _
            simp [be4]
          have hbig := fun W => big4_any y W hylt
          rw [← hY] at hbig
          have HBIG := Lib.hid hbig
          have HY := Lib.hid hY
          have HYV := Lib.hid hy
          clear hY hbig hy
          have hz4 : Y.size + x.size ≤ 1000 := by omega
          have hz5 : x.size + Y.size ≤ 1000 := by omega
          go_wp2_with (go_at_call 29; refine (HBIG.out _).mono ?_; rintro e w5 ⟨rfl, hb5⟩; have HB5 := Lib.hid hb5; clear hb5)
          refine ⟨⟨k + 1, x ++ Y, by omega, rfl, rfl, ?_, (HB5.out.block B (row_lt HR.out)).trans HR.out, below_from HBEL.out HB5.out HBEL.out.size⟩, ?_⟩
          · rw [ByteArray.data_append, Array.toList_append, HXE.out, rflat_step st k (by rw [HLEN.out]; exact hk8), ← HYV.out, HY.out]
          · show 8 - ((k : Int) + 1).toNat < 8 - (k : Int).toNat
            omega
        · have HK8 := Lib.hid (show k = 8 by omega)
          have hk9 : ¬ ((k : Int) < 8) := by omega
          go_wp2
          go_ret
          refine ⟨?_, HBEL.out⟩
          have e : x = ⟨(sha s.data.toList).toArray⟩ := by
            apply ByteArray.ext
            rw [HSHA.out, ← HIN.out, ← HST.out]
            have := HXE.out
            rw [HK8.out, List.take_of_length_le (by rw [HLEN.out]; omega)] at this
            simp [← this]
          rw [← e]
          rfl
end Go.Proofs.YtmkeifhfjhknjaaDoor
