/- DigestBack: the law's walk. -/
import Derived.Test.YtdgblimeehijpaaDoorBack1
import Derived.Test.YtdgblimeehijpaaDoorKnow1
namespace Go.Proofs.YtdgblimeehijpaaDoor
open Go.RowKit Go.Scr
set_option linter.unusedVariables false

theorem srow4 (w : World) (a b c d : ByteArray) : SRow (w.alloc (.cells #[.string a, .string b, .string c, .string d] 9)) w.heap.size [a, b, c, d] := heap_alloc_new w _
theorem SRow.alloc {w : World} {g : Nat} {L : List ByteArray} (h : SRow w g L) (o : Obj) : SRow (w.alloc o) g L := blk_alloc h

set_option maxRecDepth 100000 in
set_option maxHeartbeats 2000000 in
theorem dback_any (s : ByteArray) (at_ by_ : Int) (more : ByteArray) (w : World) (ht : Tabs w) (hs : s.size ≤ 1048576) (hmr : more.size ≤ 1048576) (hat : -9223372036854775808 ≤ at_ ∧ at_ ≤ 9223372036854775807) (hby : -9223372036854775808 ≤ by_ ∧ by_ ≤ 9223372036854775807) :
    Calls Tryd.prog 7 #[.string s, .int .i64 at_, .int .i64 by_, .string more] w fun e w' => e = .returned (.bool true) ∧ Below w.heap.size w w' := by
  have HT := Lib.hid ht
  have HB0 := Lib.hid (Below.refl w.heap.size w)
  obtain ⟨X, hX⟩ : ∃ X, X = str (hexL s.data.toList) := ⟨_, rfl⟩
  obtain ⟨Y, hY⟩ : ∃ Y, Y = str (b64 s.data.toList) := ⟨_, rfl⟩
  have hdl : s.data.toList.length = s.size := by simp
  have hXs : X.size = 2 * s.size := by rw [hX, str_size, hexL_length, hdl]
  have hYs : Y.size = 4 * ((s.size + 2) / 3) := by rw [hY, str_size, b64_length, hdl]
  have d1 := fun w => dhex_any s w (by omega)
  have d2 := fun w => db64_any s w (by omega)
  have d3 := fun w => dfromhex_any X w (by omega)
  have d4 := fun w => dfrom64_any Y w (by omega)
  rw [← hX] at d1
  rw [← hY] at d2
  rw [show X.data.toList = hexL s.data.toList by rw [hX, str_list], (hex_there _).1, (hex_there _).2, str_data] at d3
  rw [show Y.data.toList = b64 s.data.toList by rw [hY, str_list], (b64_there _).1, (b64_there _).2, str_data] at d4
  obtain ⟨G, hG⟩ : ∃ G, G = (s.size + 2) / 3 := ⟨_, rfl⟩
  rw [← hG] at hYs
  have hz2 : (0 : Int) ≤ (s.size : Int) + 2 := by omega
  have hq : ((s.size : Int) + 2).tdiv 3 = (G : Int) := by rw [Int.tdiv_eq_ediv_of_nonneg hz2]; omega
  have hxs1 : (X.size : Int) = 2 * (s.size : Int) := by omega
  have hys1 : (Y.size : Int) = (G : Int) * 4 := by omega
  have hGb : G ≤ 1048576 := by omega
  have D1 := Lib.hid d1
  have D2 := Lib.hid d2
  have D3 := Lib.hid d3
  have D4 := Lib.hid d4
  have HXS := Lib.hid hXs
  have HYS := Lib.hid hYs
  clear ht hX hY hdl hXs hYs d1 d2 d3 d4 hz2 hG
  go_enter Tryd.func7, Tryd.ntmps7
  go_upto_region 10 with (first
    | (go_at_call 15; with_reducible refine (known1_any w HT.out).mono ?_; rintro r w1 ⟨rfl, hb⟩; have HB1 := Lib.hid hb; clear hb)
    | (go_at_call 23; with_reducible refine (D1.out w1).mono ?_; rintro r w2 ⟨rfl, hb⟩; have HB2 := Lib.hid (below_from HB1.out hb HB1.out.size); clear hb)
    | (go_at_call 25; with_reducible refine (D2.out w2).mono ?_; rintro r w3 ⟨rfl, hb⟩; have HB3 := Lib.hid (below_from HB2.out hb HB2.out.size); clear hb)
    | (go_at_call 19; with_reducible refine (D3.out w3).mono ?_; rintro r w4 ⟨rfl, hb⟩; have HB4 := Lib.hid (below_from HB3.out hb HB3.out.size); clear hb)
    | (go_at_call 21; with_reducible refine (D4.out w4).mono ?_; rintro r w5 ⟨rfl, hb⟩; have HB5 := Lib.hid (below_from HB4.out hb HB4.out.size); clear hb))
  clear hxs1 hys1 hq HB1 HB2 HB3 HB4
  have hXb : X.size ≤ 2097152 := by have := HXS.out; omega
  have hYb : Y.size ≤ 4194304 := by have := HYS.out; omega
  obtain ⟨q1, hq1⟩ : ∃ q, q = X.size + 1 := ⟨_, rfl⟩
  obtain ⟨q2, hq2⟩ : ∃ q, q = Y.size + 1 := ⟨_, rfl⟩
  have hqq1 : (X.size : Int) + 1 = (q1 : Int) := by omega
  have hqq2 : (Y.size : Int) + 1 = (q2 : Int) := by omega
  obtain ⟨k1, hk1⟩ : ∃ k, k = pickN at_ q1 := ⟨_, rfl⟩
  obtain ⟨k2, hk2⟩ : ∃ k, k = pickN at_ q2 := ⟨_, rfl⟩
  have hk1l : k1 < q1 := by rw [hk1]; exact pickN_lt _ (by omega)
  have hk2l : k2 < q2 := by rw [hk2]; exact pickN_lt _ (by omega)
  have p1 := fun w' => pick1_any at_ q1 w' (by omega) (by omega) hat
  have p2 := fun w' => pick1_any at_ q2 w' (by omega) (by omega) hat
  rw [← hk1] at p1
  rw [← hk2] at p2
  have P1 := Lib.hid p1
  have P2 := Lib.hid p2
  have hk1x : (k1 : Int) ≤ (X.size : Int) := by omega
  have hk2y : (k2 : Int) ≤ (Y.size : Int) := by omega
  have hk10 : (0 : Int) ≤ (k1 : Int) := by omega
  have hk20 : (0 : Int) ≤ (k2 : Int) := by omega
  have hc1 : X.size + more.size ≤ 8388608 := by omega
  have hc2 : more.size + X.size ≤ 8388608 := by omega
  have hc3 : Y.size + more.size ≤ 8388608 := by omega
  have hc4 : more.size + Y.size ≤ 8388608 := by omega
  have SP1 := Lib.hid (fun w' => spoilt_any X at_ by_ w' (by omega) hat hby)
  have SP2 := Lib.hid (fun w' => spoilt_any Y at_ by_ w' (by omega) hat hby)
  clear hq1 hq2 hk1 hk2 hk1l hk2l p1 p2
  go_wp2_with (first
    | (go_at_call 27; with_reducible refine (SP1.out w5).mono ?_; rintro r w6 ⟨t1, rfl, ht1, hb⟩; have HB6 := Lib.hid (below_from HB5.out hb HB5.out.size); have HT1 := Lib.hid ht1; clear hb ht1)
    | (go_at_call 28; with_reducible refine (P1.out _).mono ?_; rintro r w6' ⟨rfl, hw6⟩; rw [hw6]; clear hw6 w6')
    | (go_at_call 27; with_reducible refine (SP2.out _).mono ?_; rintro r w7 ⟨t2, rfl, ht2, hb⟩; have HB7 := Lib.hid (below_from (HB6.out.alloc HB6.out.size _) hb (by simp; exact Nat.le_trans HB6.out.size (Nat.le_succ _))); have HROWX := Lib.hid ((srow4 w6 t1 (X.extract 0 k1) (X ++ more) (more ++ X)).below hb (by simp)); have HT2 := Lib.hid ht2; clear hb ht2)
    | (go_at_call 28; with_reducible refine (P2.out _).mono ?_; rintro r w7' ⟨rfl, hw7⟩; rw [hw7]; clear hw7 w7'))
  obtain ⟨LX, hLX⟩ : ∃ L, L = [t1, X.extract 0 k1, X ++ more, more ++ X] := ⟨_, rfl⟩
  obtain ⟨LY, hLY⟩ : ∃ L, L = [t2, Y.extract 0 k2, Y ++ more, more ++ Y] := ⟨_, rfl⟩
  have hbx : ∀ z ∈ LX, z.size ≤ 8388608 := by
    intro z hz
    rw [hLX] at hz
    simp only [List.mem_cons, List.not_mem_nil, or_false] at hz
    rcases hz with rfl | rfl | rfl | rfl
    · have := HT1.out; omega
    · rw [ByteArray.size_extract]; omega
    · rw [ByteArray.size_append]; exact hc1
    · rw [ByteArray.size_append]; exact hc2
  have hby2 : ∀ z ∈ LY, z.size ≤ 8388608 := by
    intro z hz
    rw [hLY] at hz
    simp only [List.mem_cons, List.not_mem_nil, or_false] at hz
    rcases hz with rfl | rfl | rfl | rfl
    · have := HT2.out; omega
    · rw [ByteArray.size_extract]; omega
    · rw [ByteArray.size_append]; exact hc3
    · rw [ByteArray.size_append]; exact hc4
  have hlx4 : LX.length = 4 := by rw [hLX]; rfl
  have hly4 : LY.length = 4 := by rw [hLY]; rfl
  obtain ⟨gx, hgx⟩ : ∃ g, g = w6.heap.size := ⟨_, rfl⟩
  obtain ⟨gy, hgy⟩ : ∃ g, g = w7.heap.size := ⟨_, rfl⟩
  have hry := srow4 w7 t2 (Y.extract 0 k2) (Y ++ more) (more ++ Y)
  have hrx := SRow.alloc HROWX.out (.cells #[.string t2, .string (Y.extract 0 k2), .string (Y ++ more), .string (more ++ Y)] 9)
  have hb8 := HB7.out.alloc HB7.out.size (.cells #[.string t2, .string (Y.extract 0 k2), .string (Y ++ more), .string (more ++ Y)] 9)
  rw [← hLX, ← hgx] at hrx
  rw [← hLY, ← hgy] at hry
  rw [← hgx, ← hgy]
  generalize w7.alloc (.cells #[.string t2, .string (Y.extract 0 k2), .string (Y ++ more), .string (more ++ Y)] 9) = w8 at *
  have HRX := Lib.hid hrx
  have HRY := Lib.hid hry
  have HB8 := Lib.hid hb8
  have HBX := Lib.hid hbx
  have HBY := Lib.hid hby2
  have HLX4 := Lib.hid hlx4
  have HLY4 := Lib.hid hly4
  clear hrx hry hb8 hbx hby2 hlx4 hly4 hLX hLY hgx hgy HROWX HB7 HB6 HB5 hqq1 hqq2 hc1 hc2 hc3 hc4 hk1x hk2y hk10 hk20
  go_loopw [18] (fun q wr => ∃ i : Nat, i ≤ 4 ∧ q = .int .i64 i ∧ SRow wr gx LX ∧ SRow wr gy LY ∧ Below w.heap.size w wr) (fun q _ => 4 - (intOf q).toNat)
  case atStart => exact ⟨0, by omega, rfl, HRX.out, HRY.out, HB8.out⟩
  case round =>
    clear HRX HRY HB8
    obtain ⟨i, hi, rfl, hrx, hry, hbel⟩ := hrel
    have HRX := Lib.hid hrx
    have HRY := Lib.hid hry
    have HBEL := Lib.hid hbel
    clear hrx hry hbel
    by_cases hi4 : i < 4
    · have a4 : (i : Int) < 4 := by omega
      obtain ⟨x, hx⟩ : ∃ x, LX[i]? = some x := ⟨LX[i]'(by rw [HLX4.out]; exact hi4), List.getElem?_eq_getElem _⟩
      obtain ⟨y, hy⟩ : ∃ y, LY[i]? = some y := ⟨LY[i]'(by rw [HLY4.out]; exact hi4), List.getElem?_eq_getElem _⟩
      have hcx := HRX.out.cell hx
      have hcy := HRY.out.cell hy
      have hcyW : ∀ w', Below wr.heap.size wr w' → w'.cell? ⟨gy, i, none⟩ = some (.string y) := fun w' hb => (hb.cell (block_lt_of_cell hcy)).trans hcy
      have hcxW : ∀ w', Below wr.heap.size wr w' → w'.cell? ⟨gx, i, none⟩ = some (.string x) := fun w' hb => (hb.cell (block_lt_of_cell hcx)).trans hcx
      have hxb := HBX.out x (List.mem_of_getElem? hx)
      have hyb := HBY.out y (List.mem_of_getElem? hy)
      obtain ⟨P, hP⟩ : ∃ P, P = fhS x.data.toList := ⟨_, rfl⟩
      obtain ⟨Q, hQ⟩ : ∃ Q, Q = fbS y.data.toList := ⟨_, rfl⟩
      have f1 := fun w => dfromhex_any x w (by omega)
      have f2 := fun w => dfrom64_any y w (by omega)
      rw [← hP] at f1
      rw [← hQ] at f2
      have hPs : P.size ≤ 8388608 := by
        rw [hP]
        unfold fhS
        split
        · rw [str_size]; simp [unhexL]; omega
        · exact Nat.zero_le _
      have hQs : Q.size ≤ 16777216 := by
        rw [hQ]
        unfold fbS
        split
        · rw [str_size]
          have := unb_length y.data.toList (y.data.toList.length / 4)
          have e : y.data.toList.length = y.size := by simp
          omega
        · exact Nat.zero_le _
      have f3 := fun w => dhex_any P w (by omega)
      have f4 := fun w => db64_any Q w (by omega)
      have hxx := hex_back x.data.toList
      have hyy := b64_back y.data.toList
      rw [← hP] at hxx
      rw [← hQ] at hyy
      have HCYW := Lib.hid hcyW
      have HCXW := Lib.hid hcxW
      clear hx hy hP hQ hPs hQs hcyW hcxW hcy
      have HWR := Lib.hid (Below.refl wr.heap.size wr)
      rcases hxx with ⟨ex1, ex2⟩ | ⟨ex1, ex2⟩ <;> rcases hyy with ⟨ey1, ey2⟩ | ⟨ey1, ey2⟩
      · rw [ex1] at f1
        rw [ey1] at f2
        rw [ex2, str_data] at f3
        rw [ey2, str_data] at f4
        have F1 := Lib.hid f1
        have F2 := Lib.hid f2
        have F3 := Lib.hid f3
        have F4 := Lib.hid f4
        clear f1 f2 f3 f4 ex1 ex2 ey1 ey2
        go_wp2_with (first
          | (go_at_call 19; with_reducible refine (F1.out wr).mono ?_; rintro r w9 ⟨rfl, hb⟩; have hcy9 := HCYW.out w9 hb; have HB9 := Lib.hid hb; clear hb)
          | (go_at_call 21; with_reducible refine (F2.out w9).mono ?_; rintro r w10 ⟨rfl, hb⟩; have HB10 := Lib.hid (below_from HB9.out hb HB9.out.size); clear hb hcy9)
          | (go_at_call 23; with_reducible refine (F3.out w10).mono ?_; rintro r w11 ⟨rfl, hb⟩; have HB11 := Lib.hid (below_from HB10.out hb HB10.out.size); clear hb)
          | (go_at_call 25; with_reducible refine (F4.out w11).mono ?_; rintro r w12 ⟨rfl, hb⟩; have HB12 := Lib.hid (below_from HB11.out hb HB11.out.size); have hcx12 := HCXW.out w12 HB12.out; have hcy12 := HCYW.out w12 HB12.out; clear hb))
        exact ⟨⟨i + 1, by omega, rfl, HRX.out.below HB12.out HRX.out.lt, HRY.out.below HB12.out HRY.out.lt, below_from HBEL.out HB12.out HBEL.out.size⟩, (by show 4 - ((i : Int) + 1).toNat < 4 - (i : Int).toNat; omega)⟩
      · rw [ex1] at f1
        rw [ey1] at f2
        rw [ex2, str_data] at f3
        obtain ⟨Z2, hZ2⟩ : ∃ Z, Z = str (b64 Q.data.toList) := ⟨_, rfl⟩
        rw [← hZ2] at f4
        have hQe : (Q.toList == ([] : List UInt8)) = true := by rw [ey2, ByteArray.toList_eq]; rfl
        clear hZ2
        have F1 := Lib.hid f1
        have F2 := Lib.hid f2
        have F3 := Lib.hid f3
        have F4 := Lib.hid f4
        clear f1 f2 f3 f4 ex1 ex2 ey1 ey2
        go_wp2_with (first
          | (go_at_call 19; with_reducible refine (F1.out wr).mono ?_; rintro r w9 ⟨rfl, hb⟩; have hcy9 := HCYW.out w9 hb; have HB9 := Lib.hid hb; clear hb)
          | (go_at_call 21; with_reducible refine (F2.out w9).mono ?_; rintro r w10 ⟨rfl, hb⟩; have HB10 := Lib.hid (below_from HB9.out hb HB9.out.size); clear hb hcy9)
          | (go_at_call 23; with_reducible refine (F3.out w10).mono ?_; rintro r w11 ⟨rfl, hb⟩; have HB11 := Lib.hid (below_from HB10.out hb HB10.out.size); clear hb)
          | (go_at_call 25; with_reducible refine (F4.out w11).mono ?_; rintro r w12 ⟨rfl, hb⟩; have HB12 := Lib.hid (below_from HB11.out hb HB11.out.size); have hcx12 := HCXW.out w12 HB12.out; have hcy12 := HCYW.out w12 HB12.out; clear hb))
        exact ⟨⟨i + 1, by omega, rfl, HRX.out.below HB12.out HRX.out.lt, HRY.out.below HB12.out HRY.out.lt, below_from HBEL.out HB12.out HBEL.out.size⟩, (by show 4 - ((i : Int) + 1).toNat < 4 - (i : Int).toNat; omega)⟩
      · rw [ex1] at f1
        rw [ey1] at f2
        obtain ⟨Z1, hZ1⟩ : ∃ Z, Z = str (hexL P.data.toList) := ⟨_, rfl⟩
        rw [← hZ1] at f3
        have hPe : (P.toList == ([] : List UInt8)) = true := by rw [ex2, ByteArray.toList_eq]; rfl
        clear hZ1
        rw [ey2, str_data] at f4
        have F1 := Lib.hid f1
        have F2 := Lib.hid f2
        have F3 := Lib.hid f3
        have F4 := Lib.hid f4
        clear f1 f2 f3 f4 ex1 ex2 ey1 ey2
        go_wp2_with (first
          | (go_at_call 19; with_reducible refine (F1.out wr).mono ?_; rintro r w9 ⟨rfl, hb⟩; have hcy9 := HCYW.out w9 hb; have HB9 := Lib.hid hb; clear hb)
          | (go_at_call 21; with_reducible refine (F2.out w9).mono ?_; rintro r w10 ⟨rfl, hb⟩; have HB10 := Lib.hid (below_from HB9.out hb HB9.out.size); clear hb hcy9)
          | (go_at_call 23; with_reducible refine (F3.out w10).mono ?_; rintro r w11 ⟨rfl, hb⟩; have HB11 := Lib.hid (below_from HB10.out hb HB10.out.size); clear hb)
          | (go_at_call 25; with_reducible refine (F4.out w11).mono ?_; rintro r w12 ⟨rfl, hb⟩; have HB12 := Lib.hid (below_from HB11.out hb HB11.out.size); have hcx12 := HCXW.out w12 HB12.out; have hcy12 := HCYW.out w12 HB12.out; clear hb))
        exact ⟨⟨i + 1, by omega, rfl, HRX.out.below HB12.out HRX.out.lt, HRY.out.below HB12.out HRY.out.lt, below_from HBEL.out HB12.out HBEL.out.size⟩, (by show 4 - ((i : Int) + 1).toNat < 4 - (i : Int).toNat; omega)⟩
      · rw [ex1] at f1
        rw [ey1] at f2
        obtain ⟨Z1, hZ1⟩ : ∃ Z, Z = str (hexL P.data.toList) := ⟨_, rfl⟩
        rw [← hZ1] at f3
        have hPe : (P.toList == ([] : List UInt8)) = true := by rw [ex2, ByteArray.toList_eq]; rfl
        clear hZ1
        obtain ⟨Z2, hZ2⟩ : ∃ Z, Z = str (b64 Q.data.toList) := ⟨_, rfl⟩
        rw [← hZ2] at f4
        have hQe : (Q.toList == ([] : List UInt8)) = true := by rw [ey2, ByteArray.toList_eq]; rfl
        clear hZ2
        have F1 := Lib.hid f1
        have F2 := Lib.hid f2
        have F3 := Lib.hid f3
        have F4 := Lib.hid f4
        clear f1 f2 f3 f4 ex1 ex2 ey1 ey2
        go_wp2_with (first
          | (go_at_call 19; with_reducible refine (F1.out wr).mono ?_; rintro r w9 ⟨rfl, hb⟩; have hcy9 := HCYW.out w9 hb; have HB9 := Lib.hid hb; clear hb)
          | (go_at_call 21; with_reducible refine (F2.out w9).mono ?_; rintro r w10 ⟨rfl, hb⟩; have HB10 := Lib.hid (below_from HB9.out hb HB9.out.size); clear hb hcy9)
          | (go_at_call 23; with_reducible refine (F3.out w10).mono ?_; rintro r w11 ⟨rfl, hb⟩; have HB11 := Lib.hid (below_from HB10.out hb HB10.out.size); clear hb)
          | (go_at_call 25; with_reducible refine (F4.out w11).mono ?_; rintro r w12 ⟨rfl, hb⟩; have HB12 := Lib.hid (below_from HB11.out hb HB11.out.size); have hcx12 := HCXW.out w12 HB12.out; have hcy12 := HCYW.out w12 HB12.out; clear hb))
        exact ⟨⟨i + 1, by omega, rfl, HRX.out.below HB12.out HRX.out.lt, HRY.out.below HB12.out HRY.out.lt, below_from HBEL.out HB12.out HBEL.out.size⟩, (by show 4 - ((i : Int) + 1).toNat < 4 - (i : Int).toNat; omega)⟩
    · have a4 : ¬ ((i : Int) < 4) := by omega
      go_wp2
      go_ret
      exact ⟨rfl, HBEL.out⟩
end Go.Proofs.YtdgblimeehijpaaDoor
