/- CacheNests, walked. -/
import Derived.Test.YthaccjjkbbkehaaCb1
import Derived.Test.YthaccjjkbbkehaaCic
import Derived.Deep.CutBlock
import Derived.BigQuiet
namespace Go.Proofs.Ythaccjjkbbkehaa
open Go.RowKit Go.Scr Go.Maps
set_option linter.unusedVariables false

abbrev keyS (m : Nat) : ByteArray := ⟨#[UInt8.ofNat (97 + m)]⟩
def valS (m : Nat) : ByteArray := ⟨(List.replicate m (0 : UInt8)).toArray⟩
def valK (k : ByteArray) : ByteArray := valS ((k.data.toList.headD 0).toNat - 97)
theorem valK_key {m : Nat} (h : m < 12) : valK (keyS m) = valS m := by
  unfold valK
  have : (UInt8.ofNat (97 + m)).toNat = 97 + m := by rw [UInt8.toNat_ofNat']; omega
  show valS ((UInt8.ofNat (97 + m)).toNat - 97) = _
  rw [this, Nat.add_sub_cancel_left]
theorem valS_size (m : Nat) : (valS m).size = m := by unfold valS; simp [ByteArray.size]
theorem info_u8C : (Try.prog.info? 5).map (fun i => (i.zero, i.size, i.bytes)) = some (some (.int .u8 0), 1, 1) := by kernel_rfl
theorem und_u8C : Try.prog.underlying 5 = some (.int .u8) := by kernel_rfl
theorem key_conv (w : World) (m : Nat) (hm : m < 12) : (convert 29 9 (.slice (some ⟨w.heap.size, 0, none⟩) 1 1)).run Try.prog (w.alloc (.cells #[.int .u8 (97 + (m : Int))] 5)) = .ok (.string (keyS m)) (w.alloc (.cells #[.int .u8 (97 + (m : Int))] 5)) := by
  have e : (#[Value.int .u8 (97 + (m : Int))] : Array Value) = (bytesV [UInt8.ofNat (97 + m)]).toArray := by
    unfold bytesV
    simp only [List.map_cons, List.map_nil]
    rw [UInt8.toNat_ofNat']
    have : ((97 + m) % 2 ^ 8 : Nat) = 97 + m := by omega
    rw [this]
    simp
  rw [e]
  exact own_string (P := Try.prog) (D := 9) (S := 29) (c := 1) Try.underlying29 und_u8C Try.underlying9 (own_of_blk (n := 1) (heap_alloc_new w _) (by simp) (by simp))
theorem val_make (w : World) (m : Nat) (hm : m < 12) : (Instr.makeSlice 29 (.int .i64 (m : Int)) (.int .i64 (m : Int))).run Try.prog w = .ok (.slice (some ⟨w.heap.size, 0, none⟩) m m) (w.alloc (.cells (bytesV (List.replicate m 0)).toArray 5)) := by
  rw [← madeCells_bytes]
  exact make_bytes (P := Try.prog) 29 5 Try.underlying29 info_u8C m m (Nat.le_refl _) (by omega) w
theorem val_conv (w : World) (m : Nat) (hm : m < 12) : (convert 29 9 (.slice (some ⟨w.heap.size, 0, none⟩) m m)).run Try.prog (w.alloc (.cells (bytesV (List.replicate m 0)).toArray 5)) = .ok (.string (valS m)) (w.alloc (.cells (bytesV (List.replicate m 0)).toArray 5)) := by
  have hown := own_made w w.heap.size 5 m m (List.replicate m 0) (by simp) (Nat.le_refl _) (Nat.le_refl _) (by omega)
  rw [List.take_of_length_le (by simp)] at hown
  exact own_string (P := Try.prog) (D := 9) (S := 29) Try.underlying29 und_u8C Try.underlying9 hown
theorem tally_found (a b c d e f : Int) (w : World) : (Instr.field 36 (.agg #[.int .i64 a, .int .i64 b, .int .i64 c, .int .i64 d, .int .i64 e, .int .i64 f]) 3).run Try.prog w = .ok (.int .i64 d) w := by kernel_rfl
theorem ctally_f {w : World} {col : Nat → Nat} {κ cb n f m o : Nat} {L : List Ent} (h : Cash w col κ cb n f m o L) : ∃ k b p : Nat,
    Calls Try.prog 12 #[bp cb] w fun r w' => r = .returned (.agg #[.int .i64 (k : Int), .int .i64 (b : Int), .int .i64 (p : Int), .int .i64 (f : Int), .int .i64 (m : Int), .int .i64 (o : Int)]) ∧ Below w.heap.size w w' := ⟨_, _, _, ctally_any h⟩
set_option maxRecDepth 100000 in
set_option maxHeartbeats 4000000 in
theorem cnests_any (one more : Int) (v : Value) (Z : List Int) (w : World) (hone : -9223372036854775808 ≤ one ∧ one ≤ 9223372036854775807) (hmore : -9223372036854775808 ≤ more ∧ more ≤ 9223372036854775807) (hv : IntsC w v Z) :
    Calls Try.prog 3 #[.int .i64 one, .int .i64 more, v] w fun e w' => e = .returned (.bool true) ∧ Below w.heap.size w w' := by
  obtain ⟨p, c, rfl, hz1, hz2, hz3, hz4⟩ := hv
  obtain ⟨zn, hzn⟩ : ∃ x, x = Z.length := ⟨_, rfl⟩
  have HZN := Lib.hid hzn
  have HZ3 := Lib.hid hz3
  have HZ4 := Lib.hid hz4
  rw [← hzn] at hz1 hz2 ⊢
  clear hzn hz3 hz4
  have CK := Lib.hid (cknown_any w)
  obtain ⟨p1, hp1⟩ : ∃ x, x = pickC one 60 := ⟨_, rfl⟩
  obtain ⟨p2, hp2⟩ : ∃ x, x = pickC more 60 := ⟨_, rfl⟩
  have hb1 : p1 < 60 := by rw [hp1]; exact pickC_lt _ (by decide)
  have hb2 : p2 < 60 := by rw [hp2]; exact pickC_lt _ (by decide)
  have hpa : ∀ w', Calls Try.prog 7 #[.int .i64 one, .int .i64 60] w' fun e w2 => e = .returned (.int .i64 (p1 : Int)) ∧ w2 = w' := fun w' => by rw [hp1]; exact pickC_any one 60 w' (by decide) (by decide) hone
  have hpb : ∀ w', Calls Try.prog 7 #[.int .i64 more, .int .i64 60] w' fun e w2 => e = .returned (.int .i64 (p2 : Int)) ∧ w2 = w' := fun w' => by rw [hp2]; exact pickC_any more 60 w' (by decide) (by decide) hmore
  obtain ⟨na, hna⟩ : ∃ x, x = 12 + p1 := ⟨_, rfl⟩
  obtain ⟨nb, hnb⟩ : ∃ x, x = na + p2 := ⟨_, rfl⟩
  have hna' : (12 : Int) + (p1 : Int) = (na : Int) := by omega
  have hnb' : (na : Int) + (p2 : Int) = (nb : Int) := by omega
  have hnr : 12 ≤ na ∧ na ≤ nb ∧ nb ≤ 200 := by omega
  have hna2 : na ≤ 200 := by omega
  have hnb2 : nb ≤ 200 := by omega
  have HPA := Lib.hid hpa
  have HPB := Lib.hid hpb
  have HNR := Lib.hid hnr
  clear hp1 hp2 hpa hpb hone hmore hna hnb hnr
  go_enter Try.func3, Try.ntmps3
  go_upto_region 3 with (first
    | (go_at_call 6; with_reducible refine (CK.out).mono ?_; rintro r w1 ⟨rfl, hb⟩; have HB1 := Lib.hid hb; clear hb CK)
    | (go_at_call 7; with_reducible refine (HPA.out _).mono ?_; rintro r wx ⟨rfl, hwx⟩; rw [hwx]; clear hwx wx))
  have HS1 := Lib.hid ((ST.start w).below HB1.out)
  have CN : Hid (Calls Try.prog 8 #[.int .i64 (na : Int)] w1 fun r w' => ∃ cb, r = .returned (.tuple #[bp cb, .int .i64 0]) ∧ NewPost w1 w' (fun _ => 0) 1 cb na) := Lib.hid (cnew_any na w1 (fun _ => 0) 1 (by decide) (fun g h => absurd rfl h) (by omega))
  go_upto_region 4 with (first
    | (go_at_call 8; with_reducible refine (CN.out).mono ?_; rintro r w2 ⟨a, rfl, hp⟩; have HP := Lib.hid hp; clear hp CN))
  obtain ⟨_, col1, ht1, hbx1, hc1⟩ := HP.out
  have HS2 := Lib.hid (HS1.out.turn (by decide) ht1)
  have HC2 := Lib.hid hc1
  have CM : Hid (Calls Try.prog 8 #[.int .i64 (nb : Int)] w2 fun r w' => ∃ cb, r = .returned (.tuple #[bp cb, .int .i64 0]) ∧ NewPost w2 w' col1 2 cb nb) := Lib.hid (cnew_any nb w2 col1 2 (by decide) HS2.out.hi (by omega))
  clear HP ht1 hbx1 hc1 HB1 HS1
  go_upto_region 5 with (first
    | (go_at_call 7; with_reducible refine (HPB.out _).mono ?_; rintro r wx ⟨rfl, hwx⟩; rw [hwx]; clear hwx wx)
    | (go_at_call 8; with_reducible refine (CM.out).mono ?_; rintro r w3 ⟨b, rfl, hp⟩; have HP := Lib.hid hp; clear hp CM))
  have HJ : Hid (NJ' valK w w3 a b na nb 0) := Lib.hid (by
    obtain ⟨_, col2, ht2, _, hc2⟩ := HP.out
    exact ⟨col2, [], [], 0, 0, 0, 0, 0, 0, HS2.out.turn (by decide) ht2, HC2.out.other (by decide) ht2, hc2, fun e he => (by cases he), fun e he => (by cases he), List.nil_prefix, Nat.le_refl _, Nat.le_refl _, by decide, Nat.zero_le _, Nat.zero_le _⟩)
  clear HP HC2 HS2
  go_wp2_with fail
  go_loopw [13] (fun q wr => ∃ i : Nat, i ≤ zn ∧ i ≤ 150 ∧ q = .int .i64 i ∧ Hid (NJ' valK w wr a b na nb i)) (fun q _ => 150 - (intOf q).toNat)
  case atStart => exact ⟨0, by omega, by omega, rfl, HJ.out⟩
  case round =>
    clear HJ
    obtain ⟨i, hi, hi2, rfl, hinv⟩ := hrel
    have HI := Lib.hid hinv.out
    clear hinv
    by_cases hlt : i < zn ∧ i < 150
    · obtain ⟨hl1, hl2⟩ := hlt
      have hli : (i : Int) < (zn : Int) := by omega
      have hli2 : (i : Int) < 150 := by omega
      have hi0 : (0 : Int) ≤ (i : Int) := by omega
      obtain ⟨z, hz⟩ : ∃ z, Z[i]? = some z := ⟨Z[i]'(by rw [← HZN.out]; exact hl1), List.getElem?_eq_getElem _⟩
      obtain ⟨aa, rfl, hc⟩ := HZ4.out i z hz
      have hzr := HZ3.out z (List.mem_of_getElem? hz)
      obtain ⟨m, hm⟩ : ∃ m, m = pickC z 12 := ⟨_, rfl⟩
      have hm12 : m < 12 := by rw [hm]; exact pickC_lt _ (by decide)
      have HPC : Hid (∀ w', Calls Try.prog 7 #[.int .i64 z, .int .i64 12] w' fun e w2 => e = .returned (.int .i64 (m : Int)) ∧ w2 = w') := Lib.hid (fun w' => by rw [hm]; exact pickC_any z 12 w' (by decide) (by decide) hzr)
      obtain ⟨col, A, B, fa, ma, oa, fb, mb, ob, hj⟩ := HI.out
      have hcell : wr.cell? (aa.add i) = some (.int .i64 z) := (hj.st.bl.cell (block_lt_of_cell hc)).trans hc
      have hw8 : IntKind.u8.wrap (97 + (m : Int)) = 97 + (m : Int) := IntWalk.u8_in _ (by omega)
      have hw8' : IntKind.i64.wrap (97 + (m : Int)) = 97 + (m : Int) := IntWalk.i64_in _ (by omega)
      obtain ⟨w4, hw4⟩ : ∃ x, x = wr.alloc (.cells #[.int .u8 (97 + (m : Int))] 5) := ⟨_, rfl⟩
      have hcv := key_conv wr m hm12
      have hj4 : NJ valK w w4 a b na nb i col A B fa ma oa fb mb ob := by
        have hb4 : Below wr.heap.size wr w4 := by rw [hw4]; exact (Below.refl _ _).alloc (Nat.le_refl _) _
        exact hj.below hb4
      have HJ4 := Lib.hid hj4
      have HW4 := Lib.hid hw4
      have HLT : Hid (i < zn ∧ i < 150) := Lib.hid ⟨hl1, hl2⟩
      have HC := Lib.hid hc
      clear hz hc hzr hm hj hj4 HI hl1 hl2 hi hi2 hw4
      go_upto_region 11 with (first
        | (go_at_call 7; with_reducible refine (HPC.out _).mono ?_; rintro r wx ⟨rfl, hwx⟩; rw [hwx]; clear hwx wx))
      rw [← HW4.out]
      clear hcv hcell
      have hcell4 : w4.cell? (aa.add i) = some (.int .i64 z) := (HJ4.out.st.bl.cell (block_lt_of_cell HC.out)).trans HC.out
      have hmk := val_make w4 m hm12
      have hcv := val_conv w4 m hm12
      have hbel5 : Below w4.heap.size w4 (w4.alloc (.cells (bytesV (List.replicate m 0)).toArray 5)) := (Below.refl _ _).alloc (Nat.le_refl _) _
      obtain ⟨w5, hw5⟩ : ∃ x, x = w4.alloc (.cells (bytesV (List.replicate m 0)).toArray 5) := ⟨_, rfl⟩
      have HJ5 : Hid (NJ valK w w5 a b na nb i col A B fa ma oa fb mb ob) := Lib.hid (by
        rw [hw5]
        exact HJ4.out.below hbel5)
      have HW5 := Lib.hid hw5
      clear hbel5 hw5
      go_upto_region 12 with (first
        | (go_at_call 7; with_reducible refine (HPC.out _).mono ?_; rintro r wx ⟨rfl, hwx⟩; rw [hwx]; clear hwx wx))
      rw [← HW5.out]
      clear hmk hcv hcell4 HW4 HW5 HJ4 hw8 hw8'
      obtain ⟨K, hK⟩ : ∃ x, x = keyS m := ⟨_, rfl⟩
      obtain ⟨V0, hV⟩ : ∃ x, x = valS m := ⟨_, rfl⟩
      have HKS : Hid (K = keyS m ∧ K.size + V0.size ≤ 12 ∧ valK K = V0) := Lib.hid ⟨hK, by
        rw [hK, hV, valS_size]
        show 1 + m ≤ 12
        omega, by rw [hK, hV]; exact valK_key hm12⟩
      rw [← hK, ← hV]
      clear hK hV
      have HNK : Hid ((A.map Ent.key).Nodup ∧ (B.map Ent.key).Nodup) := Lib.hid (by
        obtain ⟨_, _, _, _, _, h1⟩ := HJ5.out.ca
        obtain ⟨_, _, _, _, _, h2⟩ := HJ5.out.cb
        exact ⟨h1.nk, h2.nk⟩)
      obtain ⟨hnkA, hnkB⟩ := HNK.out
      by_cases hA : ∃ e ∈ A, e.key = K
      · obtain ⟨e, heA, hek⟩ := hA
        obtain ⟨e2, heB, hek2', hev2'⟩ := mem_pre HJ5.out.pr heA
        have hek2 : e2.key = K := hek2'.trans hek
        have hev : e.val = V0 := by rw [(HJ5.out.va e heA).2, hek, HKS.out.2.2]
        have hev2 : e2.val = V0 := hev2'.trans hev
        have CGA : Hid (Calls Try.prog 9 #[bp a, .string K] w5 fun r w' => r = .returned (.tuple #[.string V0, .bool true]) ∧ Cash w' col 1 a na (fa + 1) ma oa (e :: but K A) ∧ Only col (fun g => g = 1) w5 w') := Lib.hid (by
          obtain ⟨X, Y, hXY, hbut⟩ := ask_hit hnkA heA hek
          have hc := HJ5.out.ca
          rw [hbut, ← hev]
          rw [hXY] at hc
          exact cget_in hc hek (by have := HJ5.out.ff; omega))
        go_upto_region 13 with (first
          | (go_at_call 9; with_reducible refine (CGA.out).mono ?_; rintro r w6 ⟨rfl, hc6, ho6⟩; have HC6 := Lib.hid hc6; have HO6 := Lib.hid ho6; clear hc6 ho6 CGA))
        have CGB : Hid (Calls Try.prog 9 #[bp b, .string K] w6 fun r w' => r = .returned (.tuple #[.string V0, .bool true]) ∧ Cash w' col 2 b nb (fb + 1) mb ob (e2 :: but K B) ∧ Only col (fun g => g = 2) w6 w') := Lib.hid (by
          obtain ⟨X, Y, hXY, hbut⟩ := ask_hit hnkB heB hek2
          have hc := HJ5.out.cb.other (by decide) (turn_only HO6.out)
          rw [hbut, ← hev2]
          rw [hXY] at hc
          exact cget_in hc hek2 (by have := HJ5.out.ff; omega))
        have HX : Hid (e ∈ A ∧ e2 ∈ B ∧ e.key = K ∧ e2.key = K) := Lib.hid ⟨heA, heB, hek, hek2⟩
        clear hek2' hev2' hek hek2 hev hev2 heA heB hnkA hnkB
        go_upto_region 24 with (first
          | (go_at_call 9; with_reducible refine (CGB.out).mono ?_; rintro r w7 ⟨rfl, hc7, ho7⟩; have HC7 := Lib.hid hc7; have HO7 := Lib.hid ho7; clear hc7 ho7 CGB))
        obtain ⟨wx, hwx⟩ : ∃ x, x = w7 := ⟨_, rfl⟩
        have HJX : Hid (NJ' valK w wx a b na nb (i + 1)) := Lib.hid (by
          rw [hwx]
          have hff := HJ5.out.ff
          have hla := HJ5.out.la
          have hlb := HJ5.out.lb
          have hwa := HJ5.out.wt.1
          have hwb := HJ5.out.wt.2
          obtain ⟨heA, heB, hek, hek2⟩ := HX.out
          obtain ⟨X, Y, hXY, hbut⟩ := ask_hit HNK.out.1 heA hek
          obtain ⟨X2, Y2, hXY2, hbut2⟩ := ask_hit HNK.out.2 heB hek2
          refine HJ5.out.next (la := 0) (lb := 0) HNR.out.2.1 HKS.out.2.2.symm (by have := HKS.out.2.1; have := HNR.out.1; omega) ((HJ5.out.st.only (by decide) HO6.out).only (by decide) HO7.out) (HC6.out.other (by decide) (turn_only HO7.out)) HC7.out (.inl ⟨e, heA, hek, rfl⟩) (.inl ⟨e2, heB, hek2, rfl⟩) ?_ ?_ (by omega) ⟨?_, ?_⟩
          · rw [hXY] at hla; rw [hbut]; simp at hla ⊢; omega
          · rw [hXY2] at hlb; rw [hbut2]; simp at hlb ⊢; omega
          · rw [hbut, mid_wts, ← hXY]; exact hwa
          · rw [hbut2, mid_wts, ← hXY2]; exact hwb)
        rw [← hwx]
        clear hwx HC6 HO6 HC7 HO7 HX HNK HJ5
        have hjx := HJX.out
        obtain ⟨colX, A', B', fx, mx, ox, fy, my, oy, hjn⟩ := hjx
        have hlA : A'.length ≤ 1048576 := by have := hjn.la; have := HLT.out; omega
        have hlB : B'.length ≤ 1048576 := by have := hjn.lb; have := HLT.out; omega
        have CKA := Lib.hid (ckeys_any hjn.ca hlA)
        have CKB : Hid (∀ w', Below wx.heap.size wx w' → _) := Lib.hid (fun w' hb => ckeys_any (hjn.below hb).cb hlB)
        have HPR := Lib.hid hjn.pr
        have hlen : A'.length ≤ B'.length := by have := hjn.pr.length_le; simpa using this
        obtain ⟨ka, hka⟩ : ∃ x, x = A'.length := ⟨_, rfl⟩
        obtain ⟨kb, hkb⟩ : ∃ x, x = B'.length := ⟨_, rfl⟩
        have HKL : Hid (ka = A'.length ∧ kb = B'.length) := Lib.hid ⟨hka, hkb⟩
        have hab : ¬ ((kb : Int) < (ka : Int)) := by omega
        have hkab : ka ≤ kb := by omega
        have hkr : ka ≤ 1048576 := by rw [hka]; exact hlA
        have ckA := CKA.out
        rw [← hka] at ckA
        have CKA2 := Lib.hid ckA
        have HJN := Lib.hid hjn
        clear hjn hlA hlB hlen hka hkb ckA CKA HJX
        go_upto_region 25 with (first
          | (go_at_call 11; with_reducible refine (CKA2.out).mono ?_; rintro r wy ⟨pa, ca, rfl, hh, hb⟩; have HHA := Lib.hid hh; have HBY := Lib.hid hb; clear hh hb CKA2))
        have ckB := CKB.out wy HBY.out
        rw [← HKL.out.2] at ckB
        have CKB2 := Lib.hid ckB
        clear ckB CKB
        go_upto_region 26 with (first
          | (go_at_call 11; with_reducible refine (CKB2.out).mono ?_; rintro r wz ⟨pb, cc, rfl, hh, hb⟩; have HHB := Lib.hid hh; have HBZ := Lib.hid hb; clear hh hb CKB2))
        have HA2 := Lib.hid (HHA.out.below HBZ.out)
        have HJZ := Lib.hid ((HJN.out.below HBY.out).below HBZ.out)
        clear HHA HBY HJN
        go_wp2_with fail
        go_loopw [24] (fun q w2 => ∃ j : Nat, j ≤ ka ∧ q = .int .i64 j ∧ Hid (Below wz.heap.size wz w2)) (fun q _ => ka - (intOf q).toNat)
        case atStart => exact ⟨0, by omega, rfl, Lib.hid (Below.refl _ _)⟩
        case round =>
          obtain ⟨j, hj, rfl, hinv⟩ := hrel
          have HB2 := Lib.hid hinv.out
          clear hinv
          by_cases hjk : j < ka
          · have hji : (j : Int) < (ka : Int) := by omega
            have hjb : (j : Int) < (kb : Int) := by omega
            have hj0 : (0 : Int) ≤ (j : Int) := by omega
            obtain ⟨s, hs⟩ : ∃ s, (A'.map Ent.key)[j]? = some s := ⟨(A'.map Ent.key)[j]'(by rw [List.length_map, ← HKL.out.1]; exact hjk), List.getElem?_eq_getElem _⟩
            have hsA : (ksV A')[j]? = some (.string s) := by unfold ksV; rw [List.getElem?_map, hs]; rfl
            have hsB := keys_pre HPR.out hsA
            obtain ⟨q1, c1, e1, _, _, g1⟩ := (HA2.out.below HB2.out).cells
            obtain ⟨q2, c2, e2, _, _, g2⟩ := (HHB.out.below HB2.out).cells
            simp only [Value.slice.injEq] at e1 e2
            obtain ⟨rfl, _, rfl⟩ := e1
            obtain ⟨rfl, _, rfl⟩ := e2
            obtain ⟨ad1, rfl, _, hd1⟩ := g1 j _ hsA
            obtain ⟨ad2, rfl, _, hd2⟩ := g2 j _ hsB
            rename_i x1 x2 x3 x4 x5 x6 x7 x8
            clear x1 x2 x3 x4 x5 x6 x7 x8
            clear hs hsA hsB g1 g2
            go_upto_region 31 with fail
            go_quiet (fail)
            have HB5 : Hid (Below wz.heap.size wz (wr.drewN nq)) := Lib.hid (below_drewN HB2.out nq)
            generalize wr.drewN nq = w9 at HB5 ⊢
            clear hd1 hd2
            go_wp2_with fail
            exact ⟨⟨j + 1, by omega, rfl, Lib.hid HB5.out⟩, (by show ka - ((j : Int) + 1).toNat < ka - (j : Int).toNat; omega)⟩
          · have hji : ¬ ((j : Int) < (ka : Int)) := by omega
            have HF : Hid (NJ' valK w wr a b na nb (i + 1)) := Lib.hid ⟨_, _, _, _, _, _, _, _, _, HJZ.out.below HB2.out⟩
            clear hjk
            go_wp2_with fail
            exact ⟨⟨i + 1, by have := HLT.out; omega, by have := HLT.out; omega, rfl, Lib.hid HF.out⟩, (by show 150 - ((i : Int) + 1).toNat < 150 - (i : Int).toNat; have := HLT.out; omega)⟩
      · by_cases hB : ∃ e ∈ B, e.key = K
        · have hnoA : ∀ e ∈ A, e.key ≠ K := fun e he hk => hA ⟨e, he, hk⟩
          obtain ⟨e2, heB, hek2⟩ := hB
          have hev2 : e2.val = V0 := by rw [(HJ5.out.vb e2 heB).2, hek2, HKS.out.2.2]
          have CGA : Hid (Calls Try.prog 9 #[bp a, .string K] w5 fun r w' => r = .returned (.tuple #[.string ⟨#[]⟩, .bool false]) ∧ Cash w' col 1 a na fa (ma + 1) oa A ∧ Only col (fun g => g = 1) w5 w') := Lib.hid (cget_out HJ5.out.ca hnoA (by rw [HKS.out.1]; exact (show 1 ≤ 140737488355328 by decide)) (by have := HJ5.out.ff; omega))
          go_upto_region 13 with (first
            | (go_at_call 9; with_reducible refine (CGA.out).mono ?_; rintro r w6 ⟨rfl, hc6, ho6⟩; have HC6 := Lib.hid hc6; have HO6 := Lib.hid ho6; clear hc6 ho6 CGA))
          have CGB : Hid (Calls Try.prog 9 #[bp b, .string K] w6 fun r w' => r = .returned (.tuple #[.string V0, .bool true]) ∧ Cash w' col 2 b nb (fb + 1) mb ob (e2 :: but K B) ∧ Only col (fun g => g = 2) w6 w') := Lib.hid (by
            obtain ⟨X, Y, hXY, hbut⟩ := ask_hit hnkB heB hek2
            have hc := HJ5.out.cb.other (by decide) (turn_only HO6.out)
            rw [hbut, ← hev2]
            rw [hXY] at hc
            exact cget_in hc hek2 (by have := HJ5.out.ff; omega))
          have HX : Hid ((∀ e ∈ A, e.key ≠ K) ∧ e2 ∈ B ∧ e2.key = K) := Lib.hid ⟨hnoA, heB, hek2⟩
          clear hek2 hev2 heB hnkA hnkB hnoA
          go_upto_region 17 with (first
            | (go_at_call 9; with_reducible refine (CGB.out).mono ?_; rintro r w7 ⟨rfl, hc7, ho7⟩; have HC7 := Lib.hid hc7; have HO7 := Lib.hid ho7; clear hc7 ho7 CGB))
          have HS7 := Lib.hid ((HJ5.out.st.only (by decide) HO6.out).only (by decide) HO7.out)
          have HCA7 := Lib.hid (HC6.out.other (by decide) (turn_only HO7.out))
          have hnoA := HX.out.1
          have CPA : Hid (Calls Try.prog 10 #[bp a, .string K, .string V0] w7 fun r w' => r = .returned (.int .i64 0) ∧ PutPost w7 w' col 1 a na fa (ma + 1) oa K V0 A) := Lib.hid (by
            have hff := HJ5.out.ff
            have hla := HJ5.out.la
            have hks : K.size = 1 := by rw [HKS.out.1]; rfl
            have hvs : V0.size ≤ 11 := by have := HKS.out.2.1; omega
            have := HLT.out
            exact put_new (by decide) (HS7.out.hi) HCA7.out (by have := HNR.out; omega) hnoA (by omega) (by omega) (by omega) (by omega) HJ5.out.wt.1 (by rw [fair_pinw HJ5.out.va]; have := HNR.out; omega))
          clear hnoA
          go_upto_region 24 with (first
            | (go_at_call 10; with_reducible refine (CPA.out).mono ?_; rintro r w8 ⟨rfl, hp8⟩; have HP8 := Lib.hid hp8; clear hp8 CPA))
          obtain ⟨wx, hwx⟩ : ∃ x, x = w8 := ⟨_, rfl⟩
          have HJX : Hid (NJ' valK w wx a b na nb (i + 1)) := Lib.hid (by
            rw [hwx]
            have hff := HJ5.out.ff
            have hla := HJ5.out.la
            have hlb := HJ5.out.lb
            have hwa := HJ5.out.wt.1
            have hwb := HJ5.out.wt.2
            have hlt := HLT.out
            obtain ⟨la, col', ht, hc8⟩ := HP8.out
            obtain ⟨hnoA, heB, hek2⟩ := HX.out
            obtain ⟨X2, Y2, hXY2, hbut2⟩ := ask_hit HNK.out.2 heB hek2
            have hkv : K.size + V0.size ≤ na := by have := HKS.out.2.1; have := HNR.out.1; omega
            have hln := lput_len na la K V0 A hnoA
            refine HJ5.out.next (la := la) (lb := 0) HNR.out.2.1 HKS.out.2.2.symm hkv (HS7.out.turn (by decide) ht) hc8 (HC7.out.other (by decide) ht) (.inr ⟨hnoA, rfl⟩) (.inl ⟨e2, heB, hek2, rfl⟩) (by omega) ?_ (by omega) ⟨lput_wts HJ5.out.va hnoA hkv, ?_⟩
            · rw [hXY2] at hlb; rw [hbut2]; simp at hlb ⊢; omega
            · rw [hbut2, mid_wts, ← hXY2]; exact hwb)
          rw [← hwx]
          clear hwx HC6 HO6 HC7 HO7 HX HNK HJ5 hA HP8 HS7 HCA7
          have hjx := HJX.out
          obtain ⟨colX, A', B', fx, mx, ox, fy, my, oy, hjn⟩ := hjx
          have hlA : A'.length ≤ 1048576 := by have := hjn.la; have := HLT.out; omega
          have hlB : B'.length ≤ 1048576 := by have := hjn.lb; have := HLT.out; omega
          have CKA := Lib.hid (ckeys_any hjn.ca hlA)
          have CKB : Hid (∀ w', Below wx.heap.size wx w' → _) := Lib.hid (fun w' hb => ckeys_any (hjn.below hb).cb hlB)
          have HPR := Lib.hid hjn.pr
          have hlen : A'.length ≤ B'.length := by have := hjn.pr.length_le; simpa using this
          obtain ⟨ka, hka⟩ : ∃ x, x = A'.length := ⟨_, rfl⟩
          obtain ⟨kb, hkb⟩ : ∃ x, x = B'.length := ⟨_, rfl⟩
          have HKL : Hid (ka = A'.length ∧ kb = B'.length) := Lib.hid ⟨hka, hkb⟩
          have hab : ¬ ((kb : Int) < (ka : Int)) := by omega
          have hkab : ka ≤ kb := by omega
          have hkr : ka ≤ 1048576 := by rw [hka]; exact hlA
          have ckA := CKA.out
          rw [← hka] at ckA
          have CKA2 := Lib.hid ckA
          have HJN := Lib.hid hjn
          clear hjn hlA hlB hlen hka hkb ckA CKA HJX
          go_upto_region 25 with (first
            | (go_at_call 11; with_reducible refine (CKA2.out).mono ?_; rintro r wy ⟨pa, ca, rfl, hh, hb⟩; have HHA := Lib.hid hh; have HBY := Lib.hid hb; clear hh hb CKA2))
          have ckB := CKB.out wy HBY.out
          rw [← HKL.out.2] at ckB
          have CKB2 := Lib.hid ckB
          clear ckB CKB
          go_upto_region 26 with (first
            | (go_at_call 11; with_reducible refine (CKB2.out).mono ?_; rintro r wz ⟨pb, cc, rfl, hh, hb⟩; have HHB := Lib.hid hh; have HBZ := Lib.hid hb; clear hh hb CKB2))
          have HA2 := Lib.hid (HHA.out.below HBZ.out)
          have HJZ := Lib.hid ((HJN.out.below HBY.out).below HBZ.out)
          clear HHA HBY HJN
          go_wp2_with fail
          go_loopw [24] (fun q w2 => ∃ j : Nat, j ≤ ka ∧ q = .int .i64 j ∧ Hid (Below wz.heap.size wz w2)) (fun q _ => ka - (intOf q).toNat)
          case atStart => exact ⟨0, by omega, rfl, Lib.hid (Below.refl _ _)⟩
          case round =>
            obtain ⟨j, hj, rfl, hinv⟩ := hrel
            have HB2 := Lib.hid hinv.out
            clear hinv
            by_cases hjk : j < ka
            · have hji : (j : Int) < (ka : Int) := by omega
              have hjb : (j : Int) < (kb : Int) := by omega
              have hj0 : (0 : Int) ≤ (j : Int) := by omega
              obtain ⟨s, hs⟩ : ∃ s, (A'.map Ent.key)[j]? = some s := ⟨(A'.map Ent.key)[j]'(by rw [List.length_map, ← HKL.out.1]; exact hjk), List.getElem?_eq_getElem _⟩
              have hsA : (ksV A')[j]? = some (.string s) := by unfold ksV; rw [List.getElem?_map, hs]; rfl
              have hsB := keys_pre HPR.out hsA
              obtain ⟨q1, c1, e1, _, _, g1⟩ := (HA2.out.below HB2.out).cells
              obtain ⟨q2, c2, e2, _, _, g2⟩ := (HHB.out.below HB2.out).cells
              simp only [Value.slice.injEq] at e1 e2
              obtain ⟨rfl, _, rfl⟩ := e1
              obtain ⟨rfl, _, rfl⟩ := e2
              obtain ⟨ad1, rfl, _, hd1⟩ := g1 j _ hsA
              obtain ⟨ad2, rfl, _, hd2⟩ := g2 j _ hsB
              rename_i x1 x2 x3 x4 x5 x6 x7 x8
              clear x1 x2 x3 x4 x5 x6 x7 x8
              clear hs hsA hsB g1 g2
              go_upto_region 31 with fail
              go_quiet (fail)
              have HB5 : Hid (Below wz.heap.size wz (wr.drewN nq)) := Lib.hid (below_drewN HB2.out nq)
              generalize wr.drewN nq = w9 at HB5 ⊢
              clear hd1 hd2
              go_wp2_with fail
              exact ⟨⟨j + 1, by omega, rfl, Lib.hid HB5.out⟩, (by show ka - ((j : Int) + 1).toNat < ka - (j : Int).toNat; omega)⟩
            · have hji : ¬ ((j : Int) < (ka : Int)) := by omega
              have HF : Hid (NJ' valK w wr a b na nb (i + 1)) := Lib.hid ⟨_, _, _, _, _, _, _, _, _, HJZ.out.below HB2.out⟩
              clear hjk
              go_wp2_with fail
              exact ⟨⟨i + 1, by have := HLT.out; omega, by have := HLT.out; omega, rfl, Lib.hid HF.out⟩, (by show 150 - ((i : Int) + 1).toNat < 150 - (i : Int).toNat; have := HLT.out; omega)⟩
        · have hnoA : ∀ e ∈ A, e.key ≠ K := fun e he hk => hA ⟨e, he, hk⟩
          have hnoB : ∀ e ∈ B, e.key ≠ K := fun e he hk => hB ⟨e, he, hk⟩
          have CGA : Hid (Calls Try.prog 9 #[bp a, .string K] w5 fun r w' => r = .returned (.tuple #[.string ⟨#[]⟩, .bool false]) ∧ Cash w' col 1 a na fa (ma + 1) oa A ∧ Only col (fun g => g = 1) w5 w') := Lib.hid (cget_out HJ5.out.ca hnoA (by rw [HKS.out.1]; exact (show 1 ≤ 140737488355328 by decide)) (by have := HJ5.out.ff; omega))
          go_upto_region 13 with (first
            | (go_at_call 9; with_reducible refine (CGA.out).mono ?_; rintro r w6 ⟨rfl, hc6, ho6⟩; have HC6 := Lib.hid hc6; have HO6 := Lib.hid ho6; clear hc6 ho6 CGA))
          have CGB : Hid (Calls Try.prog 9 #[bp b, .string K] w6 fun r w' => r = .returned (.tuple #[.string ⟨#[]⟩, .bool false]) ∧ Cash w' col 2 b nb fb (mb + 1) ob B ∧ Only col (fun g => g = 2) w6 w') := Lib.hid (cget_out (HJ5.out.cb.other (by decide) (turn_only HO6.out)) hnoB (by rw [HKS.out.1]; exact (show 1 ≤ 140737488355328 by decide)) (by have := HJ5.out.ff; omega))
          have HX : Hid ((∀ e ∈ A, e.key ≠ K) ∧ ∀ e ∈ B, e.key ≠ K) := Lib.hid ⟨hnoA, hnoB⟩
          clear hnkA hnkB hnoA hnoB
          go_upto_region 17 with (first
            | (go_at_call 9; with_reducible refine (CGB.out).mono ?_; rintro r w7 ⟨rfl, hc7, ho7⟩; have HC7 := Lib.hid hc7; have HO7 := Lib.hid ho7; clear hc7 ho7 CGB))
          have HS7 := Lib.hid ((HJ5.out.st.only (by decide) HO6.out).only (by decide) HO7.out)
          have HCA7 := Lib.hid (HC6.out.other (by decide) (turn_only HO7.out))
          have hnoA := HX.out.1
          have CPA : Hid (Calls Try.prog 10 #[bp a, .string K, .string V0] w7 fun r w' => r = .returned (.int .i64 0) ∧ PutPost w7 w' col 1 a na fa (ma + 1) oa K V0 A) := Lib.hid (by
            have hff := HJ5.out.ff
            have hla := HJ5.out.la
            have hks : K.size = 1 := by rw [HKS.out.1]; rfl
            have hvs : V0.size ≤ 11 := by have := HKS.out.2.1; omega
            have := HLT.out
            exact put_new (by decide) (HS7.out.hi) HCA7.out (by have := HNR.out; omega) hnoA (by omega) (by omega) (by omega) (by omega) HJ5.out.wt.1 (by rw [fair_pinw HJ5.out.va]; have := HNR.out; omega))
          clear hnoA
          go_upto_region 21 with (first
            | (go_at_call 10; with_reducible refine (CPA.out).mono ?_; rintro r w8 ⟨rfl, hp8⟩; have HP8 := Lib.hid hp8; clear hp8 CPA))
          obtain ⟨la, col', ht8, hc8⟩ := HP8.out
          have HT8 := Lib.hid ht8
          have HC8 := Lib.hid hc8
          have HS8 := Lib.hid (HS7.out.turn (by decide) ht8)
          have HCB8 := Lib.hid (HC7.out.other (by decide) ht8)
          clear ht8 hc8
          have CPB : Hid (Calls Try.prog 10 #[bp b, .string K, .string V0] w8 fun r w' => r = .returned (.int .i64 0) ∧ PutPost w8 w' col' 2 b nb fb (mb + 1) ob K V0 B) := Lib.hid (by
            have hff := HJ5.out.ff
            have hlb := HJ5.out.lb
            have hks : K.size = 1 := by rw [HKS.out.1]; rfl
            have hvs : V0.size ≤ 11 := by have := HKS.out.2.1; omega
            have := HLT.out
            exact put_new (by decide) (HS8.out.hi) HCB8.out (by have := HNR.out; omega) HX.out.2 (by omega) (by omega) (by omega) (by omega) HJ5.out.wt.2 (by rw [fair_pinw HJ5.out.vb]; have := HNR.out; omega))
          go_upto_region 24 with (first
            | (go_at_call 10; with_reducible refine (CPB.out).mono ?_; rintro r w9 ⟨rfl, hp9⟩; have HP9 := Lib.hid hp9; clear hp9 CPB))
          obtain ⟨wx, hwx⟩ : ∃ x, x = w9 := ⟨_, rfl⟩
          have HJX : Hid (NJ' valK w wx a b na nb (i + 1)) := Lib.hid (by
            rw [hwx]
            have hff := HJ5.out.ff
            have hla := HJ5.out.la
            have hlb := HJ5.out.lb
            have hwa := HJ5.out.wt.1
            have hwb := HJ5.out.wt.2
            have hlt := HLT.out
            obtain ⟨lb, colY, ht9, hc9⟩ := HP9.out
            obtain ⟨hnoA, hnoB⟩ := HX.out
            have hkv : K.size + V0.size ≤ na := by have := HKS.out.2.1; have := HNR.out.1; omega
            have hkv2 : K.size + V0.size ≤ nb := by have := HNR.out.2.1; omega
            have hln := lput_len na la K V0 A hnoA
            have hln2 := lput_len nb lb K V0 B hnoB
            exact HJ5.out.next (la := la) (lb := lb) HNR.out.2.1 HKS.out.2.2.symm hkv (HS8.out.turn (by decide) ht9) (HC8.out.other (by decide) ht9) hc9 (.inr ⟨hnoA, rfl⟩) (.inr ⟨hnoB, rfl⟩) (by omega) (by omega) (by omega) ⟨lput_wts HJ5.out.va hnoA hkv, lput_wts HJ5.out.vb hnoB hkv2⟩)
          rw [← hwx]
          clear hwx HC6 HO6 HC7 HO7 HX HNK HJ5 hA hB HP8 HS7 HCA7 HT8 HC8 HS8 HCB8 HP9
          have hjx := HJX.out
          obtain ⟨colX, A', B', fx, mx, ox, fy, my, oy, hjn⟩ := hjx
          have hlA : A'.length ≤ 1048576 := by have := hjn.la; have := HLT.out; omega
          have hlB : B'.length ≤ 1048576 := by have := hjn.lb; have := HLT.out; omega
          have CKA := Lib.hid (ckeys_any hjn.ca hlA)
          have CKB : Hid (∀ w', Below wx.heap.size wx w' → _) := Lib.hid (fun w' hb => ckeys_any (hjn.below hb).cb hlB)
          have HPR := Lib.hid hjn.pr
          have hlen : A'.length ≤ B'.length := by have := hjn.pr.length_le; simpa using this
          obtain ⟨ka, hka⟩ : ∃ x, x = A'.length := ⟨_, rfl⟩
          obtain ⟨kb, hkb⟩ : ∃ x, x = B'.length := ⟨_, rfl⟩
          have HKL : Hid (ka = A'.length ∧ kb = B'.length) := Lib.hid ⟨hka, hkb⟩
          have hab : ¬ ((kb : Int) < (ka : Int)) := by omega
          have hkab : ka ≤ kb := by omega
          have hkr : ka ≤ 1048576 := by rw [hka]; exact hlA
          have ckA := CKA.out
          rw [← hka] at ckA
          have CKA2 := Lib.hid ckA
          have HJN := Lib.hid hjn
          clear hjn hlA hlB hlen hka hkb ckA CKA HJX
          go_upto_region 25 with (first
            | (go_at_call 11; with_reducible refine (CKA2.out).mono ?_; rintro r wy ⟨pa, ca, rfl, hh, hb⟩; have HHA := Lib.hid hh; have HBY := Lib.hid hb; clear hh hb CKA2))
          have ckB := CKB.out wy HBY.out
          rw [← HKL.out.2] at ckB
          have CKB2 := Lib.hid ckB
          clear ckB CKB
          go_upto_region 26 with (first
            | (go_at_call 11; with_reducible refine (CKB2.out).mono ?_; rintro r wz ⟨pb, cc, rfl, hh, hb⟩; have HHB := Lib.hid hh; have HBZ := Lib.hid hb; clear hh hb CKB2))
          have HA2 := Lib.hid (HHA.out.below HBZ.out)
          have HJZ := Lib.hid ((HJN.out.below HBY.out).below HBZ.out)
          clear HHA HBY HJN
          go_wp2_with fail
          go_loopw [24] (fun q w2 => ∃ j : Nat, j ≤ ka ∧ q = .int .i64 j ∧ Hid (Below wz.heap.size wz w2)) (fun q _ => ka - (intOf q).toNat)
          case atStart => exact ⟨0, by omega, rfl, Lib.hid (Below.refl _ _)⟩
          case round =>
            obtain ⟨j, hj, rfl, hinv⟩ := hrel
            have HB2 := Lib.hid hinv.out
            clear hinv
            by_cases hjk : j < ka
            · have hji : (j : Int) < (ka : Int) := by omega
              have hjb : (j : Int) < (kb : Int) := by omega
              have hj0 : (0 : Int) ≤ (j : Int) := by omega
              obtain ⟨s, hs⟩ : ∃ s, (A'.map Ent.key)[j]? = some s := ⟨(A'.map Ent.key)[j]'(by rw [List.length_map, ← HKL.out.1]; exact hjk), List.getElem?_eq_getElem _⟩
              have hsA : (ksV A')[j]? = some (.string s) := by unfold ksV; rw [List.getElem?_map, hs]; rfl
              have hsB := keys_pre HPR.out hsA
              obtain ⟨q1, c1, e1, _, _, g1⟩ := (HA2.out.below HB2.out).cells
              obtain ⟨q2, c2, e2, _, _, g2⟩ := (HHB.out.below HB2.out).cells
              simp only [Value.slice.injEq] at e1 e2
              obtain ⟨rfl, _, rfl⟩ := e1
              obtain ⟨rfl, _, rfl⟩ := e2
              obtain ⟨ad1, rfl, _, hd1⟩ := g1 j _ hsA
              obtain ⟨ad2, rfl, _, hd2⟩ := g2 j _ hsB
              rename_i x1 x2 x3 x4 x5 x6 x7 x8
              clear x1 x2 x3 x4 x5 x6 x7 x8
              clear hs hsA hsB g1 g2
              go_upto_region 31 with fail
              go_quiet (fail)
              have HB5 : Hid (Below wz.heap.size wz (wr.drewN nq)) := Lib.hid (below_drewN HB2.out nq)
              generalize wr.drewN nq = w9 at HB5 ⊢
              clear hd1 hd2
              go_wp2_with fail
              exact ⟨⟨j + 1, by omega, rfl, Lib.hid HB5.out⟩, (by show ka - ((j : Int) + 1).toNat < ka - (j : Int).toNat; omega)⟩
            · have hji : ¬ ((j : Int) < (ka : Int)) := by omega
              have HF : Hid (NJ' valK w wr a b na nb (i + 1)) := Lib.hid ⟨_, _, _, _, _, _, _, _, _, HJZ.out.below HB2.out⟩
              clear hjk
              go_wp2_with fail
              exact ⟨⟨i + 1, by have := HLT.out; omega, by have := HLT.out; omega, rfl, Lib.hid HF.out⟩, (by show 150 - ((i : Int) + 1).toNat < 150 - (i : Int).toNat; have := HLT.out; omega)⟩
    · have HFIN : Hid (∃ col A B fa ma oa fb mb ob, NJ valK w wr a b na nb i col A B fa ma oa fb mb ob) := Lib.hid HI.out
      obtain ⟨col, A, B, fa, ma, oa, fb, mb, ob, hj⟩ := HFIN.out
      obtain ⟨x1, x2, x3, hta⟩ := ctally_f hj.ca
      have CTA := Lib.hid hta
      have CTB : Hid (∀ w', Below wr.heap.size wr w' → ∃ t1 t2 t3 : Nat, Calls Try.prog 12 #[bp b] w' fun r w2 => r = .returned (.agg #[.int .i64 (t1 : Int), .int .i64 (t2 : Int), .int .i64 (t3 : Int), .int .i64 (fb : Int), .int .i64 (mb : Int), .int .i64 (ob : Int)]) ∧ Below w'.heap.size w' w2) := Lib.hid (fun w' hb => ctally_f (hj.cb.below hb))
      have HBE := Lib.hid hj.st.bl
      have hff : (fa : Int) ≤ (fb : Int) := by have := hj.ff.1; omega
      have hfd := tally_found
      clear hta hj HFIN HI
      by_cases hzl : i < zn
      · have hli : (i : Int) < (zn : Int) := by omega
        have hli2 : ¬ ((i : Int) < 150) := by omega
        clear hlt hzl hi hi2
        go_wp2_with (first
          | (go_at_call 12; first
            | (with_reducible refine (CTA.out).mono ?_; rintro r w4 ⟨rfl, hb⟩; have HB4 := Lib.hid hb; obtain ⟨y1, y2, y3, htb⟩ := CTB.out w4 hb; have CTB2 := Lib.hid htb; clear hb htb CTA)
            | (with_reducible refine (CTB2.out).mono ?_; rintro r w5 ⟨rfl, hb⟩; have HB5 := Lib.hid hb; clear hb CTB2)))
        go_ret
        exact ⟨rfl, below_on (below_on HBE.out HB4.out HBE.out.size) HB5.out (Nat.le_trans HBE.out.size HB4.out.size)⟩
      · have hli : ¬ ((i : Int) < (zn : Int)) := by omega
        clear hlt hzl hi hi2
        go_wp2_with (first
          | (go_at_call 12; first
            | (with_reducible refine (CTA.out).mono ?_; rintro r w4 ⟨rfl, hb⟩; have HB4 := Lib.hid hb; obtain ⟨y1, y2, y3, htb⟩ := CTB.out w4 hb; have CTB2 := Lib.hid htb; clear hb htb CTA)
            | (with_reducible refine (CTB2.out).mono ?_; rintro r w5 ⟨rfl, hb⟩; have HB5 := Lib.hid hb; clear hb CTB2)))
        go_ret
        exact ⟨rfl, below_on (below_on HBE.out HB4.out HBE.out.size) HB5.out (Nat.le_trans HBE.out.size HB4.out.size)⟩
end Go.Proofs.Ythaccjjkbbkehaa
