/- Law 8, walked: ShapeTrees. -/
import Derived.Test.YteknpnanmbfhfaaDoorMa37
import Derived.Deep.CutBlock
namespace Go.Proofs.YteknpnanmbfhfaaDoor
open Go.RowKit Go.Scr Go.Shelf
set_option linter.unusedVariables false
def rawT (E : List ByteArray) (i : Nat) : ByteArray := (E[i]?).getD (⟨#[110, 111, 110, 101]⟩ ++ ⟨#[UInt8.ofNat i]⟩)
def leavesT (E : List ByteArray) (n : Nat) : List ByteArray := (List.range n).map fun i => hashS (rawT E i)
theorem leavesT_length (E : List ByteArray) (n : Nat) : (leavesT E n).length = n := by simp [leavesT]
theorem leavesT_at (E : List ByteArray) {n i : Nat} (h : i < n) : (leavesT E n)[i]? = some (hashS (rawT E i)) := by simp [leavesT, h]
theorem leavesT_ok (E : List ByteArray) {n : Nat} (h : n ≤ 4096) : refusedE (leavesT E n) = 0 := by
  unfold refusedE
  rw [leavesT_length, if_neg (by omega), if_neg]
  have : ok32 (leavesT E n) = true := by
    unfold ok32
    rw [List.all_eq_true]
    intro x hx
    unfold leavesT at hx
    obtain ⟨i, _, rfl⟩ := List.mem_map.1 hx
    simp [hashS_size]
  rw [this]
  decide
set_option maxRecDepth 100000 in
set_option maxHeartbeats 8000000 in
theorem shapetrees_any (s1 s2 : Int) (ve vi : Value) (E : List ByteArray) (Z : List Int) (w : World) (ht : Tabs w) (he : Txts w ve E) (hv : Ints w vi Z)
    (hb1 : -9223372036854775808 ≤ s1 ∧ s1 ≤ 9223372036854775807) (hb2 : -9223372036854775808 ≤ s2 ∧ s2 ≤ 9223372036854775807)
    (hEl : E.length ≤ 1048576) (hsz : ∀ s ∈ E, s.size ≤ 1048576) :
    Calls Tryd.prog 9 #[ve, .int .i64 s1, .int .i64 s2, vi] w fun r w' => r = .returned (.bool true) ∧ Below w.heap.size w w' := by
  have HST : Hid (∀ w2, Below w.heap.size w w2 → Tabs w2 ∧ Txts w2 ve E ∧ Ints w2 vi Z) := Lib.hid (fun w2 h => ⟨ht.below h, he.below h (Nat.le_refl _), ints_belowH hv h (Nat.le_refl _)⟩)
  have CK := Lib.hid (known8_any w ht)
  obtain ⟨p, c, rfl, a1, a2, _⟩ := id he
  obtain ⟨vp, vc, rfl, i1, i2, _⟩ := id hv
  obtain ⟨el, hel⟩ : ∃ n, n = E.length := ⟨_, rfl⟩
  obtain ⟨zl, hzl⟩ : ∃ n, n = Z.length := ⟨_, rfl⟩
  rw [← hel, ← hzl] at HST
  rw [← hel] at a1 a2 hEl
  rw [← hzl] at i1 i2
  rw [← hel, ← hzl]
  have HEL : Hid (el = E.length ∧ ∀ s ∈ E, s.size ≤ 1048576) := Lib.hid ⟨hel, hsz⟩
  obtain ⟨m, hm⟩ : ∃ m, m = pickN (el : Int) 70 := ⟨_, rfl⟩
  have hm2 : m < 70 := by rw [hm]; exact pickN_lt _ (by decide)
  have CP1 : Hid (∀ w', Calls Tryd.prog 11 #[.int .i64 (el : Int), .int .i64 70] w' fun e w2 => e = .returned (.int .i64 (m : Int)) ∧ w2 = w') := Lib.hid (fun w' => by
    rw [hm]
    exact pick8_any (el : Int) 70 w' (by decide) (by decide) (by omega))
  obtain ⟨N, hN⟩ : ∃ N, N = 1 + m := ⟨_, rfl⟩
  have hNi : 1 + (m : Int) = (N : Int) := by omega
  have hN1 : 1 ≤ N := by omega
  have hNb : N ≤ 70 := by omega
  have HBN := Lib.hid (And.intro hb1 hb2)
  obtain ⟨W, hW⟩ : ∃ W, W = leavesT E N := ⟨_, rfl⟩
  have HWW : Hid (W.length = N ∧ refusedE W = 0 ∧ ∀ i, i < N → W[i]? = some (hashS (rawT E i))) := Lib.hid (by rw [hW]; exact ⟨leavesT_length E N, leavesT_ok E (by omega), fun i h => leavesT_at E h⟩)
  clear ht he hv hb1 hb2 hsz hel hzl hm hm2 hN hW
  go_enter Tryd.func9, Tryd.ntmps9
  go_upto_region 2 with (go_at_call 10; (with_reducible refine CK.out.mono ?_); rintro r w2 ⟨rfl, hb2⟩; have HB2 := Lib.hid hb2; clear hb2)
  go_wp2_with (go_at_call 11; with_reducible refine (CP1.out _).mono ?_; rintro r wx ⟨rfl, hwx⟩; rw [hwx]; clear hwx wx)
  go_loopw [11, 12] (fun y z wr => ∃ (i : Nat), z = .int .i64 (i : Int) ∧ i ≤ N ∧ Hid (PtI w2 wr i W y)) (fun _ z _ => N - (intOf z).toNat)
  case atStart => exact ⟨0, rfl, by omega, Lib.hid (PtI.nil w2 W)⟩
  case round =>
    obtain ⟨i, rfl, hi, HI⟩ := hrel
    obtain ⟨yp, yc, rfl, _⟩ := HI.out.hd.cells
    have HWR : Hid (Below w.heap.size w wr) := Lib.hid (below_onS HB2.out HI.out.bel HB2.out.size)
    by_cases hlt : i < N
    · have hl1 : (i : Int) < (N : Int) := by omega
      have hi0 : (0 : Int) ≤ (i : Int) := by omega
      have HLT := Lib.hid hlt
      obtain ⟨a, ha⟩ : ∃ a : UInt8, a = UInt8.ofNat i := ⟨_, rfl⟩
      have e1 : (a.toNat : Int) = (i : Int) := by rw [ha, UInt8.toNat_ofNat']; omega
      have hcv := own_string (P := Tryd.prog) (D := 9) (S := 54) (c := 1) Tryd.underlying54 und_u8 und_string (own_of_blk (n := 1) (w := wr.alloc (.cells (bytesV [a]).toArray 5)) (heap_alloc_new wr _) (by simp) (by simp))
      have hbB : Below wr.heap.size wr (wr.alloc (.cells (bytesV [a]).toArray 5)) := (Below.refl _ _).alloc (Nat.le_refl _) _
      simp only [bytesV, List.map_cons, List.map_nil] at hcv hbB
      rw [e1] at hcv hbB
      have HBB := Lib.hid hbB
      have HHD : Hid (∀ w5, Below wr.heap.size wr w5 → Held w5 9 1 (.slice yp i yc) i ((W.take i).map Value.string)) := Lib.hid (fun w5 hb5 => HI.out.hd.below hb5)
      have hz1 : (i + 1) * 16 ≤ 140737488355328 := by omega
      have hz2 : i + 1 ≤ 140737488355328 := by omega
      have hib : i ≤ 70 := by omega
      obtain ⟨h0, hh0⟩ : ∃ x, x = hashS (rawT E i) := ⟨_, rfl⟩
      have HAT : Hid (W[i]? = some h0) := Lib.hid (by rw [hh0]; exact HWW.out.2.2 i hlt)
      have HONE : Hid (∀ u ∈ [Value.string h0], u.oneCell' = true) := Lib.hid (fun u hu => by rw [List.mem_singleton.1 hu]; rfl)
      by_cases hh : i < el
      · have hhi : (i : Int) < (el : Int) := by omega
        obtain ⟨s, hs⟩ : ∃ s, E[i]? = some s := ⟨E[i]'(by have := HEL.out; omega), List.getElem?_eq_getElem _⟩
        obtain ⟨q', c', hpe, _, _, hzc⟩ := (HST.out _ (below_onS HWR.out hbB HWR.out.size)).2.1
        obtain rfl : q' = p := by cases hpe; rfl
        obtain ⟨qa, rfl, m0⟩ := hzc i s hs
        have CH : Hid (∀ w', Calls Tryd.prog 30 #[.string s] w' fun e w2 => e = .returned (.string h0) ∧ Below w'.heap.size w' w2) := Lib.hid (fun w' => by
          rw [hh0, show rawT E i = s by unfold rawT; rw [hs]; rfl]
          exact hash8_any s w' (by have := HEL.out.2 s (List.mem_of_getElem? hs); omega))
        clear ha hbB hh hs hpe hzc hh0 hlt e1
        go_wp2_with (first
          | (go_at_call 30; (with_reducible refine (CH.out _).mono ?_); rintro r w5 ⟨rfl, hb5⟩; have HB5 := Lib.hid (below_onS HBB.out hb5 HBB.out.size); clear hb5)
          | (at_builtin; refine wpList_grew (v := .slice yp i yc) (l := (W.take i).map Value.string) rfl _ _ rfl Tryd.underlying50 (.string ⟨#[]⟩) 1 info_str rfl (by decide) [.string h0] 1 (by simp [Act.eval]) (by simp [Act.eval]) (HHD.out _ HB5.out) rfl rfl (by decide) HONE.out hz1 hz2 ?_; intro v9 w9 hg9; have HG9 := Lib.hid hg9; clear hg9))
        refine ⟨⟨i + 1, by simp, HLT.out, Lib.hid (HI.out.push HAT.out HB5.out HG9.out)⟩, ?_⟩
        show N - ((i : Int) + 1).toNat < N - ((i : Int)).toNat
        have := HLT.out
        omega
      · have hhi : ¬ (i : Int) < (el : Int) := by omega
        have CH : Hid (∀ w', Calls Tryd.prog 30 #[.string (⟨#[110, 111, 110, 101]⟩ ++ ⟨#[a]⟩)] w' fun e w2 => e = .returned (.string h0) ∧ Below w'.heap.size w' w2) := Lib.hid (fun w' => by
          rw [hh0, show rawT E i = ⟨#[110, 111, 110, 101]⟩ ++ ⟨#[a]⟩ by unfold rawT; rw [List.getElem?_eq_none (by have := HEL.out; omega), ha]; rfl]
          exact hash8_any _ w' (by rw [ByteArray.size_append]; show 4 + 1 ≤ _; decide))
        clear ha hbB hh hh0 hlt e1
        go_wp2_with (first
          | (go_at_call 30; (with_reducible refine (CH.out _).mono ?_); rintro r w5 ⟨rfl, hb5⟩; have HB5 := Lib.hid (below_onS HBB.out hb5 HBB.out.size); clear hb5)
          | (at_builtin; refine wpList_grew (v := .slice yp i yc) (l := (W.take i).map Value.string) rfl _ _ rfl Tryd.underlying50 (.string ⟨#[]⟩) 1 info_str rfl (by decide) [.string h0] 1 (by simp [Act.eval]) (by simp [Act.eval]) (HHD.out _ HB5.out) rfl rfl (by decide) HONE.out hz1 hz2 ?_; intro v9 w9 hg9; have HG9 := Lib.hid hg9; clear hg9))
        refine ⟨⟨i + 1, by simp, HLT.out, Lib.hid (HI.out.push HAT.out HB5.out HG9.out)⟩, ?_⟩
        show N - ((i : Int) + 1).toNat < N - ((i : Int)).toNat
        have := HLT.out
        omega
    · have hl1 : ¬ (i : Int) < (N : Int) := by omega
      obtain rfl : i = N := by omega
      clear hlt
      have hWt : W.take i = W := List.take_of_length_le (by have := HWW.out.1; omega)
      have HLV : Hid (Txts wr (.slice yp i yc) W ∧ Below w.heap.size w wr) := Lib.hid ⟨by have h := HI.out.hd; rw [hWt] at h; exact (held_txts8 h (by have := HWW.out.1; omega)).2, HWR.out⟩
      have HAL : Hid (∀ w', Below wr.heap.size wr w' → Txts w' (.slice yp i yc) W ∧ Tabs w' ∧ Ints w' (.slice vp zl vc) Z ∧ Below w.heap.size w w') := Lib.hid (fun w' hb => by
        have h2 := below_onS HLV.out.2 hb HLV.out.2.size
        exact ⟨HLV.out.1.below hb (Nat.le_refl _), (HST.out _ h2).1, (HST.out _ h2).2.2, h2⟩)
      obtain ⟨k, hk⟩ : ∃ k, k = pickN s1 i := ⟨_, rfl⟩
      have hki : k < i := by rw [hk]; exact pickN_lt _ hN1
      have CP2 : Hid (∀ w', Calls Tryd.prog 11 #[.int .i64 s1, .int .i64 (i : Int)] w' fun e w2 => e = .returned (.int .i64 (k : Int)) ∧ w2 = w') := Lib.hid (fun w' => by
        rw [hk]
        exact pick8_any s1 i w' hN1 (by omega) HBN.out.1)
      obtain ⟨f0, hf0⟩ : ∃ k, k = pickN s2 i := ⟨_, rfl⟩
      have hfi : f0 < i := by rw [hf0]; exact pickN_lt _ hN1
      have CP3 : Hid (∀ w', Calls Tryd.prog 11 #[.int .i64 s2, .int .i64 (i : Int)] w' fun e w2 => e = .returned (.int .i64 (f0 : Int)) ∧ w2 = w') := Lib.hid (fun w' => by
        rw [hf0]
        exact pick8_any s2 i w' hN1 (by omega) HBN.out.2)
      obtain ⟨M, hM⟩ : ∃ M, M = 1 + f0 := ⟨_, rfl⟩
      have hMi : 1 + (f0 : Int) = (M : Int) := by omega
      obtain ⟨q, hq⟩ : ∃ q, q = i - k := ⟨_, rfl⟩
      have hqi : (i : Int) - (k : Int) = (q : Int) := by omega
      obtain ⟨e0, he0⟩ : ∃ e0, e0 = pickN s2 q := ⟨_, rfl⟩
      have heq : e0 < q := by rw [he0]; exact pickN_lt _ (by omega)
      have CP4 : Hid (∀ w', Calls Tryd.prog 11 #[.int .i64 s2, .int .i64 (q : Int)] w' fun e w2 => e = .returned (.int .i64 (e0 : Int)) ∧ w2 = w') := Lib.hid (fun w' => by
        rw [he0]
        exact pick8_any s2 q w' (by omega) (by omega) HBN.out.2)
      obtain ⟨G, hG⟩ : ∃ G, G = k + 1 + e0 := ⟨_, rfl⟩
      have hGi : (k : Int) + 1 + (e0 : Int) = (G : Int) := by omega
      have HNK : Hid (1 ≤ i ∧ i ≤ 70 ∧ k < i ∧ 1 ≤ M ∧ M ≤ i ∧ k < G ∧ G ≤ i) := Lib.hid ⟨by omega, by omega, by omega, by omega, by omega, by omega, by omega⟩
      have hkb : k ≤ 70 := by omega
      have hqb : q ≤ 70 := by omega
      have hMb : M ≤ 70 := by omega
      have he0b : e0 ≤ 70 := by omega
      have hGb : G ≤ 70 := by omega
      obtain ⟨RT, hRT⟩ : ∃ x, x = rootR W := ⟨_, rfl⟩
      have CR : Hid (∀ w', Below wr.heap.size wr w' → Calls Tryd.prog 35 #[.slice yp i yc] w' fun r w2 => r = .returned (.tuple #[.string RT, .int .i64 0]) ∧ Below w'.heap.size w' w2) := Lib.hid (fun w' hb => by
        have h := Root_any _ W w' (HAL.out w' hb).2.1 (HAL.out w' hb).1
        rw [show rootT W = RT by unfold rootT; rw [if_pos HWW.out.2.1, hRT], HWW.out.2.1] at h
        exact h)
      have HRT := Lib.hid hRT
      obtain ⟨C1, hC1⟩ : ∃ x, x = (Go.Scr.pathT 0 i k).reverse := ⟨_, rfl⟩
      obtain ⟨n1, hn1⟩ : ∃ x, x = C1.length := ⟨_, rfl⟩
      obtain ⟨C2, hC2⟩ : ∃ x, x = (Go.Scr.proofT 0 i M).reverse := ⟨_, rfl⟩
      obtain ⟨n2, hn2⟩ : ∃ x, x = C2.length := ⟨_, rfl⟩
      obtain ⟨C4, hC4⟩ : ∃ x, x = restT (lookR k G) 0 i := ⟨_, rfl⟩
      obtain ⟨n4, hn4⟩ : ∃ x, x = C4.length := ⟨_, rfl⟩
      have hf1 : ∀ x ∈ C1, x.1 < x.2 ∧ x.2 ≤ i := by
        intro x hx
        rw [hC1, List.mem_reverse] at hx
        have := pathT_fits i 0 k x hx
        omega
      have hf2 : ∀ x ∈ C2, x.1 < x.2 ∧ x.2 ≤ i := by
        intro x hx
        rw [hC2, List.mem_reverse] at hx
        have := proofT_fits i 0 M HNK.out.1 HNK.out.2.2.2.2.1 x hx
        omega
      have hf4 : ∀ x ∈ C4, x.1 < x.2 ∧ x.2 ≤ i := by
        intro x hx
        rw [hC4] at hx
        have := restT_fits (lookR k G) i 0 HNK.out.1 x hx
        omega
      have hl1 : C1.length ≤ 70 := by rw [hC1, List.length_reverse]; have := pathT_le i 0 k; omega
      have hl2 : C2.length ≤ 70 := by rw [hC2, List.length_reverse]; have := proofT_le i 0 M HNK.out.1 HNK.out.2.2.2.2.1; omega
      have hl4 : C4.length ≤ 70 := by rw [hC4]; have := restT_le (lookR k G) i 0 HNK.out.1; omega
      have HC : Hid ((∀ x ∈ C1, x.1 < x.2 ∧ x.2 ≤ i) ∧ (∀ x ∈ C2, x.1 < x.2 ∧ x.2 ≤ i) ∧ (∀ x ∈ C4, x.1 < x.2 ∧ x.2 ≤ i) ∧ n1 = C1.length ∧ n2 = C2.length ∧ n4 = C4.length) := Lib.hid ⟨hf1, hf2, hf4, hn1, hn2, hn4⟩
      have HL : Hid (C1.length ≤ 70 ∧ C2.length ≤ 70 ∧ C4.length ≤ 70) := Lib.hid ⟨hl1, hl2, hl4⟩
      have HC4 : Hid (C4 = restT (lookR k G) 0 i) := Lib.hid hC4
      have hn4b : n4 ≤ 70 := by omega
      have CPa : Hid (∀ w', Below wr.heap.size wr w' → Calls Tryd.prog 36 #[.slice yp i yc, .int .i64 (k : Int)] w' (TxOut w' W C1 n1)) := Lib.hid (fun w' hb => by
        rw [hC1]
        exact tPath (HAL.out w' hb).2.1 (HAL.out w' hb).1 HWW.out.1 HWW.out.2.1 HNK.out.2.2.1 (by rw [hn1, hC1]))
      have CPr : Hid (∀ w', Below wr.heap.size wr w' → Calls Tryd.prog 37 #[.slice yp i yc, .int .i64 (M : Int)] w' (TxOut w' W C2 n2)) := Lib.hid (fun w' hb => by
        rw [hC2]
        exact tProof (HAL.out w' hb).2.1 (HAL.out w' hb).1 HWW.out.1 HWW.out.2.1 HNK.out.2.2.2.1 HNK.out.2.2.2.2.1 (by rw [hn2, hC2]))
      have CsP : Hid (∀ w', Calls Tryd.prog 19 #[.int .i64 (i : Int), .int .i64 (k : Int)] w' (SpOut w' C1 n1)) := Lib.hid (fun w' => by
        rw [hC1]
        exact sPath w' HNK.out.2.2.1 (by have := HNK.out; omega) (by rw [hn1, hC1]))
      have CsQ : Hid (∀ w', Calls Tryd.prog 21 #[.int .i64 (M : Int), .int .i64 (i : Int)] w' (SpOut w' C2 n2)) := Lib.hid (fun w' => by
        rw [hC2]
        exact sProof w' HNK.out.2.2.2.1 HNK.out.2.2.2.2.1 (by have := HNK.out; omega) (by rw [hn2, hC2]))
      have CsR : Hid (∀ w', Calls Tryd.prog 26 #[.int .i64 (i : Int), .agg #[.int .i64 (k : Int), .int .i64 (G : Int)]] w' (SpOut w' C4 n4)) := Lib.hid (fun w' => by
        rw [hC4]
        exact sRun w' HNK.out.2.2.2.2.2.1 HNK.out.2.2.2.2.2.2 (by have := HNK.out; omega) (by rw [hn4, hC4]))
      have CRI := Lib.hid (rising_any (.slice vp zl vc) Z i 20 wr (HAL.out wr (Below.refl _ _)).2.2.1 HNK.out.1 (by have := HNK.out; omega) (by decide) (by decide))
      clear hk hf0 hM hRT hq he0 hG hC1 hn1 hC2 hn2 hC4 hn4 hf1 hf2 hf4 hl1 hl2 hl4 heq hki hfi HI
      go_upto_region 14 with (first
        | (go_at_call 11; (with_reducible refine (CP2.out _).mono ?_); rintro r wx ⟨rfl, hwx⟩; rw [hwx]; clear hwx wx)
        | (go_at_call 11; (with_reducible refine (CP3.out _).mono ?_); rintro r wx ⟨rfl, hwx⟩; rw [hwx]; clear hwx wx)
        | (go_at_call 24; refine CRI.out.mono ?_; rintro r w3 ⟨vr, R, rfl, hne, hlen, hri⟩; obtain ⟨rp, rc, rfl, _⟩ := hri.hd.cells; have HRI := Lib.hid (And.intro hne (And.intro hlen hri)); clear hne hlen hri))
      obtain ⟨hne, hlen, hri⟩ := HRI.out
      obtain ⟨rl, hrl⟩ : ∃ x, x = R.length := ⟨_, rfl⟩
      obtain ⟨C3, hC3⟩ : ∃ x, x = restT (lookZ (R.map (fun x : Nat => (x : Int)))) 0 i := ⟨_, rfl⟩
      obtain ⟨n3, hn3⟩ : ∃ x, x = C3.length := ⟨_, rfl⟩
      have hf3 : ∀ x ∈ C3, x.1 < x.2 ∧ x.2 ≤ i := by
        intro x hx
        rw [hC3] at hx
        have := restT_fits _ i 0 HNK.out.1 x hx
        omega
      have hl3 : C3.length ≤ 70 := by rw [hC3]; have := restT_le (lookZ (R.map (fun x : Nat => (x : Int)))) i 0 HNK.out.1; have := HNK.out; omega
      have hrl20 : rl ≤ 20 := by omega
      have HR : Hid (RisN i R ∧ R ≠ [] ∧ rl = R.length ∧ C3 = restT (lookZ (R.map (fun x : Nat => (x : Int)))) 0 i ∧ n3 = C3.length ∧ (∀ x ∈ C3, x.1 < x.2 ∧ x.2 ≤ i)) := Lib.hid ⟨hri.ris, hne, hrl, hC3, hn3, hf3⟩
      have hn3b : n3 ≤ 70 := by omega
      have hbel3 : Below wr.heap.size wr w3 := hri.bel
      have HA3 : Hid (∀ w', Below w3.heap.size w3 w' → Below wr.heap.size wr w' ∧ Held w' 3 1 (.slice rp rl rc) rl (natV R) ∧ Ints w' (.slice rp rl rc) (R.map (fun x : Nat => (x : Int)))) := Lib.hid (fun w' hb => by
        have hd := hri.hd.below hb
        have hz := ints_nat hd (by omega) (fun x hx => by have := hri.ris.2 x hx; have := HNK.out; omega)
        rw [← hrl] at hd hz
        exact ⟨below_onS hbel3 hb hbel3.size, hd, hz⟩)
      have CMa : Hid (∀ w', Below w3.heap.size w3 w' → Calls Tryd.prog 38 #[.slice yp i yc, .slice rp rl rc] w' (TxOut w' W C3 n3)) := Lib.hid (fun w' hb => by
        have h := HA3.out w' hb
        rw [hC3]
        exact tMany (HAL.out w' h.1).2.1 (HAL.out w' h.1).1 h.2.2 HWW.out.1 HWW.out.2.1 HNK.out.1 hri.ris hne (by omega) (by rw [hn3, hC3]))
      have CsB : Hid (∀ w', Below w3.heap.size w3 w' → Calls Tryd.prog 31 #[.int .i64 (i : Int), .slice rp rl rc] w' (SpOut w' C3 n3)) := Lib.hid (fun w' hb => by
        rw [hC3]
        exact sBatch (HA3.out w' hb).2.2 HNK.out.1 (by have := HNK.out; omega) hri.ris hne (by omega) (by rw [hn3, hC3]))
      have HB3 : Hid (Below w3.heap.size w3 w3) := Lib.hid (Below.refl _ _)
      rw [← hrl]
      clear hne hlen hri hrl hC3 hn3 hf3 hl3 hbel3 HRI CRI CP2 CP3
      go_upto_region 21 with (first
        | (go_at_call 35; (with_reducible refine (CR.out _ (HA3.out _ HB3.out).1).mono ?_); rintro r w4 ⟨rfl, hb⟩; have HB4 := Lib.hid hb; clear hb)
        | (go_at_call 36; (with_reducible refine (CPa.out _ (HA3.out _ HB4.out).1).mono ?_); rintro r w5 ⟨⟨p5, c5, rfl, h5⟩, hb⟩; have HB5 := Lib.hid (below_onS HB4.out hb HB4.out.size); have HT5 := Lib.hid h5; clear hb h5)
        | (go_at_call 37; (with_reducible refine (CPr.out _ (HA3.out _ HB5.out).1).mono ?_); rintro r w6 ⟨⟨p6, c6, rfl, h6⟩, hb⟩; have HT5 := Lib.hid (HT5.out.below hb (Nat.le_refl _)); have HB6 := Lib.hid (below_onS HB5.out hb HB5.out.size); have HT6 := Lib.hid h6; clear hb h6)
        | (go_at_call 38; (with_reducible refine (CMa.out _ HB6.out).mono ?_); rintro r w7 ⟨⟨p7, c7, rfl, h7⟩, hb⟩; have HT5 := Lib.hid (HT5.out.below hb (Nat.le_refl _)); have HT6 := Lib.hid (HT6.out.below hb (Nat.le_refl _)); have HB7 := Lib.hid (below_onS HB6.out hb HB6.out.size); have HT7 := Lib.hid h7; clear hb h7)
        | (go_at_call 19; (with_reducible refine (CsP.out _).mono ?_); rintro r w8 ⟨⟨p8, c8, rfl, h8, _⟩, hb⟩; have HT7 := Lib.hid (And.intro (HT5.out.below hb (Nat.le_refl _)) (And.intro (HT6.out.below hb (Nat.le_refl _)) (HT7.out.below hb (Nat.le_refl _)))); have HB8 := Lib.hid (below_onS HB7.out hb HB7.out.size); have HS8 := Lib.hid h8; clear hb h8)
        | (go_at_call 21; (with_reducible refine (CsQ.out _).mono ?_); rintro r w9 ⟨⟨p9, c9, rfl, h9, _⟩, hb⟩; have HX9 := Lib.hid (And.intro (HT7.out.1.below hb (Nat.le_refl _)) (And.intro (HT7.out.2.1.below hb (Nat.le_refl _)) (And.intro (HT7.out.2.2.below hb (Nat.le_refl _)) (And.intro (HS8.out.below hb) h9)))); have HB9 := Lib.hid (below_onS HB8.out hb HB8.out.size); clear hb h9)
        | (go_at_call 31; (with_reducible refine (CsB.out _ HB9.out).mono ?_); rintro r w10 ⟨⟨p10, c10, rfl, h10, g10⟩, hb⟩; have HB10 := Lib.hid hb; have HS10 := Lib.hid (And.intro h10 g10); clear hb h10 g10))
      go_upto_region 22 with (go_at_call 11; (with_reducible refine (CP4.out _).mono ?_); rintro r wx ⟨rfl, hwx⟩; rw [hwx]; clear hwx wx)
      obtain ⟨B, hB⟩ : ∃ x, x = w10.heap.size := ⟨_, rfl⟩
      obtain ⟨wA, hwA⟩ : ∃ x, x = w10.alloc (.cells #[.int .i64 (k : Int), .int .i64 (G : Int)] 29) := ⟨_, rfl⟩
      have hbA : Below w10.heap.size w10 wA := by rw [hwA]; exact (Below.refl _ _).alloc (Nat.le_refl _) _
      have rA : spRow wA B k G := by rw [hwA, hB]; exact heap_alloc_new w10 _
      have hszA : wA.heap.size = B + 1 := by rw [hwA, hB]; simp
      rw [← hwA, ← hB]
      obtain ⟨d0, d1, _⟩ := rA.at
      have HRA : Hid (spRow wA B k G ∧ Below w10.heap.size w10 wA ∧ B = w10.heap.size ∧ wA.heap.size = B + 1) := Lib.hid ⟨rA, hbA, hB, hszA⟩
      clear hB hwA hbA rA hszA
      go_upto_region 23 with (go_at_call 26; (with_reducible refine (CsR.out _).mono ?_); rintro r w12 ⟨⟨p12, c12, rfl, h12, g12⟩, hb⟩; have HB12 := Lib.hid hb; have HS12 := Lib.hid (And.intro h12 g12); clear hb h12 g12)
      clear d0 d1
      have hb1012 : Below w10.heap.size w10 w12 := below_onS HRA.out.2.1 HB12.out HRA.out.2.1.size
      have hb912 : Below w9.heap.size w9 w12 := below_onS HB10.out hb1012 HB10.out.size
      have HDX : Hid (DX w9 w12 B k G (castZ C3) (castZ C4) (.slice p10 n3 c10) (.slice p12 n4 c12)) := Lib.hid ⟨by rw [castZ_length, ← HR.out.2.2.2.2.1, ← prsV_cast]; exact HS10.out.1.below hb1012, by rw [castZ_length, ← HC.out.2.2.2.2.2, ← prsV_cast]; exact HS12.out.1,
        HS10.out.2, fun g hg => by have := HS12.out.2 g hg; have h2 := HB10.out.size; have := HRA.out.2.2; omega,
        fun g hg hg2 => by have h1 := HS10.out.1.lt hg; have := HS12.out.2 g hg2; have := HRA.out.2.2; omega,
        HRA.out.1.keep (HB12.out.block _ HRA.out.1.lt), fun hg => by have h1 := HS10.out.1.lt hg; have := HRA.out.2.2; omega, fun hg => by have := HS12.out.2 B hg; have := HRA.out.2.2; omega, hb912⟩
      have HAL2 : Hid (∀ w', Below w9.heap.size w9 w' → Txts w' (.slice yp i yc) W ∧ Tabs w' ∧ Held w' 3 1 (.slice rp rl rc) rl (natV R) ∧ Below w.heap.size w w' ∧ (Txts w' (.slice p5 n1 c5) (C1.map (secR W)) ∧ Txts w' (.slice p6 n2 c6) (C2.map (secR W)) ∧ Txts w' (.slice p7 n3 c7) (C3.map (secR W)) ∧ SpZ w' (.slice p8 n1 c8) (castZ C1) ∧ SpZ w' (.slice p9 n2 c9) (castZ C2))) := Lib.hid (fun w' hb => by
        have h3 := HA3.out w' (below_onS HB9.out hb HB9.out.size)
        have h4 := HAL.out w' h3.1
        have h9 := HX9.out
        refine ⟨h4.1, h4.2.1, h3.2.1, h4.2.2.2, h9.1.below hb (Nat.le_refl _), h9.2.1.below hb (Nat.le_refl _), h9.2.2.1.below hb (Nat.le_refl _), ?_, ?_⟩
        · exact (held_cast (h9.2.2.2.1.below hb) HC.out.1 (by have := HNK.out; omega) (by have := HL.out; omega)).2
        · exact (held_cast (h9.2.2.2.2.below hb) HC.out.2.1 (by have := HNK.out; omega) (by have := HL.out; omega)).2)
      have hleW : i ≤ W.length := by have := HWW.out.1; omega
      have CH1 : Hid (∀ w', Below w9.heap.size w9 w' → Calls Tryd.prog 39 #[.slice yp i yc, .slice p8 n1 c8, .slice p5 n1 c5] w' fun r w2 => r = .returned (.bool true) ∧ Below w'.heap.size w' w2) := Lib.hid (fun w' hb => by
        have h := HAL2.out w' hb
        exact hashed_any _ _ _ W C1 w' h.2.1 h.1 h.2.2.2.2.2.2.2.1 h.2.2.2.2.1 HWW.out.2.1 (fun x hx => by have := HC.out.1 x hx; omega))
      have CH2 : Hid (∀ w', Below w9.heap.size w9 w' → Calls Tryd.prog 39 #[.slice yp i yc, .slice p9 n2 c9, .slice p6 n2 c6] w' fun r w2 => r = .returned (.bool true) ∧ Below w'.heap.size w' w2) := Lib.hid (fun w' hb => by
        have h := HAL2.out w' hb
        exact hashed_any _ _ _ W C2 w' h.2.1 h.1 h.2.2.2.2.2.2.2.2 h.2.2.2.2.2.1 HWW.out.2.1 (fun x hx => by have := HC.out.2.1 x hx; omega))
      have CH3 : Hid (∀ w', DX w9 w' B k G (castZ C3) (castZ C4) (.slice p10 n3 c10) (.slice p12 n4 c12) → Calls Tryd.prog 39 #[.slice yp i yc, .slice p10 n3 c10, .slice p7 n3 c7] w' fun r w2 => r = .returned (.bool true) ∧ Below w'.heap.size w' w2) := Lib.hid (fun w' hx => by
        have h := HAL2.out w' hx.bel
        have hd := held_spz hx.hd (spB_cast HR.out.2.2.2.2.2 (by have := HNK.out; omega)) (by rw [castZ_length]; have := HR.out.2.2.2.2.1; omega)
        exact hashed_any _ _ _ W C3 w' h.2.1 h.1 hd.2 h.2.2.2.2.2.2.1 HWW.out.2.1 (fun x hx => by have := HR.out.2.2.2.2.2 x hx; omega))
      have HLE := Lib.hid hleW
      clear hb1012 hb912 hleW
      go_upto_region 30 with (first
        | (go_at_call 39; (with_reducible refine (CH1.out _ HDX.out.bel).mono ?_); rintro r w13 ⟨rfl, hb⟩; have HDX1 := Lib.hid (HDX.out.later hb); clear hb)
        | (go_at_call 39; (with_reducible refine (CH2.out _ HDX1.out.bel).mono ?_); rintro r w14 ⟨rfl, hb⟩; have HDX2 := Lib.hid (HDX1.out.later hb); clear hb)
        | (go_at_call 39; (with_reducible refine (CH3.out _ HDX2.out).mono ?_); rintro r w15 ⟨rfl, hb⟩; have HDX3 := Lib.hid (HDX2.out.later hb); clear hb))
      clear CH1 CH2 CH3 HDX HDX1 HDX2
      have HZ0 : Hid (DX w9 w15 B k G (castZ (C3 ++ lvN (R.take 0))) (castZ C4) (.slice p10 n3 c10) (.slice p12 n4 c12)) := Lib.hid (by
        rw [List.take_zero, show C3 ++ lvN [] = C3 from List.append_nil _]
        exact HDX3.out)
      go_wp2_with fail
      go_loopw [29, 37] (fun x y wr => ∃ (j : Nat), y = .int .i64 (j : Int) ∧ j ≤ rl ∧ Hid (DX w9 wr B k G (castZ (C3 ++ lvN (R.take j))) (castZ C4) x (.slice p12 n4 c12))) (fun _ y _ => rl - (intOf y).toNat)
      case atStart => exact ⟨0, rfl, by omega, HZ0⟩
      case round =>
        clear HZ0 HDX3
        obtain ⟨j, rfl, hj, HJ⟩ := hrel
        obtain ⟨xp, xc, rfl, _⟩ := HJ.out.hd.cells
        have hpl : (castZ (C3 ++ lvN (R.take j))).length = n3 + j := by rw [castZ_length, List.length_append, lvN_length, List.length_take]; have := HR.out.2.2; omega
        obtain ⟨pl, hplv⟩ : ∃ x, x = n3 + j := ⟨_, rfl⟩
        rw [← hplv] at hpl
        rw [hpl]
        have HP : Hid (pl = n3 + j ∧ (castZ (C3 ++ lvN (R.take j))).length = pl ∧ DX w9 wr B k G (castZ (C3 ++ lvN (R.take j))) (castZ C4) (.slice xp pl xc) (.slice p12 n4 c12)) := Lib.hid ⟨hplv, hpl, by have := HJ.out; rwa [hpl] at this⟩
        have hplb : pl ≤ 90 := by omega
        clear hpl hplv
        by_cases hlt : j < rl
        · have hl1 : (j : Int) < (rl : Int) := by omega
          have hj0 : (0 : Int) ≤ (j : Int) := by omega
          obtain ⟨rr, hrr⟩ : ∃ x, R[j]? = some x := ⟨R[j]'(by have := HR.out.2.2.1; omega), List.getElem?_eq_getElem _⟩
          have hrN : rr < i := HR.out.1.2 rr (List.mem_of_getElem? hrr)
          obtain ⟨rg, hrg, hrc⟩ := held_cell (HAL2.out _ HJ.out.bel).2.2.1 (by omega)
          have k0 : wr.cell? ⟨rg, j, none⟩ = some (.int .i64 (rr : Int)) := hrc j _ (by show (R.map _)[j]? = _; rw [List.getElem?_map, hrr]; rfl)
          obtain ⟨r1, hr1⟩ : ∃ x, x = rr + 1 := ⟨_, rfl⟩
          have hr1i : (rr : Int) + 1 = (r1 : Int) := by omega
          have hwr : IntKind.i64.wrap (r1 : Int) = (r1 : Int) := wrap_i64_id _ (by omega) (by omega)
          have HRR : Hid (R[j]? = some rr ∧ r1 = rr + 1) := Lib.hid ⟨hrr, hr1⟩
          have HLT := Lib.hid hlt
          have hrb : rr ≤ 70 := by omega
          have hz1 : (pl + 1) * 16 ≤ 140737488355328 := by omega
          have hz2 : pl + 1 ≤ 140737488355328 := by omega
          have HHD2 : Hid (∀ o, Held (wr.drew.alloc o) 29 2 (.slice xp pl xc) pl (zprs (castZ (C3 ++ lvN (R.take j))))) := Lib.hid (fun o => Held.below (w := wr.drew) ((show Held wr 29 2 (.slice xp pl xc) pl (zprs (castZ (C3 ++ lvN (R.take j)))) by have := HP.out.2.2.hd; rwa [HP.out.2.1] at this).keep (w' := wr.drew) (fun _ _ => rfl)) ((Below.refl _ _).alloc (Nat.le_refl _) _))
          have HONE : Hid (∀ u ∈ [Value.int .i64 (rr : Int), .int .i64 (r1 : Int)], u.oneCell' = true) := Lib.hid (fun u hu => by
            rcases List.mem_cons.1 hu with rfl | hu
            · rfl
            · rw [List.mem_singleton.1 hu]; rfl)
          subst hrg
          clear hlt hrr hrN hrc hr1 HJ
          go_upto_region 33 with fail
          go_region_law (first
            | (refine step_grew (v := .slice xp pl xc) rfl (.tmp 206) (.tmp 217) rfl Tryd.underlying31 (.agg #[.int .i64 0, .int .i64 0]) 2 info_spanP rfl (by decide) [.int .i64 (rr : Int), .int .i64 (r1 : Int)] 1 ⟨wr.heap.size, 0, none⟩ rfl rfl (HHD2.out _) rfl (by decide) cells_alloc HONE.out hz1 hz2 ?_; intro v5 w5 hg5; have HG5 := Lib.hid hg5; clear hg5)
            | fail)
          all_goals
            have hfin : Hid (DX w9 w5 B k G (castZ (C3 ++ lvN (R.take (j + 1)))) (castZ C4) v5 (.slice p12 n4 c12)) := Lib.hid (by
              rw [castZ_take HRR.out.1 HRR.out.2]
              exact HP.out.2.2.pushD (w2 := wr.drew) (Below.refl _ wr).drew (by rw [HP.out.2.1]; exact HG5.out))
            go_wp2_with fail
            refine ⟨⟨j + 1, by simp, HLT.out, hfin⟩, ?_⟩
            show rl - ((j : Int) + 1).toNat < rl - ((j : Int)).toNat
            have := HLT.out
            omega
        · have hl1 : ¬ (j : Int) < (rl : Int) := by omega
          obtain rfl : j = rl := by omega
          clear hlt HJ
          obtain ⟨D, hD⟩ : ∃ x, x = C3 ++ lvN R := ⟨_, rfl⟩
          have hRt : R.take j = R := List.take_of_length_le (by have := HR.out.2.2.1; omega)
          have HDD : Hid (DX w9 wr B k G (castZ D) (castZ C4) (.slice xp pl xc) (.slice p12 n4 c12) ∧ pl = D.length ∧ (∀ x ∈ D, x.1 < x.2 ∧ x.2 ≤ i) ∧ CovS (castZ D) 0 i) := Lib.hid (by
            have h := HP.out.2.2
            have hl := HP.out.2.1
            rw [hRt, ← hD] at h hl
            rw [castZ_length] at hl
            refine ⟨h, hl.symm, ?_, ?_⟩
            · intro x hx
              rw [hD] at hx
              rcases List.mem_append.1 hx with hx | hx
              · exact HR.out.2.2.2.2.2 x hx
              · have h2 := lvN_mem hx
                have := HR.out.1.2 _ h2.1
                omega
            · rw [hD, HR.out.2.2.2.1]
              exact cov_batch HNK.out.1)
          obtain ⟨d0, d1, _⟩ := HDD.out.1.rb.at
          have hkG : k ≤ G := by have := HNK.out; omega
          have HKG := Lib.hid hkG
          clear hRt hD HP
          go_wp2_with fail
          go_loopw [32, 38] (fun x y wr => ∃ (t : Nat), y = .int .i64 (t : Int) ∧ k ≤ t ∧ t ≤ G ∧ Hid (DX w9 wr B k G (castZ D) (castZ (C4 ++ lvN (List.range' k (t - k)))) (.slice xp pl xc) x)) (fun _ y _ => G - (intOf y).toNat)
          case atStart => exact ⟨k, rfl, Nat.le_refl _, HKG.out, Lib.hid (by rw [Nat.sub_self, show C4 ++ lvN (List.range' k 0) = C4 from List.append_nil _]; exact HDD.out.1)⟩
          case round =>
            clear d0 d1
            obtain ⟨t, rfl, ht1, ht2, HJ⟩ := hrel
            obtain ⟨up, uc, rfl, _⟩ := HJ.out.hx.cells
            have hql : (castZ (C4 ++ lvN (List.range' k (t - k)))).length = n4 + (t - k) := by rw [castZ_length, List.length_append, lvN_length, List.length_range']; have := HC.out.2.2.2.2.2; omega
            obtain ⟨ql, hqlv⟩ : ∃ x, x = n4 + (t - k) := ⟨_, rfl⟩
            rw [← hqlv] at hql
            rw [hql]
            have HQ : Hid (ql = n4 + (t - k) ∧ (castZ (C4 ++ lvN (List.range' k (t - k)))).length = ql ∧ DX w9 wr B k G (castZ D) (castZ (C4 ++ lvN (List.range' k (t - k)))) (.slice xp pl xc) (.slice up ql uc)) := Lib.hid ⟨hqlv, hql, by have := HJ.out; rwa [hql] at this⟩
            have hqlb : ql ≤ 140 := by omega
            obtain ⟨d0, d1, _⟩ := HJ.out.rb.at
            clear hql hqlv HJ
            have HT1 := Lib.hid ht1
            by_cases hlt : t < G
            · have hl2 : (t : Int) < (G : Int) := by omega
              have hz1 : (ql + 1) * 16 ≤ 140737488355328 := by omega
              have hz2 : ql + 1 ≤ 140737488355328 := by omega
              have HHX : Hid (Held wr 29 2 (.slice up ql uc) ql (zprs (castZ (C4 ++ lvN (List.range' k (t - k)))))) := Lib.hid (by have := HQ.out.2.2.hx; rwa [HQ.out.2.1] at this)
              have HONE : Hid (∀ u ∈ [Value.int .i64 (t : Int), .int .i64 ((t : Int) + 1)], u.oneCell' = true) := Lib.hid (fun u hu => by
                rcases List.mem_cons.1 hu with rfl | hu
                · rfl
                · rw [List.mem_singleton.1 hu]; rfl)
              have HLT := Lib.hid hlt
              have htb : t ≤ 70 := by omega
              clear hlt ht1 ht2
              go_wp2_with (at_builtin; refine wpList_grew (v := .slice up ql uc) (l := zprs (castZ (C4 ++ lvN (List.range' k (t - k))))) rfl _ _ rfl Tryd.underlying31 (.agg #[.int .i64 0, .int .i64 0]) 2 info_spanP rfl (by decide) [.int .i64 (t : Int), .int .i64 ((t : Int) + 1)] 1 (by simp [Act.eval]) (by simp [Act.eval]) HHX.out rfl rfl (by decide) HONE.out hz1 hz2 ?_; intro v8 w8' hg8; have HG8 := Lib.hid hg8; clear hg8)
              have hfin := HQ.out.2.2.pushX (w2 := wr) (Below.refl _ _) (by rw [HQ.out.2.1]; exact HG8.out)
              refine ⟨⟨t + 1, by simp, by have := HT1.out; omega, HLT.out, Lib.hid (by rw [castZ_run HT1.out]; exact hfin)⟩, ?_⟩
              show G - ((t : Int) + 1).toNat < G - ((t : Int)).toNat
              have := HLT.out
              omega
            · have hl2 : ¬ (t : Int) < (G : Int) := by omega
              obtain rfl : t = G := by omega
              clear hlt ht1 ht2
              obtain ⟨F, hF⟩ : ∃ x, x = C4 ++ lvN (List.range' k (t - k)) := ⟨_, rfl⟩
              have HFF : Hid (DX w9 wr B k t (castZ D) (castZ F) (.slice xp pl xc) (.slice up ql uc) ∧ ql = F.length ∧ (∀ x ∈ F, x.1 < x.2 ∧ x.2 ≤ i) ∧ CovS (castZ F) 0 i) := Lib.hid (by
                have h := HQ.out.2.2
                have hl := HQ.out.2.1
                rw [← hF] at h hl
                rw [castZ_length] at hl
                refine ⟨h, hl.symm, ?_, ?_⟩
                · intro x hx
                  rw [hF] at hx
                  rcases List.mem_append.1 hx with hx | hx
                  · exact HC.out.2.2.1 x hx
                  · have h2 := lvN_mem hx
                    have h3 := List.mem_range'_1.1 h2.1
                    have := HNK.out
                    omega
                · rw [hF, HC4.out]
                  exact cov_run HNK.out.1 HKG.out)
              obtain ⟨wB, rfl⟩ : ∃ x : World, x = wr := ⟨_, rfl⟩
              have HW3 : Hid (∀ w', Below wB.heap.size wB w' → Txts w' (.slice yp i yc) W ∧ Tabs w' ∧ SpZ w' (.slice xp pl xc) (castZ D) ∧ SpZ w' (.slice up ql uc) (castZ F) ∧ Below w.heap.size w w') := Lib.hid (fun w' hb => by
                have hx := HFF.out.1.later hb
                have h := HAL2.out w' hx.bel
                have hd := held_spz hx.hd (spB_cast HDD.out.2.2.1 (by have := HNK.out; omega)) (by rw [castZ_length]; have := HDD.out.2.1; omega)
                have hf := held_spz hx.hx (spB_cast HFF.out.2.2.1 (by have := HNK.out; omega)) (by rw [castZ_length]; have := HFF.out.2.1; omega)
                exact ⟨h.1, h.2.1, hd.2, hf.2, h.2.2.2.1⟩)
              have CF : Hid (∀ (w' : World) (b e : Nat), Below wB.heap.size wB w' → b ≤ e → e ≤ i → Calls Tryd.prog 40 #[.slice yp i yc, .agg #[.int .i64 (b : Int), .int .i64 (e : Int)]] w' fun r w2 => r = .returned (.string (secR W (b, e))) ∧ Below w'.heap.size w' w2) := Lib.hid (fun w' b e hb h1 h2 => by
                have h := HW3.out w' hb
                have := folded8_any _ W (b : Int) (e : Int) w' h.2.1 h.1
                rwa [part_sec HWW.out.2.1 h1 (by have := HWW.out.1; omega)] at this)
              clear hF HQ HAL2
              go_wp2_with fail
              clear d0 d1
              go_loopw [39, 41] (fun x y wr => ∃ (a3 : Nat), y = .int .i64 (a3 : Int) ∧ a3 ≤ pl ∧ Hid (PtI wB wr a3 (D.map (secR W)) x)) (fun _ y _ => pl - (intOf y).toNat)
              case atStart => exact ⟨0, rfl, by omega, Lib.hid (PtI.nil wB _)⟩
              case round =>
                obtain ⟨a3, rfl, hj, HJ⟩ := hrel
                obtain ⟨mp, mc, rfl, _⟩ := HJ.out.hd.cells
                have HWR : Hid (Below wB.heap.size wB wr) := Lib.hid (HJ.out.bel)
                by_cases hlt : a3 < pl
                · have hl3 : (a3 : Int) < (pl : Int) := by omega
                  have hj0 : (0 : Int) ≤ (a3 : Int) := by omega
                  have HLT := Lib.hid hlt
                  obtain ⟨⟨x, y⟩, hx⟩ : ∃ z, D[a3]? = some z := ⟨D[a3]'(by have := HDD.out.2.1; omega), List.getElem?_eq_getElem _⟩
                  have hxy := HDD.out.2.2.1 _ (List.mem_of_getElem? hx)
                  obtain ⟨q', d', e1, _, _, _, hq⟩ := (HW3.out wr HWR.out).2.2.1
                  obtain rfl : q' = xp := by cases e1; rfl
                  obtain ⟨g, o, rfl, k0, k1⟩ := hq a3 ((x : Int), (y : Int)) (by unfold castZ; rw [List.getElem?_map, hx]; rfl)
                  have k0 : wr.cell? ⟨g, o + a3 * 2, none⟩ = some (.int .i64 (x : Int)) := k0
                  have k1 : wr.cell? ⟨g, o + a3 * 2 + 1, none⟩ = some (.int .i64 (y : Int)) := k1
                  have HF := Lib.hid (CF.out wr x y HWR.out (Nat.le_of_lt hxy.1) hxy.2)
                  obtain ⟨h, hh⟩ : ∃ h, h = secR W (x, y) := ⟨_, rfl⟩
                  rw [← hh] at HF
                  have HAT : Hid ((D.map (secR W))[a3]? = some h) := Lib.hid (by rw [List.getElem?_map, hx, hh]; rfl)
                  have HHD : Hid (∀ w5, Below wr.heap.size wr w5 → Held w5 9 1 (.slice mp a3 mc) a3 (((D.map (secR W)).take a3).map Value.string)) := Lib.hid (fun w5 hb5 => HJ.out.hd.below hb5)
                  have HONE : Hid (∀ u ∈ [Value.string h], u.oneCell' = true) := Lib.hid (fun u hu => by rw [List.mem_singleton.1 hu]; rfl)
                  have hz1 : (a3 + 1) * 16 ≤ 140737488355328 := by omega
                  have hz2 : a3 + 1 ≤ 140737488355328 := by omega
                  clear hx hxy e1 hq hh hlt
                  go_wp2_with (first
                    | (go_at_call 40; (with_reducible refine HF.out.mono ?_); rintro r w5 ⟨rfl, hb5⟩; have HB5 := Lib.hid hb5; clear hb5)
                    | (at_builtin; refine wpList_grew (v := .slice mp a3 mc) (l := ((D.map (secR W)).take a3).map Value.string) rfl _ _ rfl Tryd.underlying50 (.string ⟨#[]⟩) 1 info_str rfl (by decide) [.string h] 1 (by simp [Act.eval]) (by simp [Act.eval]) (HHD.out _ HB5.out) rfl rfl (by decide) HONE.out hz1 hz2 ?_; intro v9 w9' hg9; have HG9 := Lib.hid hg9; clear hg9))
                  refine ⟨⟨a3 + 1, by simp, HLT.out, Lib.hid (HJ.out.push HAT.out HB5.out HG9.out)⟩, ?_⟩
                  show pl - ((a3 : Int) + 1).toNat < pl - ((a3 : Int)).toNat
                  have := HLT.out
                  omega
                · have hl3 : ¬ (a3 : Int) < (pl : Int) := by omega
                  obtain rfl : a3 = pl := by omega
                  clear hlt
                  obtain ⟨wC, rfl⟩ : ∃ x : World, x = wr := ⟨_, rfl⟩
                  have HDH : Hid (∀ w', Below wC.heap.size wC w' → Txts w' (.slice mp a3 mc) (D.map (secR W))) := Lib.hid (fun w' hb => by
                    have h := HJ.out.hd
                    rw [List.take_of_length_le (by rw [List.length_map]; have := HDD.out.2.1; omega)] at h
                    exact (held_txts8 h (by rw [List.length_map]; have := HDD.out.2.1; omega)).2.below hb (Nat.le_refl _))
                  have HWC : Hid (Below wB.heap.size wB wC) := Lib.hid HJ.out.bel
                  clear HJ HWR
                  go_wp2_with fail
                  go_loopw [40, 43] (fun x y wr => ∃ (a4 : Nat), y = .int .i64 (a4 : Int) ∧ a4 ≤ ql ∧ Hid (PtI wC wr a4 (F.map (secR W)) x)) (fun _ y _ => ql - (intOf y).toNat)
                  case atStart => exact ⟨0, rfl, by omega, Lib.hid (PtI.nil wC _)⟩
                  case round =>
                    obtain ⟨a4, rfl, hj, HJ⟩ := hrel
                    obtain ⟨np, nc, rfl, _⟩ := HJ.out.hd.cells
                    have HWR : Hid (Below wB.heap.size wB wr) := Lib.hid (below_onS HWC.out HJ.out.bel HWC.out.size)
                    by_cases hlt : a4 < ql
                    · have hl3 : (a4 : Int) < (ql : Int) := by omega
                      have hj0 : (0 : Int) ≤ (a4 : Int) := by omega
                      have HLT := Lib.hid hlt
                      obtain ⟨⟨x, y⟩, hx⟩ : ∃ z, F[a4]? = some z := ⟨F[a4]'(by have := HFF.out.2.1; omega), List.getElem?_eq_getElem _⟩
                      have hxy := HFF.out.2.2.1 _ (List.mem_of_getElem? hx)
                      obtain ⟨q', d', e1, _, _, _, hq⟩ := (HW3.out wr HWR.out).2.2.2.1
                      obtain rfl : q' = up := by cases e1; rfl
                      obtain ⟨g, o, rfl, k0, k1⟩ := hq a4 ((x : Int), (y : Int)) (by unfold castZ; rw [List.getElem?_map, hx]; rfl)
                      have k0 : wr.cell? ⟨g, o + a4 * 2, none⟩ = some (.int .i64 (x : Int)) := k0
                      have k1 : wr.cell? ⟨g, o + a4 * 2 + 1, none⟩ = some (.int .i64 (y : Int)) := k1
                      have HF := Lib.hid (CF.out wr x y HWR.out (Nat.le_of_lt hxy.1) hxy.2)
                      obtain ⟨h, hh⟩ : ∃ h, h = secR W (x, y) := ⟨_, rfl⟩
                      rw [← hh] at HF
                      have HAT : Hid ((F.map (secR W))[a4]? = some h) := Lib.hid (by rw [List.getElem?_map, hx, hh]; rfl)
                      have HHD : Hid (∀ w5, Below wr.heap.size wr w5 → Held w5 9 1 (.slice np a4 nc) a4 (((F.map (secR W)).take a4).map Value.string)) := Lib.hid (fun w5 hb5 => HJ.out.hd.below hb5)
                      have HONE : Hid (∀ u ∈ [Value.string h], u.oneCell' = true) := Lib.hid (fun u hu => by rw [List.mem_singleton.1 hu]; rfl)
                      have hz1 : (a4 + 1) * 16 ≤ 140737488355328 := by omega
                      have hz2 : a4 + 1 ≤ 140737488355328 := by omega
                      clear hx hxy e1 hq hh hlt
                      go_wp2_with (first
                        | (go_at_call 40; (with_reducible refine HF.out.mono ?_); rintro r w5 ⟨rfl, hb5⟩; have HB5 := Lib.hid hb5; clear hb5)
                        | (at_builtin; refine wpList_grew (v := .slice np a4 nc) (l := ((F.map (secR W)).take a4).map Value.string) rfl _ _ rfl Tryd.underlying50 (.string ⟨#[]⟩) 1 info_str rfl (by decide) [.string h] 1 (by simp [Act.eval]) (by simp [Act.eval]) (HHD.out _ HB5.out) rfl rfl (by decide) HONE.out hz1 hz2 ?_; intro v9 w9' hg9; have HG9 := Lib.hid hg9; clear hg9))
                      refine ⟨⟨a4 + 1, by simp, HLT.out, Lib.hid (HJ.out.push HAT.out HB5.out HG9.out)⟩, ?_⟩
                      show ql - ((a4 : Int) + 1).toNat < ql - ((a4 : Int)).toNat
                      have := HLT.out
                      omega
                    · have hl3 : ¬ (a4 : Int) < (ql : Int) := by omega
                      obtain rfl : a4 = ql := by omega
                      clear hlt
                      have HFH : Hid (∀ w', Below wr.heap.size wr w' → Txts w' (.slice np a4 nc) (F.map (secR W))) := Lib.hid (fun w' hb => by
                        have h := HJ.out.hd
                        rw [List.take_of_length_le (by rw [List.length_map]; have := HFF.out.2.1; omega)] at h
                        exact (held_txts8 h (by rw [List.length_map]; have := HFF.out.2.1; omega)).2.below hb (Nat.le_refl _))
                      have HWE : Hid (Below wC.heap.size wC wr) := Lib.hid HJ.out.bel
                      have CO1 : Hid (∀ w', Below wr.heap.size wr w' → Calls Tryd.prog 41 #[.int .i64 (i : Int), .slice xp a3 xc, .slice mp a3 mc, .agg #[.int .i64 0, .int .i64 (i : Int)]] w' fun r w2 => r = .returned (.tuple #[.string RT, .int .i64 0]) ∧ Below w'.heap.size w' w2) := Lib.hid (fun w' hb => by
                        have h := HW3.out w' (below_onS HWR.out hb HWR.out.size)
                        have := foldW_any (i : Int) 0 (i : Int) _ _ (castZ D) (D.map (secR W)) w' h.2.2.1 (HDH.out w' (below_onS HWE.out hb HWE.out.size)) h.2.1
                        rw [fold_root HWW.out.2.1 HWW.out.1 HNK.out.1 HDD.out.2.2.1 (by have := HDD.out.2.1; omega) HDD.out.2.2.2, ← HRT.out] at this
                        exact this)
                      have CO2 : Hid (∀ w', Below wr.heap.size wr w' → Calls Tryd.prog 41 #[.int .i64 (i : Int), .slice up a4 uc, .slice np a4 nc, .agg #[.int .i64 0, .int .i64 (i : Int)]] w' fun r w2 => r = .returned (.tuple #[.string RT, .int .i64 0]) ∧ Below w'.heap.size w' w2) := Lib.hid (fun w' hb => by
                        have h := HW3.out w' (below_onS HWR.out hb HWR.out.size)
                        have := foldW_any (i : Int) 0 (i : Int) _ _ (castZ F) (F.map (secR W)) w' h.2.2.2.1 (HFH.out w' hb) h.2.1
                        rw [fold_root HWW.out.2.1 HWW.out.1 HNK.out.1 HFF.out.2.2.1 (by have := HFF.out.2.1; omega) HFF.out.2.2.2, ← HRT.out] at this
                        exact this)
                      have heq : (RT.toList == RT.toList) = true := beq_self_eq_true _
                      clear HJ
                      go_wp2_with (first
                        | (go_at_call 41; (with_reducible refine (CO1.out _ (Below.refl _ _)).mono ?_); rintro r w5 ⟨rfl, hb5⟩; have HB5 := Lib.hid hb5; clear hb5)
                        | (go_at_call 41; (with_reducible refine (CO2.out _ HB5.out).mono ?_); rintro r w6' ⟨rfl, hb6⟩; have HB6 := Lib.hid (below_onS HB5.out hb6 HB5.out.size); clear hb6))
                      go_ret
                      exact ⟨rfl, (HW3.out _ (below_onS HWR.out HB6.out HWR.out.size)).2.2.2.2⟩
end Go.Proofs.YteknpnanmbfhfaaDoor
