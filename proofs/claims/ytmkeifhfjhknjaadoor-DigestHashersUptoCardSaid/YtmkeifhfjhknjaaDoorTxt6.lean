/- FromBase64 of the program, walked. -/
import Derived.Test.YtmkeifhfjhknjaaDoorTxt5
namespace Go.Proofs.YtmkeifhfjhknjaaDoor
open Go.RowKit Go.Scr
set_option linter.unusedVariables false

theorem sixN_le (c : UInt8) : sixN c ≤ 64 := by
  unfold sixN
  split
  · omega
  · split
    · omega
    · split
      · omega
      · split
        · omega
        · split <;> omega
theorem sx_le (d : List UInt8) (i k : Nat) : sx d i (k + 1) ≤ sx d i k * 64 + 64 := by
  simp only [sx]
  split
  · have := sixN_le (d.getD (4 * i + k) 0); omega
  · omega
theorem sx_lt (d : List UInt8) (i k : Nat) (h : k ≤ 4) : sx d i k < 33554432 ∧ (k ≤ 3 → sx d i k < 300000) := by
  have h0 : sx d i 0 = 0 := rfl
  have h1 := sx_le d i 0
  have h2 := sx_le d i 1
  have h3 := sx_le d i 2
  have h4 := sx_le d i 3
  match k, h with
  | 0, _ => omega
  | 1, _ => simp only [Nat.zero_add] at h1; omega
  | 2, _ => simp only [Nat.zero_add, Nat.reduceAdd] at h1 h2; omega
  | 3, _ => simp only [Nat.zero_add, Nat.reduceAdd] at h1 h2 h3; omega
  | 4, _ => simp only [Nat.zero_add, Nat.reduceAdd] at h1 h2 h3 h4; omega
theorem or_low6 (a b : Nat) (hb : b < 64) : (a * 64) ||| b = a * 64 + b := by
  have h := Nat.two_pow_add_eq_or_of_lt (i := 6) (b := b) (by omega) a
  rw [show 2 ^ 6 * a = a * 64 by omega] at h
  exact h.symm
theorem i64_or_low6 (a b : Nat) (ha : a < 16777216) (hb : b < 64) : bits .or .i64 ((a : Int) * 64) (b : Int) = ((a * 64 + b : Nat) : Int) := by
  have h := i64_orr (a * 64) b (by omega) (by omega)
  unfold orr at h
  rw [or_low6 a b hb] at h
  rw [← h]
  congr 1
set_option maxRecDepth 100000 in
set_option maxHeartbeats 2000000 in
theorem dfrom64_any (s : ByteArray) (w : World) (hl : s.size ≤ 1099511627776) :
    Calls Tryd.prog 23 #[.string s] w fun e w' => e = .returned (.tuple #[.string (fbS s.data.toList), .int .i64 (fbE s.data.toList)]) ∧ Below w.heap.size w w' := by
  obtain ⟨d, hd⟩ : ∃ d, d = s.data.toList := ⟨_, rfl⟩
  have hdl : d.length = s.size := by rw [hd]; simp
  have HD := Lib.hid hd
  have HDL := Lib.hid hdl
  rw [← hd]
  have hz0 : (0 : Int) ≤ (s.size : Int) := Int.natCast_nonneg _
  by_cases ho : s.size % 4 = 0
  · obtain ⟨G, hG⟩ : ∃ G, G = s.size / 4 := ⟨_, rfl⟩
    obtain ⟨c, hc⟩ : ∃ c, c = 3 * G := ⟨_, rfl⟩
    have hsG : s.size = 4 * G := by omega
    have hcb : c ≤ 1099511627776 := by omega
    have hGb : G ≤ 1099511627776 := by omega
    have hm1 : (s.size : Int).tmod 4 = 0 := by rw [Int.tmod_eq_emod_of_nonneg hz0]; omega
    have hm2 : (s.size : Int).tdiv 4 = (G : Int) := by rw [Int.tdiv_eq_ediv_of_nonneg hz0]; omega
    have hm3 : (G : Int) * 3 = (c : Int) := by omega
    have hmk := make_bytes (P := Tryd.prog) 41 5 Tryd.underlying41 bu8 0 c (by omega) (by omega) w
    rw [show (((0 : Nat)) : Int) = 0 from rfl] at hmk
    have HSG := Lib.hid hsG
    have HEV := Lib.hid ho
    have HC := Lib.hid hc
    clear hd hdl hG hc hsG ho hz0
    go_enter Tryd.func23, Tryd.ntmps23
    go_upto_region 4 with fail
    clear hm1 hm2 hm3
    have hown0 := World.ownsRow_made (base := w.heap.size) (e := 5) (size := 1) w (madeCells #[Value.int .u8 0] c) c (Nat.le_refl _) (by simp only [maxLen]; omega) (by rw [size_madeCells]; simp)
    obtain ⟨B, hB⟩ : ∃ B, B = w.heap.size := ⟨_, rfl⟩
    have hb0 : Below w.heap.size w (w.alloc (.cells (madeCells #[Value.int .u8 0] c) 5)) := (Below.refl _ _).alloc (Nat.le_refl _) _
    rw [← hB] at hown0 ⊢
    have HBW := Lib.hid hB
    generalize w.alloc (.cells (madeCells #[Value.int .u8 0] c) 5) = w1 at hown0 hb0 ⊢
    have HO0 := Lib.hid hown0
    have HB0 := Lib.hid hb0
    clear hmk hB hown0 hb0
    go_wp2_with fail
    go_loopw [4, 5] (fun v q wr => ∃ i p n : Nat, i ≤ G ∧ Hid (p = 4 * i) ∧ Hid (n = (unb d i).length) ∧ q = .int .i64 p ∧ v = .slice (some ⟨B, 0, none⟩) n c ∧ wr.ownsRow B 5 1 (.slice (some ⟨B, 0, none⟩) n c) n (bytesV (unb d i)) ∧ goodB d i = true ∧ Below w.heap.size w wr) (fun _ q _ => s.size - (intOf q).toNat)
    case atStart => exact ⟨0, 0, 0, by omega, rfl, rfl, rfl, rfl, HO0.out, rfl, HB0.out⟩
    case round =>
      clear HO0 HB0
      obtain ⟨i, p, n, hi, hp, hn, rfl, rfl, hown, hok, hbel⟩ := hrel
      have HP := Lib.hid hp.out
      have HN := Lib.hid hn.out
      have HOWN := Lib.hid hown
      have HOK := Lib.hid hok
      have HBEL := Lib.hid hbel
      clear hp hn hown hok hbel
      by_cases hlt : i < G
      · have hp4 : p + 4 ≤ s.size := by have := HP.out; have := HSG.out; omega
        have hi1 : (p : Int) < (s.size : Int) := by omega
        obtain ⟨X, hX⟩ : ∃ X : ByteArray, X = s.extract p (p + 4) := ⟨_, rfl⟩
        have hXs : X.size = 4 := by rw [hX, ByteArray.size_extract]; omega
        have hXj : ∀ j, j < 4 → ∀ h : j < X.size, X[j] = d.getD (4 * i + j) 0 := fun j hj h => by
          rw [← HP.out, List.getD_eq_getElem?_getD, HD.out, List.getElem?_eq_getElem (by simp; omega)]
          simp only [hX]
          simp [ByteArray.getElem_extract]
          rfl
        have HXJ := Lib.hid hXj
        have hd1 : (p : Int) ≤ (p : Int) + 4 := by omega
        have hd2 : (p : Int) + 4 ≤ (s.size : Int) := by omega
        have hd3 : ((p : Int) + 4).toNat = p + 4 := by omega
        have hd4 : (0 : Int) ≤ (p : Int) + 4 := by omega
        have HX := Lib.hid hX
        clear hX hXj
        go_upto_region 8 with fail
        rw [← HX.out]
        clear hd1 hd3 hd4
        go_wp2_with fail
        obtain ⟨N, hN⟩ : ∃ N, N = gN d i := ⟨_, rfl⟩
        obtain ⟨c2, hc2⟩ : ∃ c2, c2 = d.getD (4 * i + 2) 0 := ⟨_, rfl⟩
        obtain ⟨c3, hc3⟩ : ∃ c3, c3 = d.getD (4 * i + 3) 0 := ⟨_, rfl⟩
        have hx2 : ∀ h : 2 < X.size, X[2] = c2 := fun h => by rw [hc2]; exact HXJ.out 2 (by omega) h
        have hx3 : ∀ h : 3 < X.size, X[3] = c3 := fun h => by rw [hc3]; exact HXJ.out 3 (by omega) h
        obtain ⟨last, hlast⟩ : ∃ b, b = decide (p + 4 = s.size) := ⟨_, rfl⟩
        have hNN : N = padN last c2 c3 := by
          rw [hN, hc2, hc3, hlast]
          unfold gN
          rw [HDL.out, HP.out]
        have HNN := Lib.hid hNN
        have HGN := Lib.hid hN
        have HLAST := Lib.hid hlast
        have HN4 := Lib.hid (show 2 ≤ N ∧ N ≤ 4 by have := gN_cases d i; omega)
        clear hN hc2 hc3 hNN hlast
        go_loopw [7] (fun q wy => ∃ m : Nat, q = .int .i64 m ∧ 2 ≤ m ∧ (m = 4 ∨ (last = true ∧ c3 = 61 ∧ (m = 3 ∨ (m = 2 ∧ c2 = 61)))) ∧ wy.ownsRow B 5 1 (.slice (some ⟨B, 0, none⟩) n c) n (bytesV (unb d i)) ∧ Below w.heap.size w wy) (fun q _ => (intOf q).toNat)
        case atStart => exact ⟨4, rfl, by omega, .inl rfl, HOWN.out, HBEL.out⟩
        case round =>
          clear HOWN HBEL
          obtain ⟨m, rfl, hm2, hm, hown, hbel⟩ := hrel
          have HOWN := Lib.hid hown
          have HBEL := Lib.hid hbel
          clear hown hbel
          by_cases hgo : 2 < m ∧ last = true ∧ ((m = 4 ∧ c3 = 61) ∨ (m = 3 ∧ c2 = 61))
          · have hla : (p : Int) + 4 = (s.size : Int) := by
              have h1 := hgo.2.1
              rw [HLAST.out] at h1
              have := of_decide_eq_true h1
              omega
            rcases hgo with ⟨_, hl1, ⟨rfl, hc⟩ | ⟨rfl, hc⟩⟩
            · have hc' : (c3.toNat : Int) = 61 := by rw [hc]; rfl
              have HC61 := Lib.hid hc
              clear hc hm
              go_wp2_with fail
              exact ⟨⟨3, rfl, by omega, .inr ⟨hl1, HC61.out, .inl rfl⟩, HOWN.out, HBEL.out⟩, by decide⟩
            · have hc' : (c2.toNat : Int) = 61 := by rw [hc]; rfl
              have HC61 := Lib.hid hc
              have HC3 : Hid (c3 = 61) := by
                rcases hm with h | ⟨_, h, _⟩
                · omega
                · exact h
              clear hc hm
              go_wp2_with fail
              exact ⟨⟨2, rfl, by omega, .inr ⟨hl1, HC3.out, .inr ⟨rfl, HC61.out⟩⟩, HOWN.out, HBEL.out⟩, by decide⟩
          · have hmN : m = N := by
              rw [HNN.out]
              unfold padN
              rcases hm with rfl | ⟨h1, h2, rfl | ⟨rfl, h3⟩⟩
              · rw [if_neg]
                intro h
                exact hgo ⟨by omega, h.1, .inl ⟨rfl, h.2⟩⟩
              · rw [if_pos ⟨h1, h2⟩, if_neg]
                intro h
                exact hgo ⟨by omega, h1, .inr ⟨rfl, h⟩⟩
              · rw [if_pos ⟨h1, h2⟩, if_pos h3]
            have hstop : m = 2 ∨ (m = 3 ∧ ((p : Int) + 4 = (s.size : Int)) ∧ ¬ ((c2.toNat : Int) = 61)) ∨ (m = 4 ∧ (((p : Int) + 4 = (s.size : Int)) ∧ ¬ ((c3.toNat : Int) = 61) ∨ ¬ ((p : Int) + 4 = (s.size : Int)))) := by
              have hne : ∀ c : UInt8, (c.toNat : Int) = 61 → c = 61 := fun c h => by apply UInt8.toNat_inj.mp; show c.toNat = 61; omega
              have hli : last = true ↔ (p : Int) + 4 = (s.size : Int) := by rw [HLAST.out, decide_eq_true_iff]; omega
              rcases hm with rfl | ⟨h1, h2, rfl | ⟨rfl, h3⟩⟩
              · right; right
                refine ⟨rfl, ?_⟩
                by_cases hl : (p : Int) + 4 = (s.size : Int)
                · left
                  exact ⟨hl, fun h => hgo ⟨by omega, hli.mpr hl, .inl ⟨rfl, hne _ h⟩⟩⟩
                · exact .inr hl
              · right; left
                exact ⟨rfl, hli.mp h1, fun h => hgo ⟨by omega, h1, .inr ⟨rfl, hne _ h⟩⟩⟩
              · exact .inl rfl
            have HMN := Lib.hid hmN
            clear hgo hm hmN hm2
            have hstop2 : (¬ ((2 : Int) < (m : Int))) ∨ ((2 : Int) < (m : Int) ∧ decide ((p : Int) + 4 = (s.size : Int)) = true ∧ ((m : Int) - 1).toNat = 2 ∧ ((c2.toNat : Int) == 61) = false) ∨ ((2 : Int) < (m : Int) ∧ decide ((p : Int) + 4 = (s.size : Int)) = true ∧ ((m : Int) - 1).toNat = 3 ∧ ((c3.toNat : Int) == 61) = false) ∨ ((2 : Int) < (m : Int) ∧ ¬ ((p : Int) + 4 = (s.size : Int))) := by
              rcases hstop with rfl | ⟨rfl, hl, hc⟩ | ⟨rfl, ⟨hl, hc⟩ | hl⟩
              · left; omega
              · right; left; exact ⟨by omega, decide_eq_true hl, by omega, by simpa using hc⟩
              · right; right; left; exact ⟨by omega, decide_eq_true hl, by omega, by simpa using hc⟩
              · right; right; right; exact ⟨by omega, hl⟩
            have hm01 : (0 : Int) ≤ (m : Int) - 1 := by have := HMN.out; have := HN4.out; omega
            have hm02 : (m : Int) - 1 < 4 := by have := HMN.out; have := HN4.out; omega
            have hm03 : m ≤ 4 := by have := HMN.out; have := HN4.out; omega
            have hm04 : 2 ≤ m := by have := HMN.out; have := HN4.out; omega
            clear hstop
            rcases hstop2 with f1 | ⟨f1, f2, f3, f4⟩ | ⟨f1, f2, f3, f4⟩ | ⟨f1, f2⟩
            all_goals go_wp2_with fail
            all_goals try clear f3 f4
            all_goals try (have F2 := Lib.hid (of_decide_eq_true f2))
            all_goals try clear f2
            all_goals have F1 := Lib.hid f1
            all_goals clear f1
            all_goals
              go_loopw [8, 51] (fun y q wy => ∃ k : Nat, k ≤ 4 ∧ q = .int .i64 k ∧ y = .int .i64 ((sx d i k : Nat) : Int) ∧ (∀ j, j < k → j < N → sixN (d.getD (4 * i + j) 0) < 64) ∧ wy.ownsRow B 5 1 (.slice (some ⟨B, 0, none⟩) n c) n (bytesV (unb d i)) ∧ Below w.heap.size w wy) (fun _ q _ => 4 - (intOf q).toNat)
              case atStart => exact ⟨0, by omega, rfl, rfl, fun j hj => by omega, HOWN.out, HBEL.out⟩
              case round =>
                clear HOWN HBEL
                obtain ⟨k, hk, rfl, rfl, hgood, hown, hbel⟩ := hrel
                have HGOOD := Lib.hid hgood
                have HOWN := Lib.hid hown
                have HBEL := Lib.hid hbel
                clear hgood hown hbel
                obtain ⟨y, hy⟩ : ∃ y, y = sx d i k := ⟨_, rfl⟩
                have hyb := sx_lt d i k hk
                rw [← hy] at hyb ⊢
                have hyb1 := hyb.1
                have HY := Lib.hid hy
                clear hy
                by_cases hk4 : k < 4
                · have a4 : (k : Int) < 4 := by omega
                  have hyb2 := hyb.2 (by omega)
                  clear hyb
                  obtain ⟨ch, hch⟩ : ∃ ch, ch = d.getD (4 * i + k) 0 := ⟨_, rfl⟩
                  have hxk : ∀ h : k < X.size, X[k] = ch := fun h => by rw [hch]; exact HXJ.out k hk4 h
                  obtain ⟨v, hv⟩ : ∃ v, v = sixN ch := ⟨_, rfl⟩
                  have hsix := fun w => dsix_any ch w
                  rw [← hv] at hsix
                  have hstep : sx d i (k + 1) = y * 64 + (if k < N then v else 0) := by simp only [sx]; rw [HGN.out, HY.out, hv, hch]
                  have HST := Lib.hid hstep
                  have HV := Lib.hid hv
                  have HCH := Lib.hid hch
                  clear hstep hv hch
                  by_cases hkm : k < m
                  · have b1 : ¬ ((m : Int) ≤ (k : Int)) := by omega
                    by_cases hv64 : v < 64
                    · rw [if_pos hv64, decide_eq_true hv64] at hsix
                      have HSIX := Lib.hid hsix
                      clear hsix
                      have e1 := i64_or_low6 y v (by omega) hv64
                      go_wp2_with (go_at_call 31; with_reducible refine (HSIX.out _).mono ?_; rintro r w2 ⟨rfl, rfl⟩)
                      refine ⟨⟨k + 1, by omega, rfl, ?_, ?_, HOWN.out, HBEL.out⟩, (by show 4 - ((k : Int) + 1).toNat < 4 - (k : Int).toNat; omega)⟩
                      · rw [HST.out, if_pos (by have := HMN.out; omega), Int.natCast_add, Int.natCast_mul]; rfl
                      · intro j hj hjN
                        by_cases hjk : j < k
                        · exact HGOOD.out j hjk hjN
                        · obtain rfl : j = k := by omega
                          rw [← HCH.out, ← HV.out]
                          exact hv64
                    · rw [if_neg hv64, decide_eq_false hv64] at hsix
                      have HSIX := Lib.hid hsix
                      clear hsix
                      have hbad : goodB d G = false := goodB_bad (i := i) (k := k) hlt (by rw [← HGN.out, ← HMN.out]; exact hkm) (by rw [← HCH.out, ← HV.out]; exact hv64)
                      have hnot : ¬ fbOk d := fun h => by
                        have := h.2.1
                        rw [show d.length / 4 = G by have := HDL.out; have := HSG.out; omega, hbad] at this
                        cases this
                      have HS : Hid (fbS d = ⟨#[]⟩) := by show _ = _; unfold fbS; rw [if_neg hnot]
                      have HE : Hid (fbE d = 11) := by show _ = _; unfold fbE; rw [if_neg hnot]
                      clear hbad hnot
                      go_wp2_with (go_at_call 31; with_reducible refine (HSIX.out _).mono ?_; rintro r w2 ⟨rfl, rfl⟩)
                      go_ret2
                      exact ⟨by rw [HS.out, HE.out]; rfl, HBEL.out⟩
                  · have b1 : (m : Int) ≤ (k : Int) := by omega
                    clear hsix
                    go_wp2_with fail
                    refine ⟨⟨k + 1, by omega, rfl, ?_, ?_, HOWN.out, HBEL.out⟩, (by show 4 - ((k : Int) + 1).toNat < 4 - (k : Int).toNat; omega)⟩
                    · rw [HST.out, if_neg (by have := HMN.out; omega)]; rfl
                    · intro j hj hjN
                      exact HGOOD.out j (by have := HMN.out; omega) hjN
                · have a4 : ¬ ((k : Int) < 4) := by omega
                  clear hyb
                  have hy4 : y = sx d i 4 := by rw [HY.out, show k = 4 by omega]
                  have hgg : goodG d i = true := by
                    unfold goodG
                    rw [List.all_eq_true]
                    intro j hj
                    have hj' := List.mem_range.mp hj
                    have := HGN.out
                    have := HN4.out
                    simpa using HGOOD.out j (by omega) (by omega)
                  obtain ⟨m1, hm1⟩ : ∃ m1, m1 = m - 1 := ⟨_, rfl⟩
                  have hmm : (m : Int) - 1 = (m1 : Int) := by omega
                  have hm13 : m1 ≤ 3 := by omega
                  have HM1 := Lib.hid hm1
                  have HY4 := Lib.hid hy4
                  have HGG := Lib.hid hgg
                  clear hm1 hy4 hgg hm01 hm02
                  go_wp2_with fail
                  clear hmm
                  have hfitn : n + 3 ≤ c := by have := unb_length d i; have := HN.out; have := HC.out; omega
                  go_loopw [4, 74] (fun v q wy => ∃ j r : Nat, j ≤ m1 ∧ Hid (r = n + j) ∧ q = .int .i64 j ∧ v = .slice (some ⟨B, 0, none⟩) r c ∧ wy.ownsRow B 5 1 (.slice (some ⟨B, 0, none⟩) r c) r (bytesV (unb d i ++ (List.range j).map (fun k => UInt8.ofNat (y / 2 ^ (16 - 8 * k))))) ∧ Below w.heap.size w wy) (fun _ q _ => m1 - (intOf q).toNat)
                  case atStart => exact ⟨0, n, by omega, rfl, rfl, rfl, by simpa using HOWN.out, HBEL.out⟩
                  case round =>
                    clear HOWN HBEL
                    obtain ⟨j, r, hj, hr, rfl, rfl, hown, hbel⟩ := hrel
                    have HR := Lib.hid hr.out
                    have HOWN := Lib.hid hown
                    have HBEL := Lib.hid hbel
                    clear hr hown hbel
                    by_cases hjm : j < m1
                    · have a5 : (j : Int) < (m1 : Int) := by omega
                      have hfit : r + 1 ≤ c := by have := HR.out; omega
                      have hj3 : j = 0 ∨ j = 1 ∨ j = 2 := by omega
                      rcases hj3 with rfl | rfl | rfl
                      · first
                          | (exfalso; have h1 := HM1.out; have h2 := F1.out; omega)
                          | (have HCB : Hid (#[Value.int .u8 ((y : Int) / 65536 % 256)] = (bytesV [UInt8.ofNat (y / 65536)]).toArray) := by
                               show _ = _
                               simp only [bytesV, List.map_cons, List.map_nil]
                               rw [← byte_cell, show (((y / 65536 : Nat)) : Int) = (y : Int) / 65536 by omega]
                             go_wp2_with (at_builtin; refine wpList_fitsV rfl _ _ rfl Tryd.underlying41 (.int .u8 0) 1 bu8 (bytesV [UInt8.ofNat (y / 65536)]) 1 (r + 1) rfl rfl HOWN.out HCB.out rfl (bytesV_one _) rfl hfit ?_; intro w' hown' hgr'; have HOWN' := Lib.hid hown'; have HG2 := Lib.hid hgr'; clear hown' hgr')
                             all_goals
                               refine ⟨⟨1, r + 1, by omega, (by have := HR.out; show _ = _; omega), rfl, rfl, ?_, HBEL.out.grown HG2.out HBEL.out.size (fun q hq => by cases hq; have := HBW.out; omega)⟩, (by show m1 - (((0 : Nat) : Int) + 1).toNat < m1 - ((0 : Nat) : Int).toNat; omega)⟩
                               have e4 : (List.range 1).map (fun k => UInt8.ofNat (y / 2 ^ (16 - 8 * k))) = (List.range 0).map (fun k => UInt8.ofNat (y / 2 ^ (16 - 8 * k))) ++ [UInt8.ofNat (y / 65536)] := by rw [List.range_succ, List.map_append]; simp
                               rw [e4, ← List.append_assoc]
                               have := HOWN'.out
                               rw [← show bytesV (unb d i ++ (List.range 0).map (fun k => UInt8.ofNat (y / 2 ^ (16 - 8 * k))) ++ [UInt8.ofNat (y / 65536)]) = bytesV (unb d i ++ (List.range 0).map (fun k => UInt8.ofNat (y / 2 ^ (16 - 8 * k)))) ++ bytesV [UInt8.ofNat (y / 65536)] by simp [bytesV]] at this
                               exact this)
                      · first
                          | (exfalso; have h1 := HM1.out; have h2 := F1.out; omega)
                          | (have HCB : Hid (#[Value.int .u8 ((y : Int) / 256 % 256)] = (bytesV [UInt8.ofNat (y / 256)]).toArray) := by
                               show _ = _
                               simp only [bytesV, List.map_cons, List.map_nil]
                               rw [← byte_cell, show (((y / 256 : Nat)) : Int) = (y : Int) / 256 by omega]
                             go_wp2_with (at_builtin; refine wpList_fitsV rfl _ _ rfl Tryd.underlying41 (.int .u8 0) 1 bu8 (bytesV [UInt8.ofNat (y / 256)]) 1 (r + 1) rfl rfl HOWN.out HCB.out rfl (bytesV_one _) rfl hfit ?_; intro w' hown' hgr'; have HOWN' := Lib.hid hown'; have HG2 := Lib.hid hgr'; clear hown' hgr')
                             all_goals
                               refine ⟨⟨2, r + 1, by omega, (by have := HR.out; show _ = _; omega), rfl, rfl, ?_, HBEL.out.grown HG2.out HBEL.out.size (fun q hq => by cases hq; have := HBW.out; omega)⟩, (by show m1 - (((1 : Nat) : Int) + 1).toNat < m1 - ((1 : Nat) : Int).toNat; omega)⟩
                               have e4 : (List.range 2).map (fun k => UInt8.ofNat (y / 2 ^ (16 - 8 * k))) = (List.range 1).map (fun k => UInt8.ofNat (y / 2 ^ (16 - 8 * k))) ++ [UInt8.ofNat (y / 256)] := by rw [List.range_succ, List.map_append]; simp
                               rw [e4, ← List.append_assoc]
                               have := HOWN'.out
                               rw [← show bytesV (unb d i ++ (List.range 1).map (fun k => UInt8.ofNat (y / 2 ^ (16 - 8 * k))) ++ [UInt8.ofNat (y / 256)]) = bytesV (unb d i ++ (List.range 1).map (fun k => UInt8.ofNat (y / 2 ^ (16 - 8 * k)))) ++ bytesV [UInt8.ofNat (y / 256)] by simp [bytesV]] at this
                               exact this)
                      · first
                          | (exfalso; have h1 := HM1.out; have h2 := F1.out; omega)
                          | (have HCB : Hid (#[Value.int .u8 ((y : Int) % 256)] = (bytesV [UInt8.ofNat (y)]).toArray) := by
                               show _ = _
                               simp only [bytesV, List.map_cons, List.map_nil]
                               rw [← byte_cell, show (((y : Nat)) : Int) = (y : Int) by omega]
                             go_wp2_with (at_builtin; refine wpList_fitsV rfl _ _ rfl Tryd.underlying41 (.int .u8 0) 1 bu8 (bytesV [UInt8.ofNat (y)]) 1 (r + 1) rfl rfl HOWN.out HCB.out rfl (bytesV_one _) rfl hfit ?_; intro w' hown' hgr'; have HOWN' := Lib.hid hown'; have HG2 := Lib.hid hgr'; clear hown' hgr')
                             all_goals
                               refine ⟨⟨3, r + 1, by omega, (by have := HR.out; show _ = _; omega), rfl, rfl, ?_, HBEL.out.grown HG2.out HBEL.out.size (fun q hq => by cases hq; have := HBW.out; omega)⟩, (by show m1 - (((2 : Nat) : Int) + 1).toNat < m1 - ((2 : Nat) : Int).toNat; omega)⟩
                               have e4 : (List.range 3).map (fun k => UInt8.ofNat (y / 2 ^ (16 - 8 * k))) = (List.range 2).map (fun k => UInt8.ofNat (y / 2 ^ (16 - 8 * k))) ++ [UInt8.ofNat (y)] := by rw [List.range_succ, List.map_append]; simp
                               rw [e4, ← List.append_assoc]
                               have := HOWN'.out
                               rw [← show bytesV (unb d i ++ (List.range 2).map (fun k => UInt8.ofNat (y / 2 ^ (16 - 8 * k))) ++ [UInt8.ofNat (y)]) = bytesV (unb d i ++ (List.range 2).map (fun k => UInt8.ofNat (y / 2 ^ (16 - 8 * k)))) ++ bytesV [UInt8.ofNat (y)] by simp [bytesV]] at this
                               exact this)
                    · have a5 : ¬ ((j : Int) < (m1 : Int)) := by omega
                      have hun : unb d (i + 1) = unb d i ++ (List.range j).map (fun k => UInt8.ofNat (y / 2 ^ (16 - 8 * k))) := by
                        rw [unb_succ]
                        unfold decG
                        rw [← HY4.out, ← HGN.out, show N - 1 = j by have := HMN.out; have := HM1.out; omega]
                      have HUN := Lib.hid hun
                      clear hun
                      go_wp2_with fail
                      refine ⟨⟨i + 1, p + 4, r, by omega, (by have := HP.out; show _ = _; omega), (by show _ = _; rw [HUN.out, List.length_append, List.length_map, List.length_range, HR.out, HN.out]), (by first | rfl | (have h2 := F2.out; congr 1; omega)), rfl, (by rw [HUN.out]; exact HOWN.out), (by rw [goodB_succ, HOK.out, HGG.out]; rfl), HBEL.out⟩, (by first | (show s.size - ((p : Int) + 4).toNat < s.size - (p : Int).toNat; omega) | (have h2 := F2.out; show s.size - (s.size : Int).toNat < s.size - (p : Int).toNat; omega))⟩
      · have hps : ¬ ((p : Int) < (s.size : Int)) := by have := HP.out; have := HSG.out; omega
        have hiG : i = G := by omega
        obtain ⟨O, hO⟩ : ∃ O, O = unb d G := ⟨_, rfl⟩
        have hown := HOWN.out
        rw [hiG, ← hO] at hown
        have hn2 : n = O.length := by rw [HN.out, hiG, hO]
        have hOb : O.length ≤ 1099511627776 := by rw [hO]; have := unb_length d G; have := HC.out; omega
        have hcv := own_string (P := Tryd.prog) (D := 9) (S := 41) (w := wr) (B := B) (g := B) (N := n) (c := c) (l := O) Tryd.underlying41 bund8 bundS (by unfold OwnB; rw [← hn2]; exact hown)
        have hb64 := fun (w' : World) => db64_any (str O) w' (by rw [str_size]; exact hOb)
        rw [str_list] at hb64
        obtain ⟨E, hE⟩ : ∃ E, E = str (b64 O) := ⟨_, rfl⟩
        rw [← hE] at hb64
        have HB64 := Lib.hid hb64
        have hG4 : d.length / 4 = G := by have := HDL.out; have := HSG.out; omega
        have hok := HOK.out
        rw [hiG] at hok
        have hcvW : ∀ w', Below wr.heap.size wr w' → (convert 41 9 (.slice (some ⟨B, 0, none⟩) n c)).run Tryd.prog w' = .ok (.string (str O)) w' := fun w' hb => by
          have ho2 := owns_below hown hb (Nat.le_refl _)
          exact own_string (P := Tryd.prog) (D := 9) (S := 41) (w := w') (B := B) (g := B) (N := n) (c := c) (l := O) Tryd.underlying41 bund8 bundS (by unfold OwnB; rw [← hn2]; exact ho2)
        have HCVW := Lib.hid hcvW
        have hEl : E.toList = b64 O := by rw [hE, ByteArray.toList_eq, str_list]
        have hsl : s.toList = d := by rw [ByteArray.toList_eq, HD.out]
        change _ = Result.ok (Value.string (str O)) wr at hcv
        by_cases heq : b64 O = d
        · have hfb : fbOk d := ⟨by rw [HDL.out]; exact HEV.out, by rw [hG4]; exact hok, by rw [hG4, ← hO]; exact heq⟩
          have HS : Hid (fbS d = str O) := by show _ = _; unfold fbS; rw [if_pos hfb, hG4, hO]
          have HE : Hid (fbE d = 0) := by show _ = _; unfold fbE; rw [if_pos hfb]
          have hcmp : (E.toList == s.toList) = true := by rw [hEl, hsl, heq]; simp
          clear hiG hO hown hn2 hb64 hE hG4 hok hcvW hEl hsl heq hfb
          go_wp2_with (go_at_call 24; refine (HB64.out _).mono ?_; rintro r w4 ⟨rfl, hb4⟩; have hcv4 := HCVW.out w4 hb4; have HB4 := Lib.hid hb4; clear hb4 hcv)
          go_ret2
          exact ⟨by rw [HS.out, HE.out]; rfl, below_from HBEL.out HB4.out HBEL.out.size⟩
        · have hfb : ¬ fbOk d := fun h => heq (by have := h.2.2; rwa [hG4, ← hO] at this)
          have HS : Hid (fbS d = ⟨#[]⟩) := by show _ = _; unfold fbS; rw [if_neg hfb]
          have HE : Hid (fbE d = 11) := by show _ = _; unfold fbE; rw [if_neg hfb]
          have hcmp : (E.toList == s.toList) = false := by rw [hEl, hsl]; simpa using heq
          clear hiG hO hown hn2 hb64 hE hG4 hok hcvW hEl hsl heq hfb
          go_wp2_with (go_at_call 24; refine (HB64.out _).mono ?_; rintro r w4 ⟨rfl, hb4⟩; have HB4 := Lib.hid hb4; clear hb4 hcv)
          go_ret2
          exact ⟨by rw [HS.out, HE.out]; rfl, below_from HBEL.out HB4.out HBEL.out.size⟩
  · have hm1 : (s.size : Int).tmod 4 = ((s.size % 4 : Nat) : Int) := by rw [Int.tmod_eq_emod_of_nonneg hz0]; omega
    obtain ⟨q, hq⟩ : ∃ q, q = s.size % 4 := ⟨_, rfl⟩
    have hq0 : ¬ ((q : Int) = 0) := by omega
    rw [← hq] at hm1
    have hnot : ¬ fbOk d := fun h => ho (by have := h.1; rwa [hdl] at this)
    have hS : fbS d = ⟨#[]⟩ := by unfold fbS; rw [if_neg hnot]
    have hE : fbE d = 11 := by unfold fbE; rw [if_neg hnot]
    rw [hS, hE]
    clear hd hdl ho hz0 hS hE hnot hq
    go_enter Tryd.func23, Tryd.ntmps23
    go_wp2
    go_ret2
    exact ⟨rfl, Below.refl _ _⟩
end Go.Proofs.YtmkeifhfjhknjaaDoor
