/- The document's Base64, walked. -/
import Derived.Test.YtdgblimeehijpaaDoorTxt8
namespace Go.Proofs.YtdgblimeehijpaaDoor
open Go.RowKit Go.Scr
set_option linter.unusedVariables false

set_option maxRecDepth 100000 in
set_option maxHeartbeats 2000000 in
theorem rb64_any (s : ByteArray) (w : World) (hl : s.size ≤ 1099511627776) :
    Calls Tryd.prog 26 #[.string s] w fun e w' => e = .returned (.string (str (b64 s.data.toList))) ∧ Below w.heap.size w w' := by
  obtain ⟨d, hd⟩ : ∃ d, d = s.data.toList := ⟨_, rfl⟩
  have hdl : d.length = s.size := by rw [hd]; simp
  have HD := Lib.hid hd
  have HDL := Lib.hid hdl
  rw [← hd]
  obtain ⟨G, hG⟩ : ∃ G, G = (s.size + 2) / 3 := ⟨_, rfl⟩
  have hGb : G ≤ 1099511627776 := by omega
  have HG := Lib.hid hG
  clear hd hdl hG
  go_enter Tryd.func26, Tryd.ntmps26
  go_wp2_with fail
  go_loopw [3, 4] (fun v q wr => ∃ g p n : Nat, g ≤ G ∧ Hid (p = 3 * g) ∧ Hid (n = 4 * g) ∧ q = .int .i64 p ∧ wr.ownsRow w.heap.size 5 1 v n (bytesV (b64L d g)) ∧ Below w.heap.size w wr) (fun _ q _ => s.size - (intOf q).toNat)
  case atStart => exact ⟨0, 0, 0, by omega, rfl, rfl, rfl, World.ownsRow_nil _ _ _ _, Below.refl _ _⟩
  case round =>
    obtain ⟨g, p, n, hgG, hp, hn, rfl, hown, hbel⟩ := hrel
    have HP := Lib.hid hp.out
    have HN := Lib.hid hn.out
    have HOWN := Lib.hid hown
    have HBEL := Lib.hid hbel
    clear hp hn hown hbel
    by_cases hlt : p < s.size
    · have hps : (p : Int) < (s.size : Int) := by omega
      go_wp2_with fail
      go_loopw [5, 6, 7] (fun x mm q wy => ∃ k : Nat, k ≤ 3 ∧ q = .int .i64 k ∧ x = .int .i64 ((xi (d.drop p) k : Nat) : Int) ∧ mm = .int .i64 ((min k (s.size - p) : Nat) : Int) ∧ wy.ownsRow w.heap.size 5 1 u3 n (bytesV (b64L d g)) ∧ Below w.heap.size w wy) (fun _ _ q _ => 3 - (intOf q).toNat)
      case atStart => exact ⟨0, by omega, rfl, rfl, by rw [Nat.zero_min]; rfl, HOWN.out, HBEL.out⟩
      case round =>
        clear HOWN HBEL
        obtain ⟨k, hk, rfl, rfl, rfl, hown, hbel⟩ := hrel
        have HOWN := Lib.hid hown
        have HBEL := Lib.hid hbel
        clear hown hbel
        obtain ⟨y, hy⟩ : ∃ y, y = xi (d.drop p) k := ⟨_, rfl⟩
        have hyb := xi_lt (d.drop p) k hk
        obtain ⟨m, hm⟩ : ∃ m, m = min k (s.size - p) := ⟨_, rfl⟩
        rw [← hy] at hyb ⊢
        rw [← hm]
        have hyb1 := hyb.1
        have hm3 : m ≤ 3 := by omega
        have HY := Lib.hid hy
        have HMK := Lib.hid hm
        clear hy hm
        by_cases hk3 : k < 3
        · have hyb2 := hyb.2 (by omega)
          clear hyb
          have a3 : (k : Int) < 3 := by omega
          have ht : ((p : Int) + (k : Int)).toNat = p + k := by omega
          by_cases him : p + k < s.size
          · have a1 : (p : Int) + (k : Int) < (s.size : Int) := by omega
            have a0 : (0 : Int) ≤ (p : Int) + (k : Int) := by omega
            obtain ⟨b, hb⟩ : ∃ b, b = byt (d.drop p) k := ⟨_, rfl⟩
            have hbb : b < 256 := by rw [hb]; exact byt_lt _ _
            have hxc : ∀ (h : p + k < s.size), (s[p + k].toNat : Int) = (b : Int) := fun h => by
              rw [hb, byt_drop]
              unfold byt
              rw [List.getD_eq_getElem?_getD, HD.out, List.getElem?_eq_getElem (by simpa using h)]
              rfl
            have HB := Lib.hid hb
            clear hb
            go_wp2_with fail
            refine ⟨⟨k + 1, by omega, rfl, ?_, ?_, HOWN.out, HBEL.out⟩, (by show 3 - ((k : Int) + 1).toNat < 3 - (k : Int).toNat; omega)⟩
            · rw [show xi (d.drop p) (k + 1) = y * 256 + b by simp only [xi]; rw [HY.out, HB.out]]
              congr 1
              omega
            · congr 1
              have := HMK.out
              omega
          · have a1 : ¬ ((p : Int) + (k : Int) < (s.size : Int)) := by omega
            have hb0 : byt (d.drop p) k = 0 := by rw [byt_drop]; exact byt_out _ _ (by rw [HDL.out]; omega)
            have HB0 := Lib.hid hb0
            clear hb0
            go_wp2_with fail
            refine ⟨⟨k + 1, by omega, rfl, ?_, ?_, HOWN.out, HBEL.out⟩, (by show 3 - ((k : Int) + 1).toNat < 3 - (k : Int).toNat; omega)⟩
            · rw [show xi (d.drop p) (k + 1) = y * 256 by simp only [xi]; rw [HY.out, HB0.out]; rfl]
              congr 1
              omega
            · congr 1
              have := HMK.out
              omega
        · have a3 : ¬ ((k : Int) < 3) := by omega
          have HYG : Hid (y = grp d g) := by show _ = _; rw [HY.out, HP.out, show k = 3 by omega]; exact xi_three d g
          have HMM : Hid (m = min 3 (d.length - 3 * g)) := by show _ = _; rw [HMK.out, HDL.out, HP.out, show k = 3 by omega]
          clear hyb
          go_wp2_with fail
          clear a3
          go_loopw [3, 8] (fun v q wy => ∃ i r : Nat, i ≤ 4 ∧ Hid (r = n + i) ∧ q = .int .i64 i ∧ wy.ownsRow w.heap.size 5 1 v r (bytesV (b64L d g ++ (List.range i).map (b64c d g))) ∧ Below w.heap.size w wy) (fun _ q _ => 4 - (intOf q).toNat)
          case atStart => exact ⟨0, n, by omega, rfl, rfl, by simpa using HOWN.out, HBEL.out⟩
          case round =>
            clear HOWN HBEL
            obtain ⟨i, r, hi, hr, rfl, hown, hbel⟩ := hrel
            have HR := Lib.hid hr.out
            have HOWN := Lib.hid hown
            have HBEL := Lib.hid hbel
            clear hr hown hbel
            by_cases hi4 : i < 4
            · have a4 : (i : Int) < 4 := by omega
              have hw := HBEL.out.size
              have hr1 : r + 1 = r + 1 := rfl
              have hr2 : 0 < r + 1 := by omega
              have hr3 : (r + 1) * 1 ≤ 140737488355328 := by have := HR.out; have := HN.out; omega
              have hr4 : r + 1 ≤ 140737488355328 := by omega
              obtain ⟨idx, hidx⟩ : ∃ idx, idx = y / 2 ^ (18 - 6 * i) % 64 := ⟨_, rfl⟩
              have hxb : idx < 64 := by omega
              have hxb' : (idx : Int) < 64 := by omega
              have g1 := b64_at idx
              have hcase : i = 0 ∨ i = 1 ∨ i = 2 ∨ i = 3 := by omega
              rcases hcase with rfl | rfl | rfl | rfl
              · have e2 : bits .and .i64 ((y : Int) / 262144) 63 = (idx : Int) := by
                  rw [show (((y : Int) / 262144) : Int) = ((y / 2 ^ 18 : Nat) : Int) by omega, i64_63 _ (by omega), hidx]
                have HIDX := Lib.hid hidx
                clear hidx
                by_cases hmi : m < 0
                · exfalso; omega
                · have b1 : ¬ ((m : Int) < 0) := by omega
                  have e3 : b64c d g 0 = sgn idx := by unfold b64c; rw [if_neg (by have := HMM.out; omega), HIDX.out, HYG.out]
                  have HE3 := Lib.hid e3
                  clear e3
                  go_wp2_with (at_builtin; refine wpList_appendV rfl _ _ rfl Tryd.underlying52 (.int .u8 0) 1 bu8 rfl (by decide) (bytesV [sgn idx]) 1 (r + 1) rfl rfl HOWN.out rfl rfl (bytesV_one _) HBEL.out (Nat.le_refl _) hw hr1 hr2 hr3 hr4 ?_; intro g' c' w' hg' hown' hb' hsz' hgr'; have HOWN' := Lib.hid hown'; have HB' := Lib.hid hb'; clear hown' hb' hsz' hgr' hg')
                  all_goals
                    refine ⟨⟨1, r + 1, by omega, (by have := HR.out; show _ = _; omega), rfl, ?_, HB'.out⟩, by decide⟩
                    rw [show (List.range 1).map (b64c d g) = (List.range 0).map (b64c d g) ++ [b64c d g 0] by rw [List.range_succ, List.map_append]; rfl, ← List.append_assoc, HE3.out]
                    have := HOWN'.out
                    rw [← show bytesV (b64L d g ++ (List.range 0).map (b64c d g) ++ [sgn idx]) = bytesV (b64L d g ++ (List.range 0).map (b64c d g)) ++ bytesV [sgn idx] by simp [bytesV]] at this
                    exact this
              · have e2 : bits .and .i64 ((y : Int) / 4096) 63 = (idx : Int) := by
                  rw [show (((y : Int) / 4096) : Int) = ((y / 2 ^ 12 : Nat) : Int) by omega, i64_63 _ (by omega), hidx]
                have HIDX := Lib.hid hidx
                clear hidx
                by_cases hmi : m < 1
                · have b1 : (m : Int) < 1 := by omega
                  have e3 : b64c d g 1 = 61 := by unfold b64c; rw [if_pos (by have := HMM.out; omega)]
                  have HE3 := Lib.hid e3
                  clear e3
                  go_wp2_with (at_builtin; refine wpList_appendV rfl _ _ rfl Tryd.underlying52 (.int .u8 0) 1 bu8 rfl (by decide) (bytesV [61]) 1 (r + 1) rfl rfl HOWN.out rfl rfl (bytesV_one _) HBEL.out (Nat.le_refl _) hw hr1 hr2 hr3 hr4 ?_; intro g' c' w' hg' hown' hb' hsz' hgr'; have HOWN' := Lib.hid hown'; have HB' := Lib.hid hb'; clear hown' hb' hsz' hgr' hg')
                  all_goals
                    refine ⟨⟨2, r + 1, by omega, (by have := HR.out; show _ = _; omega), rfl, ?_, HB'.out⟩, by decide⟩
                    rw [show (List.range 2).map (b64c d g) = (List.range 1).map (b64c d g) ++ [b64c d g 1] by rw [List.range_succ, List.map_append]; rfl, ← List.append_assoc, HE3.out]
                    have := HOWN'.out
                    rw [← show bytesV (b64L d g ++ (List.range 1).map (b64c d g) ++ [61]) = bytesV (b64L d g ++ (List.range 1).map (b64c d g)) ++ bytesV [61] by simp [bytesV]] at this
                    exact this
                · have b1 : ¬ ((m : Int) < 1) := by omega
                  have e3 : b64c d g 1 = sgn idx := by unfold b64c; rw [if_neg (by have := HMM.out; omega), HIDX.out, HYG.out]
                  have HE3 := Lib.hid e3
                  clear e3
                  go_wp2_with (at_builtin; refine wpList_appendV rfl _ _ rfl Tryd.underlying52 (.int .u8 0) 1 bu8 rfl (by decide) (bytesV [sgn idx]) 1 (r + 1) rfl rfl HOWN.out rfl rfl (bytesV_one _) HBEL.out (Nat.le_refl _) hw hr1 hr2 hr3 hr4 ?_; intro g' c' w' hg' hown' hb' hsz' hgr'; have HOWN' := Lib.hid hown'; have HB' := Lib.hid hb'; clear hown' hb' hsz' hgr' hg')
                  all_goals
                    refine ⟨⟨2, r + 1, by omega, (by have := HR.out; show _ = _; omega), rfl, ?_, HB'.out⟩, by decide⟩
                    rw [show (List.range 2).map (b64c d g) = (List.range 1).map (b64c d g) ++ [b64c d g 1] by rw [List.range_succ, List.map_append]; rfl, ← List.append_assoc, HE3.out]
                    have := HOWN'.out
                    rw [← show bytesV (b64L d g ++ (List.range 1).map (b64c d g) ++ [sgn idx]) = bytesV (b64L d g ++ (List.range 1).map (b64c d g)) ++ bytesV [sgn idx] by simp [bytesV]] at this
                    exact this
              · have e2 : bits .and .i64 ((y : Int) / 64) 63 = (idx : Int) := by
                  rw [show (((y : Int) / 64) : Int) = ((y / 2 ^ 6 : Nat) : Int) by omega, i64_63 _ (by omega), hidx]
                have HIDX := Lib.hid hidx
                clear hidx
                by_cases hmi : m < 2
                · have b1 : (m : Int) < 2 := by omega
                  have e3 : b64c d g 2 = 61 := by unfold b64c; rw [if_pos (by have := HMM.out; omega)]
                  have HE3 := Lib.hid e3
                  clear e3
                  go_wp2_with (at_builtin; refine wpList_appendV rfl _ _ rfl Tryd.underlying52 (.int .u8 0) 1 bu8 rfl (by decide) (bytesV [61]) 1 (r + 1) rfl rfl HOWN.out rfl rfl (bytesV_one _) HBEL.out (Nat.le_refl _) hw hr1 hr2 hr3 hr4 ?_; intro g' c' w' hg' hown' hb' hsz' hgr'; have HOWN' := Lib.hid hown'; have HB' := Lib.hid hb'; clear hown' hb' hsz' hgr' hg')
                  all_goals
                    refine ⟨⟨3, r + 1, by omega, (by have := HR.out; show _ = _; omega), rfl, ?_, HB'.out⟩, by decide⟩
                    rw [show (List.range 3).map (b64c d g) = (List.range 2).map (b64c d g) ++ [b64c d g 2] by rw [List.range_succ, List.map_append]; rfl, ← List.append_assoc, HE3.out]
                    have := HOWN'.out
                    rw [← show bytesV (b64L d g ++ (List.range 2).map (b64c d g) ++ [61]) = bytesV (b64L d g ++ (List.range 2).map (b64c d g)) ++ bytesV [61] by simp [bytesV]] at this
                    exact this
                · have b1 : ¬ ((m : Int) < 2) := by omega
                  have e3 : b64c d g 2 = sgn idx := by unfold b64c; rw [if_neg (by have := HMM.out; omega), HIDX.out, HYG.out]
                  have HE3 := Lib.hid e3
                  clear e3
                  go_wp2_with (at_builtin; refine wpList_appendV rfl _ _ rfl Tryd.underlying52 (.int .u8 0) 1 bu8 rfl (by decide) (bytesV [sgn idx]) 1 (r + 1) rfl rfl HOWN.out rfl rfl (bytesV_one _) HBEL.out (Nat.le_refl _) hw hr1 hr2 hr3 hr4 ?_; intro g' c' w' hg' hown' hb' hsz' hgr'; have HOWN' := Lib.hid hown'; have HB' := Lib.hid hb'; clear hown' hb' hsz' hgr' hg')
                  all_goals
                    refine ⟨⟨3, r + 1, by omega, (by have := HR.out; show _ = _; omega), rfl, ?_, HB'.out⟩, by decide⟩
                    rw [show (List.range 3).map (b64c d g) = (List.range 2).map (b64c d g) ++ [b64c d g 2] by rw [List.range_succ, List.map_append]; rfl, ← List.append_assoc, HE3.out]
                    have := HOWN'.out
                    rw [← show bytesV (b64L d g ++ (List.range 2).map (b64c d g) ++ [sgn idx]) = bytesV (b64L d g ++ (List.range 2).map (b64c d g)) ++ bytesV [sgn idx] by simp [bytesV]] at this
                    exact this
              · have e2 : bits .and .i64 ((y : Int)) 63 = (idx : Int) := by
                  rw [show (((y : Int)) : Int) = ((y / 2 ^ 0 : Nat) : Int) by omega, i64_63 _ (by omega), hidx]
                have HIDX := Lib.hid hidx
                clear hidx
                by_cases hmi : m < 3
                · have b1 : (m : Int) < 3 := by omega
                  have e3 : b64c d g 3 = 61 := by unfold b64c; rw [if_pos (by have := HMM.out; omega)]
                  have HE3 := Lib.hid e3
                  clear e3
                  go_wp2_with (at_builtin; refine wpList_appendV rfl _ _ rfl Tryd.underlying52 (.int .u8 0) 1 bu8 rfl (by decide) (bytesV [61]) 1 (r + 1) rfl rfl HOWN.out rfl rfl (bytesV_one _) HBEL.out (Nat.le_refl _) hw hr1 hr2 hr3 hr4 ?_; intro g' c' w' hg' hown' hb' hsz' hgr'; have HOWN' := Lib.hid hown'; have HB' := Lib.hid hb'; clear hown' hb' hsz' hgr' hg')
                  all_goals
                    refine ⟨⟨4, r + 1, by omega, (by have := HR.out; show _ = _; omega), rfl, ?_, HB'.out⟩, by decide⟩
                    rw [show (List.range 4).map (b64c d g) = (List.range 3).map (b64c d g) ++ [b64c d g 3] by rw [List.range_succ, List.map_append]; rfl, ← List.append_assoc, HE3.out]
                    have := HOWN'.out
                    rw [← show bytesV (b64L d g ++ (List.range 3).map (b64c d g) ++ [61]) = bytesV (b64L d g ++ (List.range 3).map (b64c d g)) ++ bytesV [61] by simp [bytesV]] at this
                    exact this
                · have b1 : ¬ ((m : Int) < 3) := by omega
                  have e3 : b64c d g 3 = sgn idx := by unfold b64c; rw [if_neg (by have := HMM.out; omega), HIDX.out, HYG.out]
                  have HE3 := Lib.hid e3
                  clear e3
                  go_wp2_with (at_builtin; refine wpList_appendV rfl _ _ rfl Tryd.underlying52 (.int .u8 0) 1 bu8 rfl (by decide) (bytesV [sgn idx]) 1 (r + 1) rfl rfl HOWN.out rfl rfl (bytesV_one _) HBEL.out (Nat.le_refl _) hw hr1 hr2 hr3 hr4 ?_; intro g' c' w' hg' hown' hb' hsz' hgr'; have HOWN' := Lib.hid hown'; have HB' := Lib.hid hb'; clear hown' hb' hsz' hgr' hg')
                  all_goals
                    refine ⟨⟨4, r + 1, by omega, (by have := HR.out; show _ = _; omega), rfl, ?_, HB'.out⟩, by decide⟩
                    rw [show (List.range 4).map (b64c d g) = (List.range 3).map (b64c d g) ++ [b64c d g 3] by rw [List.range_succ, List.map_append]; rfl, ← List.append_assoc, HE3.out]
                    have := HOWN'.out
                    rw [← show bytesV (b64L d g ++ (List.range 3).map (b64c d g) ++ [sgn idx]) = bytesV (b64L d g ++ (List.range 3).map (b64c d g)) ++ bytesV [sgn idx] by simp [bytesV]] at this
                    exact this
            · have a4 : ¬ ((i : Int) < 4) := by omega
              have hown := HOWN.out
              rw [show i = 4 by omega] at hown
              have HOWN2 : Hid (wr.ownsRow w.heap.size 5 1 u3 r (bytesV (b64L d (g + 1)))) := by
                show World.ownsRow _ _ _ _ _ _ _
                rw [b64L_succ]
                exact hown
              clear hown
              go_wp2_with fail
              exact ⟨⟨g + 1, p + 3, r, (by have := HG.out; have := HP.out; omega), (by have := HP.out; show _ = _; omega), (by have := HR.out; have := HN.out; show _ = _; omega), rfl, HOWN2.out, HBEL.out⟩, (by show s.size - ((p : Int) + 3).toNat < s.size - (p : Int).toNat; omega)⟩
    · have hps : ¬ ((p : Int) < (s.size : Int)) := by omega
      have hgg : g = G := by have := HG.out; have := HP.out; omega
      have hfin : b64L d g = b64 d := by unfold b64; rw [hgg, HG.out, HDL.out]
      have hown := HOWN.out
      rw [hfin] at hown
      have hl2 : n = (b64 d).length := by unfold b64; rw [b64L_length, HDL.out, ← HG.out, ← hgg, HN.out]
      rcases hown.2 with ⟨rfl, hn0⟩ | ⟨g2, cc, cur, rfl, _⟩
      · have hcv : (convert 52 9 (.slice none 0 0)).run Tryd.prog wr = .ok (.string (str [])) wr := by kernel_rfl
        have hb0 : b64 d = [] := List.eq_nil_of_length_eq_zero (by omega)
        have HB0 := Lib.hid hb0
        clear hgg hfin hown hl2 hn0 hb0
        go_wp2
        go_ret
        exact ⟨by rw [HB0.out]; rfl, HBEL.out⟩
      · have hcv := own_string (P := Tryd.prog) (D := 9) (S := 52) (w := wr) (B := w.heap.size) (g := g2) (N := n) (c := cc) (l := b64 d) Tryd.underlying52 bund8 bundS (by unfold OwnB; rw [← hl2]; exact hown)
        clear hgg hfin hown hl2
        go_wp2
        go_ret
        exact ⟨rfl, HBEL.out⟩
end Go.Proofs.YtdgblimeehijpaaDoor
