/- The document's FromBase64, walked. -/
import Derived.Test.YtdgblimeehijpaaDoorTxu1
namespace Go.Proofs.YtdgblimeehijpaaDoor
open Go.RowKit Go.Scr
set_option linter.unusedVariables false

set_option maxRecDepth 100000 in
set_option maxHeartbeats 2000000 in
theorem rfrom64_any (s : ByteArray) (w : World) (hl : s.size ≤ 1099511627776) :
    Calls Tryd.prog 22 #[.string s] w fun e w' => e = .returned (.tuple #[.string (fbS s.data.toList), .int .i64 (fbE s.data.toList)]) ∧ Below w.heap.size w w' := by
  obtain ⟨d, hd⟩ : ∃ d, d = s.data.toList := ⟨_, rfl⟩
  have hdl : d.length = s.size := by rw [hd]; simp
  have HD := Lib.hid hd
  have HDL := Lib.hid hdl
  rw [← hd]
  have hz0 : (0 : Int) ≤ (s.size : Int) := Int.natCast_nonneg _
  by_cases ho : s.size % 4 = 0
  · obtain ⟨G, hG⟩ : ∃ G, G = s.size / 4 := ⟨_, rfl⟩
    have hsG : s.size = 4 * G := by omega
    have hGb : G ≤ 1099511627776 := by omega
    have hm1 : (s.size : Int).tmod 4 = 0 := by rw [Int.tmod_eq_emod_of_nonneg hz0]; omega
    have HSG := Lib.hid hsG
    have HEV := Lib.hid ho
    have HG4 : Hid (d.length / 4 = G) := by show _ = _; rw [hdl]; omega
    clear hd hdl hG hsG ho hz0
    go_enter Tryd.func22, Tryd.ntmps22
    go_wp2_with fail
    clear hm1
    go_loopw [4, 5] (fun v q wr => ∃ i p n : Nat, i ≤ G ∧ Hid (p = 4 * i) ∧ Hid (n = (runb d i).length) ∧ q = .int .i64 p ∧ wr.ownsRow w.heap.size 5 1 v n (bytesV (runb d i)) ∧ Below w.heap.size w wr) (fun _ q _ => s.size - (intOf q).toNat)
    case atStart => exact ⟨0, 0, 0, by omega, rfl, rfl, rfl, World.ownsRow_nil _ _ _ _, Below.refl _ _⟩
    case round =>
      obtain ⟨i, p, n, hi, hp, hn, rfl, hown, hbel⟩ := hrel
      have HP := Lib.hid hp.out
      have HN := Lib.hid hn.out
      have HOWN := Lib.hid hown
      have HBEL := Lib.hid hbel
      clear hp hn hown hbel
      by_cases hlt : i < G
      · have hp4 : p + 4 ≤ s.size := by have := HP.out; have := HSG.out; omega
        have hi1 : (p : Int) < (s.size : Int) := by omega
        go_wp2_with fail
        go_loopw [6, 7, 8] (fun x mm q wy => ∃ k : Nat, k ≤ 4 ∧ q = .int .i64 k ∧ x = .int .i64 ((rx4 d i k : Nat) : Int) ∧ mm = .int .i64 (3 - ((rb d i k : Nat) : Int)) ∧ wy.ownsRow w.heap.size 5 1 u4 n (bytesV (runb d i)) ∧ Below w.heap.size w wy) (fun _ _ q _ => 4 - (intOf q).toNat)
        case atStart => exact ⟨0, by omega, rfl, rfl, rfl, HOWN.out, HBEL.out⟩
        case round =>
          clear HOWN HBEL
          obtain ⟨k, hk, rfl, rfl, rfl, hown, hbel⟩ := hrel
          have HOWN := Lib.hid hown
          have HBEL := Lib.hid hbel
          clear hown hbel
          obtain ⟨y, hy⟩ : ∃ y, y = rx4 d i k := ⟨_, rfl⟩
          have hyb := rx4_lt d i k hk
          obtain ⟨b, hb⟩ : ∃ b, b = rb d i k := ⟨_, rfl⟩
          have hbk : b ≤ k := by rw [hb]; exact rb_le d i k
          rw [← hy] at hyb ⊢
          rw [← hb]
          have hyb1 := hyb.1
          have HY := Lib.hid hy
          have HBB := Lib.hid hb
          clear hy hb
          by_cases hk4 : k < 4
          · have a4 : (k : Int) < 4 := by omega
            have hyb2 := hyb.2 (by omega)
            clear hyb
            obtain ⟨ch, hch⟩ : ∃ ch, ch = d.getD (4 * i + k) 0 := ⟨_, rfl⟩
            have hxk : ∀ h : p + k < s.size, s[p + k] = ch := fun h => by
              rw [hch, ← HP.out, List.getD_eq_getElem?_getD, HD.out, List.getElem?_eq_getElem (by simpa using h)]
              rfl
            have ht : ((p : Int) + (k : Int)).toNat = p + k := by omega
            have a0 : (0 : Int) ≤ (p : Int) + (k : Int) := by omega
            have a1 : (p : Int) + (k : Int) < (s.size : Int) := by omega
            obtain ⟨v, hv⟩ : ∃ v, v = sixN ch := ⟨_, rfl⟩
            have hsg : ∀ w, Calls Tryd.prog 45 #[.int .u8 (ch.toNat : Int), .string ⟨#[65, 66, 67, 68, 69, 70, 71, 72, 73, 74, 75, 76, 77, 78, 79, 80, 81, 82, 83, 84, 85, 86, 87, 88, 89, 90, 97, 98, 99, 100, 101, 102, 103, 104, 105, 106, 107, 108, 109, 110, 111, 112, 113, 114, 115, 116, 117, 118, 119, 120, 121, 122, 48, 49, 50, 51, 52, 53, 54, 55, 56, 57, 43, 47]⟩] w fun e w' => e = .returned (.int .i64 (if sixN ch < 64 then (sixN ch : Int) else -1)) ∧ w' = w := fun w => sign_b64 ch w
            rw [← hv] at hsg
            have HST1 : Hid (rx4 d i (k + 1) = y * 64 + (if v < 64 then v else 0)) := by show _ = _; simp only [rx4]; rw [HY.out, hv, hch]
            have HST2 : Hid (rb d i (k + 1) = b + (if v < 64 then 0 else 1)) := by show _ = _; simp only [rb]; rw [HBB.out, hv, hch]
            clear hv hch
            by_cases hv64 : v < 64
            · rw [if_pos hv64] at hsg
              have HSGN := Lib.hid hsg
              clear hsg
              go_wp2_with (go_at_call 45; with_reducible refine (HSGN.out _).mono ?_; rintro r w2 ⟨rfl, hw2⟩; rw [hw2]; clear hw2 w2)
              all_goals
                refine ⟨⟨k + 1, by omega, rfl, ?_, ?_, HOWN.out, HBEL.out⟩, (by show 4 - ((k : Int) + 1).toNat < 4 - (k : Int).toNat; omega)⟩
                · rw [HST1.out, if_pos hv64]
                  congr 1
                  omega
                · rw [HST2.out, if_pos hv64]
                  congr 1
            · rw [if_neg hv64] at hsg
              have HSGN := Lib.hid hsg
              clear hsg
              go_wp2_with (go_at_call 45; with_reducible refine (HSGN.out _).mono ?_; rintro r w2 ⟨rfl, hw2⟩; rw [hw2]; clear hw2 w2)
              all_goals
                refine ⟨⟨k + 1, by omega, rfl, ?_, ?_, HOWN.out, HBEL.out⟩, (by show 4 - ((k : Int) + 1).toNat < 4 - (k : Int).toNat; omega)⟩
                · rw [HST1.out, if_neg hv64]
                  congr 1
                  omega
                · rw [HST2.out, if_neg hv64]
                  congr 1
                  omega
          · have a4 : ¬ ((k : Int) < 4) := by omega
            clear hyb
            have hk44 : k = 4 := by omega
            by_cases hgood : b ≤ 2
            · obtain ⟨M, hM⟩ : ∃ M, M = 3 - b := ⟨_, rfl⟩
              have hmm : (3 : Int) - (b : Int) = (M : Int) := by omega
              have hM1 : ¬ ((M : Int) < 1) := by omega
              have hM3 : M ≤ 3 := by omega
              have HRG : Hid (rG d i = (List.range M).map fun k => UInt8.ofNat (y / 2 ^ (16 - 8 * k))) := by
                show _ = _
                unfold rG
                rw [← hk44, ← HBB.out, ← HY.out, ← hM]
              clear hM hk44 hgood
              go_wp2_with fail
              clear hmm hM1
              go_loopw [4, 10] (fun v q wy => ∃ j r : Nat, j ≤ M ∧ Hid (r = n + j) ∧ q = .int .i64 j ∧ wy.ownsRow w.heap.size 5 1 v r (bytesV (runb d i ++ (List.range j).map (fun k => UInt8.ofNat (y / 2 ^ (16 - 8 * k))))) ∧ Below w.heap.size w wy) (fun _ q _ => M - (intOf q).toNat)
              case atStart => exact ⟨0, n, by omega, rfl, rfl, by simpa using HOWN.out, HBEL.out⟩
              case round =>
                clear HOWN HBEL
                obtain ⟨j, r, hj, hr, rfl, hown, hbel⟩ := hrel
                have HR := Lib.hid hr.out
                have HOWN := Lib.hid hown
                have HBEL := Lib.hid hbel
                clear hr hown hbel
                by_cases hjm : j < M
                · have a5 : (j : Int) < (M : Int) := by omega
                  have hw := HBEL.out.size
                  have hnb : n ≤ 3 * G := by have := runb_length d i; have := HN.out; omega
                  have hr1 : r + 1 = r + 1 := rfl
                  have hr2 : 0 < r + 1 := by omega
                  have hr3 : (r + 1) * 1 ≤ 140737488355328 := by have := HR.out; omega
                  have hr4 : r + 1 ≤ 140737488355328 := by omega
                  have hj3 : j = 0 ∨ j = 1 ∨ j = 2 := by omega
                  rcases hj3 with rfl | rfl | rfl
                  · have HCB : Hid (#[Value.int .u8 ((y : Int) / 65536)] = (bytesV [UInt8.ofNat (y / 65536)]).toArray) := by
                      show _ = _
                      simp only [bytesV, List.map_cons, List.map_nil]
                      rw [← byte_cell, show (((y / 65536 : Nat)) : Int) % 256 = (y : Int) / 65536 by omega]
                    go_wp2_with (at_builtin; refine wpList_appendV rfl _ _ rfl Tryd.underlying52 (.int .u8 0) 1 bu8 rfl (by decide) (bytesV [UInt8.ofNat (y / 65536)]) 1 (r + 1) rfl rfl HOWN.out HCB.out rfl (bytesV_one _) HBEL.out (Nat.le_refl _) hw hr1 hr2 hr3 hr4 ?_; intro g' c' w' hg' hown' hb' hsz' hgr'; have HOWN' := Lib.hid hown'; have HB' := Lib.hid hb'; clear hown' hb' hsz' hgr' hg')
                    all_goals
                      refine ⟨⟨1, r + 1, by omega, (by have := HR.out; show _ = _; omega), rfl, ?_, HB'.out⟩, (by show M - (((0 : Nat) : Int) + 1).toNat < M - ((0 : Nat) : Int).toNat; omega)⟩
                      have e4 : (List.range 1).map (fun k => UInt8.ofNat (y / 2 ^ (16 - 8 * k))) = (List.range 0).map (fun k => UInt8.ofNat (y / 2 ^ (16 - 8 * k))) ++ [UInt8.ofNat (y / 65536)] := by rw [List.range_succ, List.map_append]; simp
                      rw [e4, ← List.append_assoc]
                      have := HOWN'.out
                      rw [← show bytesV (runb d i ++ (List.range 0).map (fun k => UInt8.ofNat (y / 2 ^ (16 - 8 * k))) ++ [UInt8.ofNat (y / 65536)]) = bytesV (runb d i ++ (List.range 0).map (fun k => UInt8.ofNat (y / 2 ^ (16 - 8 * k)))) ++ bytesV [UInt8.ofNat (y / 65536)] by simp [bytesV]] at this
                      exact this
                  · have HCB : Hid (#[Value.int .u8 ((y : Int) / 256 % 256)] = (bytesV [UInt8.ofNat (y / 256)]).toArray) := by
                      show _ = _
                      simp only [bytesV, List.map_cons, List.map_nil]
                      rw [← byte_cell, show (((y / 256 : Nat)) : Int) = (y : Int) / 256 by omega]
                    go_wp2_with (at_builtin; refine wpList_appendV rfl _ _ rfl Tryd.underlying52 (.int .u8 0) 1 bu8 rfl (by decide) (bytesV [UInt8.ofNat (y / 256)]) 1 (r + 1) rfl rfl HOWN.out HCB.out rfl (bytesV_one _) HBEL.out (Nat.le_refl _) hw hr1 hr2 hr3 hr4 ?_; intro g' c' w' hg' hown' hb' hsz' hgr'; have HOWN' := Lib.hid hown'; have HB' := Lib.hid hb'; clear hown' hb' hsz' hgr' hg')
                    all_goals
                      refine ⟨⟨2, r + 1, by omega, (by have := HR.out; show _ = _; omega), rfl, ?_, HB'.out⟩, (by show M - (((1 : Nat) : Int) + 1).toNat < M - ((1 : Nat) : Int).toNat; omega)⟩
                      have e4 : (List.range 2).map (fun k => UInt8.ofNat (y / 2 ^ (16 - 8 * k))) = (List.range 1).map (fun k => UInt8.ofNat (y / 2 ^ (16 - 8 * k))) ++ [UInt8.ofNat (y / 256)] := by rw [List.range_succ, List.map_append]; simp
                      rw [e4, ← List.append_assoc]
                      have := HOWN'.out
                      rw [← show bytesV (runb d i ++ (List.range 1).map (fun k => UInt8.ofNat (y / 2 ^ (16 - 8 * k))) ++ [UInt8.ofNat (y / 256)]) = bytesV (runb d i ++ (List.range 1).map (fun k => UInt8.ofNat (y / 2 ^ (16 - 8 * k)))) ++ bytesV [UInt8.ofNat (y / 256)] by simp [bytesV]] at this
                      exact this
                  · have HCB : Hid (#[Value.int .u8 ((y : Int) % 256)] = (bytesV [UInt8.ofNat (y)]).toArray) := by
                      show _ = _
                      simp only [bytesV, List.map_cons, List.map_nil]
                      rw [← byte_cell, show (((y : Nat)) : Int) = (y : Int) by omega]
                    go_wp2_with (at_builtin; refine wpList_appendV rfl _ _ rfl Tryd.underlying52 (.int .u8 0) 1 bu8 rfl (by decide) (bytesV [UInt8.ofNat (y)]) 1 (r + 1) rfl rfl HOWN.out HCB.out rfl (bytesV_one _) HBEL.out (Nat.le_refl _) hw hr1 hr2 hr3 hr4 ?_; intro g' c' w' hg' hown' hb' hsz' hgr'; have HOWN' := Lib.hid hown'; have HB' := Lib.hid hb'; clear hown' hb' hsz' hgr' hg')
                    all_goals
                      refine ⟨⟨3, r + 1, by omega, (by have := HR.out; show _ = _; omega), rfl, ?_, HB'.out⟩, (by show M - (((2 : Nat) : Int) + 1).toNat < M - ((2 : Nat) : Int).toNat; omega)⟩
                      have e4 : (List.range 3).map (fun k => UInt8.ofNat (y / 2 ^ (16 - 8 * k))) = (List.range 2).map (fun k => UInt8.ofNat (y / 2 ^ (16 - 8 * k))) ++ [UInt8.ofNat (y)] := by rw [List.range_succ, List.map_append]; simp
                      rw [e4, ← List.append_assoc]
                      have := HOWN'.out
                      rw [← show bytesV (runb d i ++ (List.range 2).map (fun k => UInt8.ofNat (y / 2 ^ (16 - 8 * k))) ++ [UInt8.ofNat (y)]) = bytesV (runb d i ++ (List.range 2).map (fun k => UInt8.ofNat (y / 2 ^ (16 - 8 * k)))) ++ bytesV [UInt8.ofNat (y)] by simp [bytesV]] at this
                      exact this
                · have a5 : ¬ ((j : Int) < (M : Int)) := by omega
                  have HUN : Hid (runb d (i + 1) = runb d i ++ (List.range j).map (fun k => UInt8.ofNat (y / 2 ^ (16 - 8 * k)))) := by
                    show _ = _
                    rw [runb_succ, HRG.out, show M = j by omega]
                  go_wp2_with fail
                  exact ⟨⟨i + 1, p + 4, r, by omega, (by have := HP.out; show _ = _; omega), (by show _ = _; rw [HUN.out, List.length_append, List.length_map, List.length_range, HR.out, HN.out]), rfl, (by rw [HUN.out]; exact HOWN.out), HBEL.out⟩, (by show s.size - ((p : Int) + 4).toNat < s.size - (p : Int).toNat; omega)⟩
            · have hM1 : (3 : Int) - (b : Int) < 1 := by omega
              have hnot : ¬ fbOk d := fun h => by
                have h1 := (fbOk_r h).1 i (by rw [HG4.out]; exact hlt)
                rw [← hk44, ← HBB.out] at h1
                exact hgood h1
              have HS : Hid (fbS d = ⟨#[]⟩) := by show _ = _; unfold fbS; rw [if_neg hnot]
              have HE : Hid (fbE d = 11) := by show _ = _; unfold fbE; rw [if_neg hnot]
              clear hnot hgood hk44
              go_wp2_with fail
              go_ret2
              exact ⟨by rw [HS.out, HE.out]; rfl, HBEL.out⟩
      · have hps : ¬ ((p : Int) < (s.size : Int)) := by have := HP.out; have := HSG.out; omega
        have hiG : i = G := by omega
        obtain ⟨O, hO⟩ : ∃ O, O = runb d G := ⟨_, rfl⟩
        have hown := HOWN.out
        rw [hiG, ← hO] at hown
        have hn2 : n = O.length := by rw [HN.out, hiG, hO]
        have hOb : O.length ≤ 1099511627776 := by rw [hO]; have := runb_length d G; have := HSG.out; omega
        have hb64 := fun (w' : World) => rb64_any (str O) w' (by rw [str_size]; exact hOb)
        rw [str_list] at hb64
        obtain ⟨E, hE⟩ : ∃ E, E = str (b64 O) := ⟨_, rfl⟩
        rw [← hE] at hb64
        have HB64 := Lib.hid hb64
        have hcvW : ∀ w', Below wr.heap.size wr w' → (convert 52 9 u4).run Tryd.prog w' = .ok (.string (str O)) w' := fun w' hb => by
          have ho2 := owns_below hown hb (Nat.le_refl _)
          rcases ho2.2 with ⟨rfl, hn0⟩ | ⟨g2, cc, cur, rfl, _⟩
          · have hO0 : O = [] := List.eq_nil_of_length_eq_zero (by omega)
            rw [hO0]
            exact (show (convert 52 9 (.slice none 0 0)).run Tryd.prog w' = .ok (.string (str [])) w' by kernel_rfl)
          · exact own_string (P := Tryd.prog) (D := 9) (S := 52) (w := w') (B := w.heap.size) (g := g2) (N := n) (c := cc) (l := O) Tryd.underlying52 bund8 bundS (by unfold OwnB; rw [← hn2]; exact ho2)
        have HCVW := Lib.hid hcvW
        have hcv := hcvW wr (Below.refl _ _)
        have hEl : E.toList = b64 O := by rw [hE, ByteArray.toList_eq, str_list]
        have hsl : s.toList = d := by rw [ByteArray.toList_eq, HD.out]
        by_cases heq : b64 O = d
        · obtain ⟨hfb, hun⟩ := fbOk_of_r heq
          have HS : Hid (fbS d = str O) := by show _ = _; unfold fbS; rw [if_pos hfb, hun]
          have HE : Hid (fbE d = 0) := by show _ = _; unfold fbE; rw [if_pos hfb]
          have hcmp : (E.toList == s.toList) = true := by rw [hEl, hsl, heq]; simp
          clear hiG hO hown hn2 hb64 hE hcvW hEl hsl heq hfb hun
          go_wp2_with (go_at_call 26; refine (HB64.out _).mono ?_; rintro r w4 ⟨rfl, hb4⟩; have hcv4 := HCVW.out w4 hb4; have HB4 := Lib.hid hb4; clear hb4 hcv)
          go_ret2
          exact ⟨by rw [HS.out, HE.out]; rfl, below_from HBEL.out HB4.out HBEL.out.size⟩
        · have hnot : ¬ fbOk d := fun h => heq (by
            have h1 := (fbOk_r h).2
            rw [HG4.out, ← hO] at h1
            rw [h1, ← HG4.out]
            exact h.2.2)
          have HS : Hid (fbS d = ⟨#[]⟩) := by show _ = _; unfold fbS; rw [if_neg hnot]
          have HE : Hid (fbE d = 11) := by show _ = _; unfold fbE; rw [if_neg hnot]
          have hcmp : (E.toList == s.toList) = false := by rw [hEl, hsl]; simpa using heq
          clear hiG hO hown hn2 hb64 hE hcvW hEl hsl heq hnot
          go_wp2_with (go_at_call 26; refine (HB64.out _).mono ?_; rintro r w4 ⟨rfl, hb4⟩; have HB4 := Lib.hid hb4; clear hb4 hcv)
          go_ret2
          exact ⟨by rw [HS.out, HE.out]; rfl, below_from HBEL.out HB4.out HBEL.out.size⟩
  · have hm1 : (s.size : Int).tmod 4 = ((s.size % 4 : Nat) : Int) := by rw [Int.tmod_eq_emod_of_nonneg hz0]; omega
    obtain ⟨q, hq⟩ : ∃ q, q = s.size % 4 := ⟨_, rfl⟩
    have hq0 : ¬ ((q : Int) = 0) := by omega
    rw [← hq] at hm1
    have hnot : ¬ fbOk d := fun h => ho (by have := h.1; rwa [hdl] at this)
    have hS : fbS d = ⟨#[]⟩ := by unfold fbS; rw [if_neg hnot]
    have hE : fbE d = 11 := by unfold fbE; rw [if_neg hnot]
    rw [hS, hE]
    clear hd hdl ho hz0 hS hE hnot hq
    go_enter Tryd.func22, Tryd.ntmps22
    go_wp2
    go_ret2
    exact ⟨rfl, Below.refl _ _⟩
end Go.Proofs.YtdgblimeehijpaaDoor
